/-
 Whether a graph is well formed: what it means; the reference's answer.
-/
import Derived.Test.YtalnenapfoedpaaDoorPl0
namespace Go.Dat
open Go.Eng
set_option linter.unusedSimpArgs false
set_option linter.unusedVariables false
set_option linter.unusedSectionVars false
abbrev GrT:=ByteArray×Int×List Zae×Int×Int
inductive Dp (l:List Zae):Nat->Int->Prop
 | var {i:Nat} {x:Zae}:l[i]?=some x->x.1=3->Dp l i (Int.tdiv x.2.1 16)
 | kid {i k q:Nat} {x:Zae} {j:Int}:l[i]?=some x->x.2.2[k]?=some (q:Int)->Dp l q j->(x.1≠31\/j≠x.2.1\/k < x.2.2.length / 2)->Dp l i j
theorem Dp.inv {l:List Zae} {i:Nat} {x:Zae} {j:Int} (hx:l[i]?=some x) (h:Dp l i j):(x.1=3/\j=Int.tdiv x.2.1 16)\/∃ k q:Nat,x.2.2[k]?=some (q:Int)/\Dp l q j/\(x.1≠31\/j≠x.2.1\/k < x.2.2.length / 2):=by
 cases h with
 | var h1 h2=>rw [hx] at h1;obtain rfl:=Option.some.inj h1;exact .inl ⟨h2,rfl⟩
 | kid h1 h2 h3 h4=>rw [hx] at h1;obtain rfl:=Option.some.inj h1;exact .inr ⟨_,_,h2,h3,h4⟩
structure WfP (g:GrT):Prop where
 good:Zex g.2.2.1 g.2.2.1.length
 va:ZfU (Zam g.2.2.1 g.2.2.1.length) g.2.2.2.1=1
 st:ZfU (Zam g.2.2.1 g.2.2.1.length) g.2.2.2.2=2
 lp:∀ i k:Nat,k < i->∀ x y,g.2.2.1[i]?=some x->g.2.2.1[k]?=some y->x.1=31->y.1=31->y.2.1≠x.2.1
 lv:∀ x∈g.2.2.1,x.1=3->∀ y∈g.2.2.1,y.1=31->y.2.1=Int.tdiv x.2.1 16->Int.tmod x.2.1 16 < ((y.2.2.length / 2:Nat):Int)
 dp:∀ j:Int,0<=j->j < 16->¬ Dp g.2.2.1 g.2.2.2.1.toNat j/\¬ Dp g.2.2.1 g.2.2.2.2.toNat j
open Classical in
noncomputable def wfB (g:GrT):Bool:=decide (WfP g)
theorem Zst {g:GrT} (h:WfP g):true=wfB g:=by unfold wfB;simp [h]
theorem Zbx {g:GrT} (h:¬ WfP g):false=wfB g:=by unfold wfB;simp [h]
theorem ZvJ {g:GrT}:wfB g=true↔WfP g:=by unfold wfB;simp
theorem Zhh {l:List Zae} (hG:GraphH l) (hg:Zex l l.length) {i:Nat} {x:Zae} (hx:l[i]?=some x):(x.1=2->0<=x.2.1/\x.2.1 < 6)/\(x.1=3->0<=x.2.1/\x.2.1 < 256)/\(x.1=31->0<=x.2.1/\x.2.1 < 16/\∃ m:Nat,x.2.2.length=2 * m+1/\1<=m/\m<=16):=by
 have hi:=ZaA hx
 have h1:=(hg i hi).1
 have h2:(Zam l l.length)[i]?=some (Zbu l (Zam l i) i x):=by
  rw [Zek l i l.length hi]
  have hl:=ZaK l i
  show (Zam l i++[match l[i]? with | some n=>Zbu l (Zam l i) i n | none=>0])[i]?=_
  rw [List.getElem?_append_right (by omega),hl,hx];simp
 have h3:atI (Zam l l.length) i=Zbu l (Zam l i) i x:=by unfold atI;rw [Int.toNat_natCast,h2];rfl
 rw [h3] at h1
 have h4:okK (Zam l i) i x=true:=by
  cases h:okK (Zam l i) i x
  ·unfold Zbu at h1;rw [h] at h1;exact absurd rfl h1
  ·rfl
 have hT:Zlj l x (kS (Zam l i) x):=Zgh hG hx (fun j a b hj ha hb=>Zej hG i j a b ha hb) (by rw [ZaK];exact Nat.le_refl _) h4
 have hns:nsM l x (kS (Zam l i) x)≠0:=by unfold Zbu at h1;rw [h4] at h1;exact h1
 have he:=hT.ns
 generalize kS (Zam l i) x=k at *
 have hk:=hT.hk
 have hl:=hT.hl
 have himm:Zfk x.1 x.2.1=true:=by
  cases hb:Zfk x.1 x.2.1
  ·have ht:ZwJ l x k true=some 0:=rfl
   have:F66 l x k=some 0:=by
    have h:Ret (F66 l x k) fun a=>a=0:=by
     simp only [F66,Z6K,ZtE,hb,ht,wq,reduceCtorEq]
     repeat' first | apply And.intro | intro _ | trivial
    exact h.eq
   rw [this] at he
   exact absurd (Option.some.inj he).symm hns
  ·rfl
 unfold Zfk at himm
 rw [decide_eq_true_eq] at himm
 refine ⟨fun e=>?_,fun e=>?_,fun e=>?_⟩
 ·rw [e] at himm
  simp at himm
  omega
 ·rw [e] at himm
  simp at himm
  omega
 ·rw [e] at himm
  simp at himm
  refine ⟨by omega,by omega,?_⟩
  obtain ⟨op,imm,ks⟩:=x
  dsimp only at e hk
  subst e
  by_cases c:k.length % 2=0\/k.length < 3\/33 < k.length
  ·have:=(ZhT l imm ks k hk hl c).2
   rw [this] at he
   exact absurd (Option.some.inj he).symm hns
  ·exact ⟨k.length / 2,by dsimp only;omega,by omega,by omega⟩
theorem Zer {l:List Zae} (hG:GraphH l) (hg:Zex l l.length) {i:Nat} {x:Zae} (hx:l[i]?=some x):(x.1=3->0<=x.2.1/\x.2.1 < 256)/\(x.1=31->0<=x.2.1/\x.2.1 < 16/\∃ m:Nat,x.2.2.length=2 * m+1/\1<=m/\m<=16):=(Zhh hG hg hx).2
theorem Zz4 (l:List Zae) (h:GraphH l) (i:Int):F75 l i=some (ZfU (Zam l l.length) i):=by
 refine Ret.eq ?_
 have hn:=h.n
 have hsl:=ZaK l l.length
 simp only [F75,ZxE,wq,reduceCtorEq]
 refine ⟨fun h=>?_,fun h0=>⟨fun h=>?_,fun h1=>?_⟩⟩
 ·unfold ZfU;rw [if_neg (fun e=>by have:=e.1;omega)]
 ·unfold ZfU;rw [if_neg (fun e=>by have:=e.2;omega)]
 ·have hw:IntKind.wrap .i64 (i+1)=i+1:=Zau (by omega) (by omega)
  obtain ⟨j,rfl⟩:∃ j:Nat,i=j:=⟨i.toNat,by omega⟩
  have hs:slI l 0 ((j:Int)+1)=l.take (j+1):=by
   unfold slI
   have e1:(((j:Int)+1).toNat - (0:Int).toNat)=j+1:=by omega
   simp only [e1,Int.toNat_zero,List.drop_zero]
   simp
  have hlt:(l.take (j+1)).length=j+1:=by rw [List.length_take];omega
  rw [hw,hs,Z5C _ (h.take _),hlt,ZeA l (j+1) (j+1) (Nat.le_refl _)]
  simp only [wq,reduceCtorEq]
  have hg:gI (Zam l (j+1)) (j:Int)=some (atI (Zam l l.length) (j:Int)):=by
   rw [Zax,<-Zek l j l.length (by omega),Zdy l l.length j (by omega)]
  refine ⟨fun _=>?_,fun h=>absurd h (by omega)⟩
  rw [hg,ZaH]
  unfold ZfU;rw [if_pos ⟨by omega,by omega⟩]
theorem ZyW {l:List Zae} (h:GraphH l) (n:Int):Ret (F76 l n) fun r=>(r=0/\∀ y∈l,y.1=31->y.2.1≠n)\/∃ y∈l,y.1=31/\y.2.1=n/\r=((y.2.2.length / 2:Nat):Int):=by
 have hn:=h.n
 unfold F76
 refine Zac (fun i:Int=>∃ m:Nat,i=m/\m<=l.length/\∀ y∈l.take m,y.1=31->y.2.1≠n) (fun i=>l.length - i.toNat) ?_ _ ⟨0,rfl,by omega,fun y hy=>by simp at hy⟩
 rintro _ ⟨m,rfl,hm,ih⟩
 have hw:=Zab m (by omega)
 simp only [Zu4,Zp2,wq,reduceCtorEq,hw]
 refine ⟨fun hlt=>Zaj (by omega) hlt fun y hy hym=>?_,fun hge=>.inl fun y hy=>?_⟩
 ·have hkl:=h.k y hym
  have hd:Int.tdiv (y.2.2.length:Int) 2=((y.2.2.length / 2:Nat):Int):=by rw [Int.tdiv_eq_ediv_of_nonneg (by omega)];rfl
  simp only [Za4 hy,hd]
  rw [Zax] at hy
  have next:(y.1=31->y.2.1≠n)->(∃ m':Nat,((m+1:Nat):Int)=m'/\m'<=l.length/\∀ y∈l.take m',y.1=31->y.2.1≠n):=fun hh=>by
   refine ⟨m+1,rfl,by omega,fun z hz=>?_⟩
   rw [List.take_add_one,hy] at hz
   rcases List.mem_append.1 hz with hz | hz
   ·exact ih z hz
   ·rw [show z=y by simpa using hz];exact hh
  refine ⟨fun e=>⟨fun e2=>.inr ⟨y,hym,e,e2,Zau (by omega) (by omega)⟩,fun e2=>⟨next fun _=>e2,by omega⟩⟩,fun e=>⟨next fun h=>absurd h e,by omega⟩⟩
 ·rw [List.take_of_length_le (by omega)] at ih
  exact ih y hy
structure Z1G (l:List Zae) (m:Nat) (out:List (List Bool)):Prop where
 len:out.length=m
 row:∀ (i:Nat) r,out[i]?=some r->r.length=16/\∀ j:Int,0<=j->j < 16->(ZaJ r j=true↔Dp l i j)
def DpK (l:List Zae) (x:Zae) (k:Nat) (b:Int) (j:Int):Prop:=∃ t q:Nat,x.2.2[t]?=some (q:Int)/\Dp l q j/\(x.1≠31\/j≠x.2.1\/t < x.2.2.length / 2)/\(t < k\/t=k/\j < b)
theorem ZBd {l:List Zae} (hG:GraphH l) (hg:Zex l l.length):Ret (F77 l) (Z1G l l.length):=by
 have hn:=hG.n
 unfold F77
 refine Zac (fun q:Int×List (List Bool)=>∃ m:Nat,q.1=m/\m<=l.length/\Z1G l m q.2) (fun q=>l.length - q.1.toNat) ?_ _ ⟨0,rfl,by omega,rfl,fun i r h=>by simp at h⟩
 rintro ⟨_,out⟩ ⟨m,rfl,hm,hD⟩
 dsimp only at hD
 have hw:=Zab m (by omega)
 have hD1:=hD.len
 simp only [ZAy,wq,reduceCtorEq]
 refine ⟨fun hlt=>⟨fun _=>?_,fun h=>absurd h (by omega)⟩,fun hge=>?_⟩
 ·have hml:m < l.length:=by omega
  refine Zaj (by omega) hlt fun x hx hxm=>?_
  rw [Zax] at hx
  have hkb:=ZeD hg hx
  have hkl:=hG.k x hxm
  have hd:Int.tdiv (x.2.2.length:Int) 2=((x.2.2.length / 2:Nat):Int):=by rw [Int.tdiv_eq_ediv_of_nonneg (by omega)];rfl
  have hd2:IntKind.wrap .i64 ((x.2.2.length / 2:Nat):Int)=((x.2.2.length / 2:Nat):Int):=Zau (by omega) (by omega)
  refine Zac (fun q:Int×List (List Bool)×List Bool=>∃ k:Nat,q.1=k/\k<=x.2.2.length/\q.2.1=out/\q.2.2.length=16/\∀ j:Int,0<=j->j < 16->(ZaJ q.2.2 j=true↔DpK l x k 0 j)) (fun q=>x.2.2.length - q.1.toNat) ?_ _ ⟨0,rfl,by omega,rfl,by simp,fun j h0 h1=>by
   rw [Zeq]
   refine ⟨fun h=>by (cases h),?_⟩
   rintro ⟨t,q,_,_,_,h | h⟩
   ·omega
   ·omega⟩
  rintro ⟨_,out2,h⟩ ⟨k,rfl,hk,eo,hl16,hH⟩
  dsimp only at hl16 hH eo
  subst out2
  have hw2:=Zab k (by omega)
  simp only [ZAx,ZAw,wq,reduceCtorEq]
  refine ⟨fun hlt2=>?_,fun hge2=>?_⟩
  ·refine Zac (fun q:Int×List (List Bool)×List Bool=>∃ b:Nat,q.1=b/\b<=16/\q.2.1=out/\q.2.2.length=16/\∀ j:Int,0<=j->j < 16->(ZaJ q.2.2 j=true↔DpK l x k b j)) (fun q=>16 - q.1.toNat) ?_ _ ⟨0,rfl,by omega,rfl,hl16,hH⟩
   rintro ⟨_,out2,h⟩ ⟨b,rfl,hb,eo,hl16,hH⟩
   dsimp only at hl16 hH eo
   subst out2
   have hw3:=Zab b (by omega)
   simp only [ZAv,ZwR,ZAu,wq,reduceCtorEq,hw2,hw3,hd,hd2]
   refine ⟨fun hlt3=>Zaj (by omega) hlt2 fun y hy hym=>?_,fun hge3=>⟨⟨k+1,rfl,by omega,hl16,fun j h0 h1=>(hH j h0 h1).trans ?_⟩,by omega⟩⟩
   ·obtain ⟨q,rfl⟩:∃ q:Nat,y=q:=⟨y.toNat,by have:=(hkb y hym).1;omega⟩
    have hqm:q < m:=by have:=(hkb _ hym).2;omega
    refine Zaj (by omega) (by omega) fun r hr hrm=>?_
    simp only [Za4 hr]
    rw [Zax] at hy hr
    obtain ⟨r16,hrj⟩:=hD.row q r hr
    have hbr:inR r.length (b:Int):=⟨by omega,by omega⟩
    have hbh:inR h.length (b:Int):=⟨by omega,by omega⟩
    have hrb:=hrj b (by omega) (by omega)
    rw [Zbj hbr]
    have keep:(Dp l q b->¬ (x.1≠31\/(b:Int)≠x.2.1\/k < x.2.2.length / 2))->∃ b':Nat,((b+1:Nat):Int)=b'/\b'<=16/\h.length=16/\∀ j:Int,0<=j->j < 16->(ZaJ h j=true↔DpK l x k b' j):=fun hno=>by
     refine ⟨b+1,rfl,by omega,hl16,fun j h0 h1=>(hH j h0 h1).trans ⟨?_,?_⟩⟩
     ·rintro ⟨t,q',e1,e2,e3,e4⟩
      exact ⟨t,q',e1,e2,e3,by omega⟩
     ·rintro ⟨t,q',e1,e2,e3,e4⟩
      refine ⟨t,q',e1,e2,e3,?_⟩
      by_cases e5:t=k/\j=b
      ·obtain ⟨rfl,rfl⟩:=e5
       rw [hy] at e1
       have:q=q':=by have:=Option.some.inj e1;omega
       subst this
       exact absurd e3 (hno e2)
      ·omega
    have set:Dp l q b->(x.1≠31\/(b:Int)≠x.2.1\/k < x.2.2.length / 2)->∃ b':Nat,((b+1:Nat):Int)=b'/\b'<=16/\(Zaq h (b:Int) true).length=16/\∀ j:Int,0<=j->j < 16->(ZaJ (Zaq h (b:Int) true) j=true↔DpK l x k b' j):=fun h1 h2=>by
     refine ⟨b+1,rfl,by omega,by rw [Zay];exact hl16,fun j h0 h1'=>?_⟩
     rw [ZaN hbh h0]
     split
     ·subst ‹j=_›
      exact ⟨fun _=>⟨k,q,hy,h1,h2,.inr ⟨rfl,by omega⟩⟩,fun _=>rfl⟩
     ·refine (hH j h0 h1').trans ⟨?_,?_⟩
      ·rintro ⟨t,q',e1,e2,e3,e4⟩
       exact ⟨t,q',e1,e2,e3,by omega⟩
      ·rintro ⟨t,q',e1,e2,e3,e4⟩
       exact ⟨t,q',e1,e2,e3,by omega⟩
    simp only [wq,reduceCtorEq,Zbj hbh]
    refine ⟨fun e1=>⟨fun e2=>⟨set (hrb.1 e1) (.inl e2),by omega⟩,fun e2=>⟨fun e3=>⟨set (hrb.1 e1) (.inr (.inl e3)),by omega⟩,fun e3=>⟨fun e4=>⟨set (hrb.1 e1) (.inr (.inr (by omega))),by omega⟩,fun e4=>⟨keep fun _=>by omega,by omega⟩⟩⟩⟩,fun e1=>⟨keep fun e=>(by rw [hrb.2 e] at e1;cases e1),by omega⟩⟩
   ·have:b=16:=by omega
    subst this
    constructor
    ·rintro ⟨t,q',e1,e2,e3,e4⟩
     exact ⟨t,q',e1,e2,e3,by omega⟩
    ·rintro ⟨t,q',e1,e2,e3,e4⟩
     exact ⟨t,q',e1,e2,e3,by omega⟩
  ·have hkk:k=x.2.2.length:=by omega
   have hlast:∀ h':List Bool,h'.length=16->(∀ j:Int,0<=j->j < 16->(ZaJ h' j=true↔Dp l m j))->(out.length+([h']:List (List Bool)).length<=1000000->(∃ m':Nat,IntKind.wrap .i64 ((m:Int)+1)=m'/\m'<=l.length/\Z1G l m' (out++[h']))/\l.length - (IntKind.wrap .i64 ((m:Int)+1)).toNat < l.length - ((m:Int)).toNat):=fun h' hl' hj' _=>by
    rw [hw]
    refine ⟨⟨m+1,rfl,by omega,by simp;omega,fun i r hr=>?_⟩,by omega⟩
    by_cases e:i < m
    ·rw [List.getElem?_append_left (by omega)] at hr;exact hD.row i r hr
    ·have:i=m:=by have:=ZaA hr;simp at this;omega
     subst this
     rw [List.getElem?_append_right (by omega),hD1] at hr
     simp at hr
     rw [<-hr];exact ⟨hl',hj'⟩
   have hdp:∀ j,DpK l x k 0 j↔∃ t q:Nat,x.2.2[t]?=some (q:Int)/\Dp l q j/\(x.1≠31\/j≠x.2.1\/t < x.2.2.length / 2):=fun j=>by
    constructor
    ·rintro ⟨t,q,e1,e2,e3,_⟩;exact ⟨t,q,e1,e2,e3⟩
    ·rintro ⟨t,q,e1,e2,e3⟩;exact ⟨t,q,e1,e2,e3,.inl (by have:=ZaA e1;omega)⟩
   refine ⟨fun e=>?_,fun e=>⟨fun hh=>hlast _ hl16 (fun j h0 h1=>?_) hh,fun h=>absurd h (by simp only [List.length_cons,List.length_nil];omega)⟩⟩
   ·obtain ⟨i0,i1⟩:=(Zer hG hg hx).1 e
    have hq:Int.tdiv x.2.1 16=((x.2.1.toNat / 16:Nat):Int):=by
     obtain ⟨a,ha⟩:∃ a:Nat,x.2.1=a:=⟨x.2.1.toNat,by omega⟩
     rw [ha,Int.tdiv_eq_ediv_of_nonneg (by omega)];rfl
    have hqb:x.2.1.toNat / 16 < 16:=by omega
    have hwq:IntKind.wrap .i64 (Int.tdiv x.2.1 16)=Int.tdiv x.2.1 16:=by rw [hq];exact Zau (by omega) (by omega)
    have hbh:inR h.length (Int.tdiv x.2.1 16):=by rw [hl16,hq];exact ⟨by omega,by omega⟩
    simp only [hwq,Zbj hbh,wq,reduceCtorEq]
    refine ⟨fun hh=>hlast _ (by rw [Zay];exact hl16) (fun j h0 h1=>?_) hh,fun h=>absurd h (by simp only [List.length_cons,List.length_nil];omega)⟩
    rw [ZaN hbh h0]
    split
    ·subst ‹j=_›
     exact ⟨fun _=>.var hx e,fun _=>rfl⟩
    ·rename_i hne
     rw [hH j h0 h1,hdp]
     constructor
     ·rintro ⟨t,q,e1,e2,e3⟩;exact .kid hx e1 e2 e3
     ·intro hd
      rcases hd.inv hx with ⟨_,h⟩ | h
      ·exact absurd h hne
      ·exact h
   ·rw [hH j h0 h1,hdp]
    constructor
    ·rintro ⟨t,q,e1,e2,e3⟩;exact .kid hx e1 e2 e3
    ·intro hd
     rcases hd.inv hx with ⟨h,_⟩ | h
     ·exact absurd h e
     ·exact h
 ·have:m=l.length:=by omega
  subst this
  exact hD
theorem Zfe {l:List Int} {i:Int} (h:ZfU l i≠0):inR l.length i:=by
 unfold ZfU at h
 split at h
 ·assumption
 ·exact absurd rfl h
theorem ZBe (g:GrT) (hG:GraphH g.2.2.1):F63 g=some (wfB g):=by
 refine Ret.eq ?_
 have hn:=hG.n
 have hsl:=ZaK g.2.2.1 g.2.2.1.length
 simp only [F63,Zzw _ hG,Zz4 _ hG,Z52,wq,reduceCtorEq]
 refine ⟨fun e=>Zbx fun w=>by (rw [Zc5 w.good] at e;cases e),fun e=>⟨fun e1=>Zbx fun w=>e1 w.va,fun e1=>⟨fun e2=>Zbx fun w=>e2 w.st,fun e2=>?_⟩⟩⟩
 have hg:Zex g.2.2.1 g.2.2.1.length:=by unfold ZeX at e;simpa using e
 have rv:inR g.2.2.1.length g.2.2.2.1:=by have:=Zfe (l:=Zam g.2.2.1 g.2.2.1.length) (i:=g.2.2.2.1) (by omega);rwa [hsl] at this
 have rs:inR g.2.2.1.length g.2.2.2.2:=by have:=Zfe (l:=Zam g.2.2.1 g.2.2.1.length) (i:=g.2.2.2.2) (by omega);rwa [hsl] at this
 refine Zac (fun i:Int=>∃ m:Nat,i=m/\m<=g.2.2.1.length/\(∀ i k:Nat,i < m->k < i->∀ x y,g.2.2.1[i]?=some x->g.2.2.1[k]?=some y->x.1=31->y.1=31->y.2.1≠x.2.1)/\(∀ x∈g.2.2.1.take m,x.1=3->(∀ y∈g.2.2.1,y.1=31->y.2.1≠Int.tdiv x.2.1 16)\/∃ y∈g.2.2.1,y.1=31/\y.2.1=Int.tdiv x.2.1 16/\Int.tmod x.2.1 16 < ((y.2.2.length / 2:Nat):Int))) (fun i=>g.2.2.1.length - i.toNat) ?_ _ ⟨0,rfl,by omega,(fun i k h=>by omega),fun x hx=>by simp at hx⟩
 rintro _ ⟨m,rfl,hm,hlp,hlv⟩
 have hw:=Zab m (by omega)
 simp only [Z54,Z53,wq,reduceCtorEq,hw]
 refine ⟨fun hlt=>Zaj (by omega) hlt fun x hx hxm=>?_,fun hge=>?_⟩
 ·rw [Zax] at hx
  refine Zac (fun k:Int=>∃ j:Nat,k=j/\j<=m/\(x.1=31->∀ p < j,∀ y,g.2.2.1[p]?=some y->y.1=31->y.2.1≠x.2.1)) (fun k=>m - k.toNat) ?_ _ ⟨0,rfl,by omega,fun _ p hp=>by omega⟩
  rintro _ ⟨j,rfl,hj,hd⟩
  have hw2:=Zab j (by omega)
  have fin:(x.1=31->∀ p < m,∀ y,g.2.2.1[p]?=some y->y.1=31->y.2.1≠x.2.1)->(x.1=3->(∀ y∈g.2.2.1,y.1=31->y.2.1≠Int.tdiv x.2.1 16)\/∃ y∈g.2.2.1,y.1=31/\y.2.1=Int.tdiv x.2.1 16/\Int.tmod x.2.1 16 < ((y.2.2.length / 2:Nat):Int))->∃ m':Nat,((m+1:Nat):Int)=m'/\m'<=g.2.2.1.length/\(∀ i k:Nat,i < m'->k < i->∀ x y,g.2.2.1[i]?=some x->g.2.2.1[k]?=some y->x.1=31->y.1=31->y.2.1≠x.2.1)/\(∀ x∈g.2.2.1.take m',x.1=3->(∀ y∈g.2.2.1,y.1=31->y.2.1≠Int.tdiv x.2.1 16)\/∃ y∈g.2.2.1,y.1=31/\y.2.1=Int.tdiv x.2.1 16/\Int.tmod x.2.1 16 < ((y.2.2.length / 2:Nat):Int)):=fun h1 h2=>by
   refine ⟨m+1,rfl,by omega,fun i k hi hk x' y' hx' hy'=>?_,fun x' hx'=>?_⟩
   ·by_cases e:i < m
    ·exact hlp i k e hk x' y' hx' hy'
    ·have:i=m:=by omega
     subst this
     rw [hx] at hx';obtain rfl:=Option.some.inj hx'
     exact fun e1 e2=>h1 e1 k hk y' hy' e2
   ·rw [List.take_add_one,hx] at hx'
    rcases List.mem_append.1 hx' with hx' | hx'
    ·exact hlv x' hx'
    ·rw [show x'=x by simpa using hx'];exact h2
  simp only [ZA1,Z53,Z55,ZAz,ZA0,wq,reduceCtorEq,hw,hw2]
  -- behind the loops before it
  have tail:(x.1=31->∀ p < m,∀ y,g.2.2.1[p]?=some y->y.1=31->y.2.1≠x.2.1)->x.1=3->Ret (F76 g.2.2.1 (IntKind.wrap .i64 (Int.tdiv x.2.1 16))) fun a=>(0 < a->(a<=Int.tmod x.2.1 16->false=wfB g)/\(Int.tmod x.2.1 16 < a->(∃ m':Nat,((m+1:Nat):Int)=m'/\m'<=g.2.2.1.length/\(∀ i k:Nat,i < m'->k < i->∀ x y,g.2.2.1[i]?=some x->g.2.2.1[k]?=some y->x.1=31->y.1=31->y.2.1≠x.2.1)/\(∀ x∈g.2.2.1.take m',x.1=3->(∀ y∈g.2.2.1,y.1=31->y.2.1≠Int.tdiv x.2.1 16)\/∃ y∈g.2.2.1,y.1=31/\y.2.1=Int.tdiv x.2.1 16/\Int.tmod x.2.1 16 < ((y.2.2.length / 2:Nat):Int)))/\g.2.2.1.length - ((m+1:Nat):Int).toNat < g.2.2.1.length - ((m:Int)).toNat))/\(a<=0->(∃ m':Nat,((m+1:Nat):Int)=m'/\m'<=g.2.2.1.length/\(∀ i k:Nat,i < m'->k < i->∀ x y,g.2.2.1[i]?=some x->g.2.2.1[k]?=some y->x.1=31->y.1=31->y.2.1≠x.2.1)/\(∀ x∈g.2.2.1.take m',x.1=3->(∀ y∈g.2.2.1,y.1=31->y.2.1≠Int.tdiv x.2.1 16)\/∃ y∈g.2.2.1,y.1=31/\y.2.1=Int.tdiv x.2.1 16/\Int.tmod x.2.1 16 < ((y.2.2.length / 2:Nat):Int)))/\g.2.2.1.length - ((m+1:Nat):Int).toNat < g.2.2.1.length - ((m:Int)).toNat):=fun hall e3=>by
   obtain ⟨i0,i1⟩:=(Zer hG hg hx).1 e3
   have hq:Int.tdiv x.2.1 16=((x.2.1.toNat / 16:Nat):Int):=by
    obtain ⟨a,ha⟩:∃ a:Nat,x.2.1=a:=⟨x.2.1.toNat,by omega⟩
    rw [ha,Int.tdiv_eq_ediv_of_nonneg (by omega)];rfl
   have hwq:IntKind.wrap .i64 (Int.tdiv x.2.1 16)=Int.tdiv x.2.1 16:=by rw [hq];exact Zau (by omega) (by omega)
   rw [hwq]
   refine (ZyW hG _).mono fun a _ ha=>⟨fun h0=>⟨fun h1=>?_,fun h1=>⟨fin hall fun _=>?_,by omega⟩⟩,fun h0=>⟨fin hall fun _=>?_,by omega⟩⟩
   ·rcases ha with ⟨rfl,_⟩ | ⟨y,hy,y1,y2,rfl⟩
    ·omega
    ·exact Zbx fun w=>by have:=w.lv x hxm e3 y hy y1 y2;omega
   ·rcases ha with ⟨rfl,_⟩ | ⟨y,hy,y1,y2,rfl⟩
    ·omega
    ·exact .inr ⟨y,hy,y1,y2,h1⟩
   ·rcases ha with ⟨rfl,hno⟩ | ⟨y,hy,y1,y2,rfl⟩
    ·exact .inl hno
    ·obtain ⟨j,hj⟩:=List.getElem?_of_mem hy
     obtain ⟨_,_,mm,h3,h4,h5⟩:=(Zer hG hg hj).2 y1
     omega
  refine ⟨fun hlt2=>⟨fun e31=>Zaj (by omega) (by omega) fun y hy hym=>?_,fun e31=>⟨fun e3=>tail (fun h=>absurd h e31) e3,fun e3=>⟨fin (fun h=>absurd h e31) fun h=>absurd h e3,by omega⟩⟩⟩,fun hge2=>⟨fun e3=>tail (fun h=>by omega) e3,fun e3=>⟨fin (fun h=>?_) fun h=>absurd h e3,by omega⟩⟩⟩
  ·simp only [Za4 hy,wq,reduceCtorEq]
   rw [Zax] at hy
   have nx:(y.1=31->y.2.1≠x.2.1)->∃ j':Nat,((j+1:Nat):Int)=j'/\j'<=m/\(x.1=31->∀ p < j',∀ y,g.2.2.1[p]?=some y->y.1=31->y.2.1≠x.2.1):=fun hh=>by
    refine ⟨j+1,rfl,by omega,fun h p hp z hz=>?_⟩
    by_cases e:p < j
    ·exact hd h p e z hz
    ·have:p=j:=by omega
     subst this
     rw [hy] at hz;obtain rfl:=Option.some.inj hz;exact hh
   refine ⟨fun y31=>⟨fun e=>Zbx fun w=>w.lp m j (by omega) x y hx hy e31 y31 e,fun e=>⟨nx fun _=>e,by omega⟩⟩,fun y31=>⟨nx fun h=>absurd h y31,by omega⟩⟩
  ·have:j=m:=by omega
   subst this
   exact hd h
 ·have hlv':∀ x∈g.2.2.1,x.1=3->∀ y∈g.2.2.1,y.1=31->y.2.1=Int.tdiv x.2.1 16->Int.tmod x.2.1 16 < ((y.2.2.length / 2:Nat):Int):=by
   rw [List.take_of_length_le (by omega)] at hlv
   intro x hx e3 y hy e31 e
   rcases hlv x hx e3 with h | ⟨z,hz,z1,z2,z3⟩
   ·exact absurd e (h y hy e31)
   ·obtain ⟨a,ha⟩:=List.getElem?_of_mem hy
    obtain ⟨b,hb⟩:=List.getElem?_of_mem hz
    have hab:a=b:=by
     rcases Nat.lt_trichotomy a b with h | h | h
     ·exact absurd (by rw [e,z2]) (hlp b a (by have:=ZaA hb;omega) h z y hb ha z1 e31)
     ·exact h
     ·exact absurd (by rw [e,z2]) (hlp a b (by have:=ZaA ha;omega) h y z ha hb e31 z1)
    subst hab
    rw [ha] at hb
    obtain rfl:=Option.some.inj hb
    exact z3
  have hlp':∀ i k:Nat,k < i->∀ x y,g.2.2.1[i]?=some x->g.2.2.1[k]?=some y->x.1=31->y.1=31->y.2.1≠x.2.1:=fun i k hk x y hx hy=>hlp i k (by have:=ZaA hx;omega) hk x y hx hy
  refine (ZBd hG hg).mono fun out _ hD=>?_
  have hol:=hD.len
  refine Zac (fun j:Int=>∃ b:Nat,j=b/\b<=16/\∀ j:Int,0<=j->j < b->¬ Dp g.2.2.1 g.2.2.2.1.toNat j/\¬ Dp g.2.2.1 g.2.2.2.2.toNat j) (fun j=>16 - j.toNat) ?_ _ ⟨0,rfl,by omega,fun j h0 h1=>by omega⟩
  rintro _ ⟨b,rfl,hb,hN⟩
  have hw2:=Zab b (by omega)
  simp only [ZA3,ZA2,wq,reduceCtorEq,hw2]
  refine ⟨fun hlt=>Zaj rv.1 (by have:=rv.2;omega) fun r hr _=>?_,fun hge=>Zst ⟨hg,e1,e2,hlp',hlv',fun j h0 h1=>hN j h0 (by omega)⟩⟩
  have hr':=(ZaI hr).2.2
  obtain ⟨r16,hrj⟩:=hD.row _ _ hr'
  have hrb:inR r.length (b:Int):=⟨by omega,by omega⟩
  rw [Zbj hrb]
  simp only [wq,reduceCtorEq]
  have hb1:=hrj b (by omega) (by omega)
  refine ⟨fun e=>Zbx fun w=>(w.dp b (by omega) (by omega)).1 (hb1.1 e),fun e=>Zaj rs.1 (by have:=rs.2;omega) fun r2 hr2 _=>?_⟩
  have hr2':=(ZaI hr2).2.2
  obtain ⟨r16',hrj'⟩:=hD.row _ _ hr2'
  have hrb':inR r2.length (b:Int):=⟨by omega,by omega⟩
  rw [Zbj hrb']
  simp only [wq,reduceCtorEq]
  have hb2:=hrj' b (by omega) (by omega)
  refine ⟨fun e4=>Zbx fun w=>(w.dp b (by omega) (by omega)).2 (hb2.1 e4),fun e4=>⟨⟨b+1,rfl,by omega,fun j h0 h1=>?_⟩,by omega⟩⟩
  by_cases h:j < b
  ·exact hN j h0 h
  ·obtain rfl:j=b:=by omega
   exact ⟨fun d=>(by rw [hb1.2 d] at e;cases e),fun d=>(by rw [hb2.2 d] at e4;cases e4)⟩
structure PoR (s:Za5) (ch vs:List Int):Prop extends VsI s ch vs where
 po:PoL s ch [atI (Zai s) s.2.2.2.1,atI (Zai s) s.2.2.2.2.1] [] vs
 va:atI (Zai s) s.2.2.2.1∈vs
 st:atI (Zai s) s.2.2.2.2.1∈vs
 len:vs.length<=s.1.length
noncomputable def grS (s:Za5) (ch vs:List Int):GrT:=(ByteArray.empty,Zig s ch vs,vs.map (Zjp s ch vs),ZdD vs (atI (Zai s) s.2.2.2.1),ZdD vs (atI (Zai s) s.2.2.2.2.1))
def noG:GrT:=(ByteArray.empty,0,[],0,0)
def Zq0 (s:Za5) (ch:List Int) (r:GrT×Bool):Prop:=(Zqx s ch/\r=(noG,false))\/∃ vs,PoR s ch vs/\r=bif wfB (grS s ch vs) then (grS s ch vs,true) else (noG,false)
theorem Zgl (n:Nat) (x:Int) {q:Int} (h:inR n q):atI (List.replicate n x) q=x:=by
 have h1:=h.1;have h2:=h.2
 unfold atI
 rw [List.getElem?_replicate,if_pos (by omega)];rfl
section
variable {s:Za5} (X:Ctx s) {ch:List Int} (hs:Zdi s ch)
include X hs
theorem Zz0 {vs:List Int} (h:PoR s ch vs):ZhX (grS s ch vs).2.2.1:=by
 have hn:=X.n
 have hl:=h.len
 refine ⟨⟨by simp [grS];omega,fun x hx=>?_⟩,fun x hx=>?_⟩
 ·obtain ⟨q,hq,rfl⟩:=List.mem_map.1 hx
  obtain ⟨a,b,_⟩:=h.sel q hq
  have:=X.kids.k _ (Zav (Zf4 X hs a.1 b))
  simp only [Zjp,List.length_map]
  rw [Zbw X];exact this
 ·obtain ⟨q,hq,rfl⟩:=List.mem_map.1 hx
  obtain ⟨a,b,_⟩:=h.sel q hq
  obtain ⟨w1,w2,w3,w4⟩:=X.kids.w _ (Zav (Zf4 X hs a.1 b))
  refine ⟨w1,w2,?_,fun y hy=>?_⟩
  ·simp only [Zjp,List.length_map];rw [Zbw X];exact w3
  ·obtain ⟨p,hp,rfl⟩:=List.mem_map.1 hy
   unfold ZdD
   have:=List.idxOf_le_length (a:=p) (l:=vs)
   constructor<;>omega
theorem Z7C:Ret (F40 (Zcg s) ch) (Zq0 s ch):=by
 have hn:=X.n
 have hcl:=hs.1
 simp only [F40,Zzx X,ZmP.2 hs,wq,reduceCtorEq]
 simp only [Zcg,hcl,Int.toNat_natCast,wq,reduceCtorEq]
 refine ⟨fun _=>?_,fun h=>absurd h (by omega)⟩
 refine Zac (fun q=>∃ k:Nat,k<=s.1.length/\q=((k:Int),ByteArray.empty,0,0,0,s.1,s.2.1,s.2.2.1,s.2.2.2.1,s.2.2.2.2.1,s.2.2.2.2.2.1,s.2.2.2.2.2.2,Zai s,Zaz s,ch,ByteArray.empty,0,0,0,false,List.replicate k (-1)++List.replicate (s.1.length - k) 0)) (fun q=>s.1.length - q.1.toNat) ?_ _ ⟨0,by omega,by simp⟩
 rintro _ ⟨k,hk,rfl⟩
 have hw:=Zab k (by omega)
 simp only [ZwW,wq,reduceCtorEq,hcl,hw]
 have hlen:(List.replicate k (-1:Int)++List.replicate (s.1.length - k) 0).length=s.1.length:=by simp;omega
 refine ⟨fun hlt=>?_,fun hge=>?_⟩
 ·rw [ZaB (l:=List.replicate k (-1:Int)++List.replicate (s.1.length - k) 0) (i:=(k:Int)) (by rw [hlen];exact ⟨by omega,hlt⟩)]
  simp only [wq,reduceCtorEq]
  refine ⟨⟨k+1,by omega,?_⟩,by omega⟩
  have e:s.1.length - k=(s.1.length - (k+1))+1:=by omega
  rw [Zcf,List.set_append_right _ _ (by simp),List.length_replicate,Nat.sub_self,e,List.replicate_succ,List.set_cons_zero,List.replicate_succ' (n:=k),List.append_assoc]
  rfl
 ·have hkn:k=s.1.length:=by omega
  subst hkn
  rw [Nat.sub_self,List.replicate_zero,List.append_nil]
  have hva:=X.v.va
  have hst:=X.v.st
  rw [X.cget hva]
  simp only [wq,reduceCtorEq]
  have B0:BR s ch (List.replicate s.1.length (-1)) [] []:=⟨⟨List.nodup_nil,fun q hq=>by cases hq⟩,by simp,fun q hq _=>.inl (Zgl _ _ hq),fun q hq=>(by cases hq),rfl⟩
  have hc0:Zjq (List.replicate s.1.length (-1))=s.1.length:=by unfold Zjq;simp
  have hv1:=Zhg X hs ByteArray.empty 0 0 1000 (atI (Zai s) s.2.2.2.1) .val _ [] [] B0 (fun q hq h=>by rw [Zgl _ _ hq] at h;omega) (by omega) (by simp only [List.length_nil];omega)
  refine Ret.mono (show Ret (F62 (atI (Zai s) s.2.2.2.1) s.1 s.2.1 s.2.2.1 s.2.2.2.1 s.2.2.2.2.1 s.2.2.2.2.2.1 s.2.2.2.2.2.2 (Zai s) (Zaz s) ch ByteArray.empty 0 0 0 false (List.replicate s.1.length (-1)) []) _ from hv1) fun o _ ⟨r,pr,bad,At,gn,eo,a1,a2,a3,a4⟩=>?_
  subst eo
  simp only [ZqC]
  rw [X.cget hst]
  simp only [wq,reduceCtorEq,List.length_nil] at a2 |-
  cases bad with
  | true=>
   have hv2:=Zk4 (s:=s) (ch:=ch) ByteArray.empty r 0 999 (atI (Zai s) s.2.2.2.2.1) pr At gn
   rw [show F62 (atI (Zai s) s.2.2.2.2.1) s.1 s.2.1 s.2.2.1 s.2.2.2.1 s.2.2.2.2.1 s.2.2.2.2.2.1 s.2.2.2.2.2.2 (Zai s) (Zaz s) ch ByteArray.empty pr r 0 true At gn=_ from hv2]
   simp only [wq,reduceCtorEq,ZqC,ZwX]
   exact .inl ⟨a3 rfl,rfl⟩
  | false=>
   obtain ⟨es,b1,b2,b3,b4,b5,b6,b7⟩:=a4 rfl
   rw [List.nil_append] at b1 b2 b3 b4 b5
   subst b4 b5
   have hv2:=Zhg X hs ByteArray.empty (ZdD es (atI (Zai s) s.2.2.2.1)) 0 1000 (atI (Zai s) s.2.2.2.2.1) .st At gn es b3 (fun q hq h=>by rw [b6 q hq,Zgl _ _ hq] at h;omega) (by omega) (by omega)
   refine Ret.mono (show Ret (F62 (atI (Zai s) s.2.2.2.2.1) s.1 s.2.1 s.2.2.1 s.2.2.2.1 s.2.2.2.2.1 s.2.2.2.2.2.1 s.2.2.2.2.2.2 (Zai s) (Zaz s) ch ByteArray.empty (Zig s ch es) (ZdD es (atI (Zai s) s.2.2.2.1)) 0 false At gn) _ from hv2) fun o _ ⟨r2,pr2,bad2,At2,gn2,eo,c1,c2,c3,c4⟩=>?_
   subst eo
   simp only [ZqC,ZwX]
   cases bad2 with
   | true=>
    simp only [wq,reduceCtorEq,cond_true]
    exact .inl ⟨c3 rfl,rfl⟩
   | false=>
    obtain ⟨es2,d1,d2,d3,d4,d5,d6,d7⟩:=c4 rfl
    subst d4 d5
    have hP:PoR s ch (es++es2):=⟨d3.toVsI,.cons b1 (.cons d1 .nil),List.mem_append_left _ b2,d2,by
     have:=d3.gn
     have:gn2.length=(es++es2).length:=by rw [this,List.length_map]
     omega⟩
    have eg:((ByteArray.empty,Zig s ch (es++es2),gn2,ZdD es (atI (Zai s) s.2.2.2.1),ZdD (es++es2) (atI (Zai s) s.2.2.2.2.1)):GrT)=grS s ch (es++es2):=by rw [d3.gn,<-Zd3 b2];rfl
    rw [eg,ZBe _ (Zz0 X hs hP).toGraphH]
    simp only [wq,reduceCtorEq,cond_false]
    have e2:=(Prod.mk.inj (Prod.mk.inj (Prod.mk.inj eg).2).2).1
    refine ⟨fun hb=>.inr ⟨_,hP,by rw [hb];rfl⟩,fun hb=>.inr ⟨_,hP,by rw [hb,<-eg];rfl⟩⟩
end
noncomputable def Z4R (l:List Zae):Int:=(l.map ncM).sum
theorem Z5a (l:List Zae):0<=Z4R l/\Z4R l<=20 * l.length:=by
 induction l with
 | nil=>simp [Z4R]
 | cons x l ih=>
  have:=(Z6Y x).2.2
  unfold Z4R at ih |-
  simp only [List.map_cons,List.sum_cons,List.length_cons]
  omega
theorem Z4O (l:List Zae) (x:Zae):Z4R (l++[x])=Z4R l+ncM x:=by simp [Z4R]
theorem ZzF {s:Za5} (h:ZmA s) (hn:s.1.length<=900) (ch:List Int):Ret (F20 s ch) fun r=>(¬ (ZcO s/\Zdi s ch)/\r=(noG,false))\/ZcO s/\Zdi s ch/\Zq0 s ch r:=by
 simp only [F20,Z86 s h,wq,reduceCtorEq]
 refine ⟨fun e=>.inl ⟨fun w=>by (rw [ZcH w.1] at e;cases e),rfl⟩,fun e=>?_⟩
 have X:Ctx s:=⟨h,Zel.1 e,hn⟩
 rw [ZAY h X.v]
 simp only [wq,reduceCtorEq]
 by_cases hs:Zdi s ch
 ·exact (Z7C X hs).mono fun r _ hr=>.inr ⟨X.v,hs,hr⟩
 ·have hb:ZqB s ch=false:=(Zep hs).symm
  simp only [F40,Zzx X,hb,wq,reduceCtorEq]
  exact .inl ⟨fun w=>hs w.2,rfl⟩
theorem Z4T {s:Za5} (hn:s.1.length<=900) {ch:List Int} {r:GrT×Bool} (h:(¬ (ZcO s/\Zdi s ch)/\r=(noG,false))\/ZcO s/\Zdi s ch/\Zq0 s ch r):r.1.2.2.1.length<=900:=by
 rcases h with ⟨_,rfl⟩ | ⟨_,_,⟨_,rfl⟩ | ⟨vs,hv,rfl⟩⟩
 ·simp [noG]
 ·simp [noG]
 ·have:=hv.len
  cases wfB (grS s ch vs)<;>simp [noG,grS]
  omega
theorem Z5L {s:Za5} (h:ZmA s) (hn:s.1.length<=900) (ch:List Int):Ret (F8 s ch) fun q=>∃ r,F20 s ch=some r/\((¬ (ZcO s/\Zdi s ch)/\r=(noG,false))\/ZcO s/\Zdi s ch/\Zq0 s ch r)/\q=(Z4R r.1.2.2.1,r.2):=by
 simp only [F8,wq,reduceCtorEq]
 refine (ZzF h hn ch).mono fun r er hr=>?_
 have hl:=Z4T hn hr
 refine Zac (fun q:Int×Int=>∃ k:Nat,k<=r.1.2.2.1.length/\q=(Z4R (r.1.2.2.1.take k),(k:Int))) (fun q=>r.1.2.2.1.length - q.2.toNat) ?_ _ ⟨0,by omega,by simp [Z4R]⟩
 rintro _ ⟨k,hk,rfl⟩
 have hw:=Zab k (by omega)
 simp only [Z5G,wq,reduceCtorEq,hw]
 refine ⟨fun hlt=>Zaj (by omega) hlt fun x hx _=>?_,fun hge=>?_⟩
 ·rw [Zax] at hx
  have hb:=Z5a (r.1.2.2.1.take k)
  rw [List.length_take] at hb
  have hc:=(Z6Y x).2.2
  simp only [(Z6Y x).2.1,wq,reduceCtorEq]
  refine ⟨⟨k+1,by omega,?_⟩,by omega⟩
  rw [List.take_add_one,hx,Option.toList_some,Z4O,Zau (by omega) (by omega)]
 ·rw [List.take_of_length_le (by omega)]
  exact ⟨r,er,hr,rfl⟩
theorem Z6x (f:Int->Int):∀ (l:List Int) (a:Int),a∈l->(l.map f).sum=f a+((l.erase a).map f).sum
 | b::l,a,h=>by
  by_cases e:b=a
  ·subst e;simp
  ·rw [List.erase_cons_tail (by simpa using e)]
   have:=Z6x f l a (by rcases List.mem_cons.1 h with h | h;exact absurd h.symm e;exact h)
   simp only [List.map_cons,List.sum_cons]
   omega
theorem Z6v (f:Int->Int):∀ l:List Int,(∀ a∈l,0<=f a)->0<=(l.map f).sum
 | [],_=>by simp
 | a::l,h=>by
  have:=Z6v f l fun b hb=>h b (List.mem_cons_of_mem _ hb)
  have:=h a (by simp)
  simp only [List.map_cons,List.sum_cons]
  omega
theorem Z6y (f g:Int->Int):∀ (l r:List Int),l.Nodup->(∀ a∈l,a∈r/\f a<=g a)->(∀ a∈r,0<=g a)->(l.map f).sum<=(r.map g).sum
 | [],r,_,_,h=>by simpa using Z6v g r h
 | a::l,r,hd,hs,h=>by
  have h1:=hs a (by simp)
  rw [List.nodup_cons] at hd
  have:=Z6y f g l (r.erase a) hd.2 (fun b hb=>⟨by
   have h2:=(hs b (List.mem_cons_of_mem _ hb)).1
   exact (List.mem_erase_of_ne (fun e:b=a=>hd.1 (e▸hb))).2 h2,(hs b (List.mem_cons_of_mem _ hb)).2⟩) fun b hb=>h b (List.mem_of_mem_erase hb)
  rw [Z6x g r a h1.1]
  simp only [List.map_cons,List.sum_cons]
  omega
section
variable {s:Za5} (X:Ctx s) {a ch:List Int} (ha:Zdi s a) (hs:Zdi s ch) (hp:ZnF s a ch) {need:List Bool} (hN:Zbv s a need) {vs:List Int} (hv:PoR s ch vs)
include X ha hs hp hN hv
theorem Z6F {q:Int} (hq:q∈vs):ZaU s ch q=atI ch q:=by unfold ZaU;rw [if_pos (hv.sel q hq).2.1]
theorem Z6A {q:Int} (h:Zb7 s ch q):q∈vs:=by
 induction h with
 | val=>exact hv.va
 | st=>exact hv.st
 | step h1 h2 h3 ih=>
  obtain ⟨_,b,c⟩:=hv.sel _ ih
  have e:=Z6F X ha hs hp hN hv ih
  unfold ZfX at h2
  rw [if_pos (by omega),e] at h2
  exact (c _ h2).1
theorem Z6G {q:Int} (hq:inR s.1.length q) (h:ZaJ need q=true):q∈vs:=Z6A X ha hs hp hN hv (ZnG X ha hs hp ((hN.ok q hq).1 h))
theorem Z6B:(lbM s a need).2.2.1<=Z4R (grS s ch vs).2.2.1:=by
 rw [Z62 X]
 have e:Z60 s a need (ZaW (Zai s) s.1.length)=(((ZaW (Zai s) s.1.length).filter fun q=>ZaJ need q).map (Z6u s a)).sum:=by
  unfold Z60
  generalize ZaW (Zai s) s.1.length=l
  induction l with
  | nil=>rfl
  | cons q l ih=>
   simp only [List.map_cons,List.sum_cons,List.filter_cons]
   split
   ·rw [List.map_cons,List.sum_cons,ih]
   ·rw [ih];omega
 have e2:Z4R (grS s ch vs).2.2.1=(vs.map fun q=>ncM (Zjp s ch vs q)).sum:=by simp [Z4R,grS,Function.comp_def]
 rw [e,e2]
 refine Z6y _ _ _ _ ?_ (fun q hq=>?_) fun q hq=>(Z6Y _).2.2.1
 ·refine List.Pairwise.filter _ ?_
  unfold ZaW
  refine List.Pairwise.filter _ ?_
  unfold idN
  exact List.Pairwise.map _ (fun a b hab=>by omega) (List.nodup_range (n:=s.1.length))
 ·rw [List.mem_filter] at hq
  have hr:=ZmT X hq.1
  have hm:=Z6G X ha hs hp hN hv hr.1 hq.2
  refine ⟨hm,?_⟩
  have h1:=Z66 X ha hs hp hr.1
  have h2:Z6u s ch q=ncM (Zjp s ch vs q):=by
   unfold Z6u
   have e:=Z6F X ha hs hp hN hv hm
   rw [if_pos (by rw [e];exact (hv.sel q hm).2.1),e]
   exact Z6z rfl
  omega
theorem ZBf:∀ (n:Nat) (q:Int),q∈vs->ZdD vs q < n->0<=ZaU s a q->Dn s a q
 | 0,q,_,h,_=>by have:=Zqz vs q;omega
 | n+1,q,hq,hlt,hd=>by
  obtain ⟨h1,h2,h3⟩:=hv.sel q hq
  obtain ⟨d1,d2⟩:=Zsp X ha hs hp h1.1 hd
  rw [Z6F X ha hs hp hN hv hq] at d2
  refine .mk fun p hpk hdp=>?_
  rw [Zif X d2] at hpk
  obtain ⟨p1,p2⟩:=h3 p hpk
  exact ZBf n p p1 (by omega) hdp
theorem Z7I:(lbM s a need).2.2.2=true:=by
 have:¬ Zwc s a need:=fun ⟨q,hA,hn⟩=>hn (ZBf X ha hs hp hN hv (vs.length+1) q (Z6G X ha hs hp hN hv hA.r hA.n) (by have:=Zqy (Z6G X ha hs hp hN hv hA.r hA.n);omega) hA.d)
 show (!ZtM s a need)=true
 rw [<-Zie this];rfl
end
theorem Zff (n:Nat) (q:Int):atI (List.replicate n 0) q=0:=by
 unfold atI
 cases h:(List.replicate n (0:Int))[q.toNat]? with
 | none=>rfl
 | some r=>exact (List.mem_replicate.1 (List.mem_of_getElem? h)).2
theorem Zz2 {a:Nat} (ha:a < 65536):(BitVec.ofInt 32 (a:Int)).toNat=a:=by
 rw [BitVec.toNat_ofInt];omega
theorem Zk5 (b:BitVec 32):ZeM .u32 b=(b.toNat:Int):=by
 have:b.toNat < 4294967296:=b.isLt
 exact Zb1 (n:=((b.toNat:Nat):Int)) (by omega) (by omega)
theorem Z49 {a b:Nat} (ha:a < 65536) (hb:b < 65536):∃ c:Nat,ZeM .u32 (BitVec.ofInt (IntKind.bits .u32) (a:Int) ||| BitVec.ofInt (IntKind.bits .u32) (b:Int))=(c:Int)/\c < 65536/\∀ j,c.testBit j=(a.testBit j||b.testBit j):=by
 refine ⟨a ||| b,?_,Nat.or_lt_two_pow (n:=16) ha hb,fun j=>Nat.testBit_or a b j⟩
 rw [show ZeM .u32 (BitVec.ofInt (IntKind.bits .u32) (a:Int) ||| BitVec.ofInt (IntKind.bits .u32) (b:Int))=((BitVec.ofInt 32 (a:Int) ||| BitVec.ofInt 32 (b:Int)).toNat:Int) from Zk5 _,BitVec.toNat_or,Zz2 ha,Zz2 hb]
theorem Zz3 {i:Nat} (hi:i < 16):IntKind.wrap .u32 (1 * 2 ^ (min (Int.toNat (IntKind.wrap .u64 (i:Int))) (IntKind.bits .u32)))=((2 ^ i:Nat):Int)/\2 ^ i < 65536:=by
 have h1:(2:Nat) ^ i < 2 ^ 16:=Nat.pow_lt_pow_right (by omega) hi
 have h2:min (Int.toNat (IntKind.wrap .u64 (i:Int))) (IntKind.bits .u32)=i:=by
  rw [Zdz (n:=(i:Int)) (by omega) (by omega)]
  show min (Int.toNat (i:Int)) 32=i
  omega
 have h3:(1 * 2 ^ i:Int)=((2 ^ i:Nat):Int):=by rw [Int.one_mul];exact (Int.natCast_pow 2 i).symm
 refine ⟨?_,h1⟩
 rw [h2,h3]
 generalize 2 ^ i=p at h1
 exact Zb1 (by omega) (by omega)
theorem Zsu {a i:Nat} (ha:a < 65536) (hi:i < 16):∃ c:Nat,ZeM .u32 (BitVec.ofInt (IntKind.bits .u32) (a:Int) &&& ~~~ (BitVec.ofInt (IntKind.bits .u32) (IntKind.wrap .u32 (1 * 2 ^ (min (Int.toNat (IntKind.wrap .u64 (i:Int))) (IntKind.bits .u32))))))=(c:Int)/\c < 65536/\∀ j,c.testBit j=(a.testBit j&&decide (j≠i)):=by
 obtain ⟨h1,h2⟩:=Zz3 hi
 rw [h1]
 refine ⟨(BitVec.ofInt 32 (a:Int) &&& ~~~ (BitVec.ofInt 32 ((2 ^ i:Nat):Int))).toNat,Zk5 _,?_,fun j=>?_⟩
 ·rw [BitVec.toNat_and,Zz2 ha]
  exact Nat.lt_of_le_of_lt Nat.and_le_left ha
 ·rw [BitVec.testBit_toNat,BitVec.getLsbD_and,BitVec.getLsbD_not,<-BitVec.testBit_toNat,<-BitVec.testBit_toNat,Zz2 ha,Zz2 h2,Nat.testBit_two_pow]
  by_cases hj:j < 32
  ·by_cases e:i=j
   ·subst e;simp
   ·have:j≠i:=fun h=>e h.symm
    simp [hj,e,this]
  ·have:a.testBit j=false:=Nat.testBit_lt_two_pow (Nat.lt_of_lt_of_le ha (Nat.pow_le_pow_right (show 0 < 2 by omega) (show 16<=j by omega)))
   rw [this];simp
theorem Zfg {a:Nat} (ha:a < 65536):a=0↔∀ j:Nat,j < 16->a.testBit j=false:=by
 constructor
 ·rintro rfl j _;exact Nat.zero_testBit j
 ·intro h
  refine Nat.eq_of_testBit_eq fun j=>?_
  rw [Nat.zero_testBit]
  by_cases hj:j < 16
  ·exact h j hj
  ·exact Nat.testBit_lt_two_pow (Nat.lt_of_lt_of_le ha (Nat.pow_le_pow_right (show 0 < 2 by omega) (show 16<=j by omega)))
def Zq1 (v:Int) (P:Int->Prop):Prop:=∃ a:Nat,v=a/\a < 65536/\∀ j:Nat,j < 16->(a.testBit j=true↔P j)
theorem Zq1.congr {v:Int} {P R:Int->Prop} (h:Zq1 v P) (e:∀ j:Nat,j < 16->(P j↔R j)):Zq1 v R:=by
 obtain ⟨a,h1,h2,h3⟩:=h
 exact ⟨a,h1,h2,fun j hj=>(h3 j hj).trans (e j hj)⟩
theorem ZBg {l:List Zae} (hG:GraphH l) (hg:Zex l l.length):Ret (F74 l) fun out=>out.length=l.length/\∀ i:Nat,i < l.length->Zq1 (atI out (i:Int)) (Dp l i):=by
 have hn:=hG.n
 simp only [F74,wq,reduceCtorEq]
 refine ⟨fun _=>?_,fun h=>absurd h (by omega)⟩
 refine Zac (fun q:Int×List Int=>∃ m:Nat,q.1=m/\m<=l.length/\q.2.length=l.length/\(∀ i:Nat,i < m->Zq1 (atI q.2 (i:Int)) (Dp l i))/\∀ i:Nat,m<=i->i < l.length->atI q.2 (i:Int)=0) (fun q=>l.length - q.1.toNat) ?_ _ ⟨0,rfl,by omega,by simp,(fun i hi=>by omega),fun i _ hi=>Zff _ _⟩
 rintro ⟨_,out⟩ ⟨m,rfl,hm,hol,hP,hZ⟩
 dsimp only at hol hP hZ
 have hw:=Zab m (by omega)
 simp only [Z9U,wq,reduceCtorEq]
 refine ⟨fun hlt=>Zaj (by omega) hlt fun x hx hxm=>?_,fun hge=>?_⟩
 ·rw [Zax] at hx
  have hml:m < l.length:=by omega
  have hkb:=ZeD hg hx
  have hkl:=hG.k x hxm
  obtain ⟨hi3,hi31⟩:=Zer hG hg hx
  have hmo:inR out.length (m:Int):=⟨by omega,by omega⟩
  have hz:=hZ m (Nat.le_refl _) hml
  have hwd:IntKind.wrap .i64 ((x.2.2.length:Int) - 1)=(x.2.2.length:Int) - 1:=Zau (by omega) (by omega)
  -- through the kids
  have inner:∀ o0:List Int,o0.length=l.length->(∀ i:Nat,i≠m->atI o0 (i:Int)=atI out (i:Int))->Zq1 (atI o0 (m:Int)) (fun j=>x.1=3/\j=Int.tdiv x.2.1 16)->Ret (Z8R (m:Int) x o0) (Zev (fun q:Int×List Int=>∃ m:Nat,q.1=m/\m<=l.length/\q.2.length=l.length/\(∀ i:Nat,i < m->Zq1 (atI q.2 (i:Int)) (Dp l i))/\∀ i:Nat,m<=i->i < l.length->atI q.2 (i:Int)=0) (fun q=>l.length - q.1.toNat) (fun out=>out.length=l.length/\∀ i:Nat,i < l.length->Zq1 (atI out (i:Int)) (Dp l i)) ((m:Int),out)):=by
   intro o0 ho0 hsame h0
   unfold Z8R
   refine Zac (fun q:Int×List Int=>∃ k:Nat,q.1=k/\k<=x.2.2.length/\q.2.length=l.length/\(∀ i:Nat,i≠m->atI q.2 (i:Int)=atI out (i:Int))/\Zq1 (atI q.2 (m:Int)) (fun j=>(x.1=3/\j=Int.tdiv x.2.1 16)\/∃ t q:Nat,t < k/\x.2.2[t]?=some (q:Int)/\Dp l q j/\(x.1≠31\/j≠x.2.1\/t < x.2.2.length / 2))) (fun q=>x.2.2.length - q.1.toNat) ?_ _ ⟨0,rfl,by omega,ho0,hsame,h0.congr fun j _=>⟨.inl,fun h=>h.elim id fun ⟨t,q,h,_⟩=>by omega⟩⟩
   rintro ⟨_,o⟩ ⟨k,rfl,hk,hol2,hs2,hB⟩
   dsimp only at hol2 hs2 hB
   have hw2:=Zab k (by omega)
   have hmo2:inR o.length (m:Int):=⟨by omega,by omega⟩
   simp only [Z9T,wq,reduceCtorEq,hw]
   refine ⟨fun hlt2=>Zaj (by omega) hlt2 fun y hy hym=>?_,fun hge2=>?_⟩
   ·obtain ⟨q,rfl⟩:∃ q:Nat,y=q:=⟨y.toNat,by have:=(hkb y hym).1;omega⟩
    have hqm:q < m:=by have:=(hkb _ hym).2;omega
    rw [Zax] at hy
    have hqo:inR o.length (q:Int):=⟨by omega,by omega⟩
    obtain ⟨b,hb1,hb2,hb3⟩:Zq1 (atI o (q:Int)) (Dp l q):=by rw [hs2 q (by omega)];exact hP q hqm
    obtain ⟨a,ha1,ha2,ha3⟩:=hB
    simp only [ZaB hqo,ZaB hmo2,Z9S,Z9R,wq,reduceCtorEq,hw2,hb1]
    have push:∀ c:Nat,c < 65536->(∀ j:Nat,j < 16->(c.testBit j=true↔Dp l q j/\(x.1≠31\/(j:Int)≠x.2.1\/k < x.2.2.length / 2)))->(∃ k':Nat,((k+1:Nat):Int)=k'/\k'<=x.2.2.length/\(Zaq o (m:Int) (ZeM .u32 (BitVec.ofInt (IntKind.bits .u32) (atI o (m:Int)) ||| BitVec.ofInt (IntKind.bits .u32) (c:Int)))).length=l.length/\(∀ i:Nat,i≠m->atI (Zaq o (m:Int) (ZeM .u32 (BitVec.ofInt (IntKind.bits .u32) (atI o (m:Int)) ||| BitVec.ofInt (IntKind.bits .u32) (c:Int)))) (i:Int)=atI out (i:Int))/\Zq1 (atI (Zaq o (m:Int) (ZeM .u32 (BitVec.ofInt (IntKind.bits .u32) (atI o (m:Int)) ||| BitVec.ofInt (IntKind.bits .u32) (c:Int)))) (m:Int)) (fun j=>(x.1=3/\j=Int.tdiv x.2.1 16)\/∃ t q:Nat,t < k'/\x.2.2[t]?=some (q:Int)/\Dp l q j/\(x.1≠31\/j≠x.2.1\/t < x.2.2.length / 2)))/\x.2.2.length - ((k+1:Nat):Int).toNat < x.2.2.length - ((k:Int)).toNat:=by
     intro c hc hcj
     obtain ⟨d,hd1,hd2,hd3⟩:=Z49 ha2 hc
     rw [ha1,hd1]
     refine ⟨⟨k+1,rfl,by omega,by rw [Zay];exact hol2,fun i hi=>?_,d,?_,hd2,fun j hj=>?_⟩,by omega⟩
     ·rw [Za3 hmo2 (by omega),if_neg (by omega)];exact hs2 i hi
     ·rw [Za3 hmo2 (by omega),if_pos rfl]
     ·rw [hd3,Bool.or_eq_true,ha3 j hj,hcj j hj]
      constructor
      ·rintro ((h | ⟨t,q',h1,h2,h3,h4⟩) | ⟨h1,h2⟩)
       ·exact .inl h
       ·exact .inr ⟨t,q',by omega,h2,h3,h4⟩
       ·exact .inr ⟨k,q,by omega,hy,h1,h2⟩
      ·rintro (h | ⟨t,q',h1,h2,h3,h4⟩)
       ·exact .inl (.inl h)
       ·by_cases e:t < k
        ·exact .inl (.inr ⟨t,q',e,h2,h3,h4⟩)
        ·obtain rfl:t=k:=by omega
         rw [hy] at h2
         have:q=q':=by have:=Option.some.inj h2;omega
         subst this
         exact .inr ⟨h3,h4⟩
    have Zlw:(x.1≠31\/k < x.2.2.length / 2)->∀ j:Nat,j < 16->(b.testBit j=true↔Dp l q j/\(x.1≠31\/(j:Int)≠x.2.1\/k < x.2.2.length / 2)):=fun h j hj=>(hb3 j hj).trans ⟨fun d=>⟨d,by omega⟩,fun d=>d.1⟩
    refine ⟨fun e31=>?_,fun e31=>push b hb2 (Zlw (.inl e31))⟩
    obtain ⟨i0,i1,mm,hmm,m1,m2⟩:=hi31 e31
    have hd3:Int.tdiv ((x.2.2.length:Int) - 1) 2=(mm:Int):=by
     rw [hmm,Int.tdiv_eq_ediv_of_nonneg (by omega)];omega
    have hd4:IntKind.wrap .i64 (mm:Int)=mm:=Zau (by omega) (by omega)
    obtain ⟨im,him⟩:∃ im:Nat,x.2.1=im:=⟨x.2.1.toNat,by omega⟩
    have him16:im < 16:=by omega
    have hwu:IntKind.wrap .u64 (im:Int)=im:=Zdz (by omega) (by omega)
    rw [hwd,hd3,hd4]
    refine ⟨fun hge3=>⟨fun h=>?_,fun _=>?_⟩,fun hlt3=>push b hb2 (Zlw (.inr (by omega)))⟩
    ·rw [him,hwu] at h;omega
    ·obtain ⟨c,hc1,hc2,hc3⟩:=Zsu hb2 him16
     rw [him,hc1]
     have hp:=push c hc2 (fun j hj=>by
      rw [hc3,Bool.and_eq_true,hb3 j hj,decide_eq_true_eq]
      constructor
      ·rintro ⟨h1,h2⟩;exact ⟨h1,.inr (.inl (by omega))⟩
      ·rintro ⟨h1,h2⟩;exact ⟨h1,by rintro rfl;rcases h2 with h | h | h;exact absurd e31 h;omega;omega⟩)
     rw [him] at hp
     exact hp
   ·have hkk:k=x.2.2.length:=by omega
    refine ⟨⟨m+1,rfl,by omega,hol2,fun i hi=>?_,fun i hi1 hi2=>by rw [hs2 i (by omega)];exact hZ i (by omega) hi2⟩,by omega⟩
    by_cases e:i=m
    ·subst e
     refine hB.congr fun j hj=>⟨?_,fun h=>?_⟩
     ·rintro (⟨h1,h2⟩ | ⟨t,q,_,h2,h3,h4⟩)
      ·rw [h2];exact .var hx h1
      ·exact .kid hx h2 h3 h4
     ·rcases h.inv hx with ⟨h1,h2⟩ | ⟨t,q,h2,h3,h4⟩
      ·exact .inl ⟨h1,h2⟩
      ·exact .inr ⟨t,q,by have:=ZaA h2;omega,h2,h3,h4⟩
    ·rw [hs2 i e];exact hP i (by omega)
  refine ⟨fun e3=>?_,fun e3=>?_⟩
  ·obtain ⟨i0,i1⟩:=hi3 e3
   obtain ⟨im,him⟩:∃ im:Nat,x.2.1=im:=⟨x.2.1.toNat,by omega⟩
   have hq:Int.tdiv x.2.1 16=((im / 16:Nat):Int):=by rw [him];exact ZiT im 16
   have h16:im / 16 < 16:=by omega
   have hwq:IntKind.wrap .i64 ((im / 16:Nat):Int)=((im / 16:Nat):Int):=Zau (by omega) (by omega)
   have hwu:IntKind.wrap .u64 ((im / 16:Nat):Int)=((im / 16:Nat):Int):=Zdz (by omega) (by omega)
   obtain ⟨b1,b2⟩:=Zz3 h16
   rw [hq,hwq,b1,hwu]
   refine ⟨fun h=>by omega,fun _=>?_⟩
   rw [ZaB hmo]
   simp only [wq,reduceCtorEq]
   refine inner _ (by rw [Zay];exact hol) (fun i hi=>?_) ⟨2 ^ (im / 16),?_,b2,fun j hj=>?_⟩
   ·rw [Za3 hmo (by omega),if_neg (by omega)]
   ·rw [Za3 hmo (by omega),if_pos rfl]
   ·rw [Nat.testBit_two_pow,decide_eq_true_eq,hq]
    exact ⟨fun h=>⟨e3,by omega⟩,fun h=>by omega⟩
  ·refine inner out hol (fun _ _=>rfl) ⟨0,hz,by omega,fun j hj=>?_⟩
   rw [Nat.zero_testBit]
   exact ⟨fun h=>(by cases h),fun h=>absurd h.1 e3⟩
 ·have:m=l.length:=by omega
  subst this
  exact ⟨hol,hP⟩
def Z1H (l:List Zae) (m:Nat) (vars:List Int):Prop:=vars.length=16/\∀ j:Int,0<=j->j < 16->(atI vars j=0/\∀ y∈l.take m,y.1=31->y.2.1≠j)\/∃ y∈l.take m,y.1=31/\y.2.1=j/\atI vars j=((y.2.2.length / 2:Nat):Int)/\0 < atI vars j
theorem Zz9 (g:GrT) (hW:ZhX g.2.2.1):F58 g=some (wfB g):=by
 refine Ret.eq ?_
 have hG:=hW.toGraphH
 have hn:=hG.n
 have hsl:=ZaK g.2.2.1 g.2.2.1.length
 simp only [F58,Z85 _ hW,ZAa,wq,reduceCtorEq]
 cases hgb:ZeX g.2.2.1
 ·simp only [cond_false,wq,reduceCtorEq]
  exact Zbx fun w=>by (rw [Zc5 w.good] at hgb;cases hgb)
 have hg:Zex g.2.2.1 g.2.2.1.length:=by unfold ZeX at hgb;simpa using hgb
 simp only [cond_true,Z7T,wq,reduceCtorEq]
 refine ⟨fun e1=>Zbx fun w=>e1 w.va,fun e1=>⟨fun e2=>Zbx fun w=>e2 w.st,fun e2=>?_⟩⟩
 have rv:inR g.2.2.1.length g.2.2.2.1:=by have:=Zfe (l:=Zam g.2.2.1 g.2.2.1.length) (i:=g.2.2.2.1) (by omega);rwa [hsl] at this
 have rs:inR g.2.2.1.length g.2.2.2.2:=by have:=Zfe (l:=Zam g.2.2.1 g.2.2.1.length) (i:=g.2.2.2.2) (by omega);rwa [hsl] at this
 refine Zac (fun q:Int×List Int=>∃ m:Nat,q.1=m/\m<=g.2.2.1.length/\Z1H g.2.2.1 m q.2/\∀ i k:Nat,i < m->k < i->∀ x y,g.2.2.1[i]?=some x->g.2.2.1[k]?=some y->x.1=31->y.1=31->y.2.1≠x.2.1) (fun q=>g.2.2.1.length - q.1.toNat) ?_ _ ⟨0,rfl,by omega,⟨by simp,fun j h0 h1=>.inl ⟨Zff _ _,fun y hy=>by simp at hy⟩⟩,fun i k h=>by omega⟩
 rintro ⟨_,vars⟩ ⟨m,rfl,hm,hV,hlp⟩
 dsimp only at hV
 obtain ⟨v16,hV⟩:=hV
 have hw:=Zab m (by omega)
 simp only [ZyH,Z9V,wq,reduceCtorEq,hw]
 refine ⟨fun hlt=>Zaj (by omega) hlt fun x hx hxm=>?_,fun hge=>?_⟩
 ·rw [Zax] at hx
  have htake:∀ y,y∈g.2.2.1.take (m+1)↔y∈g.2.2.1.take m\/y=x:=fun y=>by
   rw [List.take_add_one,hx,List.mem_append];simp
  refine ⟨fun e31=>?_,fun e31=>⟨⟨m+1,rfl,by omega,⟨v16,fun j h0 h1=>?_⟩,fun i k hi hk x' y' hx' hy'=>?_⟩,by omega⟩⟩
  ·obtain ⟨i0,i1,mm,hmm,m1,m2⟩:=(Zer hG hg hx).2 e31
   have hiv:inR vars.length x.2.1:=⟨i0,by omega⟩
   have hwd:IntKind.wrap .i64 ((x.2.2.length:Int) - 1)=(x.2.2.length:Int) - 1:=Zau (by omega) (by omega)
   have hd3:Int.tdiv ((x.2.2.length:Int) - 1) 2=(mm:Int):=by
    rw [hmm,Int.tdiv_eq_ediv_of_nonneg (by omega)];omega
   have hd4:IntKind.wrap .i64 (mm:Int)=mm:=Zau (by omega) (by omega)
   rw [ZaB hiv,hwd,hd3,hd4]
   simp only [wq,reduceCtorEq]
   refine ⟨fun _=>⟨fun hpos=>Zbx fun w=>?_,fun hz=>⟨fun _=>?_,fun h=>by omega⟩⟩,fun h=>by omega⟩
   ·rcases hV x.2.1 i0 i1 with ⟨h,_⟩ | ⟨y,hy,y1,y2,_⟩
    ·omega
    ·obtain ⟨k,hk⟩:=List.getElem?_of_mem hy
     have hkm:k < m:=by have:=ZaA hk;rw [List.length_take] at this;omega
     rw [List.getElem?_take_of_lt hkm] at hk
     exact w.lp m k hkm x y hx hk e31 y1 y2
   ·have hno:∀ y∈g.2.2.1.take m,y.1=31->y.2.1≠x.2.1:=by
     rcases hV x.2.1 i0 i1 with ⟨_,h⟩ | ⟨y,hy,y1,y2,_,h⟩
     ·exact h
     ·omega
    refine ⟨⟨m+1,rfl,by omega,⟨by rw [Zay];exact v16,fun j h0 h1=>?_⟩,fun i k hi hk x' y' hx' hy'=>?_⟩,by omega⟩
    ·rw [Za3 hiv h0]
     split
     ·subst ‹j=_›
      exact .inr ⟨x,(htake x).2 (.inr rfl),e31,rfl,by rw [hmm];omega,by omega⟩
     ·rename_i hne
      rcases hV j h0 h1 with ⟨h,h2⟩ | ⟨y,hy,h⟩
      ·refine .inl ⟨h,fun y hy y1=>?_⟩
       rcases (htake y).1 hy with hy | rfl
       ·exact h2 y hy y1
       ·exact fun e=>hne e.symm
      ·exact .inr ⟨y,(htake y).2 (.inl hy),h⟩
    ·by_cases e:i < m
     ·exact hlp i k e hk x' y' hx' hy'
     ·have:i=m:=by omega
      subst this
      rw [hx] at hx';obtain rfl:=Option.some.inj hx'
      exact fun _ e2=>hno y' (List.mem_of_getElem? (by rw [List.getElem?_take_of_lt hk];exact hy')) e2
  ·rcases hV j h0 h1 with ⟨h,h2⟩ | ⟨y,hy,h⟩
   ·refine .inl ⟨h,fun y hy y1=>?_⟩
    rcases (htake y).1 hy with hy | rfl
    ·exact h2 y hy y1
    ·exact absurd y1 e31
   ·exact .inr ⟨y,(htake y).2 (.inl hy),h⟩
  ·by_cases e:i < m
   ·exact hlp i k e hk x' y' hx' hy'
   ·have:i=m:=by omega
    subst this
    rw [hx] at hx';obtain rfl:=Option.some.inj hx'
    exact fun e1=>absurd e1 e31
 ·have hmn:m=g.2.2.1.length:=by omega
  rw [List.take_of_length_le (by omega)] at hV
  have hlp':∀ i k:Nat,k < i->∀ x y,g.2.2.1[i]?=some x->g.2.2.1[k]?=some y->x.1=31->y.1=31->y.2.1≠x.2.1:=fun i k hk x y hx hy=>hlp i k (by have:=ZaA hx;omega) hk x y hx hy
  refine Zac (fun q:Int×List Int=>∃ m:Nat,q=((m:Int),vars)/\m<=g.2.2.1.length/\∀ x∈g.2.2.1.take m,x.1=3->∀ y∈g.2.2.1,y.1=31->y.2.1=Int.tdiv x.2.1 16->Int.tmod x.2.1 16 < ((y.2.2.length / 2:Nat):Int)) (fun q=>g.2.2.1.length - q.1.toNat) ?_ _ ⟨0,rfl,by omega,fun x hx=>by simp at hx⟩
  rintro _ ⟨m,rfl,hm,hlv⟩
  have hw:=Zab m (by omega)
  simp only [Z9Z,Z9X,Z9W,Z9Y,wq,reduceCtorEq,hw]
  refine ⟨fun hlt=>Zaj (by omega) hlt fun x hx hxm=>?_,fun hge=>?_⟩
  ·rw [Zax] at hx
   have nx:(x.1=3->∀ y∈g.2.2.1,y.1=31->y.2.1=Int.tdiv x.2.1 16->Int.tmod x.2.1 16 < ((y.2.2.length / 2:Nat):Int))->∃ m':Nat,(((m+1:Nat):Int),vars)=((m':Int),vars)/\m'<=g.2.2.1.length/\∀ x∈g.2.2.1.take m',x.1=3->∀ y∈g.2.2.1,y.1=31->y.2.1=Int.tdiv x.2.1 16->Int.tmod x.2.1 16 < ((y.2.2.length / 2:Nat):Int):=fun h=>by
    refine ⟨m+1,rfl,by omega,fun z hz=>?_⟩
    rw [List.take_add_one,hx] at hz
    rcases List.mem_append.1 hz with hz | hz
    ·exact hlv z hz
    ·rw [show z=x by simpa using hz];exact h
   refine ⟨fun e3=>?_,fun e3=>⟨nx fun h=>absurd h e3,by omega⟩⟩
   obtain ⟨i0,i1⟩:=(Zer hG hg hx).1 e3
   obtain ⟨im,him⟩:∃ im:Nat,x.2.1=im:=⟨x.2.1.toNat,by omega⟩
   have hq:Int.tdiv x.2.1 16=((im / 16:Nat):Int):=by rw [him];exact ZiT im 16
   have h16:im / 16 < 16:=by omega
   have hwq:IntKind.wrap .i64 ((im / 16:Nat):Int)=((im / 16:Nat):Int):=Zau (by omega) (by omega)
   have hiv:inR vars.length ((im / 16:Nat):Int):=⟨by omega,by omega⟩
   rw [hq,hwq,ZaB hiv]
   simp only [wq,reduceCtorEq]
   refine ⟨fun _=>⟨fun hpos=>⟨fun hge2=>?_,fun hlt2=>⟨nx fun _ y hy y1 y2=>?_,by omega⟩⟩,fun hz=>⟨nx fun _ y hy y1 y2=>?_,by omega⟩⟩,fun h=>by omega⟩
   ·rcases hV _ (show (0:Int)<=((im / 16:Nat):Int) by omega) (by omega) with ⟨h,_⟩ | ⟨y,hy,y1,y2,y3,_⟩
    ·omega
    ·exact Zbx fun w=>by have:=w.lv x hxm e3 y hy y1 (by rw [y2,hq]);omega
   ·rcases hV _ (show (0:Int)<=((im / 16:Nat):Int) by omega) (by omega) with ⟨h,_⟩ | ⟨z,hz,z1,z2,z3,_⟩
    ·omega
    ·have:y=z:=by
      obtain ⟨a,ha⟩:=List.getElem?_of_mem hy
      obtain ⟨b,hb⟩:=List.getElem?_of_mem hz
      have hab:a=b:=by
       rcases Nat.lt_trichotomy a b with h | h | h
       ·exact absurd (by rw [y2,z2,hq]) (hlp' b a h z y hb ha z1 y1)
       ·exact h
       ·exact absurd (by rw [y2,z2,hq]) (hlp' a b h y z ha hb y1 z1)
      subst hab
      rw [ha] at hb
      exact Option.some.inj hb
     subst this
     omega
   ·rcases hV _ (show (0:Int)<=((im / 16:Nat):Int) by omega) (by omega) with ⟨_,h⟩ | ⟨z,hz,z1,z2,z3,z4⟩
    ·exact absurd (by rw [y2,hq]) (h y hy y1)
    ·omega
  ·have hlv':∀ x∈g.2.2.1,x.1=3->∀ y∈g.2.2.1,y.1=31->y.2.1=Int.tdiv x.2.1 16->Int.tmod x.2.1 16 < ((y.2.2.length / 2:Nat):Int):=by
    rw [List.take_of_length_le (by omega)] at hlv;exact hlv
   refine (ZBg hG hg).mono fun out _ ⟨hol,hB⟩=>?_
   have nv:((g.2.2.2.1.toNat:Nat):Int)=g.2.2.2.1:=by have:=rv.1;omega
   have ns:((g.2.2.2.2.toNat:Nat):Int)=g.2.2.2.2:=by have:=rs.1;omega
   obtain ⟨a,a1,a2,a3⟩:=hB g.2.2.2.1.toNat (by have:=rv.2;have:=rv.1;omega)
   obtain ⟨b,b1,b2,b3⟩:=hB g.2.2.2.2.toNat (by have:=rs.2;have:=rs.1;omega)
   rw [nv] at a1
   rw [ns] at b1
   rw [ZaB (l:=out) (i:=g.2.2.2.1) (by rw [hol];exact rv),ZaB (l:=out) (i:=g.2.2.2.2) (by rw [hol];exact rs),a1,b1]
   simp only [wq,reduceCtorEq]
   refine ⟨fun e=>?_,fun e=>Zbx fun w=>?_⟩
   ·have ha0:a=0:=by omega
    rw [Bool.eq_iff_iff,ZvJ,beq_iff_eq]
    constructor
    ·intro e5
     have hb0:b=0:=by omega
     refine ⟨hg,e1,e2,hlp',hlv',fun j h0 h1=>?_⟩
     obtain ⟨jn,rfl⟩:∃ jn:Nat,j=jn:=⟨j.toNat,by omega⟩
     have hj:jn < 16:=by omega
     refine ⟨fun d=>?_,fun d=>?_⟩
     ·have:=(a3 jn hj).2 d;rw [(Zfg a2).1 ha0 jn hj] at this;cases this
     ·have:=(b3 jn hj).2 d;rw [(Zfg b2).1 hb0 jn hj] at this;cases this
    ·intro w
     have:b=0:=(Zfg b2).2 fun j hj=>by
      cases h:b.testBit j
      ·rfl
      ·exact absurd ((b3 j hj).1 h) (w.dp j (by omega) (by omega)).2
     omega
   ·have:a=0:=(Zfg a2).2 fun j hj=>by
     cases h:a.testBit j
     ·rfl
     ·exact absurd ((a3 j hj).1 h) (w.dp j (by omega) (by omega)).1
    omega
end Go.Dat
namespace Go.Dat
open Go.Eng
set_option linter.unusedSimpArgs false
set_option linter.unusedVariables false
set_option linter.unusedSectionVars false
mutual
theorem Po.det {s:Za5} {ch:List Int} {c:Int} {vs a b:List Int}:Po s ch c vs a->Po s ch c vs b->a=b
 | .seen _,.seen _=>rfl
 | .seen h,.new h2 _ _ _=>absurd h h2
 | .new h2 _ _ _,.seen h=>absurd h h2
 | .new _ _ h1 _,.new _ _ h2 _=>by rw [PoL.det h1 h2]
theorem PoL.det {s:Za5} {ch ps:List Int} {vs a b:List Int}:PoL s ch ps vs a->PoL s ch ps vs b->a=b
 | .nil,.nil=>rfl
 | .cons h1 h2,.cons h3 h4=>by
  have e:=Po.det h1 h3
  subst e
  exact PoL.det h2 h4
end
theorem PoR.uniq {s:Za5} {ch a b:List Int} (ha:PoR s ch a) (hb:PoR s ch b):a=b:=ha.po.det hb.po
section
variable {s:Za5} {ch vs:List Int} (h:PoR s ch vs)
include h
theorem Z1I {q:Int} (hq:RS s ch q):q∈vs:=by
 induction hq with
 | val=>exact h.va
 | st=>exact h.st
 | step _ e ih=>exact ((h.sel _ ih).2.2 _ e.2).1
theorem Zz5 {p q:Int} (hp:ZnS s ch p q) (hm:p∈vs):q∈vs/\ZdD vs q<=ZdD vs p:=by
 induction hp with
 | refl=>exact ⟨hm,Int.le_refl _⟩
 | snoc _ e ih=>
  obtain ⟨a,b⟩:=ih
  obtain ⟨c,d⟩:=(h.sel _ a).2.2 _ e.2
  exact ⟨c,by omega⟩
theorem Zq2 (hb:Zqx s ch):False:=by
 obtain ⟨q,hq,hb⟩:=hb
 have hm:=Z1I h hq
 rcases hb with hb | ⟨p,e,hp⟩
 ·have:=(h.sel q hm).2.1;omega
 ·obtain ⟨c,d⟩:=(h.sel q hm).2.2 p e.2
  have:=(Zz5 h hp c).2
  omega
end
theorem Zq0.uniq {s:Za5} {ch:List Int} {r r':GrT×Bool} (h:Zq0 s ch r) (h':Zq0 s ch r'):r=r':=by
 rcases h with ⟨b,rfl⟩ | ⟨vs,hv,rfl⟩<;>rcases h' with ⟨b',rfl⟩ | ⟨vs',hv',rfl⟩
 ·rfl
 ·exact (Zq2 hv' b).elim
 ·exact (Zq2 hv b').elim
 ·rw [hv.uniq hv']
structure BP (s:Za5) (ch:List Int) (st:List Int) (vs:List Int):Prop extends VsI s ch vs where
 len:st.length=s.1.length
 v:∀ q,inR s.1.length q->q∉vs->atI st q=0\/atI st q=1
 idx:∀ q∈vs,atI st q=2
abbrev Z4A:=Bool×List Int×Option Zwb×List Int×List Int
def Z2p (s:Za5) (ch:List Int) (c:Int) (st vs:List Int) (r:Z4A):Prop:=
 ∃ ok st' out,r=(ok,ch,some (Zbz s),st',out)/\st'.length=s.1.length/\out.length+Zhb st'<=vs.length+Zhb st/\(ok=false->Zqx s ch) /\
  (ok=true->∃ es,out=vs++es/\Po s ch c vs (vs++es)/\c∈vs++es/\BP s ch st' (vs++es)/\(∀ q,inR s.1.length q->(atI st' q=1↔atI st q=1))/\Zhb st'<=Zhb st)
section
variable {s:Za5} (X:Ctx s) {ch:List Int} (hs:Zdi s ch)
theorem Zih (n:Nat) (c:Int) (hc:inR s.1.length c) (st out:List Int) (hl:st.length=s.1.length):N73 (n+1) c false ch (some (Zbz s)) st out=some (false,ch,some (Zbz s),st,out):=by
 refine Ret.eq ?_
 have hg:gI st c=some (atI st c):=ZaB (by rw [hl];exact hc)
 show Ret (G73 _ c false ch (some (Zbz s)) st out) _
 simp only [G73,ZuE,hg,wq,reduceCtorEq]
include X hs
theorem Zhi:∀ (n:Nat) (c:Int),RS s ch c->∀ (st vs:List Int),BP s ch st vs->(∀ q,inR s.1.length q->atI st q=1->∃ b,ZnS s ch q b/\EdS s ch b c)->Zhb st < n->vs.length+Zhb st<=900 ->
 Ret (N73 n c true ch (some (Zbz s)) st vs) (Z2p s ch c st vs)
 | 0,c,hc,st,vs,hB,h1,hz,hg=>by omega
 | n+1,c,hc,st,vs,hB,h1,hz,hg=>by
  have hrep:=RS.rep X hs hc
  have hal:inR st.length c:=by rw [hB.len];exact hrep.1
  have hga:gI st c=some (atI st c):=ZaB hal
  have hgc:gI ch c=some (atI ch c):=ZaB (by rw [hs.1];exact hrep.1)
  show Ret (G73 (N73 n) c true ch (some (Zbz s)) st vs) _
  simp only [G73,ZuE,ZuD,hga,hgc,wq,reduceCtorEq,Option.bind_some]
  have bad:Zqx s ch->Z2p s ch c st vs (false,ch,some (Zbz s),st,vs):=fun h=>⟨false,st,vs,rfl,hB.len,Nat.le_refl _,fun _=>h,fun h=>by cases h⟩
  refine ⟨fun e2=>?_,fun e2=>⟨fun e1=>?_,fun e1=>⟨fun e3=>bad ⟨c,hc,.inl e3⟩,fun e3=>?_⟩⟩⟩
  ·have hin:c∈vs:=by
    by_cases h:c∈vs
    ·exact h
    ·rcases hB.v c hrep.1 h with h | h<;>omega
   refine ⟨true,st,vs,rfl,hB.len,Nat.le_refl _,(fun h=>by cases h),fun _=>⟨[],?_⟩⟩
   rw [List.append_nil]
   exact ⟨rfl,.seen hin,hin,hB,fun _ _=>Iff.rfl,Nat.le_refl _⟩
  ·obtain ⟨b,p1,p2⟩:=h1 c hrep.1 e1
   refine bad ⟨c,hc,.inr ?_⟩
   rcases p1.head with rfl | ⟨d,h3,h4⟩
   ·exact ⟨_,p2,.refl⟩
   ·exact ⟨d,h3,h4.snoc p2⟩
  have hin:c∉vs:=fun h=>e2 (hB.idx c h)
  have em1:atI st c=0:=by rcases hB.v c hrep.1 hin with h | h;exact h;exact absurd h e1
  have hdr:=Zf4 X hs hrep.1 e3
  have hkl:=X.kids.k _ (Zav hdr)
  have hkr:=X.kids.r _ (Zav hdr)
  have hnd:gI (Zbz s).1.1 (atI ch c)=some (Zar s.1 (atI ch c)):=Za2 hdr
  simp only [hnd,wq,reduceCtorEq]
  have hz1:=ZmR hal em1 (x:=1) (by omega)
  have B1:BP s ch (Zaq st c 1) vs:=by
   refine ⟨hB.toVsI,by rw [Zay];exact hB.len,fun q hq hnq=>?_,fun q hq=>?_⟩
   ·rw [Za3 hal hq.1];split
    ·exact .inr rfl
    ·exact hB.v q hq hnq
   ·rw [Za3 hal ((hB.sel q hq).1.1).1,if_neg (fun e:q=c=>hin (e▸hq))];exact hB.idx q hq
  refine Zac (fun o=>∃ (j:Nat) (ok:Bool) (st' out:List Int),o=((j:Int),ok,ch,some (Zbz s),st',out)/\j<=(Zar s.1 (atI ch c)).2.2.length/\st'.length=s.1.length/\out.length+Zhb st'<=vs.length+Zhb (Zaq st c 1)/\(ok=false->Zqx s ch) /\
   (ok=true->∃ es,out=vs++es/\PoL s ch (Za9 s (atI ch c) j) vs (vs++es)/\(∀ p∈Za9 s (atI ch c) j,p∈vs++es)/\BP s ch st' (vs++es)/\(∀ q,inR s.1.length q->(atI st' q=1↔atI (Zaq st c 1) q=1))/\Zhb st'<=Zhb (Zaq st c 1))) (fun o=>(Zar s.1 (atI ch c)).2.2.length - o.1.toNat) ?_ _ ⟨0,true,_,vs,rfl,by omega,by rw [Zay];exact hB.len,Nat.le_refl _,(fun h=>by cases h),fun _=>⟨[],?_⟩⟩
  ·rintro _ ⟨j,ok,st',out,rfl,hj,hl',hc',hbad,hok⟩
   have hw:=Zab j (by omega)
   simp only [Zxz,wq,reduceCtorEq,hw,Option.bind_some]
   refine ⟨fun hlt=>Zaj (by omega) hlt fun y hy hym=>?_,fun hge=>?_⟩
   ·have hyr:=hkr y hym
    have hcg:gI (Zbz s).2.1 y=some (atI (Zai s) y):=X.cget hyr
    simp only [hcg,wq,reduceCtorEq]
    rw [Zax] at hy
    have hgk:=ZbV X hy
    have hpm:atI (Zai s) y∈Zbh s (atI ch c):=List.mem_of_getElem? hgk
    have hsn:Za9 s (atI ch c) (j+1)=Za9 s (atI ch c) j++[atI (Zai s) y]:=by unfold Za9;rw [List.take_add_one,hgk];rfl
    cases ok with
    | false=>
     obtain ⟨n',rfl⟩:∃ n',n=n'+1:=⟨n - 1,by omega⟩
     rw [Zih n' _ (X.ci.rng hyr) st' out hl']
     simp only [wq,reduceCtorEq]
     exact ⟨⟨j+1,false,st',out,rfl,by omega,hl',hc',hbad,fun h=>by cases h⟩,by omega⟩
    | true=>
     obtain ⟨es,rfl,q1,q2,q3,q6,q7⟩:=hok rfl
     refine (Zhi n _ (.step hc ⟨e3,hpm⟩) st' (vs++es) q3 (fun q hqr h=>?_) (by omega) (by omega)).mono fun o _ ⟨ok2,st2,out2,eo,w1,w2,w3,w4⟩=>?_
     ·have hh:=(q6 q hqr).1 h
      rw [Za3 hal hqr.1] at hh
      split at hh
      ·subst ‹q=c›;exact ⟨q,.refl,e3,hpm⟩
      ·obtain ⟨b,p1,p2⟩:=h1 q hqr hh
       exact ⟨c,p1.snoc p2,e3,hpm⟩
     ·subst eo
      refine ⟨⟨j+1,ok2,st2,out2,rfl,by omega,w1,by omega,w3,fun h=>?_⟩,by omega⟩
      obtain ⟨es2,z0,z1,z2,z3,z6,z7⟩:=w4 h
      refine ⟨es++es2,?_,?_,fun p hp=>?_,?_,fun q hqr=>(z6 q hqr).trans (q6 q hqr),by omega⟩
      ·rw [<-List.append_assoc];exact z0
      ·rw [hsn,<-List.append_assoc];exact q1.snoc z1
      ·rw [<-List.append_assoc]
       rw [hsn] at hp
       rcases List.mem_append.1 hp with hp | hp
       ·exact List.mem_append_left _ (q2 p hp)
       ·rw [List.mem_singleton.1 hp];exact z2
      ·rw [<-List.append_assoc];exact z3
   ·have hal':inR st'.length c:=by rw [hl'];exact hrep.1
    have hall:Za9 s (atI ch c) j=Zbh s (atI ch c):=by unfold Za9;rw [List.take_of_length_le (by rw [Zbw X];omega)]
    have hzl:=Zhc hal' (x:=2) (by omega)
    simp only [ZaB hal',wq,reduceCtorEq]
    refine ⟨fun _=>⟨ok,_,_,rfl,by rw [Zay];exact hl',by simp;omega,hbad,fun h=>?_⟩,fun h=>absurd h (by simp only [List.length_cons,List.length_nil];omega)⟩
    obtain ⟨es,rfl,q1,q2,q3,q6,q7⟩:=hok h
    rw [hall] at q1 q2
    have hcn:c∉vs++es:=fun hm=>by
     have h5:=q3.idx c hm
     have h6:=(q6 c hrep.1).2 (by rw [Za3 hal hrep.1.1,if_pos rfl])
     omega
    have hV:=q3.toVsI.snoc hrep hcn e3 q2
    refine ⟨es++[c],by rw [List.append_assoc],?_,by simp,⟨by rw [<-List.append_assoc];exact hV,by rw [Zay];exact hl',fun q hq hnq=>?_,fun q hq=>?_⟩,fun q hq=>?_,by omega⟩
    ·rw [<-List.append_assoc];exact .new hin e3 q1 hcn
    ·rw [<-List.append_assoc,List.mem_append,List.mem_singleton] at hnq
     rw [Za3 hal' hq.1,if_neg (fun e=>hnq (.inr e))]
     exact q3.v q hq fun hm=>hnq (.inl hm)
    ·rw [<-List.append_assoc,List.mem_append,List.mem_singleton] at hq
     rcases hq with hq | rfl
     ·rw [Za3 hal' ((q3.sel q hq).1.1).1,if_neg (fun e:q=c=>hcn (e▸hq))];exact q3.idx q hq
     ·rw [Za3 hal' hrep.1.1,if_pos rfl]
    ·rw [Za3 hal' hq.1]
     split
     ·subst ‹q=c›;constructor<;>intro h<;>omega
     ·rename_i hne
      rw [q6 q hq,Za3 hal hq.1,if_neg hne]
  ·rw [List.append_nil]
   exact ⟨rfl,.nil,fun p hp=>by simp [Za9] at hp,B1,fun _ _=>Iff.rfl,Nat.le_refl _⟩
theorem ZBh:Ret (F57 (some (Zbz s)) ch) fun r=>(Zqx s ch/\r.2=false)\/∃ vs,PoR s ch vs/\r=(vs,true):=by
 have hn:=X.n
 have hcl:=hs.1
 simp only [F57,Zzd X,ZmP.2 hs,wq,reduceCtorEq,Option.bind_some,hcl,Int.toNat_natCast]
 refine ⟨fun _=>?_,fun h=>absurd h (by omega)⟩
 have hcv:gI (Zbz s).2.1 (Zbz s).1.2.2.2.1=some (atI (Zai s) s.2.2.2.1):=X.cget X.v.va
 have hcs:gI (Zbz s).2.1 (Zbz s).1.2.2.2.2.1=some (atI (Zai s) s.2.2.2.2.1):=X.cget X.v.st
 simp only [hcv,wq,reduceCtorEq]
 have B0:BP s ch (List.replicate s.1.length 0) []:=⟨⟨List.nodup_nil,fun q hq=>by cases hq⟩,by simp,fun q hq _=>.inl (Zff _ _),fun q hq=>(by cases hq)⟩
 have hc0:Zhb (List.replicate s.1.length 0)=s.1.length:=by unfold Zhb;simp
 refine Ret.mono (show Ret (F73 (atI (Zai s) s.2.2.2.1) true ch (some (Zbz s)) (List.replicate s.1.length 0) []) _ from Zhi X hs 1000 (atI (Zai s) s.2.2.2.1) .val _ [] B0 (fun q hq h=>by rw [Zff] at h;omega) (by omega) (by simp only [List.length_nil];omega)) fun o _ ⟨ok,st,out,eo,a1,a2,a3,a4⟩=>?_
 subst eo
 simp only [Option.bind_some,hcs,wq,reduceCtorEq,List.length_nil] at a2 |-
 cases ok with
 | false=>
  rw [show F73 (atI (Zai s) s.2.2.2.2.1) false ch (some (Zbz s)) st out=_ from Zih 999 (atI (Zai s) s.2.2.2.2.1) (X.ci.rng X.v.st) st out a1]
  simp only [wq,reduceCtorEq]
  exact .inl (a3 rfl)
 | true=>
  obtain ⟨es,b0,b1,b2,b3,b6,b7⟩:=a4 rfl
  rw [List.nil_append] at b0 b1 b2 b3
  subst b0
  refine Ret.mono (show Ret (F73 (atI (Zai s) s.2.2.2.2.1) true ch (some (Zbz s)) st out) _ from Zhi X hs 1000 (atI (Zai s) s.2.2.2.2.1) .st st out b3 (fun q hq h=>by rw [b6 q hq,Zff] at h;omega) (by omega) (by omega)) fun o _ ⟨ok2,st2,out2,eo,c1,c2,c3,c4⟩=>?_
  subst eo
  cases ok2 with
  | false=>exact .inl ⟨c3 rfl,rfl⟩
  | true=>
   obtain ⟨es2,d0,d1,d2,d3,d6,d7⟩:=c4 rfl
   exact .inr ⟨out++es2,⟨d3.toVsI,.cons b1 (.cons d1 .nil),List.mem_append_left _ b2,d2,by rw [d0] at c2;omega⟩,by rw [d0]⟩
theorem Zsv {q:Int} (hq:inR s.1.length (atI ch q)) {m:Int} (hm:0<=m) (h2:(Zar s.1 (atI ch q)).1=2):(if IntKind.wrap .i64 ((Zar s.1 (atI ch q)).2.1+1) > m then IntKind.wrap .i64 ((Zar s.1 (atI ch q)).2.1+1) else m)=ZkA s ch m q:=by
 have hx:s.1[(atI ch q).toNat]?=some (Zar s.1 (atI ch q)):=(ZaI (Za2 hq)).2.2
 obtain ⟨i0,i1⟩:=(Zhh X.h.g.toGraphH X.v.good hx).1 h2
 unfold ZkA
 rw [Zau (by omega) (by omega)]
 split<;>split<;>omega
theorem ZvO (vs:List Int) (hv:∀ q∈vs,inR s.1.length (atI ch q)):0<=Zig s ch vs:=by
 unfold Zig
 suffices h:∀ (l:List Int) (m:Int),(∀ q∈l,inR s.1.length (atI ch q))->0<=m->0<=l.foldl (ZkA s ch) m from h vs 0 hv (by omega)
 intro l
 induction l with
 | nil=>intro m _ h;exact h
 | cons q l ih=>
  intro m hl h
  refine ih _ (fun p hp=>hl p (List.mem_cons_of_mem _ hp)) ?_
  have hq:=hl q (by simp)
  have hx:s.1[(atI ch q).toNat]?=some (Zar s.1 (atI ch q)):=(ZaI (Za2 hq)).2.2
  unfold ZkA
  split
  ·rename_i h2
   obtain ⟨i0,i1⟩:=(Zhh X.h.g.toGraphH X.v.good hx).1 h2.1
   rw [Zau (by omega) (by omega)];omega
  ·exact h
theorem ZBi:Ret (F37 (some (Zbz s)) ch) (Zq0 s ch):=by
 have hn:=X.n
 have hcl:=hs.1
 simp only [F37,wq,reduceCtorEq,hcl,Int.toNat_natCast]
 refine (ZBh X hs).mono fun r _ hr=>?_
 rcases hr with ⟨hb,e⟩ | ⟨vs,hv,rfl⟩
 ·rw [e]
  exact ⟨fun _=>.inl ⟨hb,rfl⟩,fun h=>by cases h⟩
 refine ⟨fun h=>by (cases h),fun _=>⟨fun _=>?_,fun h=>absurd h (by omega)⟩⟩
 have hvl:=hv.len
 have hsr:∀ q∈vs,inR s.1.length (atI ch q):=fun q hq=>Zf4 X hs (hv.sel q hq).1.1 (hv.sel q hq).2.1
 refine Zac (fun o=>∃ (k:Nat) (num:List Int),k<=vs.length/\num.length=s.1.length/\(∀ q∈vs.take k,atI num q=ZdD vs q)/\o=((k:Int),ByteArray.empty,0,0,0,ByteArray.empty,Zig s ch (vs.take k),0,0,num,(vs.take k).map (Zjp s ch vs))) (fun o=>vs.length - o.1.toNat) ?_ _ ⟨0,_,by omega,by simp,(fun q hq=>by simp at hq),rfl⟩
 rintro _ ⟨k,num,hk,hnl,hnum,rfl⟩
 have hw:=Zab k (by omega)
 simp only [Zxl,Z8S,wq,reduceCtorEq,Option.bind_some]
 refine ⟨fun hlt=>Zaj (by omega) hlt fun c hc hcm=>?_,fun hge=>?_⟩
 ·have hdr:=hsr c hcm
  obtain ⟨hrep,hse,hkids⟩:=hv.sel c hcm
  have hgc:gI ch c=some (atI ch c):=ZaB (by rw [hcl];exact hrep.1)
  have hnd:gI (Zbz s).1.1 (atI ch c)=some (Zar s.1 (atI ch c)):=Za2 hdr
  have hkl:=X.kids.k _ (Zav hdr)
  have hkr:=X.kids.r _ (Zav hdr)
  have hcp:ZdD vs c=k:=by
   rw [Zax] at hc
   obtain ⟨h1,h2⟩:=List.getElem?_eq_some_iff.1 hc
   unfold ZdD
   rw [<-h2,List.Nodup.idxOf_getElem hv.nd]
  simp only [hgc,hnd,wq,reduceCtorEq]
  refine Zac (fun o=>∃ j:Nat,j<=(Zar s.1 (atI ch c)).2.2.length/\o=((j:Int),ByteArray.empty,0,0,0,ByteArray.empty,Zig s ch (vs.take k),0,0,num,(Za9 s (atI ch c) j).map (ZdD vs),(vs.take k).map (Zjp s ch vs))) (fun o=>(Zar s.1 (atI ch c)).2.2.length - o.1.toNat) ?_ _ ⟨0,by omega,by simp [Za9]⟩
  rintro _ ⟨j,hj,rfl⟩
  have hw2:=Zab j (by omega)
  have hkk:(Za9 s (atI ch c) j).length=j:=by unfold Za9;rw [List.length_take,Zbw X];omega
  simp only [ZAb,Z8S,wq,reduceCtorEq,Option.bind_some,hw,hw2]
  refine ⟨fun hlt2=>Zaj (by omega) hlt2 fun y hy hym=>?_,fun hge2=>?_⟩
  ·have hyr:=hkr y hym
   have hcg:gI (Zbz s).2.1 y=some (atI (Zai s) y):=X.cget hyr
   rw [Zax] at hy
   have hgk:=ZbV X hy
   have hpm:atI (Zai s) y∈Zbh s (atI ch c):=List.mem_of_getElem? hgk
   have hgn:gI num (atI (Zai s) y)=some (atI num (atI (Zai s) y)):=ZaB (by rw [hnl];exact X.ci.rng hyr)
   simp only [hcg,hgn,wq,reduceCtorEq]
   refine ⟨fun _=>⟨⟨j+1,by omega,?_⟩,by omega⟩,fun h=>absurd h (by simp only [List.length_cons,List.length_nil,List.length_map];omega)⟩
   obtain ⟨p1,p2⟩:=hkids _ hpm
   have:atI num (atI (Zai s) y)=ZdD vs (atI (Zai s) y):=hnum _ (by
    rw [hcp] at p2
    have h5:=Zqy p1
    unfold ZdD at p2 h5
    have h6:vs.idxOf (atI (Zai s) y) < k:=by omega
    have h7:(vs.take k)[vs.idxOf (atI (Zai s) y)]?=some (atI (Zai s) y):=by
     rw [List.getElem?_take_of_lt h6,List.getElem?_eq_getElem (by omega),List.getElem_idxOf]
    exact List.mem_of_getElem? h7)
   have hsn:Za9 s (atI ch c) (j+1)=Za9 s (atI ch c) j++[atI (Zai s) y]:=by unfold Za9;rw [List.take_add_one,hgk];rfl
   rw [this,hsn,List.map_append];rfl
  ·have hall:Za9 s (atI ch c) j=Zbh s (atI ch c):=by unfold Za9;rw [List.take_of_length_le (by rw [Zbw X];omega)]
   have hgn:gI num c=some (atI num c):=ZaB (by rw [hnl];exact hrep.1)
   have hnr:inR num.length c:=by rw [hnl];exact hrep.1
   rw [Zax] at hc
   have hts:vs.take (k+1)=vs.take k++[c]:=by rw [List.take_add_one,hc];rfl
   have fin:∀ p,p=Zig s ch (vs.take (k+1))->(∃ (k':Nat) (num':List Int),k'<=vs.length/\num'.length=s.1.length/\(∀ q∈vs.take k',atI num' q=ZdD vs q)/\(((k+1:Nat):Int),ByteArray.empty,(0:Int),(0:Int),(0:Int),ByteArray.empty,p,(0:Int),(0:Int),Zaq num c (k:Int),(vs.take k).map (Zjp s ch vs)++[((Zar s.1 (atI ch c)).1,(Zar s.1 (atI ch c)).2.1,(Za9 s (atI ch c) j).map (ZdD vs))])=((k':Int),ByteArray.empty,0,0,0,ByteArray.empty,Zig s ch (vs.take k'),0,0,num',(vs.take k').map (Zjp s ch vs))):=fun p hp=>by
    refine ⟨k+1,Zaq num c (k:Int),by omega,by rw [Zay];exact hnl,fun q hq=>?_,?_⟩
    ·rw [hts] at hq
     have hqv:q∈vs:=by rcases List.mem_append.1 hq with hq | hq;exact List.mem_of_mem_take hq;rw [List.mem_singleton.1 hq];exact hcm
     rw [Za3 hnr ((hv.sel q hqv).1.1).1]
     split
     ·subst ‹q=c›;exact hcp.symm
     ·rcases List.mem_append.1 hq with hq | hq
      ·exact hnum q hq
      ·exact absurd (List.mem_singleton.1 hq) ‹_›
    ·rw [hp,hts,List.map_append,hall];rfl
   have hpn:=ZvO X hs (vs.take k) (fun q hq=>hsr q (List.mem_of_mem_take hq))
   simp only [hgn,wq,reduceCtorEq]
   refine ⟨fun _=>⟨fun e2=>⟨fin _ ?_,by omega⟩,fun e2=>⟨fin _ ?_,by omega⟩⟩,fun h=>absurd h (by simp only [List.length_cons,List.length_nil,List.length_map,List.length_take];omega)⟩
   ·rw [hts,Zhf];exact Zsv X hs hdr hpn e2
   ·rw [hts,Zhf];unfold ZkA;rw [if_neg (fun h=>e2 h.1)]
 ·have hkn:vs.length<=k:=by omega
  rw [List.take_of_length_le hkn] at hnum
  rw [List.take_of_length_le hkn]
  have hcv:gI (Zbz s).2.1 (Zbz s).1.2.2.2.1=some (atI (Zai s) s.2.2.2.1):=X.cget X.v.va
  have hcs:gI (Zbz s).2.1 (Zbz s).1.2.2.2.2.1=some (atI (Zai s) s.2.2.2.2.1):=X.cget X.v.st
  have h1:gI num (atI (Zai s) s.2.2.2.1)=some (ZdD vs (atI (Zai s) s.2.2.2.1)):=by rw [ZaB (by rw [hnl];exact X.ci.rng X.v.va),hnum _ hv.va]
  have h2:gI num (atI (Zai s) s.2.2.2.2.1)=some (ZdD vs (atI (Zai s) s.2.2.2.2.1)):=by rw [ZaB (by rw [hnl];exact X.ci.rng X.v.st),hnum _ hv.st]
  simp only [hcv,hcs,h1,h2,wq,reduceCtorEq]
  rw [show ((ByteArray.empty,Zig s ch vs,vs.map (Zjp s ch vs),ZdD vs (atI (Zai s) s.2.2.2.1),ZdD vs (atI (Zai s) s.2.2.2.2.1)):GrT)=grS s ch vs from rfl,Zz9 _ (Zz0 X hs hv)]
  simp only [wq,reduceCtorEq]
  exact ⟨fun e=>.inr ⟨vs,hv,by rw [e];rfl⟩,fun e=>.inr ⟨vs,hv,by rw [e];rfl⟩⟩
end
end Go.Dat
/-
 The parts of the search: what both programs know of a partial selection, and the whole selection that it stands for.
-/
namespace Go.Dat
open Go.Eng
set_option linter.unusedSimpArgs false
set_option linter.unusedVariables false
set_option linter.unusedSectionVars false
theorem Zhj {a b:List Int} (hl:a.length=b.length) (h:∀ j,inR a.length j->atI a j=atI b j):a=b:=by
 apply List.ext_getElem?
 intro i
 by_cases hi:i < a.length
 ·have:=h (i:Int) ⟨by omega,by omega⟩
  unfold atI at this
  rw [Int.toNat_natCast,List.getElem?_eq_getElem hi,List.getElem?_eq_getElem (by omega)] at this
  rw [List.getElem?_eq_getElem hi,List.getElem?_eq_getElem (by omega)]
  exact congrArg some this
 ·rw [List.getElem?_eq_none (by omega),List.getElem?_eq_none (by omega)]
def Zcp (n:Nat):List Int:=List.replicate n (-1)
theorem ZBj (n:Nat) (hn:n<=900000):F18 (n:Int)=some (Zcp n):=by
 refine Ret.eq ?_
 simp only [F18,wq,reduceCtorEq,Int.toNat_natCast]
 refine ⟨fun _=>?_,fun h=>absurd h (by omega)⟩
 refine Zac (fun q:Int×List Int=>∃ k:Nat,k<=n/\q=((k:Int),List.replicate k (-1)++List.replicate (n - k) 0)) (fun q=>n - q.1.toNat) ?_ _ ⟨0,by omega,by simp⟩
 rintro _ ⟨k,hk,rfl⟩
 have hw:=Zab k (by omega)
 have hlen:(List.replicate k (-1:Int)++List.replicate (n - k) 0).length=n:=by simp;omega
 simp only [ZAc,wq,reduceCtorEq,hw,List.length_replicate,Int.toNat_natCast]
 refine ⟨fun hlt=>?_,fun hge=>?_⟩
 ·rw [ZaB (l:=List.replicate k (-1:Int)++List.replicate (n - k) 0) (i:=(k:Int)) (by rw [hlen];exact ⟨by omega,hlt⟩)]
  simp only [wq,reduceCtorEq]
  refine ⟨⟨k+1,by omega,?_⟩,by omega⟩
  have e:n - k=(n - (k+1))+1:=by omega
  rw [Zcf,List.set_append_right _ _ (by simp),List.length_replicate,Nat.sub_self,e,List.replicate_succ,List.set_cons_zero,List.replicate_succ' (n:=k),List.append_assoc]
  rfl
 ·have:k=n:=by omega
  subst this
  simp [Zcp]
theorem ZtN (s:Za5) (ch:List Int) (need:List Bool) (l:List Int):(lbF s ch need l).1=l.filter (fun q=>ZaJ need q)/\(lbF s ch need l).2.1=l.filter fun q=>ZaJ need q&&!decide (0<=ZaU s ch q):=by
 have key:∀ (l:List Int) (a:List Int×List Int×Int),(l.foldl (lbS s ch need) a).1=a.1++l.filter (fun q=>ZaJ need q)/\(l.foldl (lbS s ch need) a).2.1=a.2.1++l.filter fun q=>ZaJ need q&&!decide (0<=ZaU s ch q):=by
  intro l
  induction l with
  | nil=>intro a;simp
  | cons q l ih=>
   intro a
   obtain ⟨h1,h2⟩:=ih (lbS s ch need a q)
   rw [List.foldl_cons,h1,h2]
   unfold lbS
   by_cases e:ZaJ need q=true
   ·by_cases d:0<=ZaU s ch q
    ·simp [e,d]
    ·simp [e,d]
   ·have e':ZaJ need q=false:=by simpa using e
    simp [e']
 have:=key l ([],[],0)
 simpa [lbF] using this
section
variable {s:Za5} (X:Ctx s) {ch:List Int} (hs:Zdi s ch)
include X hs
theorem ZfK:∃ need,Zbv s ch need/\F35 (some (Zbz s)) ch=some (lbM s ch need):=by
 obtain ⟨r1,e1,need1,hN1,q1⟩:=Zk2 X hs (Q:=fun r=>∃ need,Zbv s ch need/\r=lbM s ch need) fun need hN=>(Z8u X hs hN).mono fun r _ hr=>⟨need,hN,hr⟩
 exact ⟨need1,hN1,by rw [e1,q1]⟩
theorem Zjf {q:Int}:q∈ZaW (Zai s) s.1.length↔ZfW s q:=by
 constructor
 ·exact ZmT X
 ·intro h
  unfold ZaW idN
  rw [List.mem_filter]
  refine ⟨List.mem_map.2 ⟨q.toNat,List.mem_range.2 (by have:=h.1.1;have:=h.1.2;omega),by have:=h.1.1;omega⟩,?_⟩
  simpa using h.2
theorem Zjg {need:List Bool} (hN:Zbv s ch need) {q:Int}:q∈(lbM s ch need).2.1↔Zb7 s ch q/\ZaU s ch q < 0:=by
 show q∈(lbF s ch need (ZaW (Zai s) s.1.length)).2.1↔_
 rw [(ZtN s ch need _).2,List.mem_filter,Zjf X hs]
 simp only [Bool.and_eq_true,Bool.not_eq_true',decide_eq_false_iff_not]
 constructor
 ·rintro ⟨h1,h2,h3⟩
  exact ⟨(hN.ok q h1.1).1 h2,by omega⟩
 ·rintro ⟨h1,h2⟩
  have:=Zb7.rep X h1
  exact ⟨this,(hN.ok q this.1).2 h1,by omega⟩
noncomputable def ZdY (s:Za5) (ch:List Int) (need:List Bool):List Int:=(List.range s.1.length).map fun (j:Nat)=>if ZaJ need (j:Int)=true then ZaU s ch j else -1
theorem Zfh (need:List Bool):(ZdY s ch need).length=s.1.length:=by simp [ZdY]
theorem Zgm {need:List Bool} {j:Int} (h:inR s.1.length j):atI (ZdY s ch need) j=if ZaJ need j=true then ZaU s ch j else -1:=by
 have h1:=h.1
 have h2:j.toNat < s.1.length:=by have:=h.2;omega
 have e:((j.toNat:Nat):Int)=j:=by omega
 unfold ZdY atI
 rw [List.getElem?_map,List.getElem?_range h2]
 show (if ZaJ need ((j.toNat:Nat):Int)=true then _ else _)=_
 rw [e]
def Zsw (s:Za5) (ch:List Int):Prop:=∀ j,inR s.1.length j->0<=atI ch j->Zb7 s ch j
theorem ZtO {q:Int} (hq:inR s.1.length q) (h:ZaU s ch q < 0):atI ch q=-1:=by
 rcases hs.2 q hq with e | ⟨_,e,_⟩
 ·exact e
 ·have:=e.1;unfold ZaU at h;rw [if_pos this] at h;omega
theorem ZBk {need:List Bool} (hN:Zbv s ch need) (hD:Zsw s ch) (ho:(lbM s ch need).2.1=[]):F36 (some (Zbz s)) ch (lbM s ch need)=some (ZdY s ch need):=by
 have hn:=X.n
 have hcl:=hs.1
 have hL:(lbM s ch need).1=(ZaW (Zai s) s.1.length).filter fun q=>ZaJ need q:=(ZtN s ch need _).1
 have hLn:(lbM s ch need).1.length<=900:=by
  rw [hL]
  have h1:=List.length_filter_le (fun q=>ZaJ need q) (ZaW (Zai s) s.1.length)
  have h2:=Zde (Zai s) s.1.length
  omega
 have hmem:∀ q,q∈(lbM s ch need).1↔ZfW s q/\ZaJ need q=true:=fun q=>by rw [hL,List.mem_filter,Zjf X hs]
 have hall:∀ q,inR s.1.length q->ZaJ need q=true->0<=ZaU s ch q:=fun q hq hg=>by
  by_cases h:0<=ZaU s ch q
  ·exact h
  ·have:=(Zjg X hs hN).2 ⟨(hN.ok q hq).1 hg,by omega⟩
   rw [ho] at this;cases this
 refine Ret.eq ?_
 simp only [F36,wq,reduceCtorEq,List.length_nil,List.nil_append]
 refine ⟨fun _=>?_,fun h=>absurd h (by omega)⟩
 refine Zac (fun q:Int×List Int=>∃ (k:Nat) (out:List Int),q=((k:Int),out)/\k<=(lbM s ch need).1.length/\out.length=s.1.length/\∀ j,inR s.1.length j->atI out j=if j∈(lbM s ch need).1.take k then ZaU s ch j else atI ch j) (fun q=>(lbM s ch need).1.length - q.1.toNat) ?_ _ ⟨0,ch,rfl,by omega,hcl,fun j _=>by simp⟩
 rintro _ ⟨k,out,rfl,hk,hol,hO⟩
 have hw:=Zab k (by omega)
 simp only [Z9Q,Z9P,wq,reduceCtorEq,hw]
 refine ⟨fun hlt=>Zaj (by omega) hlt fun q hq hqm=>?_,fun hge=>?_⟩
 ·obtain ⟨hrep,hg⟩:=(hmem q).1 hqm
  have hqo:inR out.length q:=by rw [hol];exact hrep.1
  rw [Z7l X hs.1 hrep.1]
  simp only [ZaB hqo,wq,reduceCtorEq]
  rw [Zax] at hq
  refine ⟨fun _=>⟨⟨k+1,_,rfl,by omega,by rw [Zay];exact hol,fun j hj=>?_⟩,by omega⟩,fun h=>absurd (hall q hrep.1 hg) (by omega)⟩
  rw [Za3 hqo hj.1,List.take_add_one,hq]
  by_cases e:j=q
  ·subst e;rw [if_pos rfl,if_pos (by simp)]
  ·rw [if_neg e,hO j hj]
   simp [e]
 ·rw [List.take_of_length_le (by omega)] at hO
  refine Zhj (by rw [hol,Zfh X hs]) fun j hj=>?_
  rw [hol] at hj
  rw [hO j hj,Zgm X hs hj]
  by_cases e:ZaJ need j=true
  ·rw [if_pos ((hmem j).2 ⟨Zb7.rep X ((hN.ok j hj).1 e),e⟩),if_pos e]
  ·rw [if_neg (fun h=>e ((hmem j).1 h).2),if_neg e]
   by_cases h0:0<=atI ch j
   ·exact absurd ((hN.ok j hj).2 (hD j hj h0)) e
   ·rcases hs.2 j hj with h | ⟨_,h,_⟩
    ·exact h
    ·have:=h.1;omega
noncomputable def ZdC (s:Za5) (ch:List Int):List Int:=(List.range s.1.length).map fun (j:Nat)=>if atI (Zai s) (j:Int)=j then ZaU s ch j else atI ch j
theorem Zk6:(ZdC s ch).length=s.1.length:=by simp [ZdC]
theorem Zgn {j:Int} (h:inR s.1.length j):atI (ZdC s ch) j=if atI (Zai s) j=j then ZaU s ch j else atI ch j:=by
 have h1:=h.1
 have h2:j.toNat < s.1.length:=by have:=h.2;omega
 have e:((j.toNat:Nat):Int)=j:=by omega
 unfold ZdC atI
 rw [List.getElem?_map,List.getElem?_range h2]
 show (if (Zai s)[((j.toNat:Nat):Int).toNat]?.getD 0=((j.toNat:Nat):Int) then _ else _)=_
 rw [e]
theorem Zhk:Zdi s (ZdC s ch):=by
 refine ⟨Zk6 X hs,fun j hj=>?_⟩
 rw [Zgn X hs hj]
 split
 ·rename_i e
  by_cases h:0<=ZaU s ch j
  ·obtain ⟨h1,h2⟩:=Zct X hs hj h
   exact .inr ⟨e,h1,h2⟩
  ·refine .inl ?_
   have h0:=ZtO X hs hj (by omega)
   unfold ZaU at h |-
   rw [if_neg (by omega)] at h |-
   split
   ·rename_i h1
    rw [if_pos h1] at h
    have:=(X.cI.mem j hj _ (Zqp (l:=Zaw (Zaz s) j) (i:=0) ⟨by omega,by omega⟩)).1.1
    omega
   ·rfl
 ·exact hs.2 j hj
theorem Zq3 {need:List Bool} (hN:Zbv s ch need):Zdi s (ZdY s ch need):=by
 refine ⟨Zfh X hs _,fun j hj=>?_⟩
 rw [Zgm X hs hj]
 split
 ·rename_i e
  have hr:=Zb7.rep X ((hN.ok j hj).1 e)
  have:=(Zhk X hs).2 j hj
  rw [Zgn X hs hj,if_pos hr.2] at this
  exact this
 ·exact .inl rfl
end
mutual
theorem Po.rs {s:Za5} {a:List Int} {c:Int} {vs ws:List Int}:Po s a c vs ws->RS s a c->(∀ q∈vs,RS s a q)->∀ q∈ws,RS s a q
 | .seen _,_,hv=>hv
 | .new _ h0 hl _,hc,hv=>fun q hq=>by
  rcases List.mem_append.1 hq with hq | hq
  ·exact PoL.rs hl (fun p hp=>.step hc ⟨h0,hp⟩) hv q hq
  ·rw [List.mem_singleton.1 hq];exact hc
theorem PoL.rs {s:Za5} {a ps vs ws:List Int}:PoL s a ps vs ws->(∀ p∈ps,RS s a p)->(∀ q∈vs,RS s a q)->∀ q∈ws,RS s a q
 | .nil,_,hv=>hv
 | .cons h1 h2,hp,hv=>PoL.rs h2 (fun p hm=>hp p (List.mem_cons_of_mem _ hm)) (Po.rs h1 (hp _ (by simp)) hv)
end
theorem Zsx {s:Za5} {a b:List Int} (h:∀ q,RS s a q->atI a q=atI b q) {q:Int} (hq:RS s a q):RS s b q:=by
 induction hq with
 | val=>exact .val
 | st=>exact .st
 | step h1 e ih=>
  have:=h _ h1
  exact .step ih ⟨by rw [<-this];exact e.1,by rw [<-this];exact e.2⟩
section
variable {s:Za5} {a b:List Int} (h:∀ q,RS s a q->atI a q=atI b q)
include h
theorem Z67 {q:Int} (hq:RS s b q):RS s a q:=by
 induction hq with
 | val=>exact .val
 | st=>exact .st
 | step h1 e ih=>
  have:=h _ ih
  exact .step ih ⟨by rw [this];exact e.1,by rw [this];exact e.2⟩
theorem Zq4 (hb:Zqx s a):Zqx s b:=by
 obtain ⟨q,hq,hb⟩:=hb
 refine ⟨q,Zsx h hq,?_⟩
 rcases hb with hb | ⟨p,e,hp⟩
 ·exact .inl (by rw [<-h q hq];exact hb)
 ·have he:EdS s b q p:=⟨by rw [<-h q hq];exact e.1,by rw [<-h q hq];exact e.2⟩
  refine .inr ⟨p,he,?_⟩
  have hrp:RS s a p:=.step hq e
  have key:∀ {x:Int},ZnS s a p x->ZnS s b p x/\RS s a x:=fun hx=>by
   induction hx with
   | refl=>exact ⟨.refl,hrp⟩
   | snoc _ e' ih=>
    obtain ⟨i1,i2⟩:=ih
    exact ⟨i1.snoc ⟨by rw [<-h _ i2];exact e'.1,by rw [<-h _ i2];exact e'.2⟩,.step i2 e'⟩
  exact (key hp).1
mutual
theorem Po.agree {c:Int} {vs ws:List Int}:Po s a c vs ws->RS s a c->Po s b c vs ws
 | .seen hm,_=>.seen hm
 | .new hm h0 hl hn,hc=>by
  have e:=h c hc
  refine .new hm (by rw [<-e];exact h0) ?_ hn
  rw [<-e]
  exact PoL.agree hl fun p hp=>.step hc ⟨h0,hp⟩
theorem PoL.agree {ps vs ws:List Int}:PoL s a ps vs ws->(∀ p∈ps,RS s a p)->PoL s b ps vs ws
 | .nil,_=>.nil
 | .cons h1 h2,hp=>.cons (Po.agree h1 (hp _ (by simp))) (PoL.agree h2 fun p hm=>hp p (List.mem_cons_of_mem _ hm))
end
theorem PoR.agree {vs:List Int} (hv:PoR s a vs):PoR s b vs/\grS s a vs=grS s b vs:=by
 have hroots:∀ p∈[atI (Zai s) s.2.2.2.1,atI (Zai s) s.2.2.2.2.1],RS s a p:=fun p hp=>by
  rcases List.mem_cons.1 hp with rfl | hp
  ·exact .val
  ·rw [List.mem_singleton.1 hp];exact .st
 have hrs:=PoL.rs hv.po hroots (fun q hq=>by cases hq)
 refine ⟨⟨⟨hv.nd,fun q hq=>?_⟩,PoL.agree h hv.po hroots,hv.va,hv.st,hv.len⟩,?_⟩
 ·obtain ⟨h1,h2,h3⟩:=hv.sel q hq
  rw [<-h q (hrs q hq)]
  exact ⟨h1,h2,h3⟩
 ·have e1:∀ q∈vs,Zjp s a vs q=Zjp s b vs q:=fun q hq=>by unfold Zjp;rw [h q (hrs q hq)]
  have e2:Zig s a vs=Zig s b vs:=by
   have key:∀ (l:List Int) (m:Int),(∀ q∈l,RS s a q)->l.foldl (ZkA s a) m=l.foldl (ZkA s b) m:=by
    intro l
    induction l with
    | nil=>intro m _;rfl
    | cons q l ih=>
     intro m hl
     rw [List.foldl_cons,List.foldl_cons,ih _ (fun p hp=>hl p (List.mem_cons_of_mem _ hp))]
     have:ZkA s a m q=ZkA s b m q:=by unfold ZkA;rw [h q (hl q (by simp))]
     rw [this]
   exact key vs 0 hrs
  unfold grS
  rw [e2,List.map_congr_left e1]
end
theorem Zq0.agree {s:Za5} {a b:List Int} (h:∀ q,RS s a q->atI a q=atI b q) {r:GrT×Bool} (hr:Zq0 s a r):Zq0 s b r:=by
 rcases hr with ⟨hb,rfl⟩ | ⟨vs,hv,rfl⟩
 ·exact .inl ⟨Zq4 h hb,rfl⟩
 ·obtain ⟨h1,h2⟩:=hv.agree h
  exact .inr ⟨vs,h1,by rw [h2]⟩
end Go.Dat
namespace Go.Dat
open Go.Eng
set_option linter.unusedSimpArgs false
set_option linter.unusedVariables false
set_option linter.unusedSectionVars false
section
variable {s:Za5} (X:Ctx s) {ch:List Int} (hs:Zdi s ch) {need:List Bool} (hN:Zbv s ch need) (hD:Zsw s ch) (ho:(lbM s ch need).2.1=[])
include X hs hN hD ho
theorem Zlu {q:Int} (h:Zb7 s ch q):0<=ZaU s ch q:=by
 by_cases h2:0<=ZaU s ch q
 ·exact h2
 ·have:=(Zjg X hs hN).2 ⟨h,by omega⟩
  rw [ho] at this;cases this
theorem Zes {q:Int} (h:Zb7 s ch q):atI (ZdC s ch) q=ZaU s ch q:=by
 have hr:=Zb7.rep X h
 rw [Zgn X hs hr.1,if_pos hr.2]
theorem Zgo {q:Int}:RS s (ZdC s ch) q↔Zb7 s ch q:=by
 constructor
 ·intro h
  induction h with
  | val=>exact .val
  | st=>exact .st
  | step h1 e ih=>
   have hd:=Zlu X hs hN hD ho ih
   have e2:=e.2
   rw [Zes X hs hN hD ho ih] at e2
   exact .step ih (by unfold ZfX;rw [if_pos hd];exact e2) (Zdf X (Zct X hs (Zb7.rep X ih).1 hd).1 e2)
 ·intro h
  induction h with
  | val=>exact .val
  | st=>exact .st
  | step h1 h2 h3 ih=>
   have hd:=Zlu X hs hN hD ho h1
   unfold ZfX at h2
   rw [if_pos hd] at h2
   exact .step ih ⟨by rw [Zes X hs hN hD ho h1];exact hd,by rw [Zes X hs hN hD ho h1];exact h2⟩
theorem Zq5 {q:Int} (h:RS s (ZdC s ch) q):atI (ZdC s ch) q=atI (ZdY s ch need) q:=by
 have hr:=(Zgo X hs hN hD ho).1 h
 have hrep:=Zb7.rep X hr
 rw [Zgm X hs hrep.1,if_pos ((hN.ok q hrep.1).2 hr),Zes X hs hN hD ho hr]
theorem Zii:∃ r,Zq0 s (ZdY s ch need) r/\F37 (some (Zbz s)) (ZdY s ch need)=some r/\F40 (Zcg s) (ZdC s ch)=some r:=by
 obtain ⟨r,e,hr⟩:=ZBi X (Zq3 X hs hN)
 obtain ⟨r',e',hr'⟩:=Z7C X (Zhk X hs)
 have:=hr.uniq (hr'.agree fun q h=>Zq5 X hs hN hD ho h)
 subst this
 exact ⟨r,hr,e,e'⟩
end
structure SrS where
 steps:Nat
 found:Bool
 best:List Int
 cost:Int
def SrS.tick (σ:SrS):SrS:=⟨σ.steps+1,σ.found,σ.best,σ.cost⟩
def ZvP (σ:SrS) (c:Int):Prop:=σ.found=true/\σ.cost<=c
mutual
inductive Vs (s:Za5) (most:Nat):List Int->SrS->Zbb->SrS->Prop
 | inf {ch:List Int} {σ:SrS} {need:List Bool}:σ.steps < most->Zbv s ch need->(lbM s ch need).2.2.2=false->Vs s most ch σ (.mk 2 0 []) σ.tick
 | cut {ch:List Int} {σ:SrS} {need:List Bool}:σ.steps < most->Zbv s ch need->(lbM s ch need).2.2.2=true->ZvP σ (lbM s ch need).2.2.1->Vs s most ch σ (.mk 1 0 []) σ.tick
 | bad {ch:List Int} {σ:SrS} {need:List Bool} {g:GrT}:σ.steps < most->Zbv s ch need->(lbM s ch need).2.2.2=true->¬ ZvP σ (lbM s ch need).2.2.1->(lbM s ch need).2.1=[]->Zq0 s (ZdY s ch need) (g,false)->Vs s most ch σ (.mk 2 0 []) σ.tick
 | leaf {ch:List Int} {σ:SrS} {need:List Bool} {g:GrT}:σ.steps < most->Zbv s ch need->(lbM s ch need).2.2.2=true->¬ ZvP σ (lbM s ch need).2.2.1->(lbM s ch need).2.1=[]->Zq0 s (ZdY s ch need) (g,true)->Vs s most ch σ (.mk 1 0 []) ⟨σ.steps+1,true,ZdY s ch need,(lbM s ch need).2.2.1⟩
 | br {ch:List Int} {σ:SrS} {need:List Bool} {c:Int} {rest:List Int} {kids:List Zbb} {σ':SrS}:σ.steps < most->Zbv s ch need->(lbM s ch need).2.2.2=true->¬ ZvP σ (lbM s ch need).2.2.1->(lbM s ch need).2.1=c::rest->VsL s most ch c (Zaw (Zaz s) c) σ.tick kids σ'->Vs s most ch σ (.mk 3 c kids) σ'
inductive VsL (s:Za5) (most:Nat):List Int->Int->List Int->SrS->List Zbb->SrS->Prop
 | nil {ch:List Int} {c:Int} {σ:SrS}:VsL s most ch c [] σ [] σ
 | cons {ch:List Int} {c f:Int} {fs:List Int} {t:Zbb} {ts:List Zbb} {σ σ1 σ2:SrS}:Vs s most (Zaq ch c f) σ t σ1->VsL s most ch c fs σ1 ts σ2->VsL s most ch c (f::fs) σ (t::ts) σ2
end
inductive Ex (s:Za5) (most:Nat):List Int->SrS->Prop
 | now {ch:List Int} {σ:SrS}:most<=σ.steps->Ex s most ch σ
 | br {ch:List Int} {σ σ1:SrS} {need:List Bool} {c f:Int} {rest l1 l2:List Int} {ts:List Zbb}:σ.steps < most->Zbv s ch need->(lbM s ch need).2.2.2=true->¬ ZvP σ (lbM s ch need).2.2.1->(lbM s ch need).2.1=c::rest->Zaw (Zaz s) c=l1++f::l2->VsL s most ch c l1 σ.tick ts σ1->Ex s most (Zaq ch c f) σ1->Ex s most ch σ
theorem VsL.snoc {s:Za5} {most:Nat} {ch:List Int} {c f:Int} {t:Zbb} {σ2:SrS}:∀ {l:List Int} {σ:SrS} {ts:List Zbb} {σ1:SrS},VsL s most ch c l σ ts σ1->Vs s most (Zaq ch c f) σ1 t σ2->VsL s most ch c (l++[f]) σ (ts++[t]) σ2
 | [],_,_,_,.nil,h=>.cons h .nil
 | _::_,_,_,_,.cons h1 h2,h=>.cons h1 (h2.snoc h)
mutual
theorem Vs.det {s:Za5} {most:Nat} {ch:List Int} {σ:SrS} {t t':Zbb} {σ1 σ2:SrS}:Vs s most ch σ t σ1->Vs s most ch σ t' σ2->t=t'/\σ1=σ2
 | .inf _ n1 a1,h'=>by
  cases h' with
  | inf _ _ _=>exact ⟨rfl,rfl⟩
  | cut _ n2 a2 _=>obtain rfl:=n1.uniq n2;rw [a1] at a2;cases a2
  | bad _ n2 a2 _ _ _=>obtain rfl:=n1.uniq n2;rw [a1] at a2;cases a2
  | leaf _ n2 a2 _ _ _=>obtain rfl:=n1.uniq n2;rw [a1] at a2;cases a2
  | br _ n2 a2 _ _ _=>obtain rfl:=n1.uniq n2;rw [a1] at a2;cases a2
 | .cut _ n1 a1 c1,h'=>by
  cases h' with
  | inf _ n2 a2=>obtain rfl:=n1.uniq n2;rw [a1] at a2;cases a2
  | cut _ _ _ _=>exact ⟨rfl,rfl⟩
  | bad _ n2 _ c2 _ _=>obtain rfl:=n1.uniq n2;exact absurd c1 c2
  | leaf _ n2 _ c2 _ _=>obtain rfl:=n1.uniq n2;exact absurd c1 c2
  | br _ n2 _ c2 _ _=>obtain rfl:=n1.uniq n2;exact absurd c1 c2
 | .bad _ n1 a1 c1 o1 b1,h'=>by
  cases h' with
  | inf _ n2 a2=>obtain rfl:=n1.uniq n2;rw [a1] at a2;cases a2
  | cut _ n2 _ c2=>obtain rfl:=n1.uniq n2;exact absurd c2 c1
  | bad _ _ _ _ _ _=>exact ⟨rfl,rfl⟩
  | leaf _ n2 _ _ _ b2=>obtain rfl:=n1.uniq n2;have:=b1.uniq b2;cases this
  | br _ n2 _ _ o2 _=>obtain rfl:=n1.uniq n2;rw [o1] at o2;cases o2
 | .leaf _ n1 a1 c1 o1 b1,h'=>by
  cases h' with
  | inf _ n2 a2=>obtain rfl:=n1.uniq n2;rw [a1] at a2;cases a2
  | cut _ n2 _ c2=>obtain rfl:=n1.uniq n2;exact absurd c2 c1
  | bad _ n2 _ _ _ b2=>obtain rfl:=n1.uniq n2;have:=b1.uniq b2;cases this
  | leaf _ n2 _ _ _ _=>obtain rfl:=n1.uniq n2;exact ⟨rfl,rfl⟩
  | br _ n2 _ _ o2 _=>obtain rfl:=n1.uniq n2;rw [o1] at o2;cases o2
 | .br _ n1 a1 c1 o1 l1,h'=>by
  cases h' with
  | inf _ n2 a2=>obtain rfl:=n1.uniq n2;rw [a1] at a2;cases a2
  | cut _ n2 _ c2=>obtain rfl:=n1.uniq n2;exact absurd c2 c1
  | bad _ n2 _ _ o2 _=>obtain rfl:=n1.uniq n2;rw [o1] at o2;cases o2
  | leaf _ n2 _ _ o2 _=>obtain rfl:=n1.uniq n2;rw [o1] at o2;cases o2
  | br _ n2 _ _ o2 l2=>
   obtain rfl:=n1.uniq n2
   rw [o1] at o2
   cases o2
   obtain ⟨rfl,rfl⟩:=VsL.det l1 l2
   exact ⟨rfl,rfl⟩
theorem VsL.det {s:Za5} {most:Nat} {ch:List Int} {c:Int} {l:List Int} {σ:SrS} {t t':List Zbb} {σ1 σ2:SrS}:VsL s most ch c l σ t σ1->VsL s most ch c l σ t' σ2->t=t'/\σ1=σ2
 | .nil,.nil=>⟨rfl,rfl⟩
 | .cons h1 h2,h'=>by
  cases h' with
  | cons g1 g2=>
   obtain ⟨rfl,rfl⟩:=Vs.det h1 g1
   obtain ⟨rfl,rfl⟩:=VsL.det h2 g2
   exact ⟨rfl,rfl⟩
end
theorem VsL.split {s:Za5} {most:Nat} {ch:List Int} {c f:Int} {l2:List Int}:∀ {l1:List Int} {σ σ1:SrS} {ts:List Zbb},VsL s most ch c (l1++f::l2) σ ts σ1->∃ ts1 σ2 t σ3,VsL s most ch c l1 σ ts1 σ2/\Vs s most (Zaq ch c f) σ2 t σ3
 | [],_,_,_,.cons h1 _=>⟨_,_,_,_,.nil,h1⟩
 | _::_,_,_,_,.cons h1 h2=>by
  obtain ⟨ts1,σ2,t,σ3,a,b⟩:=h2.split
  exact ⟨_,_,_,_,.cons h1 a,b⟩
theorem Ex.no {s:Za5} {most:Nat} {ch:List Int} {σ:SrS} (h:Ex s most ch σ):∀ t σ',¬ Vs s most ch σ t σ':=by
 induction h with
 | now h=>
  intro t σ' hv
  cases hv<;>omega
 | br h n1 a1 c1 o1 hr hl _ ih=>
  intro t σ' hv
  cases hv with
  | inf _ n2 a2=>obtain rfl:=n1.uniq n2;rw [a1] at a2;cases a2
  | cut _ n2 _ c2=>obtain rfl:=n1.uniq n2;exact absurd c2 c1
  | bad _ n2 _ _ o2 _=>obtain rfl:=n1.uniq n2;rw [o1] at o2;cases o2
  | leaf _ n2 _ _ o2 _=>obtain rfl:=n1.uniq n2;rw [o1] at o2;cases o2
  | br _ n2 _ _ o2 l2=>
   obtain rfl:=n1.uniq n2
   rw [o1] at o2
   cases o2
   rw [hr] at l2
   obtain ⟨ts1,σ2,t,σ3,a,b⟩:=l2.split
   obtain ⟨_,rfl⟩:=hl.det a
   exact ih _ _ b
noncomputable def ZtP (s:Za5) (ch:List Int):Nat:=(ZaW (Zai s) s.1.length).countP fun q=>decide (ZaU s ch q < 0)
theorem Zk7 {p q:Int->Bool}:∀ {l:List Int},(∀ x∈l,p x=true->q x=true)->(∃ x∈l,q x=true/\p x=false)->l.countP p < l.countP q
 | [],_,h=>by obtain ⟨x,hx,_⟩:=h;cases hx
 | y::l,h1,h2=>by
  have hle:l.countP p<=l.countP q:=List.countP_mono_left fun x hx hp=>h1 x (List.mem_cons_of_mem _ hx) hp
  rw [List.countP_cons,List.countP_cons]
  obtain ⟨x,hx,hq,hp⟩:=h2
  rcases List.mem_cons.1 hx with rfl | hx
  ·rw [hq,hp];simp;omega
  ·have ih:=Zk7 (l:=l) (fun x hx=>h1 x (List.mem_cons_of_mem _ hx)) ⟨x,hx,hq,hp⟩
   cases hy:p y
   ·cases q y<;>simp<;>omega
   ·rw [h1 y (by simp) hy];simp;omega
theorem ZtQ (t:Zbb):Zbb.mk (ZfP t).1 (ZfP t).2.1 (ZfP t).2.2=t:=by cases t;rfl
section
variable {s:Za5} (X:Ctx s) {ch:List Int} (hs:Zdi s ch) (hD:Zsw s ch) {need:List Bool} (hN:Zbv s ch need) {c:Int} {rest:List Int} (ho:(lbM s ch need).2.1=c::rest) {f:Int} (hf:f∈Zaw (Zaz s) c)
include X hs hD hN ho
theorem ZfM:Zb7 s ch c/\ZaU s ch c < 0/\ZfW s c:=by
 obtain ⟨h1,h2⟩:=(Zjg X hs hN).1 (show c∈(lbM s ch need).2.1 by rw [ho];simp)
 exact ⟨h1,h2,Zb7.rep X h1⟩
include hf
theorem Zhl {j:Int} (h:inR s.1.length j):atI (Zaq ch c f) j=if j=c then f else atI ch j:=
 Za3 (by rw [hs.1];exact (ZfM X hs hD hN ho).2.2.1) h.1
theorem Zgp:Zdi s (Zaq ch c f):=by
 refine ⟨by rw [Zay];exact hs.1,fun j hj=>?_⟩
 rw [Zhl X hs hD hN ho hf hj]
 split
 ·subst ‹j=c›
  have hr:=(ZfM X hs hD hN ho).2.2
  obtain ⟨a,_,b⟩:=X.cI.mem _ hr.1 f hf
  exact .inr ⟨hr.2,a,b⟩
 ·exact hs.2 j hj
theorem Zq6:ZnF s ch (Zaq ch c f):=fun j hj=>by
 rw [Zhl X hs hD hN ho hf hj]
 split
 ·subst ‹j=c›;exact .inl (ZtO X hs hj (ZfM X hs hD hN ho).2.1)
 ·exact .inr rfl
theorem Zjh:Zsw s (Zaq ch c f):=fun j hj h=>by
 have hm:=ZnG X hs (Zgp X hs hD hN ho hf) (Zq6 X hs hD hN ho hf) (q:=j)
 rw [Zhl X hs hD hN ho hf hj] at h
 split at h
 ·subst ‹j=c›;exact hm (ZfM X hs hD hN ho).1
 ·exact hm (hD j hj h)
theorem Zji:ZtP s (Zaq ch c f) < ZtP s ch:=by
 obtain ⟨h1,h2,h3⟩:=ZfM X hs hD hN ho
 refine Zk7 (fun q hq h=>?_) ⟨c,(Zjf X hs).2 h3,by simpa using h2,?_⟩
 ·have hr:=ZmT X hq
  have h:=of_decide_eq_true h
  refine decide_eq_true ?_
  by_cases e:q=c
  ·subst e;exact h2
  ·have:ZaU s (Zaq ch c f) q=ZaU s ch q:=by unfold ZaU;rw [Zhl X hs hD hN ho hf hr.1,if_neg e]
   omega
 ·refine decide_eq_false ?_
  have hfr:=(X.cI.mem _ h3.1 f hf).1.1
  have:ZaU s (Zaq ch c f) c=f:=by unfold ZaU;rw [Zhl X hs hD hN ho hf h3.1,if_pos rfl,if_pos hfr]
  omega
end
theorem Zlv (s:Za5) (ch:List Int):ZtP s ch<=s.1.length:=by
 unfold ZtP
 exact Nat.le_trans List.countP_le_length (Zde _ _)
section
variable {s:Za5} (X:Ctx s) (most:Nat) (hm:most<=20000)
noncomputable abbrev Z2q (s:Za5) (n:Nat) (left cost:Int) (nil:Bool) (best:List Int) (exh:Bool) (ch:List Int):=N17 n (some (Zbz s)) left cost nil best exh ch
abbrev Z4B:=Int×Int×Option Zwb×Int×Int×Bool×List Int×Bool×List Zbb
def Z2r (s:Za5) (most:Nat) (ch:List Int) (σ:SrS) (r:Z4B):Prop:=
 (∃ k c left cost nil best kids,r=(k,c,some (Zbz s),left,cost,nil,best,true,kids)/\Ex s most ch σ) \/
 ∃ t σ',Vs s most ch σ t σ'/\σ'.steps<=most/\r=((ZfP t).1,(ZfP t).2.1,some (Zbz s),((most - σ'.steps:Nat):Int),σ'.cost,!σ'.found,σ'.best,false,(ZfP t).2.2)
theorem Zsz (n:Nat) (left cost:Int) (nil:Bool) (best ch:List Int):Z2q s (n+1) left cost nil best true ch=some (0,0,some (Zbz s),left,cost,nil,best,true,[]):=by
 refine Ret.eq ?_
 show Ret (G17 _ (some (Zbz s)) left cost nil best true ch) _
 simp only [G17,Z8T,wq,reduceCtorEq]
include X hm
theorem Zij:∀ (n:Nat) (ch:List Int),Zdi s ch->Zsw s ch->ZtP s ch < n->∀ σ:SrS,σ.steps<=most->Ret (Z2q s n ((most - σ.steps:Nat):Int) σ.cost (!σ.found) σ.best false ch) (Z2r s most ch σ)
 | 0,ch,hs,hD,hu,σ,hst=>by omega
 | n+1,ch,hs,hD,hu,σ,hst=>by
  have hn:=X.n
  have hcl:=hs.1
  show Ret (G17 (N17 n) (some (Zbz s)) ((most - σ.steps:Nat):Int) σ.cost (!σ.found) σ.best false ch) _
  obtain ⟨need,hN,eA⟩:=ZfK X hs
  simp only [G17,Z8T,wq,reduceCtorEq,eA]
  refine ⟨fun e0=>.inl ⟨_,_,_,_,_,_,_,rfl,.now (by omega)⟩,fun e0=>?_⟩
  have hlt:σ.steps < most:=by omega
  have hwl:IntKind.wrap .i64 (((most - σ.steps:Nat):Int) - 1)=((most - (σ.steps+1):Nat):Int):=by rw [Zau (by omega) (by omega)];omega
  rw [hwl]
  refine ⟨fun ea=>.inr ⟨_,_,.inf hlt hN ea,hlt,rfl⟩,fun ea=>?_⟩
  -- behind the bound
  have tail:¬ ZvP σ (lbM s ch need).2.2.1->Ret (Z8m (N17 n) (lbM s ch need) (false,some (Zbz s),((most - (σ.steps+1):Nat):Int),σ.cost,!σ.found,σ.best,false,ch,0,0)) (Z2r s most ch σ):=by
   intro hcut
   simp only [Z8m,wq,reduceCtorEq]
   refine ⟨fun eo=>?_,fun eo=>?_⟩
   ·have ho:(lbM s ch need).2.1=[]:=List.length_eq_zero_iff.1 (by omega)
    obtain ⟨g,hg,e1,_⟩:=Zii X hs hN hD ho
    rw [ZBk X hs hN hD ho]
    simp only [wq,reduceCtorEq,e1]
    obtain ⟨g1,g2⟩:=g
    have hne:List.isEmpty (ZdY s ch need)=false:=by
     cases hb:ZdY s ch need with
     | nil=>
      have:=Zfh X hs need
      rw [hb] at this
      have:=X.v.va.2
      have:=X.v.va.1
      simp at *;omega
     | cons _ _=>rfl
    refine ⟨fun e2=>?_,fun e2=>?_⟩
    ·dsimp only at e2;subst e2
     exact .inr ⟨_,_,.bad hlt hN ea hcut ho hg,hlt,rfl⟩
    ·dsimp only at e2;subst e2
     rw [hne]
     simp only [cond_false,wq,reduceCtorEq]
     exact .inr ⟨_,_,.leaf hlt hN ea hcut ho hg,hlt,rfl⟩
   ·obtain ⟨c,rest,ho⟩:=List.exists_cons_of_ne_nil (show (lbM s ch need).2.1≠[] from fun h=>eo (by rw [h];rfl))
    have hg0:gI (lbM s ch need).2.1 0=some c:=by rw [ho];rfl
    obtain ⟨hrc,hdc,hrep⟩:=ZfM X hs hD hN ho
    have hrl:=X.cI.len c hrep.1
    have hqr:inR (Zbz s).2.2.2.length c:=by show inR (Zaz s).length c;rw [X.tlen];exact hrep.1
    simp only [hg0,Zzi,wq,reduceCtorEq]
    rw [if_pos hqr]
    refine Zac (fun q=>∃ (k:Nat) (left cost:Int) (nil:Bool) (best:List Int) (exh:Bool) (kids:List Zbb),q=((k:Int),some (Zbz s),left,cost,nil,best,exh,ch,0,0,3,c,kids)/\k<=(Zaw (Zaz s) c).length/\kids.length=k /\
     ((exh=true/\Ex s most ch σ)\/exh=false/\∃ σ1,VsL s most ch c ((Zaw (Zaz s) c).take k) σ.tick kids σ1/\σ1.steps<=most/\left=((most - σ1.steps:Nat):Int)/\cost=σ1.cost/\nil=!σ1.found/\best=σ1.best)) (fun q=>(Zaw (Zaz s) c).length - q.1.toNat) ?_ _ ⟨0,_,_,_,_,_,_,rfl,by omega,rfl,.inr ⟨rfl,σ.tick,.nil,hlt,rfl,rfl,rfl,rfl⟩⟩
    rintro _ ⟨k,left,cost,nil,best,exh,kids,rfl,hk,hkl,hI⟩
    have hw:=Zab k (by omega)
    have hrow:(Zaw (Zbz s).2.2.2 c)=Zaw (Zaz s) c:=rfl
    simp only [ZAd,wq,reduceCtorEq,hw,hrow,List.nil_append,List.length_nil]
    refine ⟨fun hlt2=>Zaj (by omega) hlt2 fun f hf hfm=>⟨fun _=>?_,fun h=>absurd h (by omega)⟩,fun hge=>?_⟩
    ·have hns:=Zgp X hs hD hN ho hfm
     have hnd:=Zjh X hs hD hN ho hfm
     have hnu:=Zji X hs hD hN ho hfm
     have hgc:gI ch c=some (atI ch c):=ZaB (by rw [hcl];exact hrep.1)
     rw [Zax] at hf
     have hts:(Zaw (Zaz s) c).take (k+1)=(Zaw (Zaz s) c).take k++[f]:=by rw [List.take_add_one,hf];rfl
     have hsp:Zaw (Zaz s) c=(Zaw (Zaz s) c).take k++f::(Zaw (Zaz s) c).drop (k+1):=by
      obtain ⟨h1,h2⟩:=List.getElem?_eq_some_iff.1 hf
      conv=>lhs;rw [<-List.take_append_drop k (Zaw (Zaz s) c),List.drop_eq_getElem_cons h1,h2]
     simp only [hgc,wq,reduceCtorEq]
     rcases hI with ⟨rfl,hE⟩ | ⟨rfl,σ1,hV,hs1,rfl,rfl,rfl,rfl⟩
     ·obtain ⟨n',rfl⟩:∃ n',n=n'+1:=⟨n - 1,by omega⟩
      rw [show N17 (n'+1) (some (Zbz s)) left cost nil best true (Zaq ch c f)=_ from Zsz n' left cost nil best (Zaq ch c f)]
      simp only [wq,reduceCtorEq]
      exact ⟨fun _=>⟨⟨k+1,_,_,_,_,_,_,rfl,by omega,by simp;omega,.inl ⟨rfl,hE⟩⟩,by omega⟩,fun h=>absurd h (by simp only [List.length_cons,List.length_nil];omega)⟩
     ·refine (Zij n (Zaq ch c f) hns hnd (by omega) σ1 hs1).mono fun r _ hr=>?_
      rcases hr with ⟨k2,c2,l2,co2,n2,b2,ki2,rfl,hE⟩ | ⟨t,σ2,hV2,hs2,rfl⟩
      ·exact ⟨fun _=>⟨⟨k+1,_,_,_,_,_,_,rfl,by omega,by simp;omega,.inl ⟨rfl,.br hlt hN ea hcut ho hsp hV hE⟩⟩,by omega⟩,fun h=>absurd h (by simp only [List.length_cons,List.length_nil];omega)⟩
      ·refine ⟨fun _=>⟨⟨k+1,_,_,_,_,_,_,rfl,by omega,by simp;omega,.inr ⟨rfl,σ2,?_,hs2,rfl,rfl,rfl,rfl⟩⟩,by omega⟩,fun h=>absurd h (by simp only [List.length_cons,List.length_nil];omega)⟩
       rw [hts,ZtQ]
       exact hV.snoc hV2
    ·rcases hI with ⟨rfl,hE⟩ | ⟨rfl,σ1,hV,hs1,rfl,rfl,rfl,rfl⟩
     ·exact .inl ⟨_,_,_,_,_,_,_,rfl,hE⟩
     ·rw [List.take_of_length_le (by omega)] at hV
      exact .inr ⟨_,_,.br hlt hN ea hcut ho hV,hs1,rfl⟩
  refine ⟨fun ef=>?_,fun ef=>?_⟩
  ·by_cases hc:σ.cost<=(lbM s ch need).2.2.1
   ·rw [show decide ((lbM s ch need).2.2.1>=σ.cost)=true from decide_eq_true hc]
    simp only [Z8m,wq,reduceCtorEq]
    exact .inr ⟨_,_,.cut hlt hN ea ⟨ef,hc⟩,hlt,rfl⟩
   ·rw [show decide ((lbM s ch need).2.2.1>=σ.cost)=false from decide_eq_false hc]
    exact tail fun h=>hc h.2
  ·exact tail fun h=>by (have h1:=h.1;rw [ef] at h1;cases h1)
end
section
variable {s:Za5} (X:Ctx s) (most:Nat) (hm:most<=20000)
include X hm
end
def σ0:SrS:=⟨0,false,[],0⟩
section
variable {s:Za5} (X:Ctx s)
include X
theorem ZmV {j:Int} (h:inR s.1.length j):atI (Zcp s.1.length) j=-1:=Zgl _ _ h
theorem Zhm:Zdi s (Zcp s.1.length):=⟨by simp [Zcp],fun j hj=>.inl (ZmV X hj)⟩
theorem Zhn:Zsw s (Zcp s.1.length):=fun j hj h=>by rw [ZmV X hj] at h;omega
end
inductive Dep:Nat->Zbb->Prop
 | mk {n:Nat} {k c:Int} {l:List Zbb}:l.length<=1000->(∀ t∈l,Dep n t)->Dep (n+1) (.mk k c l)
theorem Dep.up {n m:Nat} {t:Zbb} (h:Dep n t) (hm:n<=m):Dep m t:=by
 induction h generalizing m with
 | mk hl _ ih=>
  cases m with
  | zero=>omega
  | succ m=>exact .mk hl fun t ht=>ih t ht (by omega)
section
variable {s:Za5} (X:Ctx s) {most:Nat}
include X
mutual
theorem Vs.dep {ch:List Int} {σ σ':SrS} {t:Zbb}:Vs s most ch σ t σ'->Zdi s ch->Zsw s ch->∀ n,ZtP s ch < n->Dep n t
 | .inf _ _ _,_,_,n,hu=>by obtain ⟨m,rfl⟩:∃ m,n=m+1:=⟨n - 1,by omega⟩;exact .mk (by simp) fun t ht=>by cases ht
 | .cut _ _ _ _,_,_,n,hu=>by obtain ⟨m,rfl⟩:∃ m,n=m+1:=⟨n - 1,by omega⟩;exact .mk (by simp) fun t ht=>by cases ht
 | .bad _ _ _ _ _ _,_,_,n,hu=>by obtain ⟨m,rfl⟩:∃ m,n=m+1:=⟨n - 1,by omega⟩;exact .mk (by simp) fun t ht=>by cases ht
 | .leaf _ _ _ _ _ _,_,_,n,hu=>by obtain ⟨m,rfl⟩:∃ m,n=m+1:=⟨n - 1,by omega⟩;exact .mk (by simp) fun t ht=>by cases ht
 | .br _ hN _ _ ho hl,hs,hD,n,hu=>by
  obtain ⟨m,rfl⟩:∃ m,n=m+1:=⟨n - 1,by omega⟩
  have hrep:=(ZfM X hs hD hN ho).2.2
  have hrl:=X.cI.len _ hrep.1
  obtain ⟨h1,h2⟩:=VsL.dep hl hs hD hN ho (fun f h=>h) m (by omega)
  have:=X.n
  exact .mk (by omega) h2
theorem VsL.dep {ch:List Int} {c:Int} {l:List Int} {σ σ':SrS} {ts:List Zbb} {need:List Bool} {rest:List Int}:VsL s most ch c l σ ts σ'->Zdi s ch->Zsw s ch->Zbv s ch need->(lbM s ch need).2.1=c::rest->(∀ f∈l,f∈Zaw (Zaz s) c)->∀ n,ZtP s ch<=n->ts.length=l.length/\∀ t∈ts,Dep n t
 | .nil,_,_,_,_,_,_,_=>⟨rfl,fun t ht=>by cases ht⟩
 | .cons h1 h2,hs,hD,hN,ho,hr,n,hu=>by
  obtain ⟨i1,i2⟩:=VsL.dep h2 hs hD hN ho (fun f hf=>hr f (List.mem_cons_of_mem _ hf)) n hu
  have hf:=hr _ (List.mem_cons_self ..)
  have hnu:=Zji X hs hD hN ho hf
  have hd:=Vs.dep h1 (Zgp X hs hD hN ho hf) (Zjh X hs hD hN ho hf) n (by omega)
  refine ⟨by simp [i1],fun t ht=>?_⟩
  rcases List.mem_cons.1 ht with rfl | ht
  ·exact hd
  ·exact i2 t ht
end
end
structure ZqD (s:Za5) (most:Int) (r:List Int×Int×(Int×Int×List Zbb)×Int):Prop where
 arg:¬ (ZcO s/\1<=most/\most<=20000)->r=([],0,(0,0,[]),1)
 run:ZcO s->1<=most->most<=20000->(Ex s most.toNat (Zcp s.1.length) σ0/\r=([],0,(0,0,[]),202))\/∃ t σ,Vs s most.toNat (Zcp s.1.length) σ0 t σ/\r=bif σ.found then (σ.best,σ.cost,ZfP t,0) else ([],0,(0,0,[]),201)
theorem ZqD.uniq {s:Za5} {most:Int} {a b:List Int×Int×(Int×Int×List Zbb)×Int} (ha:ZqD s most a) (hb:ZqD s most b):a=b:=by
 by_cases h:ZcO s/\1<=most/\most<=20000
 ·obtain ⟨h1,h2,h3⟩:=h
  rcases ha.run h1 h2 h3 with ⟨e1,rfl⟩ | ⟨t,σ,v1,rfl⟩<;>rcases hb.run h1 h2 h3 with ⟨e2,rfl⟩ | ⟨t',σ',v2,rfl⟩
  ·rfl
  ·exact absurd v2 (e1.no _ _)
  ·exact absurd v1 (e2.no _ _)
  ·obtain ⟨rfl,rfl⟩:=v1.det v2
   rfl
 ·rw [ha.arg h,hb.arg h]
theorem ZBv {s:Za5} (h:ZmA s) (hn:s.1.length<=900) (most:Int):Ret (F6 s most) (ZqD s most):=by
 simp only [F6,ZAW s h,Z6J,wq,reduceCtorEq]
 have no:¬ (ZcO s/\1<=most/\most<=20000)->ZqD s most ([],0,(0,0,[]),1):=fun hh=>⟨fun _=>rfl,fun h1 h2 h3=>absurd ⟨h1,h2,h3⟩ hh⟩
 cases hb:ZdT s
 ·simp only [cond_false,wq,reduceCtorEq]
  exact no fun e=>by rw [ZcH e.1] at hb;cases hb
 ·have hv:=Zel.1 hb
  have X:Ctx s:=⟨h,hv,hn⟩
  simp only [cond_true,wq,reduceCtorEq]
  refine ⟨fun e=>no fun x=>by omega,fun e1=>⟨fun e2=>no fun x=>by omega,fun e2=>?_⟩⟩
  ·have ent:((most.toNat - σ0.steps:Nat):Int)=most:=by show ((most.toNat - 0:Nat):Int)=most;omega
   have hx:=Zij X most.toNat (by omega) 1000 (Zcp s.1.length) (Zhm X) (Zhn X) (by have:=Zlv s (Zcp s.1.length);omega) σ0 (by show 0<=_;omega)
   rw [ent] at hx
   simp only [ZBj _ (show s.1.length<=900000 by omega),wq,reduceCtorEq]
   refine Ret.mono (show Ret (F17 (some (Zbz s)) most 0 true [] false (Zcp s.1.length)) _ from hx) fun r _ hr=>?_
   rcases hr with ⟨k,c,left,cost,nil,best,kids,rfl,hE⟩ | ⟨t,σ',hV,hs',rfl⟩
   ·refine ⟨fun _=>⟨fun hh=>absurd ⟨hv,by omega,by omega⟩ hh,fun _ _ _=>.inl ⟨hE,rfl⟩⟩,fun h=>by cases h⟩
   ·refine ⟨fun h=>by (cases h),fun _=>?_⟩
    cases hf:σ'.found
    ·exact ⟨fun _=>⟨fun hh=>absurd ⟨hv,by omega,by omega⟩ hh,fun _ _ _=>.inr ⟨t,σ',hV,by rw [hf];rfl⟩⟩,fun h=>by (dsimp only at h;cases h)⟩
    ·exact ⟨fun h=>by (dsimp only at h;cases h),fun _=>⟨fun hh=>absurd ⟨hv,by omega,by omega⟩ hh,fun _ _ _=>.inr ⟨t,σ',hV,by rw [hf];rfl⟩⟩⟩

section
variable {s:Za5} (X:Ctx s) {ch:List Int} (hs:Zdi s ch) {need:List Bool} (hN:Zbv s ch need) (ho:(lbM s ch need).2.1=[])
include X hs hN ho
theorem Z5V {q:Int} (h:Zb7 s ch q):0<=ZaU s ch q:=by
 by_cases h2:0<=ZaU s ch q
 ·exact h2
 ·have:=(Zjg X hs hN).2 ⟨h,by omega⟩
  rw [ho] at this;cases this
theorem Z5W {q:Int} (h:Zb7 s ch q):atI (ZdC s ch) q=ZaU s ch q:=by
 have hr:=Zb7.rep X h
 rw [Zgn X hs hr.1,if_pos hr.2]
end
open Classical in
noncomputable def Z5b (s:Za5) (ch:List Int):List Bool:=if h:∃ need,Zbv s ch need then h.choose else []
theorem Z4V {s:Za5} {ch:List Int} {need:List Bool} (hN:Zbv s ch need):Z5b s ch=need:=by
 have h:∃ need,Zbv s ch need:=⟨_,hN⟩
 unfold Z5b
 rw [dif_pos h]
 exact h.choose_spec.uniq hN
noncomputable def lbV (s:Za5) (ch:List Int):Int:=(lbM s ch (Z5b s ch)).2.2.1
noncomputable def Z5x (s:Za5) (ch:List Int):Bool:=!(lbM s ch (Z5b s ch)).2.2.2||(decide ((lbM s ch (Z5b s ch)).2.1.length=0)&&!((F40 (Zcg s) (ZdC s ch)).getD (noG,false)).2)
section
variable {s:Za5} (X:Ctx s) {ch:List Int} (hs:Zdi s ch)
include X hs
theorem Z5m {need:List Bool} (hN:Zbv s ch need):lbV s ch=(lbM s ch need).2.2.1:=by
 unfold lbV;rw [Z4V hN]
theorem Z5c {need:List Bool} (hN:Zbv s ch need):Z5x s ch=(!(lbM s ch need).2.2.2||(decide ((lbM s ch need).2.1.length=0)&&!((F40 (Zcg s) (ZdC s ch)).getD (noG,false)).2)):=by
 unfold Z5x;rw [Z4V hN]
end
noncomputable def Z5d (s:Za5):Nat->List Int->Int->Zbb->Bool
 | 0,_,_,_=>false
 | n+1,ch,cost,t=>
  if (ZfP t).1=1 then decide ((ZfP t).2.1=0)&&decide ((ZfP t).2.2.length=0)&&decide (cost<=lbV s ch)
  else if (ZfP t).1=2 then decide ((ZfP t).2.1=0)&&decide ((ZfP t).2.2.length=0)&&Z5x s ch
  else if (ZfP t).1=3 then decide (inR s.1.length (ZfP t).2.1)&&decide (2<=(Zaw (Zaz s) (ZfP t).2.1).length)&&decide (atI ch (ZfP t).2.1 < 0)&&decide ((ZfP t).2.2.length=(Zaw (Zaz s) (ZfP t).2.1).length) &&
   ((Zaw (Zaz s) (ZfP t).2.1).zip (ZfP t).2.2).all fun p=>Z5d s n (Zaq ch (ZfP t).2.1 p.1) cost p.2
  else false
section
variable {s:Za5} (X:Ctx s)
include X
theorem Z5e {c f:Int} (hc:inR s.1.length c) (hf:f∈Zaw (Zaz s) c):ZfW s c:=by
 obtain ⟨a,_,b⟩:=X.cI.mem _ hc f hf
 exact ⟨hc,by have:=X.ci.r2 f a;rw [b] at this;exact this⟩
end
theorem Z5f (s:Za5) (n:Nat) (ch:List Int) (cost k c:Int) (l:List Zbb):Z5d s (n+1) ch cost (.mk k c l) =
 if k=1 then decide (c=0)&&decide (l.length=0)&&decide (cost<=lbV s ch)
 else if k=2 then decide (c=0)&&decide (l.length=0)&&Z5x s ch
 else if k=3 then decide (inR s.1.length c)&&decide (2<=(Zaw (Zaz s) c).length)&&decide (atI ch c < 0)&&decide (l.length=(Zaw (Zaz s) c).length) &&
  ((Zaw (Zaz s) c).zip l).all fun p=>Z5d s n (Zaq ch c p.1) cost p.2
 else false:=rfl
section
variable {s:Za5} (X:Ctx s)
include X
theorem Z5g {ch:List Int} (hs:Zdi s ch) {c f:Int} (hc:inR s.1.length c) (hf:f∈Zaw (Zaz s) c):Zdi s (Zaq ch c f):=by
 refine ⟨by rw [Zay];exact hs.1,fun j hj=>?_⟩
 rw [Za3 (by rw [hs.1];exact hc) hj.1]
 split
 ·subst ‹j=c›
  obtain ⟨a,_,b⟩:=X.cI.mem _ hj f hf
  exact .inr ⟨(Z5e X hj hf).2,a,b⟩
 ·exact hs.2 j hj
end
section
variable {s:Za5} (h:ZmA s) (hn:s.1.length<=900)
include h hn
theorem Z5D {ch:List Int} {r:GrT×Bool} (er:F20 s ch=some r):F8 s ch=some (Z4R r.1.2.2.1,r.2):=by
 obtain ⟨q,eq,r',er',_,rfl⟩:=Z5L h hn ch
 rw [er] at er'
 obtain rfl:=Option.some.inj er'
 exact eq
end
end Go.Dat
namespace Go.Dat
open Go.Eng
set_option linter.unusedSimpArgs false
set_option linter.unusedVariables false
set_option linter.unusedSectionVars false
section
variable {s:Za5} (X:Ctx s) {ch:List Int} (hs:Zdi s ch) {need:List Bool} (hN:Zbv s ch need)
include X hs hN
theorem Z6H (h:(lbM s ch need).2.2.2=false):Z5x s ch=true:=by
 rw [Z5c X hs hN,h];rfl
theorem Z6I (hD:Zsw s ch) (hf:(lbM s ch need).2.2.2=true) (ho:(lbM s ch need).2.1=[]) {g:GrT} (hb:Zq0 s (ZdY s ch need) (g,false)):Z5x s ch=true:=by
 obtain ⟨r,er,hr⟩:=Z7C X (Zhk X hs)
 obtain rfl:=(hb.uniq (hr.agree fun q h=>Zq5 X hs hN hD ho h))
 rw [Z5c X hs hN,hf,ho,er];rfl
theorem Z6C {c:Int} {rest:List Int} (hD:Zsw s ch) (ho:(lbM s ch need).2.1=c::rest):inR s.1.length c/\2<=(Zaw (Zaz s) c).length/\atI ch c < 0:=by
 obtain ⟨h1,h2,h3⟩:=ZfM X hs hD hN ho
 have hne:=Zqr X h3
 have hm:=ZtO X hs h3.1 h2
 refine ⟨h3.1,?_,by omega⟩
 by_cases e:(Zaw (Zaz s) c).length=1
 ·have:=(X.cI.mem c h3.1 _ (Zqp (l:=Zaw (Zaz s) c) (i:=0) ⟨by omega,by omega⟩)).1.1
  unfold ZaU at h2
  rw [if_neg (by omega),if_pos e] at h2
  omega
 ·have:=List.length_pos_iff.2 hne
  omega
end
mutual
theorem Vs.mon {s:Za5} {most:Nat} {ch:List Int} {σ σ':SrS} {t:Zbb}:Vs s most ch σ t σ'->σ.found=true->σ'.found=true/\σ'.cost<=σ.cost
 | .inf _ _ _,h=>⟨h,Int.le_refl _⟩
 | .cut _ _ _ _,h=>⟨h,Int.le_refl _⟩
 | .bad _ _ _ _ _ _,h=>⟨h,Int.le_refl _⟩
 | .leaf (need:=need) _ _ _ hc _ _,h=>⟨rfl,by
  by_cases e:σ.cost<=(lbM s ch need).2.2.1
  ·exact absurd ⟨h,e⟩ hc
  ·show (lbM s ch need).2.2.1<=σ.cost
   omega⟩
 | .br _ _ _ _ _ hl,h=>by
  have:=VsL.mon hl (show σ.tick.found=true from h)
  exact this
theorem VsL.mon {s:Za5} {most:Nat} {ch:List Int} {c:Int} {l:List Int} {σ σ':SrS} {ts:List Zbb}:VsL s most ch c l σ ts σ'->σ.found=true->σ'.found=true/\σ'.cost<=σ.cost
 | .nil,h=>⟨h,Int.le_refl _⟩
 | .cons h1 h2,h=>by
  obtain ⟨a,b⟩:=Vs.mon h1 h
  obtain ⟨a',b'⟩:=VsL.mon h2 a
  exact ⟨a',by omega⟩
end
def Z6D (s:Za5) (σ:SrS):Prop:=σ.found=true->∃ ch need g,Zdi s ch/\Zsw s ch/\Zbv s ch need/\(lbM s ch need).2.1=[]/\Zq0 s (ZdY s ch need) (g,true)/\σ.best=ZdY s ch need/\σ.cost=(lbM s ch need).2.2.1
section
variable {s:Za5} (X:Ctx s) {most:Nat}
include X
mutual
theorem Vs.good {ch:List Int} {σ σ':SrS} {t:Zbb}:Vs s most ch σ t σ'->Zdi s ch->Zsw s ch->Z6D s σ->Z6D s σ'
 | .inf _ _ _,_,_,h=>h
 | .cut _ _ _ _,_,_,h=>h
 | .bad _ _ _ _ _ _,_,_,h=>h
 | .leaf _ hN _ _ ho hb,hs,hD,_=>fun _=>⟨_,_,_,hs,hD,hN,ho,hb,rfl,rfl⟩
 | .br _ hN _ _ ho hl,hs,hD,h=>VsL.good hl hs hD hN ho (fun f h=>h) h
theorem VsL.good {ch:List Int} {c:Int} {l:List Int} {σ σ':SrS} {ts:List Zbb} {need:List Bool} {rest:List Int}:VsL s most ch c l σ ts σ'->Zdi s ch->Zsw s ch->Zbv s ch need->(lbM s ch need).2.1=c::rest->(∀ f∈l,f∈Zaw (Zaz s) c)->Z6D s σ->Z6D s σ'
 | .nil,_,_,_,_,_,h=>h
 | .cons h1 h2,hs,hD,hN,ho,hr,h=>by
  have hf:=hr _ (List.mem_cons_self ..)
  exact VsL.good h2 hs hD hN ho (fun f hf=>hr f (List.mem_cons_of_mem _ hf)) (Vs.good h1 (Zgp X hs hD hN ho hf) (Zjh X hs hD hN ho hf) h)
end
mutual
theorem Vs.prv {ch:List Int} {σ σ':SrS} {t:Zbb}:Vs s most ch σ t σ'->Zdi s ch->Zsw s ch->∀ n,ZtP s ch < n->∀ m:Int,(σ'.found=true->m<=σ'.cost)->Z5d s n ch m t=true
 | .inf _ hN ha,hs,hD,n,hu,m,hm=>by
  obtain ⟨k,rfl⟩:∃ k,n=k+1:=⟨n - 1,by omega⟩
  rw [Z5f,if_neg (by decide),if_pos rfl,Z6H X hs hN ha];rfl
 | .cut _ hN ha hc,hs,hD,n,hu,m,hm=>by
  obtain ⟨k,rfl⟩:∃ k,n=k+1:=⟨n - 1,by omega⟩
  have h1:=hm hc.1
  have h2:=hc.2
  have h3:m<=lbV s ch:=by rw [Z5m X hs hN];exact Int.le_trans h1 h2
  rw [Z5f,if_pos rfl,decide_eq_true h3];rfl
 | .bad _ hN ha _ ho hb,hs,hD,n,hu,m,hm=>by
  obtain ⟨k,rfl⟩:∃ k,n=k+1:=⟨n - 1,by omega⟩
  rw [Z5f,if_neg (by decide),if_pos rfl,Z6I X hs hN hD ha ho hb];rfl
 | .leaf _ hN ha _ ho hb,hs,hD,n,hu,m,hm=>by
  obtain ⟨k,rfl⟩:∃ k,n=k+1:=⟨n - 1,by omega⟩
  have h3:m<=lbV s ch:=by rw [Z5m X hs hN];exact hm rfl
  rw [Z5f,if_pos rfl,decide_eq_true h3];rfl
 | .br _ hN _ _ ho hl,hs,hD,n,hu,m,hm=>by
  obtain ⟨k,rfl⟩:∃ k,n=k+1:=⟨n - 1,by omega⟩
  obtain ⟨o1,o2,o3⟩:=Z6C X hs hN hD ho
  obtain ⟨i1,i2⟩:=VsL.prv hl hs hD hN ho (fun f h=>h) k (by omega) m hm
  rw [Z5f,if_neg (by decide),if_neg (by decide),if_pos rfl,decide_eq_true o1,decide_eq_true o2,decide_eq_true o3,decide_eq_true i1,i2];rfl
theorem VsL.prv {ch:List Int} {c:Int} {l:List Int} {σ σ':SrS} {ts:List Zbb} {need:List Bool} {rest:List Int}:VsL s most ch c l σ ts σ'->Zdi s ch->Zsw s ch->Zbv s ch need->(lbM s ch need).2.1=c::rest->(∀ f∈l,f∈Zaw (Zaz s) c)->∀ n,ZtP s ch<=n->∀ m:Int,(σ'.found=true->m<=σ'.cost)->ts.length=l.length/\(l.zip ts).all (fun p=>Z5d s n (Zaq ch c p.1) m p.2)=true
 | .nil,_,_,_,_,_,_,_,_,_=>⟨rfl,rfl⟩
 | .cons h1 h2,hs,hD,hN,ho,hr,n,hu,m,hm=>by
  obtain ⟨i1,i2⟩:=VsL.prv h2 hs hD hN ho (fun f hf=>hr f (List.mem_cons_of_mem _ hf)) n hu m hm
  have hf:=hr _ (List.mem_cons_self ..)
  have hnu:=Zji X hs hD hN ho hf
  have hp:=Vs.prv h1 (Zgp X hs hD hN ho hf) (Zjh X hs hD hN ho hf) n (by omega) m (fun e=>by
   obtain ⟨a,b⟩:=VsL.mon h2 e
   have:=hm a
   omega)
  refine ⟨by simp [i1],?_⟩
  rw [List.zip_cons_cons,List.all_cons,hp,i2];rfl
end
end
section
variable {s:Za5} (X:Ctx s) {ch:List Int} (hs:Zdi s ch) {need:List Bool} (hN:Zbv s ch need) (hD:Zsw s ch) (ho:(lbM s ch need).2.1=[])
include X hs hN hD ho
theorem Z6E {g:GrT} (hb:Zq0 s (ZdY s ch need) (g,true)):Z4R g.2.2.1=(lbM s ch need).2.2.1:=by
 have hbs:=Zq3 X hs hN
 have hp:ZnF s ch (ZdY s ch need):=fun j hj=>by
  by_cases h0:0<=atI ch j
  ·have hr:=hD j hj h0
   refine .inr ?_
   rw [Zgm X hs hj,if_pos ((hN.ok j hj).2 hr)]
   unfold ZaU;rw [if_pos h0]
  ·rcases hs.2 j hj with h | ⟨_,h,_⟩
   ·exact .inl h
   ·exact absurd h.1 h0
 rcases hb with ⟨_,e⟩ | ⟨vs,hv,e⟩
 ·cases e
 ·cases hw:wfB (grS s (ZdY s ch need) vs)
  ·rw [hw] at e;cases e
  ·rw [hw] at e
   obtain rfl:=(Prod.mk.inj e).1
   have hle:=Z6B X hs hbs hp hN hv
   have hge:Z4R (grS s (ZdY s ch need) vs).2.2.1<=(lbM s ch need).2.2.1:=by
    rw [Z62 X]
    have e:Z60 s ch need (ZaW (Zai s) s.1.length)=(((ZaW (Zai s) s.1.length).filter fun q=>ZaJ need q).map (Z6u s ch)).sum:=by
     unfold Z60
     generalize ZaW (Zai s) s.1.length=l
     induction l with
     | nil=>rfl
     | cons q l ih=>
      simp only [List.map_cons,List.sum_cons,List.filter_cons]
      split
      ·rw [List.map_cons,List.sum_cons,ih]
      ·rw [ih];omega
    have e2:Z4R (grS s (ZdY s ch need) vs).2.2.1=(vs.map fun q=>ncM (Zjp s (ZdY s ch need) vs q)).sum:=by simp [Z4R,grS,Function.comp_def]
    rw [e,e2]
    have hroots:∀ p∈[atI (Zai s) s.2.2.2.1,atI (Zai s) s.2.2.2.2.1],RS s (ZdY s ch need) p:=fun p hp=>by
     rcases List.mem_cons.1 hp with rfl | hp
     ·exact .val
     ·rw [List.mem_singleton.1 hp];exact .st
    have hrs:=PoL.rs hv.po hroots (fun q hq=>by cases hq)
    refine Z6y _ _ _ _ hv.nd (fun q hq=>?_) fun q hq=>?_
    ·have h1:RS s (ZdC s ch) q:=Z67 (fun q h=>Zq5 X hs hN hD ho h) (hrs q hq)
     have h2:=(Zgo X hs hN hD ho).1 h1
     have h3:=Zb7.rep X h2
     have h4:=(hN.ok q h3.1).2 h2
     refine ⟨List.mem_filter.2 ⟨(Zjf X hs).2 h3,h4⟩,?_⟩
     have h5:atI (ZdY s ch need) q=ZaU s ch q:=by rw [Zgm X hs h3.1,if_pos h4]
     have h6:=Zlu X hs hN hD ho h2
     have:Z6u s ch q=ncM (Zjp s (ZdY s ch need) vs q):=by
      unfold Z6u
      rw [if_pos h6,<-h5]
      exact Z6z rfl
     omega
    ·rw [List.mem_filter] at hq
     exact (Z6w X ch (ZmT X hq.1)).1
   omega
end
theorem Z68 {s:Za5} (h:ZmA s) (hn:s.1.length<=900) {most:Int} {a:List Int×Int×(Int×Int×List Zbb)×Int} (ha:ZqD s most a) (h0:a.2.2.2=0):∃ t r,a.2.2.1=ZfP t/\Dep 1000 t/\F20 s a.1=some r/\r.2=true/\Z4R r.1.2.2.1=a.2.1/\Z5d s 1000 (Zcp s.1.length) a.2.1 t=true:=by
 by_cases hh:ZcO s/\1<=most/\most<=20000
 ·obtain ⟨h1,h2,h3⟩:=hh
  have X:Ctx s:=⟨h,h1,hn⟩
  rcases ha.run h1 h2 h3 with ⟨_,rfl⟩ | ⟨t,σ,v1,rfl⟩
  ·cases h0
  ·cases hf:σ.found
   ·rw [hf] at h0;cases h0
   ·have hu:ZtP s (Zcp s.1.length) < 1000:=by have:=Zlv s (Zcp s.1.length);omega
    obtain ⟨ch,need,g,hs,hD,hN,ho,hb,e1,e2⟩:=v1.good X (Zhm X) (Zhn X) (fun e=>by cases e) hf
    obtain ⟨r,er,hr⟩:=ZzF h hn σ.best
    have hr':Zq0 s σ.best r:=by
     rcases hr with ⟨hr,_⟩ | ⟨_,_,hr⟩
     ·exact absurd ⟨h1,by rw [e1];exact Zq3 X hs hN⟩ hr
     ·exact hr
    rw [e1] at hr'
    obtain rfl:=hb.uniq hr'
    exact ⟨t,_,rfl,v1.dep X (Zhm X) (Zhn X) 1000 hu,er,rfl,by rw [Z6E X hs hN hD ho hb];exact e2.symm,v1.prv X (Zhm X) (Zhn X) 1000 hu σ.cost (fun _=>Int.le_refl _)⟩
 ·rw [ha.arg hh] at h0;cases h0
end Go.Dat
/-
 An accepted certificate bounds every selection's cost.
-/
namespace Go.Dat
open Go.Eng
set_option linter.unusedSimpArgs false
set_option linter.unusedVariables false
set_option linter.unusedSectionVars false
def ZBD (s:Za5) (a b:List Int):Prop:=∀ q,RS s a q->0<=atI a q->0<=atI b q/\(Zar s.1 (atI b q)).1=(Zar s.1 (atI a q)).1/\(Zar s.1 (atI b q)).2.1=(Zar s.1 (atI a q)).2.1/\Zbh s (atI b q)=Zbh s (atI a q)
section
variable {s:Za5} {a b:List Int} (h:ZBD s a b)
include h
mutual
theorem Po.sim {c:Int} {vs ws:List Int}:Po s a c vs ws->RS s a c->Po s b c vs ws
 | .seen hm,_=>.seen hm
 | .new hm h0 hl hn,hc=>by
  obtain ⟨e0,_,_,ek⟩:=h c hc h0
  refine .new hm e0 ?_ hn
  rw [ek]
  exact PoL.sim hl fun p hp=>.step hc ⟨h0,hp⟩
theorem PoL.sim {ps vs ws:List Int}:PoL s a ps vs ws->(∀ p∈ps,RS s a p)->PoL s b ps vs ws
 | .nil,_=>.nil
 | .cons h1 h2,hp=>.cons (Po.sim h1 (hp _ (by simp))) (PoL.sim h2 fun p hm=>hp p (List.mem_cons_of_mem _ hm))
end
theorem PoR.sim {vs:List Int} (hv:PoR s a vs):PoR s b vs/\grS s b vs=grS s a vs:=by
 have hroots:∀ p∈[atI (Zai s) s.2.2.2.1,atI (Zai s) s.2.2.2.2.1],RS s a p:=fun p hp=>by
  rcases List.mem_cons.1 hp with rfl | hp
  ·exact .val
  ·rw [List.mem_singleton.1 hp];exact .st
 have hrs:=PoL.rs hv.po hroots (fun q hq=>by cases hq)
 have hq:∀ q∈vs,_:=fun q hq=>h q (hrs q hq) (hv.sel q hq).2.1
 refine ⟨⟨⟨hv.nd,fun q hm=>?_⟩,PoL.sim h hv.po hroots,hv.va,hv.st,hv.len⟩,?_⟩
 ·obtain ⟨h1,h2,h3⟩:=hv.sel q hm
  obtain ⟨e0,_,_,ek⟩:=hq q hm
  refine ⟨h1,e0,?_⟩
  rw [ek];exact h3
 ·have e1:∀ q∈vs,Zjp s b vs q=Zjp s a vs q:=fun q hm=>by
   obtain ⟨_,e1,e2,ek⟩:=hq q hm
   unfold Zjp;rw [e1,e2,ek]
  have e2:Zig s b vs=Zig s a vs:=by
   have key:∀ (l:List Int) (m:Int),(∀ q∈l,q∈vs)->l.foldl (ZkA s b) m=l.foldl (ZkA s a) m:=by
    intro l
    induction l with
    | nil=>intro m _;rfl
    | cons q l ih=>
     intro m hl
     rw [List.foldl_cons,List.foldl_cons,ih _ (fun p hp=>hl p (List.mem_cons_of_mem _ hp))]
     have:ZkA s b m q=ZkA s a m q:=by
      obtain ⟨_,e1,e2,_⟩:=hq q (hl q (by simp))
      unfold ZkA;rw [e1,e2]
     rw [this]
   exact key vs 0 fun q hq=>hq
  unfold grS
  rw [e2,List.map_congr_left e1]
end
open Classical in
noncomputable def Z9f (s:Za5) (w:List Int) (q:Int):Int:=
 if h:∃ f∈Zaw (Zaz s) q,ZbH s.1.length (Zai s) (Zar s.1 f) (Zar s.1 (atI w q)) then h.choose else atI (Zaw (Zaz s) q) 0
noncomputable def Z9k (s:Za5) (w:List Int):List Int:=(List.range s.1.length).map fun (j:Nat)=>if atI (Zai s) (j:Int)=j then Z9f s w j else -1
section
variable {s:Za5} (X:Ctx s) {w:List Int} (hw:Zdi s w)
include X hw
theorem Z7g {q:Int} (hq:ZfW s q):Z9f s w q∈Zaw (Zaz s) q:=by
 unfold Z9f
 split
 ·rename_i h;exact h.choose_spec.1
 ·have:=List.length_pos_iff.2 (Zqr X hq)
  exact Zqp ⟨by omega,by omega⟩
theorem Z7W {q:Int} (hq:ZfW s q) (h0:0<=atI w q):ZbH s.1.length (Zai s) (Zar s.1 (Z9f s w q)) (Zar s.1 (atI w q)):=by
 have hr:inR s.1.length (atI w q)/\atI (Zai s) (atI w q)=q:=by
  rcases hw.2 q hq.1 with e | ⟨_,e1,e2⟩
  ·omega
  ·exact ⟨e1,e2⟩
 have hex:∃ f∈Zaw (Zaz s) q,ZbH s.1.length (Zai s) (Zar s.1 f) (Zar s.1 (atI w q)):=by
  obtain ⟨f,h1,h2⟩:=X.cI.cov _ hr.1 hr.1.2
  rw [hr.2] at h1
  exact ⟨f,h1,h2⟩
 unfold Z9f
 rw [dif_pos hex]
 exact hex.choose_spec.2
theorem Z7X {j:Int} (h:inR s.1.length j):atI (Z9k s w) j=if atI (Zai s) j=j then Z9f s w j else -1:=by
 have h1:=h.1
 have h2:j.toNat < s.1.length:=by have:=h.2;omega
 have e:((j.toNat:Nat):Int)=j:=by omega
 unfold Z9k
 show ((List.range s.1.length).map _)[j.toNat]?.getD 0=_
 rw [List.getElem?_map,List.getElem?_range h2]
 show (if atI (Zai s) ((j.toNat:Nat):Int)=((j.toNat:Nat):Int) then _ else _)=_
 rw [e]
theorem Z7h {q:Int} (hq:ZfW s q):atI (Z9k s w) q=Z9f s w q:=by rw [Z7X X hw hq.1,if_pos hq.2]
theorem Z8v:Zdi s (Z9k s w):=by
 refine ⟨by simp [Z9k],fun j hj=>?_⟩
 by_cases e:atI (Zai s) j=j
 ·rw [Z7h X hw ⟨hj,e⟩]
  obtain ⟨a,_,b⟩:=X.cI.mem _ hj _ (Z7g X hw ⟨hj,e⟩)
  exact .inr ⟨e,a,b⟩
 ·rw [Z7X X hw hj,if_neg e];exact .inl rfl
theorem Z8w:ZBD s w (Z9k s w):=fun q hq h0=>by
 have hr:=RS.rep X hw hq
 have hc:=Z7W X hw hr h0
 rw [Z7h X hw hr]
 exact ⟨(X.cI.mem _ hr.1 _ (Z7g X hw hr)).1.1,hc.op,hc.imm,hc.map⟩
end
section
variable {s:Za5} (X:Ctx s) {vs:List Int} {cost:Int} {w:List Int} (hw:Zdi s w) (hrow:∀ q,ZfW s q->atI w q∈Zaw (Zaz s) q) (hv:PoR s w vs) (hwf:wfB (grS s w vs)=true)
include X hw hrow hv hwf
theorem ZBl {ch:List Int} (hs:Zdi s ch) (hp:ZnF s ch w) {q:Int} (hq:ZfW s q) (h:0<=ZaU s ch q):ZaU s ch q=atI w q:=by
 unfold ZaU at h |-
 split
 ·rename_i h0
  rcases hp q hq.1 with e | e
  ·omega
  ·exact e
 ·rename_i h0
  rw [if_neg h0] at h
  split
  ·rename_i h1
   have hm:=hrow q hq
   obtain ⟨x,hx⟩:=List.length_eq_one_iff.1 h1
   rw [hx] at hm |-
   rw [List.mem_singleton.1 hm];rfl
  ·rename_i h1
   rw [if_neg h1] at h;omega
theorem Z7m:∀ (n:Nat) (t:Zbb) (ch:List Int),Zdi s ch->ZnF s ch w->Z5d s n ch cost t=true->cost<=Z4R (grS s w vs).2.2.1
 | 0,_,_,_,_,h=>by cases h
 | n+1,.mk k c l,ch,hs,hp,h=>by
  obtain ⟨need,hN,_⟩:=ZfK X hs
  rw [Z5f] at h
  by_cases k1:k=1
  ·rw [if_pos k1,Z5m X hs hN] at h
   simp only [Bool.and_eq_true,decide_eq_true_eq] at h
   have:=Z6B X hs hw hp hN hv
   omega
  rw [if_neg k1] at h
  by_cases k2:k=2
  ·rw [if_pos k2] at h
   simp only [Bool.and_eq_true,decide_eq_true_eq] at h
   have hi:=h.2
   have hac:=Z7I X hs hw hp hN hv
   rw [Z5c X hs hN,hac] at hi
   by_cases ho:(lbM s ch need).2.1=[]
   ·obtain ⟨r,er,hr⟩:=Z7C X (Zhk X hs)
    have hrs:∀ q,RS s w q->Zb7 s ch q:=fun q hq=>by
     induction hq with
     | val=>exact .val
     | st=>exact .st
     | step h1 e ih=>
      have hd:=Z5V X hs hN ho ih
      have ew:=ZBl X hw hrow hv hwf hs hp (Zb7.rep X ih) hd
      have e2:=e.2
      rw [<-ew] at e2
      exact .step ih (by unfold ZfX;rw [if_pos hd];exact e2) (Zdf X (Zct X hs (Zb7.rep X ih).1 hd).1 e2)
    have hag:Zq0 s (ZdC s ch) (grS s w vs,true):=Zq0.agree (a:=w) (fun q hq=>by
     have h1:=hrs q hq
     rw [Z5W X hs hN ho h1,ZBl X hw hrow hv hwf hs hp (Zb7.rep X h1) (Z5V X hs hN ho h1)]) (.inr ⟨vs,hv,by rw [hwf];rfl⟩)
    obtain rfl:=hr.uniq hag
    rw [er] at hi
    simp at hi
   ·have hp:=List.length_pos_iff.2 ho
    rw [decide_eq_false (show ¬ (lbM s ch need).2.1.length=0 by omega)] at hi
    cases hi
  rw [if_neg k2] at h
  by_cases k3:k=3
  ·rw [if_pos k3] at h
   simp only [Bool.and_eq_true,decide_eq_true_eq] at h
   obtain ⟨⟨⟨⟨h1,h2⟩,h3⟩,h4⟩,h5⟩:=h
   have hrep:ZfW s c:=by
    cases hr:Zaw (Zaz s) c with
    | nil=>rw [hr] at h2;simp at h2
    | cons f _=>exact Z5e X h1 (by rw [hr];exact List.mem_cons_self ..)
   have hm:=hrow c hrep
   obtain ⟨i,hi⟩:=List.getElem?_of_mem hm
   have hil:i < l.length:=by rw [h4];exact (List.getElem?_eq_some_iff.1 hi).1
   have hz:((Zaw (Zaz s) c).zip l)[i]?=some (atI w c,l[i]):=by rw [List.getElem?_zip_eq_some];exact ⟨hi,List.getElem?_eq_getElem hil⟩
   have hc:=List.all_eq_true.1 h5 _ (List.mem_of_getElem? hz)
   refine Z7m n _ _ (Z5g X hs h1 hm) (fun j hj=>?_) hc
   rw [Za3 (by rw [hs.1];exact h1) hj.1]
   split
   ·subst ‹j=c›;exact .inr rfl
   ·exact hp j hj
  ·rw [if_neg k3] at h;cases h
end
theorem Z7Y {s:Za5} (h:ZmA s) (hn:s.1.length<=900) {n:Nat} {t:Zbb} {cost:Int} (hp:Z5d s n (Zcp s.1.length) cost t=true) {ch:List Int} {r:GrT×Bool} (er:F20 s ch=some r) (h2:r.2=true):cost<=Z4R r.1.2.2.1:=by
 obtain ⟨r',er',hr⟩:=ZzF h hn ch
 rw [er] at er'
 obtain rfl:=Option.some.inj er'
 rcases hr with ⟨_,rfl⟩ | ⟨hv,hs,hb⟩
 ·cases h2
 ·have X:Ctx s:=⟨h,hv,hn⟩
  rcases hb with ⟨_,rfl⟩ | ⟨vs,hvs,rfl⟩
  ·cases h2
  ·cases hwf:wfB (grS s ch vs)
   ·rw [hwf] at h2;cases h2
   ·obtain ⟨p1,p2⟩:=PoR.sim (Z8w X hs) hvs
    have:=Z7m X (Z8v X hs) (fun q hq=>by rw [Z7h X hs hq];exact Z7g X hs hq) p1 (by rw [p2];exact hwf) n t (Zcp s.1.length) (Zhm X) (fun j hj=>.inl (ZmV X hj)) hp
    rw [p2] at this
    exact this
end Go.Dat
namespace Go.Dat
open Go.Eng
set_option linter.unusedSimpArgs false
set_option linter.unusedVariables false
set_option linter.unusedSectionVars false
def ZFl:List (List Int)->Nat
 | []=>1
 | f::fs=>max 1 f.length * ZFl fs
def ZFp:List (List Int)->List Int->Prop
 | [],[]=>True
 | f::fs,x::xs=>(f=[]/\x=-1\/x∈f)/\ZFp fs xs
 | _,_=>False
def rkO:List (List Int)->List Int->Nat
 | f::fs,x::xs=>(if f=[] then 0 else f.idxOf x)+max 1 f.length * rkO fs xs
 | _,_=>0
def nxO:List (List Int)->List Int->List Int×Bool
 | f::fs,x::xs=>if f=[] then (x::(nxO fs xs).1,(nxO fs xs).2) else if f.idxOf x+1 < f.length then (atI f ((f.idxOf x+1:Nat):Int)::xs,true) else (atI f 0::(nxO fs xs).1,(nxO fs xs).2)
 | _,xs=>(xs,false)
theorem ZF1:∀ a b,ZFl (a++b)=ZFl a * ZFl b
 | [],b=>by simp [ZFl]
 | f::a,b=>by rw [List.cons_append,ZFl,ZFl,ZF1 a b,Nat.mul_assoc]
theorem ZFI {f:List Int} {x:Int} (h:f=[]/\x=-1\/x∈f):(if f=[] then 0 else f.idxOf x) < max 1 f.length:=by
 split
 ·omega
 ·rename_i hne
  rcases h with ⟨h,_⟩ | h
  ·exact absurd h hne
  ·have:=List.idxOf_lt_length_iff.2 h;omega
theorem ZFJ:∀ {fs:List (List Int)} {xs:List Int},ZFp fs xs->rkO fs xs < ZFl fs
 | [],[],_=>by simp [rkO,ZFl]
 | f::fs,x::xs,h=>by
  have h1:=ZFI h.1
  have h2:=ZFJ h.2
  unfold rkO ZFl
  generalize (if f=[] then 0 else f.idxOf x)=d at *
  generalize max 1 f.length=m at *
  have:m * (rkO fs xs+1)<=m * ZFl fs:=Nat.mul_le_mul_left m h2
  rw [Nat.mul_add,Nat.mul_one] at this
  omega
 | [],_::_,h=>h.elim
 | _::_,[],h=>h.elim
theorem ZFK:∀ {fs:List (List Int)} {xs ys:List Int},ZFp fs xs->ZFp fs ys->rkO fs xs=rkO fs ys->xs=ys
 | [],[],[],_,_,_=>rfl
 | f::fs,x::xs,y::ys,h,g,e=>by
  have h1:=ZFI h.1
  have g1:=ZFI g.1
  unfold rkO at e
  have hd:(if f=[] then 0 else f.idxOf x)=(if f=[] then 0 else f.idxOf y)/\rkO fs xs=rkO fs ys:=by
   generalize (if f=[] then 0 else f.idxOf x)=d at *
   generalize (if f=[] then 0 else f.idxOf y)=d' at *
   generalize max 1 f.length=m at *
   have em:=congrArg (· % m) e
   simp only [Nat.add_mul_mod_self_left,Nat.mod_eq_of_lt h1,Nat.mod_eq_of_lt g1] at em
   subst em
   have:m * rkO fs xs=m * rkO fs ys:=by omega
   exact ⟨rfl,Nat.eq_of_mul_eq_mul_left (by omega) this⟩
  rw [ZFK h.2 g.2 hd.2]
  rcases h.1 with ⟨h3,h4⟩ | h3
  ·rcases g.1 with ⟨_,g4⟩ | g3
   ·rw [h4,g4]
   ·rw [h3] at g3;cases g3
  ·have hne:f≠[]:=List.ne_nil_of_mem h3
   rcases g.1 with ⟨g3,_⟩ | g3
   ·exact absurd g3 hne
   ·have e1:=hd.1
    rw [if_neg hne,if_neg hne] at e1
    have a:=List.getElem_idxOf (List.idxOf_lt_length_iff.2 h3)
    have b:=List.getElem_idxOf (List.idxOf_lt_length_iff.2 g3)
    simp only [e1] at a
    rw [<-a,b]
 | [],[],_::_,_,h,_=>h.elim
 | [],_::_,_,h,_,_=>h.elim
 | _::_,[],_,h,_,_=>h.elim
 | _::_,_::_,[],_,h,_=>h.elim
theorem ZFt {f:List Int} {i:Nat} (h:i < f.length):atI f (i:Int)∈f:=Zqp ⟨by omega,by omega⟩
theorem ZFx:∀ {fs:List (List Int)} {xs:List Int},ZFp fs xs->ZFp fs (nxO fs xs).1
 | [],[],_=>trivial
 | f::fs,x::xs,h=>by
  unfold nxO
  split
  ·rename_i h0
   exact ⟨h.1,ZFx h.2⟩
  ·rename_i h0
   split
   ·rename_i h1
    exact ⟨.inr (ZFt h1),h.2⟩
   ·have:=List.length_pos_iff.2 h0
    exact ⟨.inr (ZFt (i:=0) this),ZFx h.2⟩
 | [],_::_,h=>h.elim
 | _::_,[],h=>h.elim
theorem ZFL {f:List Int} (hn:f.Nodup) {i:Nat} (h:i < f.length):f.idxOf (atI f (i:Int))=i:=by
 have e:atI f (i:Int)=f[i]:=by
  unfold atI
  rw [Int.toNat_natCast,List.getElem?_eq_getElem h];rfl
 rw [e]
 exact hn.idxOf_getElem i h
theorem ZFX:∀ {fs:List (List Int)} {xs:List Int},(∀ f∈fs,f.Nodup)->ZFp fs xs->((nxO fs xs).2=true->rkO fs (nxO fs xs).1=rkO fs xs+1)/\((nxO fs xs).2=false->rkO fs xs+1=ZFl fs)
 | [],[],_,_=>⟨fun h=>(by cases h),fun _=>rfl⟩
 | f::fs,x::xs,hn,h=>by
  obtain ⟨i1,i2⟩:=ZFX (fun g hg=>hn g (List.mem_cons_of_mem _ hg)) h.2
  have hnf:=hn f (List.mem_cons_self ..)
  unfold nxO
  split
  ·rename_i h0
   subst h0
   refine ⟨fun e=>?_,fun e=>?_⟩
   ·have:=i1 e
    have h1:max 1 (0:Nat)=1:=rfl
    simp only [rkO,if_true,List.length_nil,h1,Nat.one_mul]
    omega
   ·have:=i2 e
    have h1:max 1 (0:Nat)=1:=rfl
    simp only [rkO,ZFl,if_true,List.length_nil,h1,Nat.one_mul]
    omega
  ·rename_i h0
   have hl:=List.length_pos_iff.2 h0
   have hx:x∈f:=by
    rcases h.1 with ⟨e,_⟩ | e
    ·exact absurd e h0
    ·exact e
   have hi:=List.idxOf_lt_length_iff.2 hx
   have hm:max 1 f.length=f.length:=by omega
   split
   ·rename_i h1
    refine ⟨fun _=>?_,fun e=>(by cases e)⟩
    unfold rkO
    rw [if_neg h0,if_neg h0,ZFL hnf h1]
    omega
   ·rename_i h1
    have e0:f.idxOf (atI f 0)=0:=ZFL hnf (i:=0) hl
    refine ⟨fun e=>?_,fun e=>?_⟩
    ·have:=i1 e
     simp only [rkO,if_neg h0,e0,this,hm,Nat.mul_add]
     omega
    ·have:=i2 e
     simp only [rkO,ZFl,if_neg h0,hm,<-this,Nat.mul_add]
     omega
 | [],_::_,_,h=>h.elim
 | _::_,[],_,h=>h.elim
theorem ZFp.of:∀ {fs:List (List Int)} {xs:List Int},xs.length=fs.length->(∀ (i:Nat) f x,fs[i]?=some f->xs[i]?=some x->f=[]/\x=-1\/x∈f)->ZFp fs xs
 | [],[],_,_=>trivial
 | f::fs,x::xs,hl,h=>⟨h 0 f x rfl rfl,ZFp.of (by simpa using hl) fun i g y h1 h2=>h (i+1) g y h1 h2⟩
 | [],_::_,hl,_=>by simp at hl
 | _::_,[],hl,_=>by simp at hl
theorem ZFp.len:∀ {fs:List (List Int)} {xs:List Int},ZFp fs xs->xs.length=fs.length
 | [],[],_=>rfl
 | _::_,_::_,h=>by have:=ZFp.len h.2;simp [this]
 | [],_::_,h=>h.elim
 | _::_,[],h=>h.elim
theorem ZFp.get:∀ {fs:List (List Int)} {xs:List Int},ZFp fs xs->∀ (i:Nat) f x,fs[i]?=some f->xs[i]?=some x->f=[]/\x=-1\/x∈f
 | f::fs,x::xs,h,0,_,_,h1,h2=>by cases h1;cases h2;exact h.1
 | _::_,_::_,h,i+1,g,y,h1,h2=>ZFp.get h.2 i g y h1 h2
 | [],_,_,_,_,_,h1,_=>by cases h1
 | _::_,[],h,_,_,_,_,_=>h.elim
def ZF2 (fs:List (List Int)):List Int:=fs.map fun f=>if f=[] then -1 else atI f 0
theorem ZF3:∀ fs,ZFp fs (ZF2 fs)
 | []=>trivial
 | f::fs=>by
  refine ⟨?_,ZF3 fs⟩
  show f=[]/\(if f=[] then (-1:Int) else atI f 0)=-1\/(if f=[] then (-1:Int) else atI f 0)∈f
  by_cases h:f=[]
  ·exact .inl ⟨h,by rw [if_pos h]⟩
  ·rw [if_neg h];exact .inr (ZFt (i:=0) (List.length_pos_iff.2 h))
theorem ZFM:∀ fs,(∀ f∈fs,f.Nodup)->rkO fs (ZF2 fs)=0
 | [],_=>rfl
 | f::fs,hn=>by
  have ih:=ZFM fs fun g hg=>hn g (List.mem_cons_of_mem _ hg)
  show (if f=[] then 0 else f.idxOf (if f=[] then (-1:Int) else atI f 0))+max 1 f.length * rkO fs (ZF2 fs)=0
  rw [ih]
  by_cases h:f=[]
  ·rw [if_pos h];omega
  ·rw [if_neg h,if_neg h,show f.idxOf (atI f 0)=0 from ZFL (hn f (List.mem_cons_self ..)) (i:=0) (List.length_pos_iff.2 h)];omega
def ZFu (l:List Nat):Nat:=l.foldr (· * ·) 1
theorem ZFm (a:Nat) (l:List Nat):ZFu (a::l)=a * ZFu l:=rfl
theorem ZFw:∀ {l:List Int} {g:Int->Nat},(∀ q∈l,1<=g q)->1<=ZFu (l.map g)
 | [],_,_=>Nat.le_refl 1
 | q::l,g,h=>by
  rw [List.map_cons,ZFm]
  exact Nat.mul_pos (h q (by simp)) (ZFw fun p hp=>h p (List.mem_cons_of_mem _ hp))
theorem ZFN {l:List Int} {c:Int} {g h:Int->Nat} (e:∀ q,q≠c->h q=g q) (hc:c∉l):ZFu (l.map h)=ZFu (l.map g):=by
 rw [List.map_congr_left fun q hq=>e q fun e=>hc (e▸hq)]
theorem ZF4 {c:Int} {g h:Int->Nat} (e:∀ q,q≠c->h q=g q) (h1:h c=1):∀ {l:List Int},l.Nodup->c∈l->g c * ZFu (l.map h)=ZFu (l.map g)
 | q::l,hn,hc=>by
  rw [List.nodup_cons] at hn
  rw [List.map_cons,List.map_cons,ZFm,ZFm]
  by_cases hq:q=c
  ·subst hq
   rw [h1,ZFN e hn.1,Nat.one_mul]
  ·have hm:c∈l:=by
    rcases List.mem_cons.1 hc with h | h
    ·exact absurd h.symm hq
    ·exact h
   have ih:=ZF4 e h1 hn.2 hm
   rw [e q hq,<-ih]
   exact Nat.mul_left_comm _ _ _
noncomputable def ZF5 (s:Za5) (ch:List Int):Nat:=ZFu ((ZaW (Zai s) s.1.length).map fun q=>if ZaU s ch q < 0 then (Zaw (Zaz s) q).length else 1)
theorem ZFO (n:Nat):(idN n).Nodup:=by
 unfold idN
 exact List.Pairwise.map _ (fun a b h e=>h (by omega)) List.nodup_range
section
variable {s:Za5} (X:Ctx s)
include X
theorem ZFq (ch:List Int):1<=ZF5 s ch:=ZFw fun q hq=>by
 have:=List.length_pos_iff.2 (Zqr X (ZmT X hq))
 split<;>omega
section
variable {ch:List Int} (hs:Zdi s ch) (hD:Zsw s ch) {need:List Bool} (hN:Zbv s ch need) {c:Int} {rest:List Int} (ho:(lbM s ch need).2.1=c::rest)
include hs hD hN ho
theorem ZF6:2<=(Zaw (Zaz s) c).length:=by
 obtain ⟨_,h2,h3⟩:=ZfM X hs hD hN ho
 have h4:=List.length_pos_iff.2 (Zqr X h3)
 have h5:(Zaw (Zaz s) c).length≠1:=fun e=>by
  unfold ZaU at h2
  split at h2
  ·omega
  ·try rw [if_pos e] at h2
   have:=(X.cI.mem c h3.1 _ (Zqp (l:=Zaw (Zaz s) c) (i:=0) ⟨by omega,by omega⟩)).1.1
   omega
 omega
theorem ZFr {f:Int} (hf:f∈Zaw (Zaz s) c):(Zaw (Zaz s) c).length * ZF5 s (Zaq ch c f)=ZF5 s ch:=by
 obtain ⟨_,h2,h3⟩:=ZfM X hs hD hN ho
 have hfr:=(X.cI.mem _ h3.1 f hf).1.1
 have hd:ZaU s (Zaq ch c f) c=f:=by unfold ZaU;rw [Zhl X hs hD hN ho hf h3.1,if_pos rfl,if_pos hfr]
 have hnd:(ZaW (Zai s) s.1.length).Nodup:=(ZFO _).filter _
 unfold ZF5
 have key:∀ q∈ZaW (Zai s) s.1.length,q≠c->ZaU s (Zaq ch c f) q=ZaU s ch q:=fun q hq e=>by
  unfold ZaU;rw [Zhl X hs hD hN ho hf (ZmT X hq).1,if_neg e]
 have e1:(ZaW (Zai s) s.1.length).map (fun q=>if ZaU s (Zaq ch c f) q < 0 then (Zaw (Zaz s) q).length else 1)=(ZaW (Zai s) s.1.length).map (fun q=>if q=c then 1 else if ZaU s ch q < 0 then (Zaw (Zaz s) q).length else 1):=by
  refine List.map_congr_left fun q hq=>?_
  by_cases e:q=c
  ·subst e;rw [if_pos rfl,hd,if_neg (by omega)]
  ·rw [if_neg e,key q hq e]
 rw [e1]
 have:=ZF4 (c:=c) (g:=fun q=>if ZaU s ch q < 0 then (Zaw (Zaz s) q).length else 1) (h:=fun q=>if q=c then 1 else if ZaU s ch q < 0 then (Zaw (Zaz s) q).length else 1) (fun q e=>if_neg e) (if_pos rfl) hnd ((Zjf X hs).2 h3)
 simp only [if_pos h2] at this
 exact this
end
variable {most:Nat}
mutual
theorem Vs.stp {ch:List Int} {σ σ':SrS} {t:Zbb}:Vs s most ch σ t σ'->Zdi s ch->Zsw s ch->σ'.steps+1<=σ.steps+2 * ZF5 s ch
 | .inf _ _ _,_,_=>by have:=ZFq X ch;simp only [SrS.tick];omega
 | .cut _ _ _ _,_,_=>by have:=ZFq X ch;simp only [SrS.tick];omega
 | .bad _ _ _ _ _ _,_,_=>by have:=ZFq X ch;simp only [SrS.tick];omega
 | .leaf _ _ _ _ _ _,_,_=>by have:=ZFq X ch;show σ.steps+1+1<=_;omega
 | .br (c:=c) _ hN _ _ ho hl,hs,hD=>by
  have h2:=ZF6 X hs hD hN ho
  obtain ⟨f0,hf0⟩:=List.exists_mem_of_ne_nil _ (fun e=>by rw [e] at h2;simp at h2:Zaw (Zaz s) c≠[])
  have hw:=ZFr X hs hD hN ho hf0
  have hV:∀ f∈Zaw (Zaz s) c,ZF5 s (Zaq ch c f)=ZF5 s (Zaq ch c f0):=fun f hf=>by
   have h1:=ZFr X hs hD hN ho hf
   rw [<-hw] at h1
   exact Nat.eq_of_mul_eq_mul_left (by omega) h1
  have h3:=VsL.stp hl hs hD hN ho (fun f h=>h) _ hV
  rw [hw] at h3
  simp only [SrS.tick] at h3
  omega
theorem VsL.stp {ch:List Int} {c:Int} {l:List Int} {σ σ':SrS} {ts:List Zbb} {need:List Bool} {rest:List Int}:VsL s most ch c l σ ts σ'->Zdi s ch->Zsw s ch->Zbv s ch need->(lbM s ch need).2.1=c::rest->(∀ f∈l,f∈Zaw (Zaz s) c)->∀ V,(∀ f∈l,ZF5 s (Zaq ch c f)=V)->σ'.steps+l.length<=σ.steps+2 * (l.length * V)
 | .nil,_,_,_,_,_,_,_=>by simp
 | .cons (fs:=fs) h1 h2,hs,hD,hN,ho,hr,V,hV=>by
  have i2:=VsL.stp h2 hs hD hN ho (fun f hf=>hr f (List.mem_cons_of_mem _ hf)) V fun f hf=>hV f (List.mem_cons_of_mem _ hf)
  have hf:=hr _ (List.mem_cons_self ..)
  have i1:=Vs.stp h1 (Zgp X hs hD hN ho hf) (Zjh X hs hD hN ho hf)
  rw [hV _ (List.mem_cons_self ..)] at i1
  rw [List.length_cons,Nat.add_mul,Nat.one_mul]
  omega
end
theorem Ex.stp {ch:List Int} {σ:SrS} (h:Ex s most ch σ):Zdi s ch->Zsw s ch->most+2<=σ.steps+2 * ZF5 s ch:=by
 induction h with
 | now h=>intro _ _;have:=ZFq X ‹_›;omega
 | @br ch σ σ1 need c f rest l1 l2 ts h hN a1 c1 ho hr hl _ ih=>
  intro hs hD
  have hf:f∈Zaw (Zaz s) c:=by rw [hr];simp
  have h2:=ZF6 X hs hD hN ho
  have hw:=ZFr X hs hD hN ho hf
  have hV:∀ g∈l1,ZF5 s (Zaq ch c g)=ZF5 s (Zaq ch c f):=fun g hg=>by
   have h1:=ZFr X hs hD hN ho (f:=g) (by rw [hr];simp [hg])
   rw [<-hw] at h1
   exact Nat.eq_of_mul_eq_mul_left (by omega) h1
  have h3:=VsL.stp X hl hs hD hN ho (fun g hg=>by rw [hr];simp [hg]) _ hV
  have h4:=ih (Zgp X hs hD hN ho hf) (Zjh X hs hD hN ho hf)
  have hp:=ZFq X (Zaq ch c f)
  have hlen:(Zaw (Zaz s) c).length=l1.length+1+l2.length:=by rw [hr];simp;omega
  simp only [SrS.tick] at h3
  rw [hlen] at hw h2
  generalize ZF5 s (Zaq ch c f)=V at *
  rw [Nat.add_mul,Nat.add_mul,Nat.one_mul] at hw
  by_cases hz:l1.length=0
  ·rw [hz] at h3 hw
   have:V<=l2.length * V:=Nat.le_mul_of_pos_left _ (by omega)
   omega
  ·omega
theorem ZGb:ZF5 s (Zcp s.1.length)=ZFl (Zaz s):=by
 have e0:Zaz s=(List.range s.1.length).map fun (j:Nat)=>Zaw (Zaz s) (j:Int):=by
  apply List.ext_getElem?
  intro i
  by_cases hi:i < s.1.length
  ·rw [List.getElem?_map,List.getElem?_range hi]
   unfold Zaw
   rw [Option.map_some,Int.toNat_natCast,List.getElem?_eq_getElem (by rw [X.tlen];exact hi)];rfl
  ·rw [List.getElem?_eq_none (by rw [X.tlen];omega),List.getElem?_eq_none (by simp;omega)]
 have key:∀ (js:List Nat),(∀ j∈js,j < s.1.length)->ZFu (((js.map fun (i:Nat)=>(i:Int)).filter fun i=>atI (Zai s) i==i).map fun q=>if ZaU s (Zcp s.1.length) q < 0 then (Zaw (Zaz s) q).length else 1)=ZFl (js.map fun (j:Nat)=>Zaw (Zaz s) (j:Int)):=by
  intro js
  induction js with
  | nil=>intro _;rfl
  | cons j js ih=>
   intro h
   have ih:=ih fun i hi=>h i (List.mem_cons_of_mem _ hi)
   have hj:=h j (List.mem_cons_self ..)
   have hjr:inR s.1.length (j:Int):=⟨by omega,by omega⟩
   rw [List.map_cons,List.map_cons,ZFl,<-ih,List.filter_cons]
   by_cases e:atI (Zai s) (j:Int)=j
   ·have hp:=List.length_pos_iff.2 (Zqr X ⟨hjr,e⟩)
    rw [if_pos (by simpa using e),List.map_cons,ZFm]
    congr 1
    have hd:ZaU s (Zcp s.1.length) (j:Int)=if (Zaw (Zaz s) (j:Int)).length=1 then atI (Zaw (Zaz s) (j:Int)) 0 else -1:=by
     unfold ZaU;rw [ZmV X hjr];exact if_neg (by omega)
    rw [hd]
    by_cases e1:(Zaw (Zaz s) (j:Int)).length=1
    ·have h0:=(X.cI.mem (j:Int) hjr _ (Zqp (l:=Zaw (Zaz s) (j:Int)) (i:=0) ⟨by omega,by omega⟩)).1.1
     rw [if_pos e1,if_neg (show ¬ atI (Zaw (Zaz s) (j:Int)) 0 < 0 by omega)];omega
    ·rw [if_neg e1,if_pos (show (-1:Int) < 0 by omega)];omega
   ·have hr:Zaw (Zaz s) (j:Int)=[]:=by
     cases hr:Zaw (Zaz s) (j:Int) with
     | nil=>rfl
     | cons f _=>exact absurd (Z5e X hjr (by rw [hr];exact List.mem_cons_self ..) (f:=f)).2 e
    rw [if_neg (by simpa using e),hr,List.length_nil,Nat.max_eq_left (by omega),Nat.one_mul]
 unfold ZF5 ZaW idN
 rw [key _ fun j hj=>List.mem_range.1 hj,<-e0]
end
theorem ZF8 {s:Za5} (h:ZmA s) (hn:s.1.length<=900) (hv:ZcO s) (ht:ZFl (Zaz s)<=300) {a:List Int×Int×(Int×Int×List Zbb)×Int} (ha:ZqD s 20000 a):a.2.2.2≠202:=by
 have X:Ctx s:=⟨h,hv,hn⟩
 rcases ha.run hv (by omega) (by omega) with ⟨he,rfl⟩ | ⟨t,σ,v1,rfl⟩
 ·have:=Ex.stp X he (Zhm X) (Zhn X)
  rw [ZGb X] at this
  simp only [σ0] at this
  have e:(20000:Int).toNat=20000:=rfl
  rw [e] at this
  omega
 ·cases σ.found
  ·show (201:Int)≠202;omega
  ·show (0:Int)≠202;omega
def opS (op:Int):Int:=if op<=24 then 1 else 2
def Z6M (l:List Zae) (k:Int):Int:=opS (Zar l k).1
def ksG (op:Int):List Int:=
 if op=1\/op=2\/op=26 then [] else if op=20\/op=21 then [1] else if op=24 then [2] else if 4<=op/\op<=19 then [1,1] else if op=23\/op=27\/op=29 then [2,1] else if op=22 then [1,1,1] else if op=28 then [2,1,1] else []
def opG (op:Int):Prop:=1<=op/\op<=29/\op≠3/\op≠25
theorem Z7b {op:Int} {P:Int->Prop} (h:opG op) (h1:P 1) (h2:P 2) (h4:P 4) (h5:P 5) (h6:P 6) (h7:P 7) (h8:P 8) (h9:P 9) (h10:P 10) (h11:P 11) (h12:P 12) (h13:P 13) (h14:P 14) (h15:P 15) (h16:P 16) (h17:P 17) (h18:P 18) (h19:P 19) (h20:P 20) (h21:P 21) (h22:P 22) (h23:P 23) (h24:P 24) (h26:P 26) (h27:P 27) (h28:P 28) (h29:P 29):P op:=by
 obtain ⟨a,b,c,d⟩:=h
 have:op=1\/op=2\/op=4\/op=5\/op=6\/op=7\/op=8\/op=9\/op=10\/op=11\/op=12\/op=13\/op=14\/op=15\/op=16\/op=17\/op=18\/op=19\/op=20\/op=21\/op=22\/op=23\/op=24\/op=26\/op=27\/op=28\/op=29:=by omega
 rcases this with rfl | rfl | rfl | rfl | rfl | rfl | rfl | rfl | rfl | rfl | rfl | rfl | rfl | rfl | rfl | rfl | rfl | rfl | rfl | rfl | rfl | rfl | rfl | rfl | rfl | rfl | rfl<;>assumption
structure WtN (l:List Zae) (i:Nat) (x:Zae):Prop where
 op:opG x.1
 im:Zfk x.1 x.2.1=true
 ks:x.2.2.map (Z6M l)=ksG x.1
 lt:∀ k∈x.2.2,0<=k/\k < i
def Wt (l:List Zae):Prop:=∀ (i:Nat) x,l[i]?=some x->WtN l i x
theorem Z7Z (op:Int):opS op=1\/opS op=2:=by unfold opS;split<;>simp
theorem ZBw (l:List Zae) (op imm:Int) (ks:List Int) (h:opG op) (hi:Zfk op imm=true) (hk:ks.length=(ksG op).length):F66 l (op,imm,ks) (ksG op)=some (opS op):=by
 revert hi hk
 refine Z7b (P:=fun op=>Zfk op imm=true->ks.length=(ksG op).length->F66 l (op,imm,ks) (ksG op)=some (opS op)) h ?_ ?_ ?_ ?_ ?_ ?_ ?_ ?_ ?_ ?_ ?_ ?_ ?_ ?_ ?_ ?_ ?_ ?_ ?_ ?_ ?_ ?_ ?_ ?_ ?_ ?_ ?_<;>intro hi hk <;>
  ·simp [ksG] at hk
   simp [F66,Z6K,ZtE,hi,ZaY,ksG,opS,hk,ZwJ,ZwI,ZwH,ZwG,ZwF,Z6P,Z6Q,Z6Z,Z7j,Zzc,Zzk,ZfI,gI]
theorem Z7D {l:List Zae} (h:Wt l):∀ m≤l.length,Zam l m=(l.take m).map fun x=>opS x.1
 | 0,_=>by simp [Zam]
 | m+1,hm=>by
  obtain ⟨x,hx⟩:=ZeS (l:=l) (i:=m) (by omega)
  have ih:=Z7D h m (by omega)
  have hW:=h m x hx
  unfold Zam
  rw [List.take_add_one,hx,List.map_append,<-ih]
  congr 1
  have hat:∀ k∈x.2.2,atI (Zam l m) k=Z6M l k:=fun k hk=>by
   obtain ⟨a,b⟩:=hW.lt k hk
   obtain ⟨y,hy⟩:=ZeS (l:=l) (i:=k.toNat) (by omega)
   rw [ih]
   unfold atI Z6M Zar
   rw [List.getElem?_map,List.getElem?_take_of_lt (by omega),hy];rfl
  have hok:okK (Zam l m) m x=true:=by
   unfold okK
   rw [List.all_eq_true]
   intro k hk
   obtain ⟨a,b⟩:=hW.lt k hk
   unfold okQ
   rw [hat k hk]
   have:=Z7Z (Zar l k).1
   simp only [Z6M,Bool.and_eq_true,decide_eq_true_eq,Bool.not_eq_true',beq_eq_false_iff_ne]
   omega
  have hks:kS (Zam l m) x=ksG x.1:=by
   unfold kS
   rw [<-hW.ks]
   exact List.map_congr_left hat
  show [Zbu l (Zam l m) m x]=[opS x.1]
  unfold Zbu
  rw [hok,hks,cond_true]
  unfold nsM
  obtain ⟨op,imm,ks⟩:=x
  rw [ZBw l op imm ks hW.op hW.im (by have:=congrArg List.length hW.ks;simpa using this)];rfl
theorem Z6O {l:List Zae} (h:Wt l) {i:Int} (hi:inR l.length i):atI (Zam l l.length) i=Z6M l i:=by
 have h1:=hi.1;have h2:=hi.2
 rw [Z7D h _ (Nat.le_refl _),List.take_length]
 obtain ⟨y,hy⟩:=ZeS (l:=l) (i:=i.toNat) (by omega)
 unfold atI Z6M Zar
 rw [List.getElem?_map,hy];rfl
theorem Z7E {l:List Zae} {n:Zae} {k:Int} (h:inR l.length k):Z6M (l++[n]) k=Z6M l k:=by
 have:=h.1;have:=h.2
 unfold Z6M Zar
 rw [List.getElem?_append_left (by omega)]
theorem Wt.push {l:List Zae} (h:Wt l) {n:Zae} (ho:opG n.1) (hi:Zfk n.1 n.2.1=true) (hk:n.2.2.map (Z6M l)=ksG n.1) (hr:∀ k∈n.2.2,inR l.length k):Wt (l++[n]):=by
 intro i x hx
 by_cases e:i < l.length
 ·rw [List.getElem?_append_left e] at hx
  obtain ⟨a,b,c,d⟩:=h i x hx
  exact ⟨a,b,by rw [<-c];exact List.map_congr_left fun k hk=>Z7E ⟨(d k hk).1,by have:=(d k hk).2;omega⟩,d⟩
 ·have:i=l.length:=by have:=ZaA hx;simp at this;omega
  subst this
  rw [List.getElem?_append_right (Nat.le_refl _)] at hx
  simp at hx
  subst hx
  exact ⟨ho,hi,by rw [<-hk];exact List.map_congr_left fun k hk=>Z7E (hr k hk),fun k hk=>hr k hk⟩
theorem Z8a {l:List Zae} (h:Wt l) (hd:l.Nodup):Zex l l.length:=by
 intro i hi
 refine ⟨?_,fun j hj e=>?_⟩
 ·rw [Z6O h ⟨by omega,by omega⟩]
  have:=Z7Z (Zar l (i:Int)).1
  unfold Z6M;omega
 ·have:=(List.getElem?_inj (by omega) hd).1 e
  omega
theorem Z9g {l:List Zae} (hG:GraphH l) (hW:Wt l) (sort n:Int) (hs:∃ i,inR l.length i/\Z6M l i=sort):Ret (F27 l sort n) fun r=>inR l.length r/\Z6M l r=sort:=by
 have hn:=hG.n
 have hsl:=ZaK l l.length
 simp only [F27,Z5C l hG,wq,reduceCtorEq]
 refine Zac (fun q:Int×List Int=>∃ m:Nat,q.1=m/\m<=l.length/\q.2.length<=m/\(∀ x∈q.2,inR l.length x/\Z6M l x=sort)/\(∀ i:Nat,i < m->Z6M l (i:Int)=sort->q.2≠[])) (fun q=>l.length - q.1.toNat) ?_ _ ⟨0,rfl,by omega,by simp,(fun x hx=>by cases hx),fun i hi=>by omega⟩
 rintro ⟨i',all⟩ ⟨m,e,hm,ha,hx,hne⟩
 dsimp only at e ha hx hne
 subst e
 simp only [Z8F,Z5I,wq,reduceCtorEq]
 refine ⟨fun hlt=>?_,fun hge=>?_⟩
 ·have hw:=Zab m (by omega)
  have hmr:inR l.length (m:Int):=⟨by omega,hlt⟩
  rw [ZaB (l:=Zam l l.length) (by rw [hsl];exact hmr),Z6O hW hmr,hw]
  simp only [wq,reduceCtorEq]
  refine ⟨fun h=>⟨fun _=>?_,fun h=>absurd h (by simp only [List.length_cons,List.length_nil];omega)⟩,fun h=>?_⟩
  ·refine ⟨⟨m+1,rfl,by omega,by simp;omega,fun x h'=>?_,fun i _ _=>by simp⟩,by omega⟩
   rcases List.mem_append.1 h' with h' | h'
   ·exact hx x h'
   ·rw [List.mem_singleton.1 h'];exact ⟨hmr,h⟩
  ·refine ⟨⟨m+1,rfl,by omega,by omega,hx,fun i hi hso=>?_⟩,by omega⟩
   by_cases e:i < m
   ·exact hne i e hso
   ·have:i=m:=by omega
    subst this
    exact absurd hso h
 ·obtain ⟨i,hi,hik⟩:=hs
  have hnn:all≠[]:=hne i.toNat (by have:=hi.1;have:=hi.2;omega) (by rw [show ((i.toNat:Nat):Int)=i by have:=hi.1;omega];exact hik)
  have hpos:0 < all.length:=List.length_pos_iff.2 hnn
  refine Z6L (by omega) (by omega) fun r r0 r1=>?_
  rw [Zau (n:=(all.length:Int) - 1) (by omega) (by omega),Zau (by omega) (by omega)]
  refine Zaj (by omega) (by omega) fun y hy hm=>?_
  simp only [Za4 hy]
  exact hx y hm
theorem ZBm {op:Int} (h:opG op) {j:Nat} {x:Int} (hx:(ksG op)[j]?=some x):F28 op (j:Int)=some x:=by
 have hj:j < 3:=by
  have:=ZaA hx
  have h2:(ksG op).length<=3:=by unfold ksG;(repeat' split)<;>simp
  omega
 revert hx
 have:j=0\/j=1\/j=2:=by omega
 refine Z7b (P:=fun op=>(ksG op)[j]?=some x->F28 op (j:Int)=some x) h ?_ ?_ ?_ ?_ ?_ ?_ ?_ ?_ ?_ ?_ ?_ ?_ ?_ ?_ ?_ ?_ ?_ ?_ ?_ ?_ ?_ ?_ ?_ ?_ ?_ ?_ ?_<;>(intro hx;rcases this with rfl | rfl | rfl)<;>first | (simp [ksG] at hx;done) | (simp [ksG] at hx;subst hx;rfl)
theorem Z8b {op:Int} (h:opG op):(ZaY op).1=(ksG op).length:=by
 refine Z7b (P:=fun op=>(ZaY op).1=(ksG op).length) h ?_ ?_ ?_ ?_ ?_ ?_ ?_ ?_ ?_ ?_ ?_ ?_ ?_ ?_ ?_ ?_ ?_ ?_ ?_ ?_ ?_ ?_ ?_ ?_ ?_ ?_ ?_<;>rfl
theorem ZBn (l:List Zae) (n:Zae) (hl:l.length<=100000) (hk:∀ x∈l,x.2.2.length<=100000):F30 l n=some (decide (n∈l)):=by
 refine Ret.eq ?_
 unfold F30
 refine Zac (fun i:Int=>∃ m:Nat,i=m/\m<=l.length/\n∉l.take m) (fun i=>l.length - i.toNat) ?_ _ ⟨0,rfl,by omega,by simp⟩
 rintro _ ⟨m,rfl,hm,hno⟩
 have hw:=Zab m (by omega)
 simp only [Z8H,wq,reduceCtorEq,hw]
 refine ⟨fun hlt=>Zaj (by omega) hlt fun y hy hym=>?_,fun hge=>?_⟩
 ·rw [Z84 y n (by have:=hk y hym;omega)]
  simp only [wq,reduceCtorEq]
  rw [Zax] at hy
  refine ⟨fun e=>?_,fun e=>⟨⟨m+1,rfl,by omega,?_⟩,by omega⟩⟩
  ·symm;rw [decide_eq_true_eq];exact e▸hym
  ·rw [List.take_add_one,hy,List.mem_append]
   rintro (h | h)
   ·exact hno h
   ·have h:n=y:=by simpa using h
    exact e h.symm
 ·rw [List.take_of_length_le (by omega)] at hno
  symm;rw [decide_eq_false_iff_not];exact hno
structure Z6N (l:List Zae) (m:Nat):Prop extends Good l m where
 wt:Wt l
 nd:l.Nodup
theorem Z6N.G {l:List Zae} {m:Nat} (h:Z6N l m) (hm:m<=100):GraphH l:=⟨by have:=h.len;omega,fun x hx=>by have:=h.k x hx;omega⟩
theorem Z6N.up {l:List Zae} {m:Nat} (h:Z6N l m):Z6N l (m+1):=⟨h.toGood.up,h.wt,h.nd⟩
theorem Z6N.one {l:List Zae} {m:Nat} (h:Z6N l m):∃ i,inR l.length i/\Z6M l i=1:=⟨0,⟨by omega,by have:=ZaA h.h2;omega⟩,by unfold Z6M Zar;rw [show (0:Int).toNat=0 from rfl,h.h0];rfl⟩
theorem Z6N.two {l:List Zae} {m:Nat} (h:Z6N l m):∃ i,inR l.length i/\Z6M l i=2:=⟨2,⟨by omega,by have:=ZaA h.h2;omega⟩,by unfold Z6M Zar;rw [show (2:Int).toNat=2 from rfl,h.h2];rfl⟩
def ZBE (op imm:Int):Prop:=(op=27->1<=imm/\imm<=2)/\(op≠27->op=1\/imm=0)
theorem Z8x {op imm:Int} (h:opG op) (hp:ZBE op imm):Zfk op imm=true:=by
 unfold Zfk
 rw [decide_eq_true_eq]
 obtain ⟨h1,h2⟩:=hp
 by_cases e:op=27
 ·have:=h1 e;subst e;right;refine ⟨by omega,fun _=>by omega,?_⟩;simp;omega
 ·rcases h2 e with h | rfl
  ·exact .inl h
  ·right;refine ⟨by omega,fun h=>absurd h e,?_⟩;(repeat' split)<;>omega
section
variable (l1:List Int) (i:Nat) (hi:i < l1.length) (hi2:i < 14)
 {Q:((List Zae)⊕((Int×List Zae)⊕(List Zae)))->Prop} {out:List Zae} (hg:Z6N out i) (hQ:∀ o,Z6N o (i+1)->Q (.inl o))
include hg hQ hi hi2
theorem Z7n (n m:Int) (k:List Int) (hk:k.length<=3) (hw:ZiV (n,m,k)) (ho:opG n) (him:Zfk n m=true) (hks:k.map (Z6M out)=ksG n) (hr:∀ x∈k,inR out.length x):Ret (Z7t (out,n,m,k)) Q:=by
 have:=hg.len
 simp only [Z7t,ZBn out (n,m,k) (by omega) (fun x hx=>by have:=hg.k x hx;omega),wq,reduceCtorEq]
 refine ⟨fun e=>⟨fun _=>hQ _ ⟨hg.toGood.push _ hk hw,hg.wt.push ho him hks hr,?_⟩,fun h=>absurd h (by simp only [List.length_cons,List.length_nil];omega)⟩,fun _=>hQ _ hg.up⟩
 rw [List.nodup_append]
 exact ⟨hg.nd,by simp,fun a ha b hb=>by rw [List.mem_singleton.1 hb];exact fun h=>e (h▸ha)⟩
theorem Z7o (n m:Int) (k:List Int) (hk:k.length<=3) (hn:I64 n) (hm:I64 m) (hkw:∀ x∈k,I64 x) (ho:opG n) (him:ZBE n m) (hks:k.map (Z6M out)=ksG n) (hr:∀ x∈k,inR out.length x):Ret (Z7M l1 (i:Int) (out,n,m,k)) Q:=by
 have t:∀ b,(b=true->n=23\/n=28)->Ret (Z7s l1 (i:Int) (b,out,n,m,k)) fun a=>Ret (Sum.elim Z7t some a) Q:=fun b hb=>by
  cases b
  ·simp only [Z7s,wq,reduceCtorEq]
   exact Z7n l1 i hi hi2 hg hQ n m k hk ⟨hn,hm,by show k.length<=1000;omega,hkw⟩ ho (Z8x ho him) hks hr
  ·simp only [Z7s,wq,reduceCtorEq]
   refine Zaj (by omega) (by omega) fun y hy _=>Z6L (by omega) (by omega) fun r r0 r1=>Z7n l1 i hi hi2 hg hQ n r k hk ⟨hn,by constructor<;>(dsimp only;omega),by show k.length<=1000;omega,hkw⟩ ho ?_ hks hr
   rcases hb rfl with rfl | rfl<;>(unfold Zfk;rw [decide_eq_true_eq];right;refine ⟨r0,fun h=>by omega,?_⟩;simp;omega)
 simp only [Z7M,wq,reduceCtorEq]
 refine ⟨fun e=>t _ fun _=>.inl e,fun _=>t _ fun e=>.inr (by simpa using e)⟩
theorem Z7p (x n m:Int) (rd:List Int) (hn:I64 n) (hm:I64 m) (ho:opG n) (him:n=1\/m=0):Ret (Z7N l1 (i:Int) (out,x,n,m,rd)) Q:=by
 simp only [Z7N,Z6K,wq,reduceCtorEq]
 have har:=Z8b ho
 have hgl:=hg.len
 have h3:(ksG n).length<=3:=by have:=Zsf n;omega
 refine Zac (fun q:Int×List Zae×Int×Int×Int×List Int×List Int=>∃ j:Nat,q.1=j/\q.2.2.2.2.2.2.length=j/\j<=(ksG n).length/\q.2.1=out/\q.2.2.2.1=n/\q.2.2.2.2.1=m/\q.2.2.2.2.2.2.map (Z6M out)=(ksG n).take j/\∀ y∈q.2.2.2.2.2.2,inR out.length y) (fun q=>3 - q.1.toNat) ?_ _ ⟨0,rfl,rfl,by omega,rfl,rfl,rfl,rfl,fun y hy=>by cases hy⟩
 rintro ⟨j',out',x',n',m',rd',k⟩ ⟨j,e1,e2,e3,e4,e5,e6,e8,e7⟩
 dsimp only at e1 e2 e4 e5 e6 e7 e8
 subst out' n' m' j'
 have kI:∀ y∈k,I64 y:=fun y hy=>by obtain ⟨a,b⟩:=e7 y hy;constructor<;>omega
 simp only [Z8I,wq,reduceCtorEq]
 refine ⟨fun hlt=>?_,fun hge=>?_⟩
 ·obtain ⟨so,hso⟩:=ZeS (l:=ksG n) (i:=j) (by omega)
  have h12:so=1\/so=2:=by
   have:∀ y∈ksG n,y=1\/y=2:=by unfold ksG;(repeat' split)<;>simp
   exact this so (List.mem_of_getElem? hso)
  rw [ZBm ho hso]
  simp only [wq,reduceCtorEq]
  refine Ret.mono (Z8A _ _) fun rr _ _=>Ret.mono (Z9g (hg.G (by omega)) hg.wt so rr.1 (by rcases h12 with rfl | rfl;exact hg.one;exact hg.two)) fun q _ ⟨hq,hqs⟩=>?_
  have hw:=Zab j (by omega)
  rw [hw]
  refine ⟨fun _=>⟨⟨j+1,rfl,by simp;omega,by omega,?_,fun y hy=>?_⟩,by omega⟩,fun h=>absurd h (by simp only [List.length_cons,List.length_nil];omega)⟩
  ·rw [List.map_append,e8,List.take_add_one,hso,<-hqs];rfl
  ·rcases List.mem_append.1 hy with hy | hy
   ·exact e7 y hy
   ·rw [List.mem_singleton.1 hy];exact hq
 ·rw [List.take_of_length_le (by omega)] at e8
  refine ⟨fun e27=>?_,fun e27=>?_⟩
  ·refine Zaj (by omega) (by omega) fun y hy _=>Z6L (by omega) (by omega) fun r r0 r1=>?_
   have hwr:IntKind.wrap .i64 (1+r)=1+r:=Zau (by omega) (by omega)
   rw [hwr]
   exact Z7o l1 i hi hi2 hg hQ _ _ k (by omega) hn (by constructor<;>omega) kI ho ⟨fun _=>by omega,fun h=>absurd e27 h⟩ e8 e7
  ·exact Z7o l1 i hi hi2 hg hQ _ _ k (by omega) hn hm kI ho ⟨fun h=>absurd h e27,fun _=>him⟩ e8 e7
theorem Z7q (hl:∀ x∈l1,I64 x) (x n:Int) (rd:List Int) (hn:I64 n) (ho:opG n):Ret (Z7u l1 (i:Int) (out,x,n,0,rd)) Q:=by
 simp only [Z7u,wq,reduceCtorEq]
 refine Zaj (by omega) (by omega) fun y hy hym=>Z6L (by omega) (by omega) fun r r0 r1=>⟨fun _=>?_,fun _=>?_⟩
 ·simp only [Za4 hy,wq,reduceCtorEq]
  exact Ret.mono (Z89 _ _ (hl y hym)) fun w _ hw=>Z7p l1 i hi hi2 hg hQ _ _ _ _ (by constructor<;>omega) hw (by unfold opG;omega) (.inl rfl)
 ·exact Z7p l1 i hi hi2 hg hQ _ _ _ _ hn (by decide) ho (.inr rfl)
theorem Z8c (hl:∀ x∈l1,I64 x) (b:Bool) (x n:Int) (rd:List Int) (hn:I64 n) (ho:opG n):Ret (Z7r l1 (i:Int) (b,out,x,n,0,rd)) fun a=>Ret (Sum.elim (Z7u l1 (i:Int)) some a) Q:=by
 cases b
 ·simp only [Z7r,wq,reduceCtorEq]
  exact Z7q l1 i hi hi2 hg hQ hl _ _ _ hn ho
 ·simp only [Z7r,wq,reduceCtorEq]
  refine Zaj (by omega) (by omega) fun y hy _=>Z6L (by omega) (by omega) fun r r0 r1=>Zaj r0 (by simp only [List.length_cons,List.length_nil];omega) fun z hz _=>?_
  simp only [Za4 hz,wq,reduceCtorEq]
  have key:∀ z∈([23,27,28,29,24]:List Int),23<=z/\z<=29/\z≠25:=by decide
  have hk:=key z (ZeR hz)
  exact Z7q l1 i hi hi2 hg hQ hl _ _ _ (by constructor<;>omega) (by unfold opG;omega)
end
theorem Z9h (l:List Int) (hl:∀ x∈l,I64 x) (b:Bool):Ret (F12 l b) fun o=>Z6N o 14:=by
 unfold F12
 refine Zac (fun q:Int×List Zae=>∃ m:Nat,q.1=m/\m<=14/\Z6N q.2 m) (fun q=>14 - q.1.toNat) ?_ _ ⟨0,rfl,by omega,⟨?_,?_,?_,rfl,rfl⟩,?_,?_⟩
 ·rintro ⟨i',out⟩ ⟨m,e,hm,hg⟩
  dsimp only at e hg
  subst e
  have up:∀ k,Z6N out (m+k):=fun k=>by
   induction k with
   | zero=>exact hg
   | succ k ih=>exact ih.up
  have fin:Ret (Z7v l b (m:Int) (false,out)) (Zev (fun q:Int×List Zae=>∃ m:Nat,q.1=m/\m<=14/\Z6N q.2 m) (fun q=>14 - q.1.toNat) (fun o=>Z6N o 14) ((m:Int),out)):=by
   simp only [Z7v,wq,reduceCtorEq]
   have:=up (14 - m)
   rwa [show m+(14 - m)=14 by omega] at this
  simp only [Z8J,wq,reduceCtorEq]
  refine ⟨fun hlt=>?_,fun _=>fin⟩
  by_cases h14:m < 14
  ·have hw:=Zab m (by omega)
   rw [show decide ((m:Int) < 14)=true by simp;omega]
   simp only [Z7v,wq,reduceCtorEq]
   refine Zaj (by omega) hlt fun y hy _=>?_
   simp only [Za4 hy,wq,reduceCtorEq]
   refine Z6L (by omega) (by omega) fun r r0 r1=>?_
   have hwr:IntKind.wrap .i64 (4+r)=4+r:=Zau (by omega) (by omega)
   rw [hwr]
   have J:=fun b x n rd hn ho=>Z8c l m (by omega) h14 (Q:=fun a=>Ret (Sum.elim (Z7O (m:Int)) some a) (Zev (fun q:Int×List Zae=>∃ m:Nat,q.1=m/\m<=14/\Z6N q.2 m) (fun q=>14 - q.1.toNat) (fun o=>Z6N o 14) ((m:Int),out))) hg (fun o ho=>by
    simp only [Z7O,wq,reduceCtorEq,hw]
    exact ⟨⟨m+1,rfl,by omega,ho⟩,by omega⟩) hl b x n rd hn ho
   have hn:I64 (4+r):=by constructor<;>omega
   have ho:opG (4+r):=by unfold opG;omega
   exact ⟨fun _=>Z6L (by omega) (by omega) fun _ _ _=>J _ _ _ _ hn ho,fun _=>J _ _ _ _ hn ho⟩
  ·rw [show decide ((m:Int) < 14)=false by simp;omega]
   exact fin
 ·simp
 ·intro x hx
  simp at hx
  rcases hx with rfl | rfl | rfl<;>simp
 ·intro x hx
  simp at hx
  rcases hx with rfl | rfl | rfl<;>exact ⟨by decide,by decide,by decide,fun x hx=>by cases hx⟩
 ·intro i x hx
  have:i=0\/i=1\/i=2:=by have:=ZaA hx;simp at this;omega
  rcases this with rfl | rfl | rfl<;>(simp at hx;subst hx;exact ⟨by unfold opG;decide,by decide,rfl,fun k hk=>by cases hk⟩)
 ·decide
theorem Z8d {l:List Zae} {m:Nat} (hg:Z6N l m) (hm:m<=100) (sort:Int) (hs:sort=1\/sort=2):Ret (F13 l sort) fun r=>inR l.length r/\Z6M l r=sort:=by
 have hl:=hg.len
 have hlt:=ZaA hg.h2
 obtain ⟨i0,hi0,hk0⟩:∃ i,inR l.length i/\Z6M l i=sort:=by rcases hs with rfl | rfl;exact hg.one;exact hg.two
 unfold F13
 rw [Zau (by omega) (by omega)]
 refine Zac (fun i:Int=>i0<=i/\i < l.length) (fun i=>(i+1).toNat) ?_ _ ⟨by have:=hi0.2;omega,by omega⟩
 rintro i ⟨h1,h2⟩
 have hi:inR l.length i:=⟨by have:=hi0.1;omega,h2⟩
 have hx:gI l i=some (Zar l i):=Za2 hi
 have hW:=hg.wt i.toNat (Zar l i) (ZaI hx).2.2
 obtain ⟨o1,o2,o3,o4⟩:=hW.op
 have hw:IntKind.wrap .i64 (i - 1)=i - 1:=Zau (by have:=hi.1;omega) (by omega)
 have hk:Z6M l i=opS (Zar l i).1:=rfl
 simp only [Z5z,Z8l,hx,wq,reduceCtorEq,hw]
 have nx:Z6M l i≠sort->i0<=i - 1:=fun h=>by
  by_cases e:i=i0
  ·subst e;exact absurd hk0 h
  ·omega
 have go:∀ b:Bool,(b=true↔Z6M l i=1)->((b=(sort==1))->inR l.length i/\Z6M l i=sort)/\(¬ b=(sort==1)->(i0<=i - 1/\i - 1 < l.length)/\(i - 1+1).toNat < (i+1).toNat):=fun b hb=>by
  have h12:=Z7Z (Zar l i).1
  rw [<-hk] at h12
  have key:(b=(sort==1))↔Z6M l i=sort:=by
   rcases hs with rfl | rfl
   ·rw [show ((1:Int)==1)=true from rfl];exact hb
   ·rw [show ((2:Int)==1)=false from rfl]
    cases b
    ·have:¬ Z6M l i=1:=fun h=>by have:=hb.2 h;cases this
     exact ⟨fun _=>by omega,fun _=>rfl⟩
    ·have:=hb.1 rfl
     exact ⟨fun h=>(by cases h),fun h=>by omega⟩
  exact ⟨fun h=>⟨hi,key.1 h⟩,fun h=>⟨⟨nx fun e=>h (key.2 e),by omega⟩,by have:=hi.1;omega⟩⟩
 refine ⟨fun _=>⟨fun _=>⟨fun e=>go true ⟨fun _=>(by rw [hk];unfold opS;rw [if_pos e]),fun _=>rfl⟩,fun e=>⟨fun e2=>absurd e2 o4,fun e2=>go false ⟨fun h=>(by cases h),fun h=>(by rw [hk] at h;unfold opS at h;rw [if_neg (by omega)] at h;omega)⟩⟩⟩,fun h=>by omega⟩,fun h=>by have:=hi.1;omega⟩
theorem Z8e {l:List Int} (hl:∀ x∈l,I64 x) {s:Za5} (h:Good s.1 14/\Zzu l s):Z6N s.1 14/\ZcO s/\∀ x∈s.2.1,Z6M s.1 x.1=Z6M s.1 x.2.1:=by
 obtain ⟨o,eo,ho⟩:=Z9h l hl false
 have e:=h.2.nodes
 rw [eo] at e
 obtain rfl:=Option.some.inj e
 obtain ⟨v,ev,hv,hv1⟩:=Z8d ho (by omega) 1 (.inl rfl)
 obtain ⟨w,ew,hw,hw1⟩:=Z8d ho (by omega) 2 (.inr rfl)
 have e1:=h.2.va
 have e2:=h.2.st
 rw [ev] at e1
 rw [ew] at e2
 obtain rfl:=Option.some.inj e1
 obtain rfl:=Option.some.inj e2
 have hst:∀ x∈s.2.1,inR s.1.length x.1/\inR s.1.length x.2.1/\Z6M s.1 x.1=Z6M s.1 x.2.1:=fun x hx=>by
  obtain ⟨a,b,c,_⟩:=h.2.steps x hx
  refine ⟨a,b,?_⟩
  unfold Z6M opS
  by_cases h1:(Zar s.1 x.1).1<=24<;>by_cases h2:(Zar s.1 x.2.1).1<=24
  ·rw [if_pos h1,if_pos h2]
  ·simp [h1,h2] at c
  ·simp [h1,h2] at c
  ·rw [if_neg h1,if_neg h2]
 refine ⟨ho,⟨by have:=ho.len;omega,Z8a ho.wt ho.nd,hv,by rw [Z6O ho.wt hv,hv1],hw,by rw [Z6O ho.wt hw,hw1],fun x hx=>?_⟩,fun x hx=>(hst x hx).2.2⟩
 obtain ⟨a,b,c⟩:=hst x hx
 exact ⟨a,b,by rw [Z6O ho.wt a,Z6O ho.wt b,c]⟩
end Go.Dat
namespace Go.Dat
open Go.Eng
set_option linter.unusedSimpArgs false
set_option linter.unusedVariables false
set_option linter.unusedSectionVars false
mutual
theorem Po.rsk {s:Za5} {ch:List Int} {c:Int} {vs ws:List Int}:Po s ch c vs ws->RS s ch c->(∀ q∈vs,RS s ch q)->∀ q∈ws,RS s ch q
 | .seen _,_,hv=>hv
 | .new _ h0 hl _,hc,hv=>fun q hq=>by
  rcases List.mem_append.1 hq with hq | hq
  ·exact PoL.rsk hl (fun p hp=>.step hc ⟨h0,hp⟩) hv q hq
  ·rw [List.mem_singleton.1 hq];exact hc
theorem PoL.rsk {s:Za5} {ch ps:List Int} {vs ws:List Int}:PoL s ch ps vs ws->(∀ p∈ps,RS s ch p)->(∀ q∈vs,RS s ch q)->∀ q∈ws,RS s ch q
 | .nil,_,hv=>hv
 | .cons h1 h2,hp,hv=>PoL.rsk h2 (fun p hm=>hp p (List.mem_cons_of_mem _ hm)) (Po.rsk h1 (hp _ (by simp)) hv)
end
theorem PoR.rs {s:Za5} {ch vs:List Int} (h:PoR s ch vs):∀ q∈vs,RS s ch q:=
 PoL.rsk h.po (fun p hp=>by
  rcases List.mem_cons.1 hp with rfl | hp
  ·exact .val
  ·rw [List.mem_singleton.1 hp];exact .st) (fun q hq=>by cases hq)
theorem Z8C {s:Za5} {ch vs:List Int} {q:Int} (h:q∈vs):Zar (grS s ch vs).2.2.1 (ZdD vs q)=Zjp s ch vs q:=by
 have:=List.idxOf_lt_length_iff.2 h
 unfold Zar ZdD grS
 simp only [Int.toNat_natCast,List.getElem?_map]
 rw [List.getElem?_eq_getElem this,List.getElem_idxOf];rfl
structure Lst (s:Za5) (ch:List Int):Prop where
 len:ch.length=s.1.length
 at':∀ k,inR s.1.length k->atI ch k=if atI (Zai s) k=k then k else -1
section
variable {s:Za5} (X:Ctx s) (W:Wt s.1) (hst:∀ x∈s.2.1,Z6M s.1 x.1=Z6M s.1 x.2.1) {ch:List Int} (hL:Lst s ch)
include X W hst
theorem Z8y {i j:Int} (h:Clo s.1 (Zd2 s) i j):Z6M s.1 i=Z6M s.1 j:=by
 induction h with
 | pair h1 _ _=>
  obtain ⟨x,hx,e⟩:=List.mem_map.1 h1
  cases e
  exact hst x hx
 | refl=>rfl
 | symm _ ih=>exact ih.symm
 | trans _ _ i1 i2=>exact i1.trans i2
 | cong h1 h2 h3 _ _ _ _ _ _=>
  have e1:=(ZaI h1).2.2
  have e2:=(ZaI h2).2.2
  unfold Z6M Zar
  rw [e1,e2]
  show opS _=opS _
  rw [Option.getD_some,Option.getD_some,h3]
theorem Z7i {i:Int} (h:inR s.1.length i):Z6M s.1 (atI (Zai s) i)=Z6M s.1 i:=
 Z8y X W hst ((ZgZ X.h X.v).1.sound _ _ (X.ci.rng h) h (X.ci.r2 i h))
include hL
theorem Z8f:Zdi s ch:=⟨hL.len,fun k hk=>by
 rw [hL.at' k hk]
 split
 ·exact .inr ⟨‹_›,hk,‹_›⟩
 ·exact .inl rfl⟩
theorem Z7c {q:Int} (h:ZfW s q):atI ch q=q:=by rw [hL.at' q h.1,if_pos h.2]
theorem Z8D {a b:Int} (h:EdS s ch a b) (ha:ZfW s a):b < a/\ZfW s b:=by
 obtain ⟨h1,h2⟩:=h
 rw [Z7c X W hst hL ha] at h2
 have hr:=Zdf X ha.1 h2
 refine ⟨?_,hr⟩
 obtain ⟨k,hk,rfl⟩:=List.mem_map.1 h2
 have hx:s.1[a.toNat]?=some (Zar s.1 a):=(ZaI (Za2 ha.1)).2.2
 have:=(W _ _ hx).lt k hk
 have hc:=X.ci.r1 k (X.kids.r _ (Zav ha.1) k hk)
 have:=ha.1.1
 omega
theorem Z9i {a b:Int} (h:ZnS s ch a b) (ha:ZfW s a):b<=a/\ZfW s b:=by
 induction h with
 | refl=>exact ⟨Int.le_refl _,ha⟩
 | snoc _ e ih=>
  obtain ⟨h1,h2⟩:=ih
  obtain ⟨h3,h4⟩:=Z8D X W hst hL e h2
  exact ⟨by omega,h4⟩
theorem Z8g:¬ Zqx s ch:=by
 rintro ⟨q,hq,h⟩
 have hr:=RS.rep X (Z8f X W hst hL) hq
 rcases h with h | ⟨p,e,hp⟩
 ·rw [Z7c X W hst hL hr] at h;have:=hr.1.1;omega
 ·obtain ⟨h1,h2⟩:=Z8D X W hst hL e hr
  have:=(Z9i X W hst hL hp h2).1
  omega
variable {vs:List Int} (hv:PoR s ch vs)
include hv
theorem ZBx:Wt (grS s ch vs).2.2.1:=by
 intro i x hx
 have hx':(vs.map (Zjp s ch vs))[i]?=some x:=hx
 rw [List.getElem?_map] at hx'
 cases hq:vs[i]? with
 | none=>rw [hq] at hx';cases hx'
 | some q=>
  rw [hq] at hx'
  obtain rfl:=(Option.some.inj hx').symm
  have hm:=List.mem_of_getElem? hq
  obtain ⟨hrep,hse,hkids⟩:=hv.sel q hm
  have hqq:=Z7c X W hst hL hrep
  have hn:s.1[q.toNat]?=some (Zar s.1 q):=(ZaI (Za2 hrep.1)).2.2
  have hW:=W _ _ hn
  have hpi:ZdD vs q=i:=by
   obtain ⟨h1,h2⟩:=List.getElem?_eq_some_iff.1 hq
   unfold ZdD
   rw [<-h2,List.Nodup.idxOf_getElem hv.nd]
  refine ⟨?_,?_,?_,?_⟩
  ·show opG (Zar s.1 (atI ch q)).1;rw [hqq];exact hW.op
  ·show Zfk (Zar s.1 (atI ch q)).1 (Zar s.1 (atI ch q)).2.1=true;rw [hqq];exact hW.im
  ·show ((Zbh s (atI ch q)).map (ZdD vs)).map (Z6M _)=ksG (Zar s.1 (atI ch q)).1
   rw [hqq] at hkids |-
   rw [<-hW.ks]
   unfold Zbh
   rw [List.map_map,List.map_map]
   refine List.map_congr_left fun k hk=>?_
   have hkr:=X.kids.r _ (Zav hrep.1) k hk
   have hpm:atI (Zai s) k∈Zbh s q:=List.mem_map.2 ⟨k,hk,rfl⟩
   obtain ⟨p1,p2⟩:=hkids _ hpm
   show Z6M (grS s ch vs).2.2.1 (ZdD vs (atI (Zai s) k))=_
   unfold Z6M
   rw [Z8C p1]
   show opS (Zar s.1 (atI ch (atI (Zai s) k))).1=_
   rw [Z7c X W hst hL (hv.sel _ p1).1]
   exact Z7i X W hst hkr
  ·intro k hk
   obtain ⟨p,hp,rfl⟩:=List.mem_map.1 hk
   obtain ⟨p1,p2⟩:=hkids p hp
   exact ⟨Zqz _ _,by omega⟩
theorem ZBy:(grS s ch vs).2.2.1.Nodup:=by
 show (vs.map (Zjp s ch vs)).Pairwise _
 rw [List.pairwise_map]
 refine List.Pairwise.imp_of_mem (fun {a b} ha hb hne e=>hne ?_) hv.nd
 obtain ⟨a1,a2,a3⟩:=hv.sel a ha
 obtain ⟨b1,b2,b3⟩:=hv.sel b hb
 have ea:=Z7c X W hst hL a1
 have eb:=Z7c X W hst hL b1
 unfold Zjp at e
 rw [ea,eb] at e
 rw [ea] at a3
 rw [eb] at b3
 obtain ⟨e1,e2⟩:=Prod.mk.inj e
 obtain ⟨e2,e3⟩:=Prod.mk.inj e2
 have hkk:Zbh s a=Zbh s b:=by
  have inj:∀ (l r:List Int),(∀ p∈l,p∈vs)->(∀ p∈r,p∈vs)->l.map (ZdD vs)=r.map (ZdD vs)->l=r:=by
   intro l
   induction l with
   | nil=>intro r _ _ h;cases r with | nil=>rfl | cons _ _=>cases h
   | cons p l ih=>
    intro r hl hr h
    cases r with
    | nil=>cases h
    | cons p' r=>
     obtain ⟨h1,h2⟩:=List.cons.inj h
     have hp:p=p':=by
      have q1:=List.getElem_idxOf (List.idxOf_lt_length_iff.2 (hl p (by simp)))
      have q2:=List.getElem_idxOf (List.idxOf_lt_length_iff.2 (hr p' (by simp)))
      have:vs.idxOf p=vs.idxOf p':=by unfold ZdD at h1;omega
      rw [<-q1,<-q2]
      simp only [this]
     rw [hp,ih r (fun x hx=>hl x (List.mem_cons_of_mem _ hx)) (fun x hx=>hr x (List.mem_cons_of_mem _ hx)) h2]
  exact inj _ _ (fun p hp=>(a3 p hp).1) (fun p hp=>(b3 p hp).1) e3
 have hc:ZbH s.1.length (Zai s) (Zar s.1 a) (Zar s.1 b):=Zkx (X.kids.r _ (Zav a1.1)) (X.kids.r _ (Zav b1.1)) e1 e2 hkk
 have:=(ZgZ X.h X.v).1.comp.cong a b _ _ (Za2 a1.1) (Za2 b1.1) hc
 rw [a1.2,b1.2] at this
 exact this
theorem ZBo {q:Int} (h:q∈vs):inR (grS s ch vs).2.2.1.length (ZdD vs q)/\Z6M (grS s ch vs).2.2.1 (ZdD vs q)=Z6M s.1 q:=by
 refine ⟨⟨Zqz _ _,by have:=Zqy h;simp [grS];exact this⟩,?_⟩
 unfold Z6M
 rw [Z8C h]
 show opS (Zar s.1 (atI ch q)).1=_
 rw [Z7c X W hst hL (hv.sel q h).1]
theorem ZBz:wfB (grS s ch vs)=true:=by
 have hWt:=ZBx X W hst hL hv
 have hop:∀ x∈(grS s ch vs).2.2.1,opG x.1:=fun x hx=>by
  obtain ⟨i,hi⟩:=List.getElem?_of_mem hx
  exact (hWt i x hi).op
 have hsort:∀ q∈vs,ZfU (Zam (grS s ch vs).2.2.1 (grS s ch vs).2.2.1.length) (ZdD vs q)=Z6M s.1 q:=fun q hq=>by
  obtain ⟨h1,h2⟩:=ZBo X W hst hL hv hq
  unfold ZfU
  rw [ZaK,if_pos h1,Z6O hWt h1,h2]
 have e1:=X.v.va1
 have e2:=X.v.st2
 rw [Z6O W X.v.va] at e1
 rw [Z6O W X.v.st] at e2
 have nodp:∀ (i:Nat) (j:Int),¬ Dp (grS s ch vs).2.2.1 i j:=fun i j h=>by
  induction h with
  | var h1 h2=>exact (hop _ (List.mem_of_getElem? h1)).2.2.1 h2
  | kid _ _ _ _ ih=>exact ih
 rw [ZvJ]
 refine ⟨Z8a hWt (ZBy X W hst hL hv),?_,?_,fun i k _ x y hx _ h31=>?_,fun x hx h3=>absurd h3 (hop x hx).2.2.1,fun j _ _=>⟨nodp _ _,nodp _ _⟩⟩
 ·show ZfU _ (ZdD vs (atI (Zai s) s.2.2.2.1))=1
  rw [hsort _ hv.va,Z7i X W hst X.v.va,e1]
 ·show ZfU _ (ZdD vs (atI (Zai s) s.2.2.2.2.1))=2
  rw [hsort _ hv.st,Z7i X W hst X.v.st,e2]
 ·have:=(hop x (List.mem_of_getElem? hx)).2.1;omega
end
end Go.Dat
namespace Go.Dat
open Go.Eng
set_option linter.unusedSimpArgs false
set_option linter.unusedVariables false
set_option linter.unusedSectionVars false
noncomputable def ZBq (s:Za5):List Int:=(List.range s.1.length).map fun (j:Nat)=>if atI (Zai s) (j:Int)=j then (j:Int) else -1
theorem Z8z (s:Za5):Lst s (ZBq s):=by
 refine ⟨by simp [ZBq],fun j h=>?_⟩
 have h1:=h.1
 have h2:j.toNat < s.1.length:=by have:=h.2;omega
 have e:((j.toNat:Nat):Int)=j:=by omega
 unfold ZBq
 show ((List.range s.1.length).map _)[j.toNat]?.getD 0=_
 rw [List.getElem?_map,List.getElem?_range h2]
 show (if atI (Zai s) ((j.toNat:Nat):Int)=((j.toNat:Nat):Int) then ((j.toNat:Nat):Int) else _)=_
 rw [e]
theorem Z7w {l:List Int} (hl:∀ x∈l,I64 x) {s:Za5} (hq:Good s.1 14/\Zzu l s):ZcO s/\∃ ch r,F20 s ch=some r/\r.2=true:=by
 have h:=Zzu.satH hq
 have hn:s.1.length<=900:=by have:=hq.1.len;omega
 obtain ⟨hg,hv,hst⟩:=Z8e hl hq
 have X:Ctx s:=⟨h,hv,hn⟩
 have hL:=Z8z s
 have hs:=Z8f X hg.wt hst hL
 obtain ⟨r,er,hr⟩:=ZzF h hn (ZBq s)
 refine ⟨hv,_,r,er,?_⟩
 rcases hr with ⟨hno,_⟩ | ⟨_,_,⟨hb,_⟩ | ⟨vs,hvs,rfl⟩⟩
 ·exact absurd ⟨hv,hs⟩ hno
 ·exact absurd hb (Z8g X hg.wt hst hL)
 ·rw [ZBz X hg.wt hst hL hvs];rfl
theorem Z80 {s:Za5} (h:ZmA s) (hn:s.1.length<=900) (hv:ZcO s) {most:Int} (m1:1<=most) (m2:most<=20000) {ch:List Int} {r:GrT×Bool} (er:F20 s ch=some r) (hr:r.2=true) {a:List Int×Int×(Int×Int×List Zbb)×Int} (ha:ZqD s most a):a.2.2.2=0\/a.2.2.2=202:=by
 have X:Ctx s:=⟨h,hv,hn⟩
 rcases ha.run hv m1 m2 with ⟨_,rfl⟩ | ⟨t,σ,v1,rfl⟩
 ·exact .inr rfl
 ·cases hf:σ.found
  ·have hu:ZtP s (Zcp s.1.length) < 1000:=by have:=Zlv s (Zcp s.1.length);omega
   have hp:=v1.prv X (Zhm X) (Zhn X) 1000 hu (Z4R r.1.2.2.1+1) (fun e=>by rw [hf] at e;cases e)
   have:=Z7Y h hn hp er hr
   omega
  ·exact .inl rfl
section
variable {s:Za5} (X:Ctx s)
include X
theorem ZFy {i:Nat} {f:List Int} (h:(Zaz s)[i]?=some f):inR s.1.length (i:Int)/\Zaw (Zaz s) (i:Int)=f:=by
 have hl:=ZaA h
 rw [X.tlen] at hl
 refine ⟨⟨by omega,by omega⟩,?_⟩
 unfold Zaw;rw [Int.toNat_natCast,h];rfl
theorem ZF9:∀ f∈Zaz s,f.Nodup:=fun f hf=>by
 obtain ⟨i,hi⟩:=List.getElem?_of_mem hf
 obtain ⟨h1,h2⟩:=ZFy X hi
 have h:=X.cI.asc _ h1
 rw [h2] at h
 exact h.imp fun {a b} hab=>by omega
theorem ZFT {w:List Int} (hw:Zdi s w):ZFp (Zaz s) (Z9k s w):=by
 refine ZFp.of (by rw [(Z8v X hw).1,X.tlen]) fun i f x h1 h2=>?_
 obtain ⟨hr,e⟩:=ZFy X h1
 have hx:x=atI (Z9k s w) (i:Int):=by unfold atI;rw [Int.toNat_natCast,h2];rfl
 by_cases hrep:atI (Zai s) (i:Int)=i
 ·refine .inr ?_
  rw [hx,<-e,Z7h X hw ⟨hr,hrep⟩]
  exact Z7g X hw ⟨hr,hrep⟩
 ·refine .inl ⟨?_,by rw [hx,Z7X X hw hr,if_neg hrep]⟩
  rw [<-e]
  cases hh:Zaw (Zaz s) (i:Int) with
  | nil=>rfl
  | cons g _=>exact absurd (Z5e X hr (f:=g) (by rw [hh];exact List.mem_cons_self ..)).2 hrep
end
theorem ZFP {s:Za5} (h:ZmA s) (hn:s.1.length<=900) {ch:List Int} {r:GrT×Bool} (er:F20 s ch=some r) (h2:r.2=true):ZFp (Zaz s) (Z9k s ch)/\F20 s (Z9k s ch)=some r:=by
 obtain ⟨r',er',hr⟩:=ZzF h hn ch
 rw [er] at er'
 obtain rfl:=Option.some.inj er'
 rcases hr with ⟨_,rfl⟩ | ⟨hv,hs,hb⟩
 ·cases h2
 ·have X:Ctx s:=⟨h,hv,hn⟩
  refine ⟨ZFT X hs,?_⟩
  rcases hb with ⟨_,rfl⟩ | ⟨vs,hvs,hrr⟩
  ·cases h2
  ·obtain ⟨p1,p2⟩:=PoR.sim (Z8w X hs) hvs
   obtain ⟨r2,er2,hr2⟩:=ZzF h hn (Z9k s ch)
   rcases hr2 with ⟨hno,_⟩ | ⟨_,_,hb2⟩
   ·exact absurd ⟨hv,Z8v X hs⟩ hno
   ·have:Zq0 s (Z9k s ch) r:=.inr ⟨vs,p1,by rw [p2];exact hrr⟩
    rw [er2,hb2.uniq this]
theorem ZFQ {s:Za5} (h:ZmA s) (hn:s.1.length<=900) (hv:ZcO s) (ht:ZFl (Zaz s)<=300) {a:List Int×Int×(Int×Int×List Zbb)×Int} (ha:ZqD s 20000 a) {chL:List Int} {rL:GrT×Bool} (eL:F20 s chL=some rL) (hL:rL.2=true) :
 a.2.2.2=0/\(∃ w r,ZFp (Zaz s) w/\F20 s w=some r/\r.2=true/\Z4R r.1.2.2.1=a.2.1)/\∀ w r,F20 s w=some r->r.2=true->a.2.1<=Z4R r.1.2.2.1:=by
 have h0:a.2.2.2=0:=by
  rcases Z80 h hn hv (by omega) (by omega) eL hL ha with e | e
  ·exact e
  ·exact absurd e (ZF8 h hn hv ht ha)
 obtain ⟨t,r,et,hT,er,r1,r2,hp⟩:=Z68 h hn ha h0
 obtain ⟨c1,c2⟩:=ZFP h hn er r1
 exact ⟨h0,⟨_,r,c1,c2,r1,r2⟩,fun w r' e1 e2=>Z7Y h hn hp e1 e2⟩
theorem ZFj {α:Type} {l:List α} {k:Nat} {x:α} (h:l[k]?=some x):l.drop k=x::l.drop (k+1):=by
 obtain ⟨hk,rfl⟩:=List.getElem?_eq_some_iff.1 h
 exact List.drop_eq_getElem_cons hk
section
variable {fs:List (List Int)} (hn:∀ f∈fs,f.Nodup) (hl:fs.length<=100000) (hfl:∀ f∈fs,f.length<=100000)
include hn hl hfl
theorem ZFU {k:Nat} {f cur:List Int} {x:Int} (hf:fs[k]?=some f) (hc:cur[k]?=some x) (hx:x∈f) {Q:List Int⊕((Int×List Int)⊕(Bool×List Int))->Prop}
 (h1:f.idxOf x+1 < f.length->Q (.inr (.inr (true,Zaq cur (k:Int) (atI f ((f.idxOf x+1:Nat):Int)))))) (h2:¬ f.idxOf x+1 < f.length->Q (.inl (Zaq cur (k:Int) (atI f 0)))):Ret (Zao (ZFZ fs (k:Int)) (0,cur)) Q:=by
 have hfm:=List.mem_of_getElem? hf
 have hnf:=hn f hfm
 have hf1:=hfl f hfm
 have hi:=List.idxOf_lt_length_iff.2 hx
 refine Zac (fun q:Int×List Int=>∃ j:Nat,j<=f.length/\q=((j:Int),cur)/\(f.idxOf x+1 < f.length->j<=f.idxOf x)) (fun q=>f.length - q.1.toNat) ?_ _ ⟨0,by omega,rfl,fun _=>by omega⟩
 rintro _ ⟨j,hj,rfl,hji⟩
 have hw:=Zab j (by omega)
 simp only [ZFZ,ZGf,ZGh hf,ZGh hc,wq,reduceCtorEq,hw]
 refine ⟨fun hlt=>?_,fun hge=>?_⟩
 ·have hjl:j < f.length:=by omega
  obtain ⟨y,hy⟩:=ZeS hjl
  have hyx:y=x↔j=f.idxOf x:=by
   have ha:=List.getElem_idxOf hi
   constructor
   ·rintro rfl
    have:=hnf.idxOf_getElem j hjl
    rw [(List.getElem?_eq_some_iff.1 hy).2] at this
    exact this.symm
   ·rintro rfl
    rw [<-(List.getElem?_eq_some_iff.1 hy).2];exact ha
  simp only [ZGh hy,wq,reduceCtorEq]
  have hi1:inR f.length ((f.idxOf x+1:Nat):Int)↔f.idxOf x+1 < f.length:=⟨fun h=>by have:=h.2;omega,fun h=>⟨by omega,by omega⟩⟩
  refine ⟨fun e=>⟨fun hlt2=>?_,fun hge2=>⟨⟨j+1,by omega,rfl,fun h=>?_⟩,by omega⟩⟩,fun e=>⟨⟨j+1,by omega,rfl,fun h=>?_⟩,by omega⟩⟩
  ·obtain rfl:=hyx.1 e.symm
   rw [ZaB (hi1.2 (by omega))]
   exact ⟨_,rfl,h1 (by omega)⟩
  ·have:=hyx.1 e.symm;omega
  ·have:=hji h
   have:j≠f.idxOf x:=fun h=>e (hyx.2 h).symm
   omega
 ·rw [ZaB (l:=f) (i:=0) ⟨by omega,by omega⟩]
  exact ⟨_,rfl,h2 fun h=>by have:=hji h;omega⟩
theorem ZGi (s1:List Zae) (s2:List Zew) (s3:List (Int×Int×Int)) (s4 s5 s6 s7:Int) {xs:List Int} (h:ZFp fs xs):F11 s1 s2 s3 s4 s5 s6 s7 fs xs=some ((nxO fs xs).2,(nxO fs xs).1):=by
 refine Ret.eq ?_
 unfold F11
 have hxl:=h.len
 refine Zac (fun q:Int×List Int=>∃ k:Nat,∃ pre:List Int,k<=fs.length/\pre.length=k/\q=((k:Int),pre++xs.drop k)/\nxO fs xs=(pre++(nxO (fs.drop k) (xs.drop k)).1,(nxO (fs.drop k) (xs.drop k)).2)) (fun q=>fs.length - q.1.toNat) ?_ _ ⟨0,[],by omega,rfl,rfl,by simp⟩
 rintro _ ⟨k,pre,hk,hpl,rfl,he⟩
 have hw:=Zab k (by omega)
 have hlen:(pre++xs.drop k).length=fs.length:=by rw [List.length_append,List.length_drop,hpl];omega
 simp only [ZGg,ZGa,wq,reduceCtorEq,hw,hlen]
 refine ⟨fun hlt=>?_,fun hge=>?_⟩
 ·obtain ⟨f,hf⟩:=ZeS (l:=fs) (i:=k) (by omega)
  obtain ⟨x,hx⟩:=ZeS (l:=xs) (i:=k) (by omega)
  have hd:=h.get k f x hf hx
  rw [ZFj hf,ZFj hx] at he
  have hc:(pre++xs.drop k)[k]?=some x:=by
   rw [List.getElem?_append_right (by omega),hpl,Nat.sub_self,ZFj hx];rfl
  have hset:∀ y,Zaq (pre++xs.drop k) (k:Int) y=pre++y::xs.drop (k+1):=fun y=>by
   rw [Zcf,ZFj hx,List.set_append_right _ _ (by omega),hpl,Nat.sub_self];rfl
  simp only [ZGh hf,wq,reduceCtorEq]
  refine ⟨fun e0=>?_,fun e0=>?_⟩
  ·have hf0:f=[]:=List.length_eq_zero_iff.1 (by omega)
   subst hf0
   refine ⟨⟨k+1,pre++[x],by omega,by simp [hpl],?_,?_⟩,by omega⟩
   ·rw [ZFj hx];simp
   ·rw [he];simp [nxO]
  ·have hf0:f≠[]:=fun e=>e0 (by rw [e];rfl)
   have hxm:x∈f:=hd.elim (fun h=>absurd h.1 hf0) id
   refine ZFU hn hl hfl hf hc hxm (fun h1=>?_) (fun h2=>?_)
   ·simp only [wq,reduceCtorEq,hset]
    rw [he]
    simp only [nxO,if_neg hf0,if_pos h1]
   ·simp only [ZGa,wq,reduceCtorEq,hset,hw]
    refine ⟨⟨k+1,pre++[atI f 0],by omega,by simp [hpl],by simp,?_⟩,by omega⟩
    rw [he]
    simp only [nxO,if_neg hf0,if_neg h2]
    simp
 ·have hkn:k=fs.length:=by omega
  subst hkn
  rw [he,List.drop_length,List.drop_eq_nil_of_le (by omega)]
  simp [nxO]
end
structure Enu (s:Za5) (m:Nat) (least:Int) (found:Bool):Prop where
 all:∀ w r,ZFp (Zaz s) w->rkO (Zaz s) w < m->F20 s w=some r->r.2=true->found=true/\least<=Z4R r.1.2.2.1
 one:found=true->∃ w r,ZFp (Zaz s) w/\F20 s w=some r/\r.2=true/\Z4R r.1.2.2.1=least
theorem Enu.step {s:Za5} {w:List Int} (hw:ZFp (Zaz s) w) {least:Int} {found:Bool} (h:Enu s (rkO (Zaz s) w) least found) {r:GrT×Bool} (er:F20 s w=some r) :
 (r.2=true->found=false\/Z4R r.1.2.2.1 < least->Enu s (rkO (Zaz s) w+1) (Z4R r.1.2.2.1) true)/\((r.2=false\/found=true/\least<=Z4R r.1.2.2.1)->Enu s (rkO (Zaz s) w+1) least found):=by
 have low:∀ v,ZFp (Zaz s) v->rkO (Zaz s) v < rkO (Zaz s) w+1->v=w\/rkO (Zaz s) v < rkO (Zaz s) w:=fun v hv hlt=>by
  by_cases e:rkO (Zaz s) v=rkO (Zaz s) w
  ·exact .inl (ZFK hv hw e)
  ·exact .inr (by omega)
 refine ⟨fun hr hc=>⟨fun v r' hv hlt er' hr'=>⟨rfl,?_⟩,fun _=>⟨w,r,hw,er,hr,rfl⟩⟩,fun hc=>⟨fun v r' hv hlt er' hr'=>?_,h.one⟩⟩
 ·rcases low v hv hlt with rfl | hlt
  ·rw [er] at er';obtain rfl:=Option.some.inj er';exact Int.le_refl _
  ·obtain ⟨a,b⟩:=h.all v r' hv hlt er' hr'
   rcases hc with hc | hc
   ·rw [a] at hc;cases hc
   ·omega
 ·rcases low v hv hlt with rfl | hlt
  ·rw [er] at er';obtain rfl:=Option.some.inj er'
   rcases hc with hc | ⟨a,b⟩
   ·rw [hr'] at hc;cases hc
   ·exact ⟨a,b⟩
  ·exact h.all v r' hv hlt er' hr'
theorem ZFs {fs:List (List Int)} {k:Nat} {f:List Int} (h:fs[k]?=some f):ZFl (fs.take (k+1))=ZFl (fs.take k) * max 1 f.length:=by
 rw [List.take_add_one,h,ZF1]
 show _ * (max 1 f.length * 1)=_
 rw [Nat.mul_one]
theorem ZFo {fs:List (List Int)} {k:Nat} {f:List Int} (h:fs[k]?=some f):(ZF2 fs).take (k+1)=(ZF2 fs).take k++[if f=[] then -1 else atI f 0]:=by
 rw [List.take_add_one]
 unfold ZF2
 rw [List.getElem?_map,h];rfl
theorem ZFi (l pairs:List Int) (hl:∀ x∈l,I64 x):F4 l pairs=some true:=by
 refine Ret.eq ?_
 simp only [F4,wq,reduceCtorEq]
 refine (ZBu l pairs hl).mono fun s _ h2=>?_
 have hsat:=Zzu.satH h2
 have hn:s.1.length<=900:=by have:=h2.1.len;omega
 obtain ⟨hv,chL,rL,eL,hrL⟩:=Z7w hl h2
 have X:Ctx s:=⟨hsat,hv,hn⟩
 have hcl:=X.clen
 have htl:=X.tlen
 have hnd:=ZF9 X
 have hrl:∀ f∈Zaz s,f.length<=900:=fun f hf=>by
  obtain ⟨i,hi⟩:=List.getElem?_of_mem hf
  obtain ⟨h1,h2⟩:=ZFy X hi
  have:=X.cI.len _ h1
  rw [h2] at this
  omega
 simp only [ZAY hsat hv,wq,reduceCtorEq,Zcg,hcl,Int.toNat_natCast]
 refine ⟨fun _=>?_,fun h=>absurd h (by omega)⟩
 -- the first choice,and the number of all
 refine Zac (fun q:Int×Int×List Int=>∃ k:Nat,k<=s.1.length/\ZFl ((Zaz s).take k)<=300/\q=(((ZFl ((Zaz s).take k):Nat):Int),(k:Int),(ZF2 (Zaz s)).take k++List.replicate (s.1.length - k) 0)) (fun q=>s.1.length - q.2.1.toNat) ?_ _ ⟨0,by omega,by simp [ZFl],by simp [ZFl]⟩
 rintro _ ⟨k,hk,ht,rfl⟩
 have hw:=Zab k (by omega)
 have hil:(ZF2 (Zaz s)).length=s.1.length:=by unfold ZF2;rw [List.length_map,htl]
 have hlen:((ZF2 (Zaz s)).take k++List.replicate (s.1.length - k) 0).length=s.1.length:=by rw [List.length_append,List.length_take,List.length_replicate,hil];omega
 simp only [Z2f,Z2d,wq,reduceCtorEq,hw,hlen]
 refine ⟨fun hlt=>?_,fun hge=>?_⟩
 ·obtain ⟨f,hf⟩:=ZeS (l:=Zaz s) (i:=k) (by omega)
  have hfl:=hrl f (List.mem_of_getElem? hf)
  have hrep:List.replicate (s.1.length - k) (0:Int)=0::List.replicate (s.1.length - (k+1)) 0:=by rw [show s.1.length - k=(s.1.length - (k+1))+1 by omega,List.replicate_succ]
  have htk:((ZF2 (Zaz s)).take k).length=k:=by rw [List.length_take];omega
  have hset:∀ x y:Int,Zaq ((ZF2 (Zaz s)).take k++x::List.replicate (s.1.length - (k+1)) 0) (k:Int) y=(ZF2 (Zaz s)).take k++y::List.replicate (s.1.length - (k+1)) 0:=fun x y=>by
   rw [Zcf,List.set_append_right _ _ (by omega),htk,Nat.sub_self];rfl
  have hget:∀ x:Int,gI ((ZF2 (Zaz s)).take k++x::List.replicate (s.1.length - (k+1)) 0) (k:Int)=some x:=fun x=>by
   rw [Zax,List.getElem?_append_right (by omega),htk,Nat.sub_self];rfl
  simp only [hrep,hset,hget,ZGh hf,wq,reduceCtorEq]
  refine ⟨fun hp=>?_,fun hp=>?_⟩
  ·have hf0:f≠[]:=fun e=>by rw [e] at hp;simp at hp
   have hw2:IntKind.wrap .i64 (((ZFl ((Zaz s).take k):Nat):Int) * (f.length:Int))=((ZFl ((Zaz s).take (k+1)):Nat):Int):=by
    have h1:ZFl ((Zaz s).take (k+1))=ZFl ((Zaz s).take k) * f.length:=by rw [ZFs hf,Nat.max_eq_right (by omega)]
    have h2:ZFl ((Zaz s).take k) * f.length<=300 * 900:=Nat.mul_le_mul ht hfl
    rw [<-Int.natCast_mul,<-h1,Zau (by omega) (by omega)]
   rw [ZaB (l:=f) (i:=0) ⟨by omega,hp⟩]
   simp only [hw2,wq,reduceCtorEq]
   refine ⟨fun _=>⟨true,rfl,rfl⟩,fun hle=>⟨⟨k+1,by omega,by omega,?_⟩,by omega⟩⟩
   rw [ZFo hf,if_neg hf0];simp
  ·have hf0:f=[]:=List.length_eq_zero_iff.1 (by omega)
   refine ⟨fun _=>⟨true,rfl,rfl⟩,fun hle=>⟨⟨k+1,by omega,?_,?_⟩,by omega⟩⟩
   ·rw [ZFs hf,hf0];simpa using ht
   ·rw [ZFs hf,ZFo hf,if_pos hf0,hf0];simp
 ·have hkn:k=s.1.length:=by omega
  subst hkn
  rw [List.take_of_length_le (by omega)] at ht
  rw [Nat.sub_self,List.take_of_length_le (by omega),List.replicate_zero,List.append_nil]
  refine Zac (fun q:Int×Bool×Bool×List Int=>(q.2.2.1=true/\ZFp (Zaz s) q.2.2.2/\Enu s (rkO (Zaz s) q.2.2.2) q.1 q.2.1)\/(q.2.2.1=false/\Enu s (ZFl (Zaz s)) q.1 q.2.1)) (fun q=>if q.2.2.1=true then ZFl (Zaz s) - rkO (Zaz s) q.2.2.2 else 0) ?_ _ (.inl ⟨rfl,ZF3 _,⟨fun w r hw hlt=>?_,fun e=>by cases e⟩⟩)
  ·rintro ⟨least,found,more,ch⟩ hq
   dsimp only at hq
   rcases hq with ⟨rfl,hc,hE⟩ | ⟨rfl,hE⟩
   ·obtain ⟨r,er,_⟩:=ZzF hsat hn ch
    have hlt:=ZFJ hc
    obtain ⟨e1,e2⟩:=hE.step hc er
    have nxt:∀ (least':Int) (found':Bool),Enu s (rkO (Zaz s) ch+1) least' found'->Ret (ZEQ s (Zcg s) (least',found',ch)) (Zev (fun q:Int×Bool×Bool×List Int=>(q.2.2.1=true/\ZFp (Zaz s) q.2.2.2/\Enu s (rkO (Zaz s) q.2.2.2) q.1 q.2.1)\/(q.2.2.1=false/\Enu s (ZFl (Zaz s)) q.1 q.2.1)) (fun q=>if q.2.2.1=true then ZFl (Zaz s) - rkO (Zaz s) q.2.2.2 else 0) (fun b=>b=true) (least,found,true,ch)):=fun least' found' h=>by
     simp only [ZEQ,Zcg,ZGi hnd (by omega) (fun f hf=>by have:=hrl f hf;omega) _ _ _ _ _ _ _ hc,wq,reduceCtorEq]
     obtain ⟨n1,n2⟩:=ZFX hnd hc
     cases hb:(nxO (Zaz s) ch).2 with
     | true=>
      have e:=n1 hb
      refine ⟨.inl ⟨rfl,ZFx hc,by rw [e];exact h⟩,?_⟩
      simp only [if_true,e];omega
     | false=>
      have e:=n2 hb
      refine ⟨.inr ⟨rfl,by rw [<-e];exact h⟩,?_⟩
      simp only [if_true];simp;omega
    simp only [Z2e,Z5D hsat hn er,ZGl,wq,reduceCtorEq]
    refine ⟨fun h1=>⟨fun h2=>nxt _ _ (e1 h1 (.inl h2)),fun h2=>⟨fun h3=>nxt _ _ (e1 h1 (.inr h3)),fun h3=>nxt _ _ (e2 (.inr ⟨h2,h3⟩))⟩⟩,fun h1=>nxt _ _ (e2 (.inl h1))⟩
   ·simp only [Z2e,wq,reduceCtorEq]
    refine (ZBv hsat hn 20000).mono fun a _ ha=>?_
    obtain ⟨a0,⟨w,r,hw,er,hr,ea⟩,hlo⟩:=ZFQ hsat hn hv ht ha eL hrL
    obtain ⟨f1,f2⟩:=hE.all w r hw (ZFJ hw) er hr
    obtain ⟨w',r',hw',er',hr',ea'⟩:=hE.one f1
    have:=hlo w' r' er' hr'
    subst f1
    simp only [a0,ZGm,wq,reduceCtorEq]
    exact ⟨fun _=>⟨true,rfl,rfl⟩,fun h=>by omega⟩
  ·rw [ZFM _ hnd] at hlt;omega
theorem ZFk (x0 x1:List Int) (_:x0.length<=9223372036854775807) (hw0:∀ x∈x0,I64 x) (_:x1.length<=9223372036854775807) (_:∀ x∈x1,I64 x):F4 x0 x1=some true:=
 ZFi x0 x1 hw0
end Go.Dat
