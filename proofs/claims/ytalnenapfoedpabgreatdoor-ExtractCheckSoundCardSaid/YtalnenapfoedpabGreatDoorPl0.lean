import Derived.Test.YtalnenapfoedpabGreatDoorE2Run
import Derived.Test.YtalnenapfoedpabGreatDoorFd
noncomputable section
set_option linter.unusedVariables false
set_option linter.unusedSimpArgs false
set_option linter.unusedSectionVars false
open Go.IntKind (wrap)
open Option.some (inj)
open List (length_cons length_nil take_add_one getElem?_eq_getElem replicate mem_of_getElem? mem_append take_length take_of_length_le mem_singleton mem_map length_replicate mem_cons getElem?_map getElem?_append_left getElem?_append_right length_take length_append getElem?_eq_none mem_cons_of_mem flatMap_cons map_cons length_map mem_of_mem_take cons_append getElem_mem getElem?_of_mem drop_eq_getElem_cons ext_getElem? all_eq_true set_append_right getElem?_take map_append replicate_succ sum_cons mem_filter mem_range nil_append flatMap_nil append_nil any_eq_true count_set)
open Option (bind_some getD map_some toList_some bind_none map_none)
open Int (tdiv tmod toNat_natCast toNat fdiv)
open Bool (false_eq_true)
open Nat (le_refl pow_add reducePow mul_comm pow_succ pow_zero div_one mod_eq_of_lt)
namespace Go.Dat
open Go.Eng
theorem Zau {n:Int} (h1:-9223372036854775808<=n) (h2:n<=9223372036854775807):wrap .i64 n=n:=by
 show (let m:=n % (2 ^ 64:Int);if true&&m>=(2 ^ 63:Int) then m - (2 ^ 64:Int) else m)=n
 simp only [Bool.true_and,ge_iff_le,decide_eq_true_eq]
 split<;>omega
variable {α β σ:Type}
def Ret (o:Option α) (Q:α->Prop):Prop:=∃ a,o=some a/\Q a
theorem ZaH {a:α} {Q:α->Prop}:Ret (some a) Q=Q a:=by
 apply propext
 constructor
 ·rintro ⟨b,h,q⟩;cases h;exact q
 ·intro q;exact ⟨a,rfl,q⟩
theorem Zgg {Q:α->Prop}:Ret (none:Option α) Q=False:=by
 apply propext
 constructor
 ·rintro ⟨b,h,q⟩;cases h
 ·intro h;exact h.elim
theorem Zmt {o:Option α} {f:α->Option β} {Q:β->Prop}:Ret (o.bind f) Q=Ret o fun a=>Ret (f a) Q:=by
 cases o with
 | none=>simp only [bind_none,Zgg]
 | some a=>simp only [bind_some,ZaH]
theorem ZpH {o:Option α} {f:α->β} {Q:β->Prop}:Ret (o.map f) Q=Ret o fun a=>Q (f a):=by
 cases o with
 | none=>simp only [map_none,Zgg]
 | some a=>simp only [map_some,ZaH]
theorem ZpI {b:Bool} {x y:Option α} {Q:α->Prop}:Ret (bif b then x else y) Q=((b=true->Ret x Q)/\(b=false->Ret y Q)):=by
 cases b<;>simp
theorem Ret.mono {o:Option α} {Q R:α->Prop} (h:Ret o Q) (i:∀ a,o=some a->Q a->R a):Ret o R:=by
 obtain ⟨a,e,q⟩:=h;exact ⟨a,e,i a e q⟩
theorem Ret.eq {o:Option α} {a:α} (h:Ret o fun b=>b=a):o=some a:=by obtain ⟨b,e,q⟩:=h;rw [e,q]
theorem Za4 {o:Option α} {a:α} (h:o=some a) {Q:α->Prop}:Ret o Q=Q a:=by rw [h,ZaH]
theorem Zn9 {l:List α} {i:Int} (h0:0<=i) (h1:i < l.length):∃ x,gI l i=some x/\x∈l:=by
 have h:i.toNat < l.length:=by omega
 refine ⟨l[i.toNat],?_,getElem_mem h⟩
 unfold gI;rw [if_pos h0,getElem?_eq_getElem h]
theorem Zax (l:List α) (k:Nat):gI l (k:Int)=l[k]?:=by
 unfold gI;rw [if_pos (by omega)];rfl
theorem ZaI {l:List α} {i:Int} {x:α} (h:gI l i=some x):0<=i/\i < l.length/\l[i.toNat]?=some x:=by
 unfold gI at h
 split at h
 ·have:=(List.getElem?_eq_some_iff.1 h).1;exact ⟨‹_›,by omega,h⟩
 ·cases h
theorem ZeR {l:List α} {i:Int} {x:α} (h:gI l i=some x):x∈l:=mem_of_getElem? (ZaI h).2.2
theorem Zaj {l:List α} {i:Int} {Q:α->Prop} (h0:0<=i) (h1:i < l.length) (h:∀ x,gI l i=some x->x∈l->Q x):Ret (gI l i) Q:=by
 obtain ⟨x,e,m⟩:=Zn9 h0 h1
 exact ⟨x,e,h x e m⟩
theorem Zay (l:List α) (i:Int) (x:α):(Zaq l i x).length=l.length:=by simp [Zaq]
theorem ZtA {l:List α} {i:Int} (x:α) (h0:0<=i) (h1:i < l.length):gI (Zaq l i x) i=some x:=by
 unfold gI Zaq;rw [if_pos h0,List.getElem?_set_self (by omega)]
theorem Zf1 {F:σ->Option (σ⊕β)}:∀ {n m:Nat} {s:σ} {b:β},n<=m->Zd9 F n s=some b->Zd9 F m s=some b
 | 0,_,_,_,_,h=>by cases h
 | n+1,0,_,_,hm,_=>by omega
 | n+1,m+1,s,b,hm,h=>by
  unfold Zd9 at h |-
  cases hF:F s with
  | none=>rw [hF] at h;cases h
  | some r=>
   rw [hF] at h
   cases r with
   | inl s'=>exact Zf1 (n:=n) (m:=m) (by omega) h
   | inr b'=>exact h
theorem ZiQ {F:σ->Option (σ⊕β)} {n:Nat} {s:σ} {b:β} (h:Zd9 F n s=some b):Zao F s=some b:=by
 have hex:∃ b,∃ n,Zd9 F n s=some b:=⟨b,n,h⟩
 unfold Zao
 rw [dif_pos hex]
 obtain ⟨m,hm⟩:=hex.choose_spec
 have h1:=Zf1 (Nat.le_max_left n m) h
 have h2:=Zf1 (Nat.le_max_right n m) hm
 rw [h1] at h2
 rw [<-inj h2]
theorem ZhS {F:σ->Option (σ⊕β)} {s s':σ} (h:F s=some (.inl s')):Zao F s=Zao F s':=by
 have key:(∃ b,∃ n,Zd9 F n s=some b)↔∃ b,∃ n,Zd9 F n s'=some b:=by
  constructor
  ·rintro ⟨b,n,e⟩
   cases n with
   | zero=>cases e
   | succ n=>
    unfold Zd9 at e;rw [h] at e;exact ⟨b,n,e⟩
  ·rintro ⟨b,n,e⟩
   refine ⟨b,n+1,?_⟩
   unfold Zd9;rw [h];exact e
 by_cases hx:∃ b,∃ n,Zd9 F n s'=some b
 ·obtain ⟨b,n,e⟩:=hx
  rw [ZiQ e]
  refine ZiQ (n:=n+1) ?_
  unfold Zd9;rw [h];exact e
 ·have hy:¬ ∃ b,∃ n,Zd9 F n s=some b:=fun x=>hx (key.1 x)
  unfold Zao
  rw [dif_neg hx,dif_neg hy]
theorem ZgS {F:σ->Option (σ⊕β)} {s:σ} {b:β} (h:F s=some (.inr b)):Zao F s=some b:=ZiQ (n:=1) (by unfold Zd9;rw [h];rfl)
def Zev (I:σ->Prop) (m:σ->Nat) (Q:β->Prop) (s:σ):σ⊕β->Prop
 | .inl s'=>I s'/\m s' < m s
 | .inr b=>Q b
theorem ZgT {I:σ->Prop} {m:σ->Nat} {Q:β->Prop} {s s':σ}:Zev I m Q s (.inl s')=(I s'/\m s' < m s):=rfl
theorem Zkj {I:σ->Prop} {m:σ->Nat} {Q:β->Prop} {s:σ} {b:β}:Zev I m Q s (.inr b)=Q b:=rfl
theorem Zac {F:σ->Option (σ⊕β)} (I:σ->Prop) (m:σ->Nat) {Q:β->Prop} (h:∀ s,I s->Ret (F s) (Zev I m Q s)):∀ s,I s->Ret (Zao F s) Q:=by
 intro s
 induction hn:m s using Nat.strongRecOn generalizing s with
 | _ n ih=>
  intro hI
  obtain ⟨r,e,q⟩:=h s hI
  cases r with
  | inr b=>exact ⟨b,ZgS e,q⟩
  | inl s'=>
   obtain ⟨b,e2,q2⟩:=ih (m s') (by rw [<-hn];exact q.2) s' rfl q.1
   exact ⟨b,by rw [ZhS e];exact e2,q2⟩
theorem wp:type_of% (And.intro @ZaH (And.intro @Zgg (And.intro @Zmt (And.intro @ZpH (And.intro @ZpI (And.intro @decide_eq_true_eq (And.intro @decide_eq_false_iff_not
 (And.intro @ZgT (And.intro @Zkj (And.intro @Bool.not_eq_true' (And.intro @Bool.not_eq_false' (And.intro @beq_iff_eq.{0} (And.intro @bne_iff_ne.{0} (And.intro @beq_eq_false_iff_ne.{0} (And.intro @bne_eq_false_iff_eq.{0}
 (And.intro @Int.not_le (And.intro @Int.not_lt (And.intro @false_implies (And.intro @true_implies (And.intro @and_true (And.intro @true_and
 (And.intro @not_true_eq_false (And.intro @not_false_eq_true (And.intro @decide_true (And.intro @decide_false (And.intro @Bool.not_true @Bool.not_false)))))))))))))))))))))))))):=
 And.intro @ZaH (And.intro @Zgg (And.intro @Zmt (And.intro @ZpH (And.intro @ZpI (And.intro @decide_eq_true_eq (And.intro @decide_eq_false_iff_not
 (And.intro @ZgT (And.intro @Zkj (And.intro @Bool.not_eq_true' (And.intro @Bool.not_eq_false' (And.intro @beq_iff_eq.{0} (And.intro @bne_iff_ne.{0} (And.intro @beq_eq_false_iff_ne.{0} (And.intro @bne_eq_false_iff_eq.{0}
 (And.intro @Int.not_le (And.intro @Int.not_lt (And.intro @false_implies (And.intro @true_implies (And.intro @and_true (And.intro @true_and
 (And.intro @not_true_eq_false (And.intro @not_false_eq_true (And.intro @decide_true (And.intro @decide_false (And.intro @Bool.not_true @Bool.not_false)))))))))))))))))))))))))
theorem wq:type_of% (And.intro @wp (And.intro @Sum.elim_inl.{0,1,0} (And.intro @Sum.elim_inr.{0,1,0} (And.intro @ne_eq.{1} (And.intro @ge_iff_le.{0} (And.intro @gt_iff_lt.{0} (And.intro @forall_const.{0} (And.intro @forall_const.{1} (And.intro Bool.true_eq_false (And.intro false_eq_true (And.intro @implies_true.{0} (@implies_true.{1})))))))))))):=And.intro @wp (And.intro @Sum.elim_inl.{0,1,0} (And.intro @Sum.elim_inr.{0,1,0} (And.intro @ne_eq.{1} (And.intro @ge_iff_le.{0} (And.intro @gt_iff_lt.{0} (And.intro @forall_const.{0} (And.intro @forall_const.{1} (And.intro Bool.true_eq_false (And.intro false_eq_true (And.intro @implies_true.{0} (@implies_true.{1})))))))))))
end Go.Dat
namespace Go.Dat
open Go.Eng
abbrev Zae:=Int×Int×List Int
abbrev Zew:=Int×Int×Int×List Int×List Int
abbrev Za5:=List Zae×List Zew×List (Int×Int×Int)×Int×Int×Int×Int
def inR (n:Nat) (i:Int):Prop:=0<=i/\i < n
instance (n:Nat) (i:Int):Decidable (inR n i):=by unfold inR;infer_instance
def ZnA (n m:Int):Int:=if n.tmod m < 0 then n.tmod m+m else n.tmod m
theorem ZpJ (n m:Int) (hm:0 < m):-m < n.tmod m/\n.tmod m < m:=by
 constructor
 ·have:=Int.tmod_lt_of_pos (-n) hm;rw [Int.neg_tmod] at this;omega
 ·exact Int.tmod_lt_of_pos n hm
theorem Zmu (n m:Int) (hm:0 < m):0<=ZnA n m/\ZnA n m < m:=by
 have:=ZpJ n m hm
 unfold ZnA;split<;>omega
theorem ZED (n m:Int) (hm:0 < m) (h2:m<=9223372036854775807):F17 n m=some (ZnA n m):=by
 have hb:=ZpJ n m hm
 refine Ret.eq ?_
 simp only [F17,Z8T,wq,reduceCtorEq]
 refine ⟨by omega,fun _=>⟨fun h=>?_,fun h=>?_⟩⟩
 ·rw [Zau (by omega) (by omega),ZnA,if_pos h]
 ·rw [ZnA,if_neg (by omega)]
theorem ZCc {n m:Int} {Q:Int->Prop} (hm:0 < m) (h2:m<=9223372036854775807) (h:∀ r,0<=r->r < m->Q r):Ret (F17 n m) Q:=by
 rw [ZED n m hm h2,ZaH]
 exact h _ (Zmu n m hm).1 (Zmu n m hm).2
theorem Zab (k:Nat) (h:k<=9223372036854775806):wrap .i64 ((k:Int)+1)=((k+1:Nat):Int):=by rw [Zau (by omega) (by omega)];omega
theorem Zcf {α:Type} (l:List α) (i:Nat) (x:α):Zaq l (i:Int) x=l.set i x:=rfl
theorem ZaA {α:Type} {l:List α} {i:Nat} {x:α} (h:l[i]?=some x):i < l.length:=(List.getElem?_eq_some_iff.1 h).1
theorem ZeS {α:Type} {l:List α} {i:Nat} (h:i < l.length):∃ x,l[i]?=some x:=⟨_,getElem?_eq_getElem h⟩
theorem ZhW (ok:Bool) (n:Int):F85 ok n=some (bif ok then n else 0):=by cases ok<;>rfl
theorem Zzm (k:List Int) (h:k.length<=1000000):Ret (F86 k) fun _=>True:=by
 unfold F86
 refine Zac (fun i:Int=>∃ n:Nat,i=n/\n<=k.length) (fun i=>k.length - i.toNat) ?_ _ ⟨0,rfl,by omega⟩
 rintro _ ⟨n,rfl,hn⟩
 simp only [ZrH,wq,reduceCtorEq]
 refine fun hlt=>Zaj (by omega) hlt fun y hy hm=>?_
 have hw:=Zab n (by omega)
 simp only [wq,reduceCtorEq,hw]
 exact fun _=>⟨⟨n+1,rfl,by omega⟩,by omega⟩
theorem ZC9:F86 []=some true:=by
 unfold F86
 exact ZgS rfl
theorem Zzp (op:Int):Ret (F93 op) fun _=>True:=by
 simp only [F93,ZwM,wq,reduceCtorEq]
theorem ZCX (op n:Int):Ret (F84 op n) fun _=>True:=by
 simp only [F84,wq,reduceCtorEq]
 refine fun _=>Ret.mono (Zzp op) fun r _ _=>?_
 simp only [ZuH,wq,reduceCtorEq]
def ZaY (op:Int):Int×Bool:=
 if op=1\/op=2\/op=3\/op=26 then (0,true) else
 if op=20\/op=21\/op=24\/op=25 then (1,true) else
 if (4<=op/\op<=19)\/op=23\/op=27\/op=29 then (2,true) else
 if op=22\/op=28 then (3,true) else
 if op=30\/op=31 then (-1,true) else (0,false)
theorem ZAR (op:Int):F31 op=some (ZaY op):=by
 refine Ret.eq ?_
 simp only [F31,Z5B,Z9z,ZD2,ZD1,ZD0,wq,reduceCtorEq,ZaY]
 refine ⟨fun h=>?_,fun h=>?_⟩<;>(repeat' first | apply And.intro | intro _)<;>(repeat' split)<;>first | rfl | (exfalso;omega)
theorem Zmw {α:Type} (l:List α) (a b:Int):(slI l a b).length<=l.length:=by
 unfold slI;simp;omega
theorem ZEE (l:List Zae) (n:Zae) (k:List Int) (hk:k.length=n.2.2.length) (hl:k.length<=1000000) (hkid:∀ x∈n.2.2,0<=x/\x < l.length) (hb:∀ x∈l,x.2.2.length<=1000000) (ha:(ZaY n.1).2=true) (hr:0<=(ZaY n.1).1->(n.2.2.length:Int)=(ZaY n.1).1):Ret (Z56 l n k false) fun _=>True:=by
 have h22:n.1=22->k.length=3:=fun h=>by rw [h] at hr;have:=hr (by decide);rw [show (ZaY 22).1=3 from rfl] at this;omega
 have h28:n.1=28->k.length=3:=fun h=>by rw [h] at hr;have:=hr (by decide);rw [show (ZaY 28).1=3 from rfl] at this;omega
 have h23:n.1=23->k.length=2:=fun h=>by rw [h] at hr;have:=hr (by decide);rw [show (ZaY 23).1=2 from rfl] at this;omega
 have h27:n.1=27->k.length=2:=fun h=>by rw [h] at hr;have:=hr (by decide);rw [show (ZaY 27).1=2 from rfl] at this;omega
 have h29:n.1=29->k.length=2:=fun h=>by rw [h] at hr;have:=hr (by decide);rw [show (ZaY 29).1=2 from rfl] at this;omega
 have h24:n.1=24->k.length=1:=fun h=>by rw [h] at hr;have:=hr (by decide);rw [show (ZaY 24).1=1 from rfl] at this;omega
 have h25:n.1=25->k.length=1:=fun h=>by rw [h] at hr;have:=hr (by decide);rw [show (ZaY 25).1=1 from rfl] at this;omega
 have hd:tdiv (k.length:Int) 2=((k.length / 2:Nat):Int):=by rw [Int.tdiv_eq_ediv_of_nonneg (by omega)];rfl
 have hm:tmod (k.length:Int) 2=((k.length % 2:Nat):Int):=by rw [Int.tmod_eq_emod_of_nonneg (by omega)];rfl
 have hq:wrap .i64 ((k.length / 2:Nat):Int)=((k.length / 2:Nat):Int):=Zau (by omega) (by omega)
 have hq1:wrap .i64 (((k.length / 2:Nat):Int)+1)=((k.length / 2+1:Nat):Int):=Zab _ (by omega)
 have hq2:wrap .i64 (((k.length / 2:Nat):Int)+2)=((k.length / 2+2:Nat):Int):=by rw [Zau (by omega) (by omega)];omega
 have h64:∀ a b:Int,Ret (F86 (slI k a b)) fun _=>True:=fun a b=>Zzm _ (by have:=Zmw k a b;omega)
 have h64':Ret (F86 k) fun _=>True:=Zzm _ hl
 simp only [Z56,Z57,Z59,ZCo,ZCe,ZCl,ZCm,ZCp,ZCx,ZhW,wq,reduceCtorEq,hd,hm,hq,hq1,hq2,h64,h64']
 have hkid0:n.1=25->Ret (gI n.2.2 0) fun a=>Ret (gI l a) fun a=>True:=fun h=>Zaj (by omega) (by have:=h25 h;omega) fun x _ hx=>Zaj (hkid x hx).1 (hkid x hx).2 fun _ _ _=>trivial
 repeat' first | apply And.intro | (intro _) | exact hkid0 ‹_› | exact Zzm _ hl | refine Ret.mono (h64 _ _) fun _ _ _=>?_ | refine Zaj (by omega) (by omega) fun _ _ _=>?_ | trivial | omega
theorem ZCY (l:List Zae) (n:Zae) (k:List Int) (hk:k.length=n.2.2.length) (hl:k.length<=1000000) (hkid:∀ x∈n.2.2,0<=x/\x < l.length) (hb:∀ x∈l,x.2.2.length<=1000000):Ret (F64 l n k) fun _=>True:=by
 have ht:Ret (Z56 l n k true) fun _=>True:=by simp only [Z56,wq,reduceCtorEq]
 have hf:=ZEE l n k hk hl hkid hb
 simp only [F64,ZAR,wq,reduceCtorEq]
 refine ⟨fun _=>ht,fun h1=>⟨fun h2=>⟨fun _=>ht,fun h3=>?_⟩,fun h2=>?_⟩⟩
 ·refine Ret.mono (ZCX _ _) fun b _ _=>?_
  cases b
  ·exact ht
  ·exact hf h1 (fun _=>h3)
 ·refine Ret.mono (ZCX _ _) fun b _ _=>?_
  cases b
  ·exact ht
  ·exact hf h1 (fun h=>by omega)
theorem ZDv (l:List Zae) (m:Int) (hm:m=0\/m=1):F64 l (2,m,[]) []=some 1:=by
 rcases hm with rfl | rfl<;>simp [F64,ZAR,ZaY,F84,F93,ZuH,Z56,ZCe,F85,ZC9]
theorem ZDw (l:List Zae):F64 l (26,0,[]) []=some 2:=by
 simp [F64,ZAR,ZaY,F84,F93,ZwM,ZuH,Z56,ZCe,F85,ZC9]
def ZyU (n:Zae) (i:Int):Prop:=∀ x∈n.2.2,0<=x/\x < i
theorem ZyV (l:List Zae) (hk:∀ x∈l,x.2.2.length<=100000) (i:Nat) (n:Zae) (hn:l[i]?=some n) (out:List Int) (ho:out.length=i)
 {Q:(Bool×List Int×List Int)⊕((List Int)⊕((Int×List Int)⊕(List Int)))->Prop} (hQ:∀ ok k,(ok=true->k.length=n.2.2.length/\ZyU n i)->(n.2.2=[]->ok=true/\k=[])->Q (.inl (ok,out,k))) :
 Ret (Zao (ZuG l (i:Int)) (true,0,out,[])) Q:=by
 have hb:=hk n (mem_of_getElem? hn)
 refine Zac (fun q:Bool×Int×List Int×List Int=>q.1=true/\q.2.2.1=out/\∃ j:Nat,q.2.1=j/\j<=n.2.2.length/\q.2.2.2.length=j/\∀ (p:Nat) x,p < j->n.2.2[p]?=some x->0<=x/\x < (i:Int)) (fun q=>n.2.2.length - q.2.1.toNat) ?_ _ ⟨rfl,rfl,0,rfl,by omega,rfl,fun p x hp=>by omega⟩
 rintro ⟨ok,j',out',k⟩ ⟨h1,h2,j,h3,hj,h4,hin⟩
 dsimp only at h1 h2 h3 h4
 subst h1 h2 h3
 have hg:gI l (i:Int)=some n:=by rw [Zax,hn]
 simp only [ZuG,wq,reduceCtorEq,Za4 hg]
 refine ⟨fun hlt=>Zaj (by omega) hlt fun y hy hm=>?_,fun hge=>?_⟩
 ·have hbad:Q (.inl (false,out',k)):=hQ _ _ (fun h=>by cases h) (fun h=>by rw [h] at hm;cases hm)
  rw [Zax] at hy
  simp only [ZDc,wq,reduceCtorEq]
  refine ⟨fun _=>hbad,fun h0=>⟨fun _=>hbad,fun h1=>Zaj h0 (by omega) fun z hz _=>?_⟩⟩
  simp only [Za4 hz,wq,reduceCtorEq]
  refine ⟨fun _=>hbad,fun _=>⟨fun _=>?_,fun h=>absurd h (by simp only [length_cons,length_nil];omega)⟩⟩
  have hw:=Zab j (by omega)
  rw [hw]
  refine ⟨⟨j+1,rfl,by omega,by simp;omega,fun p x hp hx=>?_⟩,by omega⟩
  by_cases e:p < j
  ·exact hin p x e hx
  ·have:p=j:=by omega
   subst this
   rw [hy] at hx;cases hx
   omega
 ·refine hQ _ _ (fun _=>⟨by omega,fun x hx=>?_⟩) (fun h=>⟨rfl,?_⟩)
  ·obtain ⟨p,hp⟩:=getElem?_of_mem hx
   exact hin p x (by have:=(List.getElem?_eq_some_iff.1 hp).1;omega) hp
  ·rw [h] at hj
   exact List.eq_nil_of_length_eq_zero (by simp only [length_nil] at hj;omega)
def Zkk (l:List Zae) (m:Nat) (out:List Int):Prop:=out.length=m/\(∀ (i:Nat) (c:Int),(c=0\/c=1)->i < m->l[i]?=some (2,c,[])->out[i]?=some 1)/\(∀ i:Nat,i < m->l[i]?=some (26,0,[])->out[i]?=some 2)
theorem Zkk.push {l:List Zae} {m:Nat} {out:List Int} (h:Zkk l m out) {r:Int} (h1:∀ c:Int,(c=0\/c=1)->l[m]?=some (2,c,[])->r=1) (h2:l[m]?=some (26,0,[])->r=2):Zkk l (m+1) (out++[r]):=by
 obtain ⟨a,b,c⟩:=h
 refine ⟨by simp [a],fun i v hv hi hl=>?_,fun i hi hl=>?_⟩
 ·by_cases e:i < m
  ·rw [getElem?_append_left (by omega)];exact b i v hv e hl
  ·have:i=m:=by omega
   subst this
   rw [getElem?_append_right (by omega),a,h1 v hv hl];simp
 ·by_cases e:i < m
  ·rw [getElem?_append_left (by omega)];exact c i e hl
  ·have:i=m:=by omega
   subst this
   rw [getElem?_append_right (by omega),a,h2 hl];simp
theorem ZEF (l:List Zae) (hl:l.length<=100000) (hk:∀ x∈l,x.2.2.length<=100000):Ret (F38 l) (Zkk l l.length):=by
 unfold F38
 refine Zac (fun q:Int×List Int=>∃ m:Nat,q.1=m/\m<=l.length/\Zkk l m q.2) (fun q=>l.length - q.1.toNat) ?_ _ ⟨0,rfl,by omega,rfl,fun i v hv hi=>by omega,fun i hi=>by omega⟩
 rintro ⟨i',out⟩ ⟨m,e,hm,hs⟩
 dsimp only at e hs
 subst e
 simp only [Zx2,wq,reduceCtorEq]
 refine ⟨fun hlt=>?_,fun hge=>?_⟩
 ·have hml:m < l.length:=by omega
  have hn:l[m]?=some l[m]:=getElem?_eq_getElem hml
  have hg:gI l (m:Int)=some l[m]:=by rw [Zax,hn]
  have ho:=hs.1
  have hw:=Zab m (by omega)
  refine ZyV l hk m l[m] hn out ho fun ok k h1 h2=>?_
  simp only [wq,reduceCtorEq,Zx0,Za4 hg]
  cases ok
  ·simp only [wq,reduceCtorEq]
   refine ⟨fun _=>?_,fun h=>absurd h (by simp only [length_cons,length_nil];omega)⟩
   simp only [wq,reduceCtorEq,Zx1,hw]
   refine ⟨⟨m+1,rfl,by omega,hs.push (fun c hc h=>?_) (fun h=>?_)⟩,by omega⟩
   all_goals
    rw [hn] at h
    have:=(h2 (by rw [inj h])).1
    cases this
  ·obtain ⟨k1,k2⟩:=h1 rfl
   have hb:=hk l[m] (getElem_mem hml)
   simp only [wq,reduceCtorEq]
   refine Ret.mono (ZCY l l[m] k k1 (by omega) (fun x hx=>by have:=k2 x hx;omega) (fun x hx=>by have:=hk x hx;omega)) fun r hr _=>?_
   refine ⟨fun _=>?_,fun h=>absurd h (by simp only [length_cons,length_nil];omega)⟩
   simp only [wq,reduceCtorEq,Zx1,hw]
   refine ⟨⟨m+1,rfl,by omega,hs.push (fun c hc h=>?_) (fun h=>?_)⟩,by omega⟩
   all_goals
    rw [hn] at h
    have h:=inj h
    have hk0:=(h2 (by rw [h])).2
    rw [h,hk0] at hr
   ·rw [ZDv l c hc] at hr;exact (inj hr).symm
   ·rw [ZDw] at hr;exact (inj hr).symm
 ·have:m=l.length:=by omega
  subst this
  exact hs
theorem ZAT (l:List Zae) (hl:l.length<=100000) (hk:∀ x∈l,x.2.2.length<=100000) (h0:l[0]?=some (2,0,[])) (h2:l[2]?=some (26,0,[])) (sort n:Int) (hs:sort=1\/sort=2):Ret (F32 l sort n) fun r=>0<=r/\r < l.length:=by
 have l2:2 < l.length:=(List.getElem?_eq_some_iff.1 h2).1
 simp only [F32,wq,reduceCtorEq]
 refine Ret.mono (ZEF l hl hk) fun so _ ⟨s1,s2,s3⟩=>?_
 have g0:=s2 0 0 (.inl rfl) (by omega) h0
 have g2:=s3 2 l2 h2
 refine Zac (fun q:Int×List Int=>∃ m:Nat,q.1=m/\m<=l.length/\q.2.length<=m/\(∀ x∈q.2,0<=x/\x < l.length)/\(∀ i:Nat,i < m->so[i]?=some sort->q.2≠[])) (fun q=>l.length - q.1.toNat) ?_ _ ⟨0,rfl,by omega,by simp,(fun x hx=>by cases hx),fun i hi=>by omega⟩
 rintro ⟨i',all⟩ ⟨m,e,hm,ha,hx,hne⟩
 dsimp only at e ha hx hne
 subst e
 simp only [Z99,Z8M,wq,reduceCtorEq]
 refine ⟨fun hlt=>Zaj (by omega) (by omega) fun y hy _=>?_,fun hge=>?_⟩
 ·have hw:=Zab m (by omega)
  rw [Zax] at hy
  rw [hw]
  refine ⟨fun h=>⟨fun _=>?_,fun h=>absurd h (by simp only [length_cons,length_nil];omega)⟩,fun h=>?_⟩
  ·refine ⟨⟨m+1,rfl,by omega,by simp;omega,fun x h=>?_,fun i _ _=>by simp⟩,by omega⟩
   rcases mem_append.1 h with h | h
   ·exact hx x h
   ·rw [mem_singleton.1 h];omega
  ·refine ⟨⟨m+1,rfl,by omega,by omega,hx,fun i hi hso=>?_⟩,by omega⟩
   by_cases e:i < m
   ·exact hne i e hso
   ·have:i=m:=by omega
    subst this
    rw [hy] at hso;exact absurd (inj hso) h
 ·have hnn:all≠[]:=by
   rcases hs with rfl | rfl
   ·exact hne 0 (by omega) g0
   ·exact hne 2 (by omega) g2
  have hpos:0 < all.length:=List.length_pos_iff.2 hnn
  refine ZCc (by omega) (by omega) fun r r0 r1=>?_
  rw [Zau (n:=(all.length:Int) - 1) (by omega) (by omega),Zau (by omega) (by omega)]
  refine Zaj (by omega) (by omega) fun y hy hm=>?_
  simp only [Za4 hy]
  exact hx y hm
def ZfI (k:List Int):Bool:=k.all (·==1)
theorem ZpM (k:List Int) (n:Nat) (x:Int) (h:k[n]?=some x):ZfI (k.drop n)=(x==1&&ZfI (k.drop (n+1))):=by
 have hl:=ZaA h
 rw [drop_eq_getElem_cons hl]
 have:k[n]=x:=by rw [getElem?_eq_getElem hl] at h;exact inj h
 rw [this];simp [ZfI]
theorem Zzb (k:List Int) (hk:k.length<=1000000):F86 k=some (ZfI k):=by
 refine Ret.eq ?_
 unfold F86
 refine Zac (fun i:Int=>∃ n:Nat,i=n/\n<=k.length/\ZfI (k.drop n)=ZfI k) (fun i=>k.length - i.toNat) ?_ _ ⟨0,rfl,by omega,rfl⟩
 rintro _ ⟨n,rfl,hn,ha⟩
 simp only [ZrH,wq,reduceCtorEq]
 have hw:=Zab n (by omega)
 refine ⟨fun hlt=>Zaj (by omega) hlt fun y hy hm=>?_,fun hge=>?_⟩
 ·rw [Zax] at hy
  have hd:=ZpM k n y hy
  simp only [wq,reduceCtorEq,hw]
  refine ⟨fun h=>?_,fun h=>⟨⟨n+1,rfl,by omega,?_⟩,by omega⟩⟩
  ·rw [<-ha,hd];simp [h]
  ·rw [<-ha,hd];simp [h]
 ·have:n=k.length:=by omega
  subst this
  rw [<-ha,List.drop_length];rfl
theorem ZvG (s w:List Int) (hs:s.length<=w.length) (hl:s.length<=1000000):Z0s s w=some (decide (w.take s.length=s)):=by
 refine Ret.eq ?_
 unfold Z0s
 refine Zac (fun i:Int=>∃ n:Nat,i=n/\n<=s.length/\w.take n=s.take n) (fun i=>s.length - i.toNat) ?_ _ ⟨0,rfl,by omega,by simp⟩
 rintro _ ⟨n,rfl,hn,ha⟩
 simp only [Zt1,wq,reduceCtorEq]
 have hw:=Zab n (by omega)
 refine ⟨fun hlt=>Zaj (by omega) hlt fun y hy _=>Zaj (by omega) (by omega) fun z hz _=>?_,fun hge=>?_⟩
 ·rw [Zax] at hy hz
  simp only [wq,reduceCtorEq,hw]
  refine ⟨fun h=>?_,fun h=>⟨⟨n+1,rfl,by omega,?_⟩,by omega⟩⟩
  ·symm
   rw [decide_eq_false_iff_not]
   intro e
   have h1:(w.take s.length)[n]?=some z:=by rw [getElem?_take];rw [if_pos (by omega)];exact hz
   rw [e,hy] at h1
   exact h (inj h1)
  ·rw [take_add_one,take_add_one,hy,hz,ha,h]
 ·have:n=s.length:=by omega
  subst this
  rw [take_length] at ha
  simp [ha]
def ZfS (m:Nat):List Int:=2::(replicate m 1++2::replicate (m - 1) 1)
theorem ZpN (m:Nat) (h:1<=m):(ZfS m).length=2 * m+1:=by simp [ZfS];omega
theorem ZCr (m:Nat) (h:m<=100000):Z0r (((2 * m+1:Nat)):Int)=some (m:Int):=by
 unfold Z0r
 rw [Zau (n:=((2 * m+1:Nat):Int) - 1) (by omega) (by omega),show (((2 * m+1:Nat)):Int) - 1=((2 * m:Nat):Int) by omega,show tdiv ((2 * m:Nat):Int) 2=((2 * m / 2:Nat):Int) from rfl,Zau (by omega) (by omega)]
 congr 2;omega
theorem ZvA (m:Nat) (h:1<=m) (h2:m<=100000):Z0t (((2 * m+1:Nat)):Int)=some (ZfS m):=by
 refine Ret.eq ?_
 unfold Z0t
 refine Zac (fun q:Int×List Int=>∃ n:Nat,q.1=n/\n<=2 * m+1/\q.2=replicate n 1) (fun q=>2 * m+1 - q.1.toNat) ?_ _ ⟨0,rfl,by omega,rfl⟩
 rintro ⟨i,l⟩ ⟨n,e1,hn,e2⟩
 dsimp only at e1 e2
 subst e1;subst e2
 have hw:=Zab n (by omega)
 simp only [Zt3,hw,ZCr m h2,wq,reduceCtorEq]
 refine ⟨fun hlt=>⟨fun _=>⟨⟨n+1,rfl,by omega,by simp [List.replicate_succ']⟩,by omega⟩,fun h=>absurd h (by simp;omega)⟩,fun hge=>?_⟩
 have hn':n=2 * m+1:=by omega
 subst hn'
 have hw2:=Zab m (by omega)
 rw [hw2]
 refine Zaj (by omega) (by simp;omega) fun y hy _=>?_
 simp only [Za4 hy]
 refine Zaj (by omega) (by rw [Zay];simp;omega) fun z hz _=>?_
 simp only [Za4 hz,ZaH]
 rw [Zcf]
 show (Zaq (replicate (2 * m+1) (1:Int)) 0 2).set (m+1) 2=_
 apply ext_getElem?
 intro i
 unfold Zaq ZfS
 rw [List.getElem?_set,List.getElem?_set]
 simp only [Int.toNat_zero,List.length_set,length_replicate]
 by_cases h1:m+1=i
 ·subst h1
  rw [if_pos rfl,if_pos (by omega),List.getElem?_cons_succ,getElem?_append_right (by simp)]
  simp
 ·rw [if_neg h1]
  by_cases h3:0=i
  ·subst h3;simp
  ·rw [if_neg h3]
   obtain ⟨j,rfl⟩:∃ j,i=j+1:=⟨i - 1,by omega⟩
   rw [List.getElem?_cons_succ,List.getElem?_replicate]
   by_cases h4:j < m
   ·rw [getElem?_append_left (by simpa using h4),List.getElem?_replicate,if_pos (by omega),if_pos h4]
   ·rw [getElem?_append_right (by simp;omega),length_replicate]
    obtain ⟨p,hp⟩:∃ p,j - m=p+1:=⟨j - m - 1,by omega⟩
    rw [hp,List.getElem?_cons_succ,List.getElem?_replicate]
    by_cases h5:j+1 < 2 * m+1
    ·rw [if_pos h5,if_pos (by omega)]
    ·rw [if_neg h5,if_neg (by omega)]
theorem Zha (op:Int):ZuR op=some (ZaY op):=by
 refine Ret.eq ?_
 simp only [ZuR,ZCW,ZCV,ZCU,ZCT,ZCS,ZCR,wq,reduceCtorEq,ZaY]
 refine ⟨fun h=>?_,fun h=>?_⟩<;>(repeat' first | apply And.intro | intro _)<;>(repeat' split)<;>first | rfl | (exfalso;omega)
def ZbA (l:List Zae) (n:Zae) (s:List Int):Option Int:=
 ((Z0p n s).bind fun r17=>
  bif !r17 then
   some (.inl (true,s))
  else
   (Zcz l n).bind fun r18=>
   some (.inl (!r18,s))).bind (Sum.elim (Z9t n) some)
theorem ZnP {α:Type} (a:α) (l:List α):gI (a::l) 0=some a:=rfl
theorem ZtB {α:Type} (a b:α) (l:List α):gI (a::b::l) 1=some b:=rfl
theorem ZtC {α:Type} (a b c:α) (l:List α):gI (a::b::c::l) 2=some c:=rfl
theorem Zwa {k:List Int} (h:k.length=1):∃ a,k=[a]:=by
 match k,h with
 | [a],_=>exact ⟨a,rfl⟩
theorem Zrl {k:List Int} (h:k.length=2):∃ a b,k=[a,b]:=by
 match k,h with
 | [a,b],_=>exact ⟨a,b,rfl⟩
theorem Z01 {k:List Int} (h:k.length=3):∃ a b c,k=[a,b,c]:=by
 match k,h with
 | [a,b,c],_=>exact ⟨a,b,c,rfl⟩
theorem ZpO (l:List Zae) (op imm:Int) (ks k:List Int) (h:(ZaY op).2=false\/(0<=(ZaY op).1/\(ZaY op).1≠k.length)) (hk:k.length=ks.length):ZbA l (op,imm,ks) k=some 0/\F64 l (op,imm,ks) k=some 0:=by
 have e:(((k.length:Nat)):Int)=ks.length:=by omega
 unfold ZbA Z0p F64
 rw [Zha,ZAR]
 dsimp only
 rw [e] at h |-
 rcases h with h | ⟨h,h2⟩
 ·simp [h,ZpB,Z9t,Z56]
 ·cases ha:(ZaY op).2
  ·simp [ha,ZpB,Z9t,Z56]
  ·have h3:((ks.length:Int) != (ZaY op).1)=true:=by simpa using fun h=>h2 h.symm
   have h4:((ZaY op).1 != (ks.length:Int))=true:=by simpa using h2
   have h5:decide ((ZaY op).1>=0)=true:=by simpa using h
   simp [ha,h3,h4,h5,ZpB,Z9t,Z56]
def Zfk (op imm:Int):Bool:=
 decide (op=1\/(0<=imm/\(op=27->1<=imm)/\imm<=(if op=2 then 5 else if op=3 then 255 else if op=23\/op=28 then 3 else if op=27 then 1000016 else if op=30 then 7 else if op=31 then 15 else if op=25 then 15 else 0)))
theorem Zmx {op imm:Int} {b:Bool} (h:b=true↔(op=1\/(0<=imm/\(op=27->1<=imm)/\imm<=(if op=2 then 5 else if op=3 then 255 else if op=23\/op=28 then 3 else if op=27 then 1000016 else if op=30 then 7 else if op=31 then 15 else if op=25 then 15 else 0)))):b=Zfk op imm:=by
 rw [Bool.eq_iff_iff,h,Zfk,decide_eq_true_eq]
theorem ZAM (op imm:Int):F84 op imm=some (Zfk op imm):=by
 refine Ret.eq ?_
 simp only [F84,F93,ZwM,ZuH,wq,reduceCtorEq]
 refine ⟨fun _=>?_,fun _=>⟨fun _=>?_,fun _=>⟨fun _=>?_,fun _=>⟨fun _=>?_,fun _=>?_⟩⟩⟩⟩
 all_goals (repeat' first | apply And.intro | intro _)
 all_goals first | (exfalso;omega) | (refine Zmx ?_;simp only [wq,reduceCtorEq,decide_eq_true_eq,true_iff,false_iff,beq_iff_eq];(try split)<;>(try split)<;>(try split)<;>(try split)<;>(try split)<;>(try split)<;>(try split)<;>omega)
theorem ZCd (l:List Zae) (n:Zae) (h:n.1≠25):Zcz l n=some (Zfk n.1 n.2.1):=by
 refine Ret.eq ?_
 simp only [Zcz,ZaV,ZdO,ZcB,ZdP,wq,reduceCtorEq]
 refine ⟨fun _=>?_,fun _=>⟨fun _=>?_,fun _=>⟨fun _=>?_,fun _=>⟨fun _=>?_,fun _=>?_⟩⟩⟩⟩
 all_goals (repeat' first | apply And.intro | intro _)
 all_goals first | (exfalso;omega) | (refine Zmx ?_;simp only [wq,reduceCtorEq,decide_eq_true_eq,true_iff,false_iff,beq_iff_eq];(try split)<;>(try split)<;>(try split)<;>(try split)<;>(try split)<;>(try split)<;>(try split)<;>omega)
theorem bqF {a n:Int} (h:¬ a=n):(a==n)=false:=by simpa using h
theorem Z1C {a n:Int} (h:¬ a=n):(a != n)=true:=by simpa using h
theorem dqF {a n:Int} (h:¬ a=n):decide (n=a)=false:=by simpa using fun e=>h e.symm
theorem ZyY (l:List Zae) (op imm:Int) (ks k:List Int) (h:op=4\/op=5\/op=6\/op=7\/op=8\/op=9\/op=10\/op=11\/op=12\/op=13\/op=14\/op=15\/op=16\/op=17\/op=18\/op=19) (hl:k.length=2) (hk:k.length=ks.length):ZbA l (op,imm,ks) k=F64 l (op,imm,ks) k:=by
 obtain ⟨a,b,rfl⟩:=Zrl hl
 have hks:ks.length=2:=by rw [<-hk];rfl
 obtain ⟨d,e,rfl⟩:=Zrl hks
 rcases h with rfl | rfl | rfl | rfl | rfl | rfl | rfl | rfl | rfl | rfl | rfl | rfl | rfl | rfl | rfl | rfl
 all_goals
  simp [ZbA,Z0p,Zha,ZaY,ZpB,ZCk,ZCh,ZrP,ZCj,ZvG,ZCd,ZAM,ZnP,ZtB,ZtC,
   F64,ZAR,Z56,Z57,Z59,ZCe,ZCl,ZCm,Zzb,ZfI,ZhW]
  generalize Zfk _ imm=q
  cases q<;>by_cases h1:a=1<;>by_cases h2:b=1<;>simp [*,bqF,dqF,Z9t,Z9s,Z9r,Z59,ZCl,ZCm]
theorem ZtD (l:List Zae) (op imm:Int) (ks k:List Int) (h:op=20\/op=21) (hl:k.length=1) (hk:k.length=ks.length):ZbA l (op,imm,ks) k=F64 l (op,imm,ks) k:=by
 obtain ⟨a,rfl⟩:=Zwa hl
 have hks:ks.length=1:=by rw [<-hk];rfl
 obtain ⟨d,rfl⟩:=Zwa hks
 rcases h with rfl | rfl
 all_goals
  simp [ZbA,Z0p,Zha,ZaY,ZpB,ZCk,ZCh,ZrP,ZCj,ZvG,ZCd,ZAM,ZnP,ZtB,ZtC,
   F64,ZAR,Z56,Z57,Z59,ZCe,ZCl,ZCm,Zzb,ZfI,ZhW]
  generalize Zfk _ imm=q
  cases q<;>by_cases h1:a=1<;>simp [*,bqF,dqF,Z9t,Z9s,Z9r,Z59,ZCl,ZCm]
theorem ZyZ (l:List Zae) (op imm:Int) (ks k:List Int) (h:op=1\/op=2\/op=3\/op=26) (hl:k.length=0) (hk:k.length=ks.length):ZbA l (op,imm,ks) k=F64 l (op,imm,ks) k:=by
 obtain rfl:=List.eq_nil_of_length_eq_zero hl
 have hks:ks.length=0:=by rw [<-hk];rfl
 obtain rfl:=List.eq_nil_of_length_eq_zero hks
 rcases h with rfl | rfl | rfl | rfl
 all_goals
  simp [ZbA,Z0p,Zha,ZaY,ZpB,ZCk,ZCh,ZrP,ZCj,ZvG,ZCd,ZAM,ZnP,ZtB,ZtC,
   F64,ZAR,Z56,Z57,Z59,ZCe,ZCl,ZCm,Zzb,ZfI,ZhW]
  generalize Zfk _ imm=q
  cases q<;>by_cases h3:imm.tmod 16=0<;>simp [*,bqF,Z9t,Z9s,Z9r]
theorem ZrU (l:List Zae) (op imm:Int) (ks k:List Int) (h:op=22) (hl:k.length=3) (hk:k.length=ks.length) (hs:∀ x∈k,x=1\/x=2\/x=3):ZbA l (op,imm,ks) k=F64 l (op,imm,ks) k:=by
 obtain ⟨a,b,c,rfl⟩:=Z01 hl
 have hks:ks.length=3:=by rw [<-hk];rfl
 obtain ⟨d,e,f,rfl⟩:=Z01 hks
 rcases h with rfl
 all_goals
  simp [ZbA,Z0p,Zha,ZaY,ZpB,ZCk,ZCh,ZrP,ZCj,ZvG,ZCd,ZAM,ZnP,ZtB,ZtC,
   F64,ZAR,Z56,Z57,Z59,ZCe,ZCl,ZCm,Zzb,ZfI,ZhW]
  generalize Zfk _ imm=q
  have ha:=hs a (by simp)
  have hb:=hs b (by simp)
  have hc:=hs c (by simp)
  clear hs hk hl
  cases q<;>rcases ha with rfl | rfl | rfl<;>rcases hb with rfl | rfl | rfl<;>rcases hc with rfl | rfl | rfl<;>simp [ZnP,ZtB,ZtC,Z57,ZCh,Z9t,Z9s,Z9r]
theorem Zvl (l:List Zae) (op imm:Int) (ks k:List Int) (h:op=23\/op=27\/op=29) (hl:k.length=2) (hk:k.length=ks.length):ZbA l (op,imm,ks) k=F64 l (op,imm,ks) k:=by
 obtain ⟨a,b,rfl⟩:=Zrl hl
 have hks:ks.length=2:=by rw [<-hk];rfl
 obtain ⟨d,e,rfl⟩:=Zrl hks
 rcases h with rfl | rfl | rfl
 all_goals
  simp [ZbA,Z0p,Zha,ZaY,ZpB,ZCk,ZCh,ZrP,ZCj,ZvG,ZCd,ZAM,ZnP,ZtB,ZtC,
   F64,ZAR,Z56,Z57,Z59,ZCe,ZCl,ZCm,Zzb,ZfI,ZhW]
  generalize Zfk _ imm=q
  cases q<;>by_cases h1:a=2<;>by_cases h2:b=1<;>simp [*,bqF,dqF,Z9t,Z9s,Z9r,Z59,ZCl,ZCm]
theorem ZrV (l:List Zae) (op imm:Int) (ks k:List Int) (h:op=24) (hl:k.length=1) (hk:k.length=ks.length):ZbA l (op,imm,ks) k=F64 l (op,imm,ks) k:=by
 obtain ⟨a,rfl⟩:=Zwa hl
 have hks:ks.length=1:=by rw [<-hk];rfl
 obtain ⟨d,rfl⟩:=Zwa hks
 rcases h with rfl
 all_goals
  simp [ZbA,Z0p,Zha,ZaY,ZpB,ZCk,ZCh,ZrP,ZCj,ZvG,ZCd,ZAM,ZnP,ZtB,ZtC,
   F64,ZAR,Z56,Z57,Z59,ZCe,ZCl,ZCm,Zzb,ZfI,ZhW]
  generalize Zfk _ imm=q
  cases q<;>by_cases h1:a=2<;>simp [*,bqF,dqF,Z9t,Z9s,Z9r,Z59,ZCl,ZCm]
theorem ZrW (l:List Zae) (op imm:Int) (ks k:List Int) (h:op=28) (hl:k.length=3) (hk:k.length=ks.length):ZbA l (op,imm,ks) k=F64 l (op,imm,ks) k:=by
 obtain ⟨a,b,c,rfl⟩:=Z01 hl
 have hks:ks.length=3:=by rw [<-hk];rfl
 obtain ⟨d,e,f,rfl⟩:=Z01 hks
 rcases h with rfl
 all_goals
  simp [ZbA,Z0p,Zha,ZaY,ZpB,ZCk,ZCh,ZrP,ZCj,ZvG,ZCd,ZAM,ZnP,ZtB,ZtC,
   F64,ZAR,Z56,Z57,Z59,ZCe,ZCl,ZCm,Zzb,ZfI,ZhW]
  generalize Zfk _ imm=q
  cases q<;>by_cases h1:a=2<;>by_cases h2:b=1<;>by_cases h3:c=1<;>simp [*,bqF,dqF,Z9t,Z9s,Z9r,Z59,ZCl,ZCm]
theorem ZpP (l:List Zae) (imm:Int) (ks k:List Int) (hl:k.length=1) (hk:k.length=ks.length) (hkid:∀ x∈ks,0<=x/\x < l.length) (hlo:k=[3]->∀ x∈ks,∀ n,l[x.toNat]?=some n->∃ m:Nat,n.2.2.length=2 * m+1/\1<=m/\m<=16):ZbA l (25,imm,ks) k=F64 l (25,imm,ks) k:=by
 obtain ⟨a,rfl⟩:=Zwa hl
 have hks:ks.length=1:=by rw [<-hk];rfl
 obtain ⟨d,rfl⟩:=Zwa hks
 have hd:=hkid d (by simp)
 obtain ⟨n,hn,hm⟩:=Zn9 hd.1 hd.2
 have hn':l[d.toNat]?=some n:=(ZaI hn).2.2
 by_cases ha:a=3
 ·subst ha
  obtain ⟨m,e,m1,m2⟩:=hlo rfl d (by simp) n hn'
  have eq1:tdiv (n.2.2.length:Int) 2=(m:Int):=by
   rw [e,show tdiv ((2 * m+1:Nat):Int) 2=(((2 * m+1) / 2:Nat):Int) from rfl];congr 1;omega
  have eq5:(n.2.2.length:Int) / 2=(m:Int):=by omega
  have w1:wrap .i64 1=1:=by decide
  have w2:wrap .i64 2=2:=by decide
  have m3:(1:Int)<=m:=by omega
  have m4:¬ m=0:=by omega
  have eq2:=ZCr m (by omega)
  have eq3:wrap .i64 (m:Int)=m:=Zau (by omega) (by omega)
  have eq4:wrap .i64 ((m:Int) - 1)=m - 1:=Zau (by omega) (by omega)
  rw [<-e] at eq2
  simp [ZbA,Z0p,Zha,ZaY,ZpB,ZCk,ZCh,ZrP,ZCj,ZvG,Zcz,ZaV,ZdO,ZAM,ZnP,hn,eq1,eq2,eq3,eq4,
   F64,ZAR,Z56,ZCo,ZhW,Zfk,eq5,w1,w2]
  by_cases i0:0<=imm
  ·by_cases i1:imm<=(m:Int) - 1
   ·have i2:imm<=15:=by omega
    have i3:¬ (m:Int)<=imm:=by omega
    by_cases i4:imm=0
    ·subst i4
     simp [eq3,eq5,w1,w2,m3,m4,i1,i3,Z9t,Z9s,Z9r,ZdP,ZCo,ZhW]
    ·simp [eq3,eq5,w1,w2,m3,m4,i0,i1,i2,i3,i4,bqF,Z9t,Z9s,Z9r,ZdP,ZCo,ZhW]
   ·have i3:(m:Int)<=imm:=by omega
    by_cases i2:imm<=15
    ·simp [eq3,eq5,w1,w2,m3,m4,i0,i1,i2,i3,Z9t,Z9s,Z9r,ZdP,ZCo,ZhW]
    ·simp [eq3,eq5,w1,w2,m3,m4,i0,i1,i2,i3,Z9t,Z9s,Z9r,ZdP,ZCo,ZhW]
  ·simp [eq3,eq5,w1,w2,m3,m4,i0,Z9t,Z9s,Z9r,ZdP,ZCo,ZhW]
 ·simp [ZbA,Z0p,Zha,ZaY,ZpB,ZCk,ZCh,ZrP,ZCj,ZvG,ZAM,ZnP,hn,dqF ha,bqF ha,
   F64,ZAR,Z56,ZCo,ZhW]
  generalize Zfk _ imm=q
  cases q<;>simp [ha,bqF,Z1C,Z9t,ZCo]
theorem Zmy (l:List Int):ZfI l=true↔l=replicate l.length 1:=by
 unfold ZfI
 rw [all_eq_true,List.eq_replicate_iff]
 simp
theorem ZpQ (l:List Zae) (imm:Int) (ks k:List Int) (hk:k.length=ks.length) (hl:k.length<=1000):ZbA l (30,imm,ks) k=F64 l (30,imm,ks) k:=by
 have hv:Zao (Ztl k) 0=some (ZfI (slI k 1 k.length)):=Zzb (slI k 1 k.length) (by have:=Zmw k 1 k.length;omega)
 have hv2:F86 (slI k 1 k.length)=some (ZfI (slI k 1 k.length)):=Zzb (slI k 1 k.length) (by have:=Zmw k 1 k.length;omega)
 by_cases h0:k.length < 1
 ·obtain rfl:k=[]:=List.eq_nil_of_length_eq_zero (by omega)
  cases hq:Zfk 30 imm<;>simp [ZbA,Z0p,Zha,ZaY,ZpB,Zti,F64,ZAR,ZAM,Z56,ZCe,ZCp,ZhW,hq,Z9t,ZCp]
 ·by_cases h7:7 < k.length
  ·have e1:¬ (k.length:Int) < 1:=by omega
   have e2:(7:Int) < k.length:=by omega
   have e3:¬ (k.length:Int)<=7:=by omega
   have e4:(1:Int)<=k.length:=by omega
   have e5:¬ k.length<=7:=by omega
   have e6:1<=k.length:=by omega
   cases hq:Zfk 30 imm<;>simp [ZbA,Z0p,Zha,ZaY,ZpB,Zti,F64,ZAR,ZAM,Z56,ZCe,ZCp,ZhW,e1,e2,e3,e4,e5,e6,h0,h7,hq,Z9t,ZCp]
  ·obtain ⟨x,t,rfl⟩:∃ x t,k=x::t:=by cases k with
    | nil=>simp at h0
    | cons x t=>exact ⟨x,t,rfl⟩
   simp only [length_cons] at h7 hv hv2
   have e1:¬ (t.length:Int)+1 < 1:=by omega
   have e2:¬ (7:Int) < (t.length:Int)+1:=by omega
   have e3:(t.length:Int)+1<=7:=by omega
   have e4:(1:Int)<=(t.length:Int)+1:=by omega
   have e5:(0:Int)<=(t.length:Int):=by omega
   have ec:(((t.length+1:Nat)):Int)=(t.length:Int)+1:=by omega
   rw [ec] at hv hv2
   by_cases hx:x=2
   ·subst hx
    cases hq:Zfk 30 imm<;>cases hv3:ZfI (slI (2::t) 1 ((t.length:Int)+1))<;>rw [hv3] at hv hv2<;>simp [ZbA,Z0p,Zha,ZaY,ZpB,Zti,F64,ZAR,ZAM,ZCd,Z56,ZCe,ZCp,ZhW,e1,e2,e3,e4,e5,ZnP,hv,hv2,hq,Z9t,Z9r,ZCp]
   cases hq:Zfk 30 imm<;>· simp [ZbA,Z0p,Zha,ZaY,ZpB,Zti,F64,ZAR,ZAM,ZCd,Z56,ZCe,ZCp,ZhW,e1,e2,e3,e4,e5,ZnP,hv,hv2,hx,Z1C,bqF,hq,hx,Z1C,bqF,Z9t,Z9r,ZCp,Zti,ZhW]
theorem ZpR (m:Nat) (h:1<=m) (x:Int) (A C:List Int) (b:Int) (hA:A.length=m) (hC:C.length=m - 1):ZfS m=x::(A++b::C)↔x=2/\ZfI A=true/\b=2/\ZfI C=true:=by
 unfold ZfS
 rw [Zmy,Zmy,hA,hC]
 constructor
 ·intro e
  obtain ⟨e1,e2⟩:=List.cons.inj e
  obtain ⟨e3,e4⟩:=List.append_inj e2 (by simp [hA])
  obtain ⟨e5,e6⟩:=List.cons.inj e4
  exact ⟨e1.symm,e3.symm,e5.symm,e6.symm⟩
 ·rintro ⟨rfl,e1,rfl,e2⟩
  rw [e1,e2]
theorem Zdx (l:List Zae) (imm:Int) (ks k:List Int):F64 l (31,imm,ks) k=Z56 l (31,imm,ks) k (!Zfk 31 imm):=by
 simp [F64,ZAR,ZAM,ZaY]
theorem ZhT (l:List Zae) (imm:Int) (ks k:List Int) (hk:k.length=ks.length) (hl:k.length<=1000) (h:k.length % 2=0\/k.length < 3\/33 < k.length):ZbA l (31,imm,ks) k=some 0/\F64 l (31,imm,ks) k=some 0:=by
 have w0:wrap .i64 0=0:=by decide
 by_cases ho:k.length % 2=1
 ·obtain ⟨m,em⟩:∃ m,k.length=2 * m+1:=⟨k.length / 2,by omega⟩
  have hm:tmod (k.length:Int) 2=1:=by rw [Int.tmod_eq_emod_of_nonneg (by omega)];omega
  have hm2:(k.length:Int) % 2=1:=by omega
  have hd:tdiv (k.length:Int) 2=(m:Int):=by rw [Int.tdiv_eq_ediv_of_nonneg (by omega)];omega
  have hd2:(k.length:Int) / 2=(m:Int):=by omega
  have hq:wrap .i64 (m:Int)=(m:Int):=Zau (by omega) (by omega)
  have lv:Z0r (k.length:Int)=some (m:Int):=by rw [em];exact ZCr m (by omega)
  by_cases h3:k.length < 3
  ·have e1:¬ (3:Int)<=k.length:=by omega
   have e2:m=0:=by omega
   have e3:¬ 3<=k.length:=by omega
   subst e2
   constructor
   ·simp [ZbA,Z0p,Zha,ZaY,ZpB,Ztj,Z9t,e1,e3]
   ·rw [Zdx]
    cases hi:Zfk 31 imm<;>simp [Z56,ZCe,ZCx,ZhW,hm,hm2,hd,hd2,w0]
  ·have e2:¬ (m:Int)<=16:=by omega
   have e3:(3:Int)<=k.length:=by omega
   have e4:3<=k.length:=by omega
   have e5:(1:Int)<=m:=by omega
   have e6:1<=m:=by omega
   have e7:¬ m<=16:=by omega
   constructor
   ·simp [ZbA,Z0p,Zha,ZaY,ZpB,Ztj,Z9t,hm,hm2,lv,e2,e3,e4,e7]
   ·rw [Zdx]
    cases hi:Zfk 31 imm<;>simp [Z56,ZCe,ZCx,ZhW,hm,hm2,hd,hd2,hq,e5,e6,e2,e7]
 ·have hm:tmod (k.length:Int) 2=0:=by rw [Int.tmod_eq_emod_of_nonneg (by omega)];omega
  have hm2:(k.length:Int) % 2=0:=by omega
  constructor
  ·by_cases hc:3<=k.length
   ·have hc2:(3:Int)<=k.length:=by omega
    simp [ZbA,Z0p,Zha,ZaY,ZpB,Ztj,Z9t,hm,hm2,hc2,hc]
   ·have hc2:¬ (3:Int)<=k.length:=by omega
    simp [ZbA,Z0p,Zha,ZaY,ZpB,Ztj,Z9t,hm,hm2,hc2,hc]
  ·rw [Zdx]
   cases hi:Zfk 31 imm<;>simp [Z56,ZCe,ZCx,ZhW,hm,hm2]
theorem ZnB (l:List Zae) (imm:Int) (ks k:List Int) (hk:k.length=ks.length) (m:Nat) (h:k.length=2 * m+1) (h1:1<=m) (h2:m<=16):ZbA l (31,imm,ks) k=F64 l (31,imm,ks) k:=by
 obtain ⟨x,A,b,C,rfl,hA,hC⟩:∃ x A b C,k=x::(A++b::C)/\A.length=m/\C.length=m - 1:=by
  cases k with
  | nil=>simp at h
  | cons x t=>
   simp only [length_cons] at h
   have ht:t.length=2 * m:=by omega
   refine ⟨x,t.take m,t[m]'(by omega),t.drop (m+1),?_,by simp;omega,by simp;omega⟩
   rw [<-drop_eq_getElem_cons,List.take_append_drop]
 have hw:=ZpR m h1 x A C b hA hC
 have hl1:=ZpN m h1
 generalize hk1:x::(A++b::C)=k at *
 have hm:tmod (k.length:Int) 2=1:=by rw [Int.tmod_eq_emod_of_nonneg (by omega)];omega
 have hd:tdiv (k.length:Int) 2=(m:Int):=by rw [Int.tdiv_eq_ediv_of_nonneg (by omega)];omega
 have hq:wrap .i64 (m:Int)=(m:Int):=Zau (by omega) (by omega)
 have hq1:wrap .i64 ((m:Int)+1)=(m:Int)+1:=Zau (by omega) (by omega)
 have hq2:wrap .i64 ((m:Int)+2)=(m:Int)+2:=Zau (by omega) (by omega)
 have lv:Z0r (k.length:Int)=some (m:Int):=by rw [h];exact ZCr m (by omega)
 have ls:Z0t (k.length:Int)=some (ZfS m):=by rw [h];exact ZvA m h1 (by omega)
 have mt:Z0s k (ZfS m)=some (decide (ZfS m=k)):=by
  rw [ZvG _ _ (by omega) (by omega),take_of_length_le (by omega)]
 have e1:decide ((k.length:Int)>=3)=true:=by simp;omega
 have e2:decide ((m:Int)<=16)=true:=by simp;omega
 have e3:decide ((m:Int)>=1)=true:=by simp;omega
 have e4:decide ((0:Int)<=1/\(1:Int)<=(m:Int)+1/\(m:Int)+1<=(k.length:Int))=true:=by simp;omega
 have e5:decide ((0:Int)<=(m:Int)+2/\(m:Int)+2<=(k.length:Int)/\(k.length:Int)<=(k.length:Int))=true:=by simp;omega
 have g0:gI k 0=some x:=by rw [<-hk1];rfl
 have g1:gI k ((m:Int)+1)=some b:=by
  rw [<-hk1]
  unfold gI
  rw [if_pos (by omega),show ((m:Int)+1).toNat=m+1 by omega,List.getElem?_cons_succ,getElem?_append_right (by omega),hA]
  simp
 have s1:slI k 1 ((m:Int)+1)=A:=by
  rw [<-hk1]
  unfold slI
  rw [show ((m:Int)+1).toNat - (1:Int).toNat=m by omega]
  show (A++b::C).take m=A
  rw [<-hA,List.take_left']
  rfl
 have s2:slI k ((m:Int)+2) (k.length:Int)=C:=by
  have hkl:k.length=m+2+C.length:=by rw [h,hC];omega
  unfold slI
  rw [show ((m:Int)+2).toNat=m+2 by omega,<-hk1]
  show List.take _ ((A++b::C).drop (m+1))=C
  rw [List.drop_append,List.drop_of_length_le (by omega),hA,show m+1 - m=1 by omega]
  show List.take _ C=C
  exact take_of_length_le (by rw [hk1];omega)
 have v1:F86 A=some (ZfI A):=Zzb A (by omega)
 have v2:F86 C=some (ZfI C):=Zzb C (by omega)
 have lhs:ZbA l (31,imm,ks) k=some (bif decide (ZfS m=k)&&Zfk 31 imm then 3 else 0):=by
  have a31:Z0p (31,imm,ks) k=some (decide (ZfS m=k)):=by
   simp only [Z0p,Zha,show ZaY 31=(-1,true) from rfl,bind_some,Bool.not_true,cond_false,show decide ((-1:Int)>=0)=false from rfl,Sum.elim_inl,ZpB,show ((31:Int)==31)=true from rfl,cond_true,e1,hm,show ((1:Int)==1)=true from rfl,lv,e2,ls,mt,Ztj]
  unfold ZbA
  rw [a31]
  cases hi:Zfk 31 imm<;>cases decide (ZfS m=k)<;>simp [ZCd,hi,Z9t]
 have rhs:F64 l (31,imm,ks) k=some (bif ((x==2)&&ZfI A&&(b==2)&&ZfI C)&&Zfk 31 imm then 3 else 0):=by
  rw [Zdx]
  cases hi:Zfk 31 imm
  ·simp [Z56]
  ·simp only [Z56,ZCe,Bool.not_true,cond_false,bind_some,Sum.elim_inl,show ((31:Int)==3)=false from rfl,show ((31:Int)==26)=false from rfl,show ((31:Int)==22)=false from rfl,show ((31:Int)==23)=false from rfl,show ((31:Int)==24)=false from rfl,show ((31:Int)==25)=false from rfl,show ((31:Int)==27)=false from rfl,show ((31:Int)==29)=false from rfl,show ((31:Int)==28)=false from rfl,show ((31:Int)==30)=false from rfl,show ((31:Int)==31)=true from rfl,cond_true,show ((1:Int)==1)=true from rfl,hm,hd,hq,hq1,hq2,e2,e3,e4,e5,g0,g1,s1,s2,v1,v2,ZhW]
   cases x==2<;>cases ZfI A<;>cases b==2<;>cases ZfI C<;>simp [ZCx]
 rw [lhs,rhs]
 congr 3
 rw [Bool.eq_iff_iff,decide_eq_true_eq,hw]
 simp [and_assoc]
end Go.Dat
namespace Go.Dat
open Go.Eng
variable {α β:Type}
def Zli (o:Option α) (Q:α->Prop):Prop:=∀ a,o=some a->Q a
theorem ZeT {a:α} {Q:α->Prop}:Zli (some a) Q=Q a:=by
 unfold Zli;apply propext;exact ⟨fun h=>h a rfl,fun h b e=>by cases e;exact h⟩
theorem ZeU {Q:α->Prop}:Zli (none:Option α) Q=True:=by
 unfold Zli;apply propext;exact ⟨fun _=>trivial,fun _ b e=>by cases e⟩
theorem Zkl {o:Option α} {f:α->Option β} {Q:β->Prop}:Zli (o.bind f) Q=Zli o fun a=>Zli (f a) Q:=by
 cases o with
 | none=>simp only [bind_none,ZeU]
 | some a=>simp only [bind_some,ZeT]
theorem Zmz {o:Option α} {f:α->β} {Q:β->Prop}:Zli (o.map f) Q=Zli o fun a=>Q (f a):=by
 cases o with
 | none=>simp only [map_none,ZeU]
 | some a=>simp only [map_some,ZeT]
theorem Zm0 {b:Bool} {x y:Option α} {Q:α->Prop}:Zli (bif b then x else y) Q=((b=true->Zli x Q)/\(b=false->Zli y Q)):=by
 cases b<;>simp
theorem Zvm {l:List α} {i:Int} {Q:α->Prop}:Zli (gI l i) Q=∀ a,gI l i=some a->Q a:=rfl
def Zvn (n:Zae):Prop:=∃ m:Nat,n.2.2.length=2 * m+1/\1<=m/\m<=16
structure Zb3 (n:Zae) (r:Int):Prop where
 rng:r=0\/r=1\/r=2\/r=3
 loop:r=3->Zvn n
theorem Zb3.of {n:Zae} {c:Int} (hc:c=0\/c=1\/c=2):Zb3 n c:=by
 rcases hc with rfl | rfl | rfl<;>exact ⟨by simp,by simp⟩
theorem Zb3.bi {n:Zae} (b:Bool) (c:Int) (hc:c=1\/c=2):Zb3 n (bif b then c else 0):=by
 rcases hc with rfl | rfl<;>cases b<;>exact ⟨by simp,by simp⟩
theorem Zb3.z {n:Zae}:Zb3 n 0:=Zb3.of (.inl rfl)
theorem Zb3.o {n:Zae}:Zb3 n 1:=Zb3.of (.inr (.inl rfl))
theorem Zb3.t {n:Zae}:Zb3 n 2:=Zb3.of (.inr (.inr rfl))
theorem Zb3.l {n:Zae} (h:Zvn n) (b:Bool):Zb3 n (bif b then 3 else 0):=by
 cases b
 ·exact Zb3.z
 ·exact ⟨by simp,fun _=>h⟩
theorem Zkm (l:List Zae) (n:Zae) (k:List Int) (hk:k.length=n.2.2.length) (hl:k.length<=1000) (hs:∀ x∈k,x=1\/x=2\/x=3):Zli (F64 l n k) (Zb3 n):=by
 have hd:tdiv (k.length:Int) 2=((k.length / 2:Nat):Int):=by rw [Int.tdiv_eq_ediv_of_nonneg (by omega)];rfl
 have hm:tmod (k.length:Int) 2=((k.length % 2:Nat):Int):=by rw [Int.tmod_eq_emod_of_nonneg (by omega)];rfl
 have hq:wrap .i64 ((k.length / 2:Nat):Int)=((k.length / 2:Nat):Int):=Zau (by omega) (by omega)
 have w1:wrap .i64 (0+1)=1:=by decide
 have w2:wrap .i64 (1+1)=2:=by decide
 have z:Zb3 n 0:=Zb3.z
 have o:Zb3 n 1:=Zb3.o
 have t:Zb3 n 2:=Zb3.t
 have J1:∀ b,Zli (Z56 l n k b) (Zb3 n):=by
  intro b
  simp only [Z56,Z57,Z59,ZCo,ZCe,ZCl,ZCm,ZCp,ZCx,ZhW,ZeT,ZeU,Zkl,Zmz,Zm0,Zvm,wq,reduceCtorEq,hd,hm,hq,cond_false,z,o,t]
  refine fun _ _ _=>⟨fun _ y _ _ y1 h1 y2 h2 _ y3 h3 hn3 y4 h4=>?_,fun _=>⟨fun _ y _ _ _ _=>Zb3.bi _ _ (.inl rfl),fun _=>⟨fun _ y _=>Zb3.bi _ _ (.inl rfl),fun _=>⟨fun _ y _ _ z _ z2 _ _=>?_,fun _=>?_⟩⟩⟩⟩
  ·rw [h3] at h4;obtain rfl:=inj h4
   rcases hs y3 (ZeR h3) with rfl | rfl | h
   ·exact o
   ·exact t
   ·exact absurd h hn3
  ·cases n.2.1==0
   ·rw [cond_false,w1];exact o
   ·rw [cond_true,w2];exact t
  ·repeat' first | apply And.intro | (intro _)
   all_goals first | exact Zb3.bi _ _ (.inl rfl) | exact Zb3.bi _ _ (.inr rfl) | exact Zb3.l ⟨k.length / 2,by omega,by omega,by omega⟩ _
 simp only [F64,ZAR,ZAM,ZeT,ZeU,Zkl,Zmz,Zm0,wq,reduceCtorEq,J1]
def nsM (l:List Zae) (n:Zae) (k:List Int):Int:=(F64 l n k).getD 0
theorem Zza {l:List Zae} {n:Zae} {k:List Int} {Q:Int->Prop} (h:Ret (F64 l n k) Q):F64 l n k=some (nsM l n k):=by
 obtain ⟨a,e,_⟩:=h
 unfold nsM;rw [e];rfl
structure Zlj (l:List Zae) (n:Zae) (k:List Int):Prop where
 hk:k.length=n.2.2.length
 hl:k.length<=1000
 hb:∀ x∈l,x.2.2.length<=1000
 hkid:∀ x∈n.2.2,0<=x/\x < l.length
 hs:∀ x∈k,x=1\/x=2\/x=3
 hlo:k=[3]->∀ x∈n.2.2,∀ y,l[x.toNat]?=some y->Zvn y
theorem Zlj.ns {l:List Zae} {n:Zae} {k:List Int} (h:Zlj l n k):F64 l n k=some (nsM l n k):=
 Zza (ZCY l n k h.hk (by have:=h.hl;omega) h.hkid fun x hx=>by have:=h.hb x hx;omega)
theorem Zlj.rng {l:List Zae} {n:Zae} {k:List Int} (h:Zlj l n k):Zb3 n (nsM l n k):=Zkm l n k h.hk h.hl h.hs _ h.ns
theorem ZrX {l:List Zae} {n:Zae} {k:List Int} (h:Zlj l n k):ZbA l n k=some (nsM l n k):=by
 rw [<-h.ns]
 obtain ⟨op,imm,ks⟩:=n
 have hk:=h.hk
 have hl:=h.hl
 dsimp only at hk
 by_cases h0:(ZaY op).2=false\/(0<=(ZaY op).1/\(ZaY op).1≠k.length)
 ·obtain ⟨e1,e2⟩:=ZpO l op imm ks k h0 hk
  rw [e1,e2]
 ·have ha:(ZaY op).2=true:=by
   cases hc:(ZaY op).2
   ·exact absurd (.inl hc) h0
   ·rfl
  have hb:0<=(ZaY op).1->(ZaY op).1=k.length:=fun h1=>Decidable.byContradiction fun h2=>h0 (.inr ⟨h1,h2⟩)
  clear h0
  unfold ZaY at ha hb
  by_cases c1:op=1\/op=2\/op=3\/op=26
  ·rw [if_pos c1] at hb;exact ZyZ l op imm ks k (by omega) (by have:=hb (by decide);simp at this;omega) hk
  ·rw [if_neg c1] at ha hb
   by_cases c2:op=20\/op=21\/op=24\/op=25
   ·rw [if_pos c2] at hb
    have h1:k.length=1:=by have:=hb (by decide);simp at this;omega
    rcases c2 with rfl | rfl | rfl | rfl
    ·exact ZtD l _ imm ks k (by omega) h1 hk
    ·exact ZtD l _ imm ks k (by omega) h1 hk
    ·exact ZrV l _ imm ks k (by omega) h1 hk
    ·exact ZpP l imm ks k h1 hk h.hkid h.hlo
   ·rw [if_neg c2] at ha hb
    by_cases c3:(4<=op/\op<=19)\/op=23\/op=27\/op=29
    ·rw [if_pos c3] at hb
     have h1:k.length=2:=by have:=hb (by decide);simp at this;omega
     rcases c3 with c3 | c3
     ·exact ZyY l op imm ks k (by omega) h1 hk
     ·exact Zvl l op imm ks k (by omega) h1 hk
    ·rw [if_neg c3] at ha hb
     by_cases c4:op=22\/op=28
     ·rw [if_pos c4] at hb
      have h1:k.length=3:=by have:=hb (by decide);simp at this;omega
      rcases c4 with rfl | rfl
      ·exact ZrU l _ imm ks k (by omega) h1 hk h.hs
      ·exact ZrW l _ imm ks k (by omega) h1 hk
     ·rw [if_neg c4] at ha hb
      by_cases c5:op=30\/op=31
      ·rcases c5 with rfl | rfl
       ·exact ZpQ l imm ks k hk hl
       ·by_cases c6:k.length % 2=0\/k.length < 3\/33 < k.length
        ·obtain ⟨e1,e2⟩:=ZhT l imm ks k hk hl c6
         rw [e1,e2]
        ·exact ZnB l imm ks k hk (k.length / 2) (by omega) (by omega) (by omega)
      ·rw [if_neg c5] at ha;cases ha
end Go.Dat
namespace Go.Dat
open Go.Eng
def atI (out:List Int) (q:Int):Int:=out[q.toNat]?.getD 0
def okQ (out:List Int) (i:Nat) (q:Int):Bool:=decide (0<=q/\q < i)&&!(atI out q==0)
def okK (out:List Int) (i:Nat) (n:Zae):Bool:=n.2.2.all (okQ out i)
def kS (out:List Int) (n:Zae):List Int:=n.2.2.map (atI out)
def Zbu (l:List Zae) (out:List Int) (i:Nat) (n:Zae):Int:=bif okK out i n then nsM l n (kS out n) else 0
def Zam (l:List Zae):Nat->List Int
 | 0=>[]
 | i+1=>Zam l i++[match l[i]? with | some n=>Zbu l (Zam l i) i n | none=>0]
theorem ZaK (l:List Zae):∀ m,(Zam l m).length=m
 | 0=>rfl
 | m+1=>by simp [Zam,ZaK l m]
theorem Zm1 {p:Int->Bool} {l:List Int} {j:Nat} {x:Int} (h:(l.take j).all p=true) (hx:l[j]?=some x):(l.take (j+1)).all p=p x:=by
 rw [take_add_one,hx,List.all_append,h];simp
theorem ZpS {p:Int->Bool} {l:List Int} {x:Int} (h:x∈l) (hx:p x=false):l.all p=false:=by
 rw [List.all_eq_false];exact ⟨x,h,by simp [hx]⟩
theorem ZhU {l:List Int} {q x:Int} (h:gI l q=some x):atI l q=x:=by
 unfold atI;rw [(ZaI h).2.2];rfl
structure GraphH (l:List Zae):Prop where
 n:l.length<=100000
 k:∀ x∈l,x.2.2.length<=1000
theorem Zgh {l:List Zae} (h:GraphH l) {i:Nat} {n:Zae} (hi:l[i]?=some n) {out:List Int} (hr:∀ (j:Nat) x y,j < i->out[j]?=some x->l[j]?=some y->Zb3 y x) (hlen:i<=out.length) (hok:okK out i n=true):Zlj l n (kS out n):=by
 have hm:=mem_of_getElem? hi
 have hb:=h.k n hm
 have il:=ZaA hi
 have hq:∀ q∈n.2.2,(0<=q/\q < i)/\atI out q≠0:=by
  intro q hq
  unfold okK at hok
  have:=(all_eq_true.1 hok) q hq
  unfold okQ at this
  simpa using this
 have hat:∀ q∈n.2.2,∃ y,l[q.toNat]?=some y/\Zb3 y (atI out q):=by
  intro q hq'
  obtain ⟨⟨a,b⟩,c⟩:=hq q hq'
  have h1:q.toNat < l.length:=by omega
  have h2:q.toNat < out.length:=by omega
  refine ⟨l[q.toNat],getElem?_eq_getElem h1,?_⟩
  refine hr q.toNat _ _ (by omega) ?_ (getElem?_eq_getElem h1)
  unfold atI
  rw [getElem?_eq_getElem h2];rfl
 refine ⟨by simp [kS],by simp [kS];omega,h.k,fun x hx=>by have:=hq x hx;omega,?_,?_⟩
 ·intro x hx
  unfold kS at hx
  obtain ⟨q,h1,rfl⟩:=mem_map.1 hx
  obtain ⟨y,_,hy⟩:=hat q h1
  have:=(hq q h1).2
  rcases hy.rng with h | h | h | h
  ·exact absurd h this
  ·exact .inl h
  ·exact .inr (.inl h)
  ·exact .inr (.inr h)
 ·intro e x hx y hy
  obtain ⟨z,hz,hsz⟩:=hat x hx
  rw [hy] at hz
  obtain rfl:=inj hz
  refine hsz.loop ?_
  have:atI out x∈kS out n:=mem_map.2 ⟨x,hx,rfl⟩
  rw [e] at this
  simpa using this
theorem ZnC {l:List Zae} (h:GraphH l) {i:Nat} {n:Zae} (hi:l[i]?=some n) {out:List Int} (hr:∀ (j:Nat) x y,j < i->out[j]?=some x->l[j]?=some y->Zb3 y x) (hlen:i<=out.length):Zb3 n (Zbu l out i n):=by
 unfold Zbu
 cases hok:okK out i n
 ·exact Zb3.z
 ·exact (Zgh h hi hr hlen hok).rng
theorem Zej {l:List Zae} (h:GraphH l):∀ (m:Nat) (j:Nat) x y,(Zam l m)[j]?=some x->l[j]?=some y->Zb3 y x
 | 0,j,x,y,h1,_=>by simp [Zam] at h1
 | m+1,j,x,y,h1,h2=>by
  have hl:=ZaK l m
  have ih:=Zej h m
  unfold Zam at h1
  by_cases hj:j < m
  ·rw [getElem?_append_left (by omega)] at h1
   exact ih j x y h1 h2
  ·by_cases hj2:j=m
   ·subst hj2
    rw [getElem?_append_right (by omega),hl,h2] at h1
    simp at h1
    rw [<-h1]
    exact ZnC h h2 (fun j' x y _ h3 h4=>ih j' x y h3 h4) (by omega)
   ·have:=ZaA h1
    simp [hl] at this
    omega
theorem ZnD {l:List Zae} {i:Nat} {n:Zae} {out known:List Int} (h:∀ j:Nat,j < i->known[j]?=out[j]?):Zbu l known i n=Zbu l out i n:=by
 have ha:∀ q:Int,0<=q->q < i->atI known q=atI out q:=fun q h0 h1=>by unfold atI;rw [h q.toNat (by omega)]
 have hq:okQ known i=okQ out i:=by
  funext q
  unfold okQ
  by_cases hq:0<=q/\q < i
  ·rw [ha q hq.1 hq.2]
  ·simp [hq]
 have hk:okK known i n=okK out i n:=by unfold okK;rw [hq]
 unfold Zbu
 rw [hk]
 cases hok:okK out i n
 ·rfl
 ·have:kS known n=kS out n:=by
   unfold kS
   refine List.map_congr_left fun q hq'=>?_
   unfold okK at hok
   have:=(all_eq_true.1 hok) q hq'
   unfold okQ at this
   simp at this
   exact ha q this.1.1 this.1.2
  rw [this]
theorem ZCG (l:List Zae) (h:GraphH l) (i:Nat) (n:Zae) (hn:l[i]?=some n) (out:List Int) (ho:out.length=i)
 {Q:(Bool×List Int×List Int)⊕((List Int)⊕((Int×List Int)⊕(List Int)))->Prop} (h1:okK out i n=true->Q (.inl (true,out,kS out n))) (h2:okK out i n=false->∀ k,Q (.inl (false,out,k))) :
 Ret (Zao (ZuG l (i:Int)) (true,0,out,[])) Q:=by
 have hb:=h.k n (mem_of_getElem? hn)
 refine Zac (fun q:Bool×Int×List Int×List Int=>q.1=true/\q.2.2.1=out/\∃ j:Nat,q.2.1=j/\j<=n.2.2.length/\q.2.2.2=(n.2.2.take j).map (atI out)/\(n.2.2.take j).all (okQ out i)=true) (fun q=>n.2.2.length - q.2.1.toNat) ?_ _ ⟨rfl,rfl,0,rfl,by omega,rfl,rfl⟩
 rintro ⟨ok,j',out',k⟩ ⟨e1,e2,j,e3,hj,e4,hall⟩
 dsimp only at e1 e2 e3 e4
 subst e1 e2 e3 e4
 have hg:gI l (i:Int)=some n:=by rw [Zax,hn]
 simp only [ZuG,wq,reduceCtorEq,Za4 hg]
 refine ⟨fun hlt=>Zaj (by omega) hlt fun y hy hm=>?_,fun hge=>?_⟩
 ·have hbad:okQ out' i y=false->Q (.inl (false,out',(n.2.2.take j).map (atI out'))):=fun h=>h2 (ZpS hm h) _
  rw [Zax] at hy
  simp only [ZDc,wq,reduceCtorEq]
  refine ⟨fun h0=>hbad (by simp [okQ];omega),fun h0=>⟨fun h1=>hbad (by simp [okQ];omega),fun h1=>Zaj h0 (by omega) fun z hz _=>?_⟩⟩
  have hz':=ZhU hz
  simp only [Za4 hz,wq,reduceCtorEq]
  refine ⟨fun h3=>hbad (by simp [okQ,hz',h3]),fun h3=>⟨fun _=>?_,fun h=>absurd h (by simp only [length_cons,length_nil,length_map,length_take];omega)⟩⟩
  have hw:=Zab j (by omega)
  rw [hw]
  refine ⟨⟨j+1,rfl,by omega,?_,?_⟩,by omega⟩
  ·rw [take_add_one,hy,map_append,<-hz'];rfl
  ·rw [Zm1 hall hy];simp [okQ,hz',h3];omega
 ·have:j=n.2.2.length:=by omega
  subst this
  rw [take_length] at hall |-
  exact h1 hall
theorem Zzi (l:List Zae) (h:GraphH l):F38 l=some (Zam l l.length):=by
 refine Ret.eq ?_
 unfold F38
 refine Zac (fun q:Int×List Int=>∃ m:Nat,q.1=m/\m<=l.length/\q.2=Zam l m) (fun q=>l.length - q.1.toNat) ?_ _ ⟨0,rfl,by omega,rfl⟩
 rintro ⟨i',out⟩ ⟨m,e,hm,e2⟩
 dsimp only at e e2
 subst e;subst e2
 have hn:=h.n
 have hlen:=ZaK l m
 simp only [Zx2,wq,reduceCtorEq]
 refine ⟨fun hlt=>?_,fun hge=>?_⟩
 ·have hml:m < l.length:=by omega
  have hn:l[m]?=some l[m]:=getElem?_eq_getElem hml
  have hg:gI l (m:Int)=some l[m]:=by rw [Zax,hn]
  have hw:=Zab m (by omega)
  have hs:Zam l (m+1)=Zam l m++[Zbu l (Zam l m) m l[m]]:=by conv=>lhs;unfold Zam;rw [hn]
  refine ZCG l h m l[m] hn _ hlen (fun hok=>?_) (fun hok k=>?_)
  ·have ht:=Zgh h hn (fun j' x y _ h3 h4=>Zej h m j' x y h3 h4) (by omega) hok
   simp only [wq,reduceCtorEq,Zx0,Za4 hg,Za4 ht.ns]
   refine ⟨fun _=>?_,fun h=>absurd h (by simp only [length_cons,length_nil];omega)⟩
   simp only [wq,reduceCtorEq,Zx1,hw]
   refine ⟨⟨m+1,rfl,by omega,?_⟩,by omega⟩
   rw [hs];unfold Zbu;rw [hok];rfl
  ·simp only [wq,reduceCtorEq,Zx0]
   refine ⟨fun _=>?_,fun h=>absurd h (by simp only [length_cons,length_nil];omega)⟩
   simp only [wq,reduceCtorEq,Zx1,hw]
   refine ⟨⟨m+1,rfl,by omega,?_⟩,by omega⟩
   rw [hs];unfold Zbu;rw [hok];rfl
 ·have:m=l.length:=by omega
  subst this
  rfl
theorem ZtF (l:List Zae) (h:GraphH l) (i:Nat) (hi:i < l.length) (known:List Int) (hlen:i<=known.length) (hr:∀ (j:Nat) x y,j < i->known[j]?=some x->l[j]?=some y->Zb3 y x):F96 l i known=some (Zbu l known i (l[i]'hi)):=by
 have hn:l[i]?=some l[i]:=getElem?_eq_getElem hi
 have hg:gI l (i:Int)=some l[i]:=by rw [Zax,hn]
 refine Ret.eq ?_
 unfold F96
 rw [hg]
 generalize hnn:l[i]=n at *
 have hb:=h.k n (mem_of_getElem? hn)
 simp only [wq,reduceCtorEq]
 refine Zac (fun q:Int×List Int=>∃ j:Nat,q.1=j/\j<=n.2.2.length/\q.2=(n.2.2.take j).map (atI known)/\(n.2.2.take j).all (okQ known i)=true) (fun q=>n.2.2.length - q.1.toNat) ?_ _ ⟨0,rfl,by omega,rfl,rfl⟩
 rintro ⟨j',k⟩ ⟨j,e3,hj,e4,hall⟩
 dsimp only at e3 e4
 subst e3 e4
 simp only [Zxo,wq,reduceCtorEq]
 refine ⟨fun hlt=>Zaj (by omega) hlt fun y hy hm=>?_,fun hge=>?_⟩
 ·have hbad:okQ known i y=false->(0:Int)=Zbu l known i n:=fun h=>by unfold Zbu;rw [show okK known i n=false from ZpS hm h];rfl
  rw [Zax] at hy
  simp only [Zxn,wq,reduceCtorEq]
  refine ⟨fun h0=>hbad (by simp [okQ];omega),fun h0=>⟨fun h1=>hbad (by simp [okQ];omega),fun h1=>Zaj h0 (by omega) fun z hz _=>?_⟩⟩
  have hz':=ZhU hz
  simp only [Za4 hz,wq,reduceCtorEq]
  refine ⟨fun h3=>hbad (by simp [okQ,hz',h3]),fun h3=>⟨fun _=>?_,fun h=>absurd h (by simp only [length_cons,length_nil,length_map,length_take];omega)⟩⟩
  have hw:=Zab j (by omega)
  rw [hw]
  refine ⟨⟨j+1,rfl,by omega,?_,?_⟩,by omega⟩
  ·rw [take_add_one,hy,map_append,<-hz'];rfl
  ·rw [Zm1 hall hy];simp [okQ,hz',h3];omega
 ·have:j=n.2.2.length:=by omega
  subst this
  rw [take_length] at hall |-
  have ht:=Zgh h hn hr hlen hall
  have ha:=ZrX ht
  unfold ZbA at ha
  have hk:n.2.2.map (atI known)=kS known n:=rfl
  rw [hk]
  have e:Zbu l known i n=nsM l n (kS known n):=by unfold Zbu;rw [show okK known i n=true from hall];rfl
  rw [e]
  have ha2:Ret (some (nsM l n (kS known n))) fun a=>a=nsM l n (kS known n):=by rw [ZaH]
  rw [<-ha] at ha2
  simpa only [wq,reduceCtorEq] using ha2
theorem ZtJ (l:List Zae) (h:GraphH l):F94 l=some (Zam l l.length):=by
 refine Ret.eq ?_
 have hn:=h.n
 unfold F94
 simp only [wq,reduceCtorEq]
 refine ⟨fun _=>?_,fun h=>absurd h (by omega)⟩
 refine Zac (fun q:Int×List Int=>∃ m:Nat,q.1=m/\m<=l.length/\q.2=Zam l m++replicate (l.length - m) 0) (fun q=>l.length - q.1.toNat) ?_ _ ⟨0,rfl,by omega,by simp [Zam]⟩
 rintro ⟨i',out⟩ ⟨m,e,hm,e2⟩
 dsimp only at e e2
 subst e;subst e2
 have hlen:=ZaK l m
 simp only [Zxc,wq,reduceCtorEq]
 refine ⟨fun hlt=>?_,fun hge=>?_⟩
 ·have hml:m < l.length:=by omega
  have hn:l[m]?=some l[m]:=getElem?_eq_getElem hml
  have hw:=Zab m (by omega)
  have hpre:∀ j:Nat,j < m->(Zam l m++replicate (l.length - m) 0)[j]?=(Zam l m)[j]?:=fun j hj=>getElem?_append_left (by omega)
  have hs:Zam l (m+1)=Zam l m++[Zbu l (Zam l m) m l[m]]:=by conv=>lhs;unfold Zam;rw [hn]
  rw [ZtF l h m hml _ (by simp;omega) (fun j x y hj h1 h2=>by rw [hpre j hj] at h1;exact Zej h m j x y h1 h2),ZnD hpre]
  simp only [wq,reduceCtorEq]
  refine Zaj (by omega) (by simp;omega) fun y hy _=>?_
  simp only [Za4 hy,wq,reduceCtorEq,hw]
  refine ⟨⟨m+1,rfl,by omega,?_⟩,by omega⟩
  rw [hs,Zcf]
  obtain ⟨d,hd⟩:∃ d,l.length - m=d+1:=⟨l.length - m - 1,by omega⟩
  rw [hd,replicate_succ,show l.length - (m+1)=d by omega]
  rw [set_append_right _ _ (by omega),hlen]
  simp
 ·have:m=l.length:=by omega
  subst this
  simp
theorem ZiS {l r:List Zae} {n:Zae} {k:List Int} (h:∀ q∈n.2.2,gI l q=gI r q):F64 l n k=F64 r n k:=by
 have hb:∀ f:Zae->Option (Bool⊕Int),((gI n.2.2 0).bind fun y=>(gI l y).bind f)=((gI n.2.2 0).bind fun y=>(gI r y).bind f):=by
  intro f
  cases e:gI n.2.2 0 with
  | none=>rfl
  | some y=>simp only [bind_some];rw [h y (ZeR e)]
 have h1:Z56 l n k=Z56 r n k:=by
  funext b
  simp only [Z56,hb]
 unfold F64
 rw [h1]
theorem Zvq {α:Type} (l:List α) (m:Nat) (q:Int) (h:q < m):gI (l.take m) q=gI l q:=by
 unfold gI
 split
 ·rw [getElem?_take,if_pos (by omega)]
 ·rfl
theorem Zlk {l:List Zae} (m:Nat) (out:List Int) (i:Nat) (n:Zae) (hi:i<=m):Zbu (l.take m) out i n=Zbu l out i n:=by
 unfold Zbu
 cases hok:okK out i n
 ·rfl
 ·simp only [cond_true]
  unfold nsM
  rw [ZiS (r:=l) fun q hq=>Zvq l m q ?_]
  unfold okK at hok
  have:=(all_eq_true.1 hok) q hq
  unfold okQ at this
  simp at this
  omega
theorem ZeA (l:List Zae) (m:Nat):∀ j≤m,Zam (l.take m) j=Zam l j
 | 0,_=>rfl
 | j+1,h=>by
  unfold Zam
  rw [ZeA l m j (by omega),getElem?_take,if_pos (by omega)]
  cases l[j]? with
  | none=>rfl
  | some n=>simp only [Zlk m _ j n (by omega)]
theorem Zek (l:List Zae) (j m:Nat) (h:j < m):(Zam l m)[j]?=(Zam l (j+1))[j]?:=by
 induction m with
 | zero=>omega
 | succ m ih=>
  by_cases e:j=m
  ·rw [e]
  ·conv=>lhs;unfold Zam
   rw [getElem?_append_left (by rw [ZaK];omega)]
   exact ih (by omega)
theorem GraphH.take {l:List Zae} (h:GraphH l) (m:Nat):GraphH (l.take m):=⟨by have:=h.n;simp;omega,fun x hx=>h.k x (mem_of_mem_take hx)⟩
theorem Zdy (l:List Zae) (m j:Nat) (h:j < m):(Zam l m)[j]?=some (atI (Zam l m) j):=by
 unfold atI
 have:j < (Zam l m).length:=by rw [ZaK];exact h
 rw [show ((j:Int)).toNat=j from rfl,getElem?_eq_getElem this];rfl
theorem ZEG (l:List Zae) (h:GraphH l) (j:Nat) (hj:j < l.length):F88 l j=some (atI (Zam l l.length) j):=by
 refine Ret.eq ?_
 have hn:=h.n
 have hw:=Zab j (by omega)
 simp only [F88,ZuU,wq,reduceCtorEq,hw]
 refine ⟨fun _=>by omega,fun _=>⟨fun h=>by omega,fun _=>⟨fun _=>?_,fun h=>absurd h (by omega)⟩⟩⟩
 have hs:slI l 0 ((j+1:Nat):Int)=l.take (j+1):=rfl
 rw [hs,ZtJ _ (h.take _),show (l.take (j+1)).length=j+1 by simp;omega,ZeA l _ _ (le_refl _)]
 simp only [wq,reduceCtorEq,Zax]
 rw [Zdy _ _ _ (by omega),ZaH]
 unfold atI
 rw [show ((j:Int)).toNat=j from rfl,Zek l j l.length hj]
theorem Zb1 {n:Int} (h1:0<=n) (h2:n < 4294967296):wrap .u32 n=n:=by
 show (let m:=n % (2 ^ 32:Int);if false&&m>=(2 ^ 31:Int) then m - (2 ^ 32:Int) else m)=n
 simp only [Bool.false_and,false_eq_true,if_false];omega
theorem Zdz {n:Int} (h1:0<=n) (h2:n < 18446744073709551616):wrap .u64 n=n:=by
 show (let m:=n % (2 ^ 64:Int);if false&&m>=(2 ^ 63:Int) then m - (2 ^ 64:Int) else m)=n
 simp only [Bool.false_and,false_eq_true,if_false];omega
theorem ZpU {n:Int} (h1:0<=n) (h2:n < 256):wrap .u8 n=n:=by
 show (let m:=n % (2 ^ 8:Int);if false&&m>=(2 ^ 7:Int) then m - (2 ^ 8:Int) else m)=n
 simp only [Bool.false_and,false_eq_true,if_false];omega
theorem Zkn (a b:Nat):tmod (a:Int) (b:Int)=((a % b:Nat):Int):=rfl
theorem ZiT (a b:Nat):tdiv (a:Int) (b:Int)=((a / b:Nat):Int):=rfl
def dig (u j:Nat):Int:=((48+u / 10 ^ j % 10:Nat):Int)
def ZhV (u:Nat):Nat->List Int
 | 0=>[]
 | n+1=>dig u n::ZhV u n
theorem Zm2 (u:Nat):∀ n,(ZhV u n).length=n
 | 0=>rfl
 | n+1=>by simp [ZhV,Zm2 u n]
theorem sm0:∀ v:Fin 100,gB BS1 ((2 * v.val:Nat):Int)=some ((48+v.val / 10:Nat):Int):=by decide +kernel
theorem sm1:∀ v:Fin 100,gB BS1 ((2 * v.val+1:Nat):Int)=some ((48+v.val % 10:Nat):Int):=by decide +kernel
theorem smA (v:Nat) (h:v < 100):gB BS1 (wrap .u32 ((v:Int) * 2))=some ((48+v / 10:Nat):Int):=by
 rw [Zb1 (by omega) (by omega)]
 have:=sm0 ⟨v,h⟩
 rw [show ((v:Int) * 2)=((2 * v:Nat):Int) by omega];exact this
theorem smB (v:Nat) (h:v < 100):gB BS1 (wrap .u32 ((wrap .u32 ((v:Int) * 2))+1))=some ((48+v % 10:Nat):Int):=by
 rw [Zb1 (n:=(v:Int) * 2) (by omega) (by omega),Zb1 (by omega) (by omega)]
 have:=sm1 ⟨v,h⟩
 rw [show ((v:Int) * 2+1)=((2 * v+1:Nat):Int) by omega];exact this
structure Dg (u nd k:Nat) (a:List Int):Prop where
 len:a.length=nd
 kn:k<=nd
 at':a.drop k=ZhV u (nd - k)
theorem Dg.put {u nd k:Nat} {a:List Int} (h:Dg u nd (k+1) a):Dg u nd k (Zaq a ((k:Nat):Int) (dig u (nd - (k+1)))):=by
 obtain ⟨h1,h2,h3⟩:=h
 refine ⟨by rw [Zay,h1],by omega,?_⟩
 rw [Zcf]
 have e:nd - k=(nd - (k+1))+1:=by omega
 rw [e,ZhV,drop_eq_getElem_cons (by simp;omega)]
 simp only [List.getElem_set_self]
 congr 1
 rw [<-h3,List.drop_set]
 simp
theorem Zvs (u m j:Nat):dig (u / 10 ^ m) j=dig u (m+j):=by
 unfold dig;rw [Nat.div_div_eq_div_mul,<-pow_add]
theorem Dg.step {u nd k:Nat} {a:List Int} (h:Dg u nd (k+1) a) {x:Int} (hx:x=dig u (nd - (k+1))) {i:Int} (hi:i=(k:Nat)):Dg u nd k (Zaq a i x):=by subst hx;subst hi;exact h.put
theorem Zvt (u m:Nat) {v:Nat} (h:v=u / 10 ^ m % 10):((48+v:Nat):Int)=dig u m:=by subst h;rfl
theorem Zgi {α:Type} {a:List α} {i:Int} {Q:Prop}:Ret (gI a i) (fun _=>Q)=((0<=i/\i < a.length)/\Q):=by
 apply propext
 constructor
 ·rintro ⟨x,h,q⟩
  obtain ⟨h0,h1,_⟩:=ZaI h
  exact ⟨⟨h0,h1⟩,q⟩
 ·rintro ⟨⟨h0,h1⟩,q⟩
  exact Zaj h0 h1 fun _ _ _=>q
theorem wm (k c:Nat) (h:k+c<=1000):wrap .i64 (((k+c:Nat):Int) - (c:Nat))=(k:Int):=by rw [Zau (by omega) (by omega)];omega
theorem d8 (v:Nat):v % 100000000 / 10000 / 100 / 10=v / 10000000 % 10/\v % 100000000 / 10000 / 100 % 10=v / 1000000 % 10/\v % 100000000 / 10000 % 100 / 10=v / 100000 % 10/\v % 100000000 / 10000 % 100 % 10=v / 10000 % 10 /\
 v % 100000000 % 10000 / 100 / 10=v / 1000 % 10/\v % 100000000 % 10000 / 100 % 10=v / 100 % 10/\v % 100000000 % 10000 % 100 / 10=v / 10 % 10/\v % 100000000 % 10000 % 100 % 10=v % 10:=by omega
structure FbI (u nd:Nat) (q:Int×Int×List Int):Prop where
 ex:∃ k v:Nat,q.2.1=(k:Int)/\q.1=(v:Int)/\v=u / 10 ^ (nd - k)/\Dg u nd k q.2.2/\v < 10 ^ k
theorem ZcG (u nd k m:Nat) (v:Nat) (hv:v=u / 10 ^ m) {a:List Int} (c d:Nat) (hd:d=v / 10 ^ c % 10) (hm:nd - (k+1)=m+c) (h:Dg u nd (k+1) a):Dg u nd k (Zaq a (k:Int) ((48+d:Nat):Int)):=by
 refine h.step ?_ rfl
 rw [Zvt v c hd,hv,Zvs,hm]
theorem ZC2 (u nd k:Nat) (hn:nd<=20) (v:Nat) (hv:v=u / 10 ^ (nd - k)) (hk:k<=1) (hlt:v < 10 ^ k) (a:List Int) (h:Dg u nd k a):Ret (ZDi ((k:Int),(v:Int),a)) fun r=>r=ZhV u nd:=by
 have hkn:=h.kn
 have hl:=h.len
 simp only [ZDi,wq,reduceCtorEq,Zgi]
 refine ⟨fun hp=>?_,fun hp=>?_⟩
 ·obtain rfl:k=1:=by omega
  refine ⟨⟨by omega,by omega⟩,⟨by omega,by omega⟩,?_⟩
  have h10:v < 10:=by simpa using hlt
  rw [Zb1 (by omega) (by omega),ZpU (by omega) (by omega)]
  have:=ZcG u nd 0 (nd - 1) v hv 0 v (by simp;omega) (by omega) h
  have h4:=this.at'
  rw [List.drop_zero,Nat.sub_zero] at h4
  rw [show (48+(v:Int))=((48+v:Nat):Int) by omega]
  exact h4
 ·obtain rfl:k=0:=by omega
  have h4:=h.at'
  rw [List.drop_zero,Nat.sub_zero] at h4
  exact h4
theorem ZC3 (u nd k:Nat) (hn:nd<=20) (v:Nat) (hv:v=u / 10 ^ (nd - k)) (hk:k<=3) (hlt:v < 10 ^ k) (a:List Int) (h:Dg u nd k a):Ret (Zxt ((k:Int),(v:Int),a)) fun r=>r=ZhV u nd:=by
 have hkn:=h.kn
 have hl:=h.len
 have hv3:v < 10 ^ 3:=Nat.lt_of_lt_of_le hlt (Nat.pow_le_pow_right (by omega) hk)
 have hc:tmod (v:Int) 100=((v % 100:Nat):Int):=Zkn v 100
 have hd:wrap .u32 (tdiv (v:Int) 100)=((v / 100:Nat):Int):=by rw [show tdiv (v:Int) 100=((v / 100:Nat):Int) from ZiT v 100,Zb1 (by omega) (by omega)]
 simp only [Zxt,wq,reduceCtorEq,hc,hd,Za4 (smA (v % 100) (by omega)),Za4 (smB (v % 100) (by omega)),Zgi]
 refine ⟨fun hp=>?_,fun hp=>?_⟩
 ·obtain ⟨k,rfl⟩:∃ j,k=j+2:=⟨k - 2,by omega⟩
  have w1:wrap .i64 (((k+2:Nat):Int) - 1)=((k+1:Nat):Int):=wm (k+1) 1 (by omega)
  have w2:wrap .i64 (((k+2:Nat):Int) - 2)=(k:Int):=wm k 2 (by omega)
  simp only [w1,w2,Zay]
  refine ⟨⟨by omega,by omega⟩,⟨by omega,by omega⟩,⟨by omega,by omega⟩,⟨by omega,by omega⟩,?_⟩
  have h1:=ZcG u nd (k+1) (nd - (k+2)) v hv 0 (v % 100 % 10) (by simp) (by omega) h
  have h2:=ZcG u nd k (nd - (k+2)) v hv 1 (v % 100 / 10) (by omega) (by omega) h1
  refine ZC2 u nd k hn (v / 100) ?_ (by omega) ?_ _ h2
  ·rw [hv,Nat.div_div_eq_div_mul,show (100:Nat)=10 ^ 2 from rfl,<-pow_add];congr 2;omega
  ·have:v < 10 ^ k * 100:=by rw [show (100:Nat)=10 ^ 2 from rfl,<-pow_add];exact hlt
   exact Nat.div_lt_of_lt_mul (by rw [mul_comm];exact this)
 ·exact ZC2 u nd k hn v hv (by omega) hlt a h
set_option maxHeartbeats 1000000 in
theorem ZCH (u nd:Nat) (hn:nd<=20) (hu:u < 18446744073709551616) (k v:Nat) (a:List Int) (hv:v=u / 10 ^ (nd - k)) (h:Dg u nd k a) (hlt:v < 10 ^ k) (hp:8<=k):Ret (Zxu ((v:Int),(k:Int),a)) (Zev (FbI u nd) (fun q=>q.2.1.toNat) (fun r=>r=ZhV u nd) ((v:Int),(k:Int),a)):=by
 have hkn:=h.kn
 have hl:=h.len
 have hvu:v<=u:=by rw [hv];exact Nat.div_le_self _ _
 have hx:wrap .u32 (tmod (v:Int) 100000000)=((v % 100000000:Nat):Int):=by rw [show tmod (v:Int) 100000000=((v % 100000000:Nat):Int) from Zkn v 100000000,Zb1 (by omega) (by omega)]
 have hX:v % 100000000 < 100000000:=Nat.mod_lt _ (by omega)
 obtain ⟨d7,d6,d5,d4,d3,d2,d1,d0⟩:=d8 v
 have hp':((k:Int)>=8):=by omega
 simp only [Zxu,hx,decide_eq_true hp',cond_true,wq,reduceCtorEq]
 obtain ⟨k,rfl⟩:∃ j,k=j+8:=⟨k - 8,by omega⟩
 generalize hXe:v % 100000000=X at *
 have t1:tmod (X:Int) 10000=((X % 10000:Nat):Int):=Zkn X 10000
 have t2:tmod ((X % 10000:Nat):Int) 100=((X % 10000 % 100:Nat):Int):=Zkn _ 100
 have t3:wrap .u32 (tdiv ((X % 10000:Nat):Int) 100)=((X % 10000 / 100:Nat):Int):=by rw [show tdiv ((X % 10000:Nat):Int) 100=((X % 10000 / 100:Nat):Int) from ZiT _ 100,Zb1 (by omega) (by omega)]
 have t4:wrap .u32 (tdiv (X:Int) 10000)=((X / 10000:Nat):Int):=by rw [show tdiv (X:Int) 10000=((X / 10000:Nat):Int) from ZiT _ 10000,Zb1 (by omega) (by omega)]
 have t5:tmod ((X / 10000:Nat):Int) 100=((X / 10000 % 100:Nat):Int):=Zkn _ 100
 have t6:wrap .u32 (tdiv ((X / 10000:Nat):Int) 100)=((X / 10000 / 100:Nat):Int):=by rw [show tdiv ((X / 10000:Nat):Int) 100=((X / 10000 / 100:Nat):Int) from ZiT _ 100,Zb1 (by omega) (by omega)]
 have t7:wrap .u64 (tdiv (v:Int) 100000000)=((v / 100000000:Nat):Int):=by rw [show tdiv (v:Int) 100000000=((v / 100000000:Nat):Int) from ZiT _ 100000000,Zdz (by omega) (by omega)]
 have w1:wrap .i64 (((k+8:Nat):Int) - 1)=((k+7:Nat):Int):=wm (k+7) 1 (by omega)
 have w2:wrap .i64 (((k+8:Nat):Int) - 2)=((k+6:Nat):Int):=wm (k+6) 2 (by omega)
 have w3:wrap .i64 (((k+8:Nat):Int) - 3)=((k+5:Nat):Int):=wm (k+5) 3 (by omega)
 have w4:wrap .i64 (((k+8:Nat):Int) - 4)=((k+4:Nat):Int):=wm (k+4) 4 (by omega)
 have w5:wrap .i64 (((k+8:Nat):Int) - 5)=((k+3:Nat):Int):=wm (k+3) 5 (by omega)
 have w6:wrap .i64 (((k+8:Nat):Int) - 6)=((k+2:Nat):Int):=wm (k+2) 6 (by omega)
 have w7:wrap .i64 (((k+8:Nat):Int) - 7)=((k+1:Nat):Int):=wm (k+1) 7 (by omega)
 have w8:wrap .i64 (((k+8:Nat):Int) - 8)=(k:Int):=wm k 8 (by omega)
 have b1:=eq_true (show 0<=((k+1:Nat):Int)/\((k+1:Nat):Int) < (a.length:Int) from ⟨by omega,by omega⟩)
 have b2:=eq_true (show 0<=((k+2:Nat):Int)/\((k+2:Nat):Int) < (a.length:Int) from ⟨by omega,by omega⟩)
 have b3:=eq_true (show 0<=((k+3:Nat):Int)/\((k+3:Nat):Int) < (a.length:Int) from ⟨by omega,by omega⟩)
 have b4:=eq_true (show 0<=((k+4:Nat):Int)/\((k+4:Nat):Int) < (a.length:Int) from ⟨by omega,by omega⟩)
 have b5:=eq_true (show 0<=((k+5:Nat):Int)/\((k+5:Nat):Int) < (a.length:Int) from ⟨by omega,by omega⟩)
 have b6:=eq_true (show 0<=((k+6:Nat):Int)/\((k+6:Nat):Int) < (a.length:Int) from ⟨by omega,by omega⟩)
 have b7:=eq_true (show 0<=((k+7:Nat):Int)/\((k+7:Nat):Int) < (a.length:Int) from ⟨by omega,by omega⟩)
 have b0:=eq_true (show 0<=(k:Int)/\(k:Int) < (a.length:Int) from ⟨by omega,by omega⟩)
 simp only [t1,t2,t3,t4,t5,t6,t7,w1,w2,w3,w4,w5,w6,w7,w8,Za4 (smA (X % 10000 % 100) (by omega)),Za4 (smB (X % 10000 % 100) (by omega)),Za4 (smA (X % 10000 / 100) (by omega)),Za4 (smB (X % 10000 / 100) (by omega)),
  Za4 (smA (X / 10000 % 100) (by omega)),Za4 (smB (X / 10000 % 100) (by omega)),Za4 (smA (X / 10000 / 100) (by omega)),Za4 (smB (X / 10000 / 100) (by omega)),Zgi,ZaH,ZgT,Zay,b0,b1,b2,b3,b4,b5,b6,b7,true_and]
 refine ⟨?_,by omega⟩
 have p0:=ZcG u nd (k+7) (nd - (k+8)) v hv 0 (X % 10000 % 100 % 10) (by simp only [d0,pow_zero,div_one]) (by omega) h
 have p1:=ZcG u nd (k+6) (nd - (k+8)) v hv 1 (X % 10000 % 100 / 10) (by simp only [d1,reducePow]) (by omega) p0
 have p2:=ZcG u nd (k+5) (nd - (k+8)) v hv 2 (X % 10000 / 100 % 10) (by simp only [d2,reducePow]) (by omega) p1
 have p3:=ZcG u nd (k+4) (nd - (k+8)) v hv 3 (X % 10000 / 100 / 10) (by simp only [d3,reducePow]) (by omega) p2
 have p4:=ZcG u nd (k+3) (nd - (k+8)) v hv 4 (X / 10000 % 100 % 10) (by simp only [d4,reducePow]) (by omega) p3
 have p5:=ZcG u nd (k+2) (nd - (k+8)) v hv 5 (X / 10000 % 100 / 10) (by simp only [d5,reducePow]) (by omega) p4
 have p6:=ZcG u nd (k+1) (nd - (k+8)) v hv 6 (X / 10000 / 100 % 10) (by simp only [d6,reducePow]) (by omega) p5
 have p7:=ZcG u nd k (nd - (k+8)) v hv 7 (X / 10000 / 100 / 10) (by simp only [d7,reducePow]) (by omega) p6
 refine ⟨k,v / 100000000,rfl,rfl,?_,p7,?_⟩
 ·rw [hv,Nat.div_div_eq_div_mul,show (100000000:Nat)=10 ^ 8 from rfl,<-pow_add];congr 2;omega
 ·have:v < 10 ^ k * 100000000:=by rw [show (100000000:Nat)=10 ^ 8 from rfl,<-pow_add];exact hlt
  exact Nat.div_lt_of_lt_mul (by rw [mul_comm];exact this)
set_option maxHeartbeats 1000000 in
theorem ZCI (u nd:Nat) (hn:nd<=20) (hu:u < 18446744073709551616) (k v:Nat) (a:List Int) (hv:v=u / 10 ^ (nd - k)) (h:Dg u nd k a) (hlt:v < 10 ^ k) (hp:k<=7):Ret (Zxu ((v:Int),(k:Int),a)) (Zev (FbI u nd) (fun q=>q.2.1.toNat) (fun r=>r=ZhV u nd) ((v:Int),(k:Int),a)):=by
 have hkn:=h.kn
 have hl:=h.len
 have hvu:v<=u:=by rw [hv];exact Nat.div_le_self _ _
 have hx:wrap .u32 (tmod (v:Int) 100000000)=((v % 100000000:Nat):Int):=by rw [show tmod (v:Int) 100000000=((v % 100000000:Nat):Int) from Zkn v 100000000,Zb1 (by omega) (by omega)]
 have hX:v % 100000000 < 100000000:=Nat.mod_lt _ (by omega)
 obtain ⟨d7,d6,d5,d4,d3,d2,d1,d0⟩:=d8 v
 have hp':¬ ((k:Int)>=8):=by omega
 simp only [Zxu,hx,decide_eq_false hp',cond_false,wq,reduceCtorEq]
 have hk7:k<=7:=by omega
 have hv7:v < 10 ^ 7:=Nat.lt_of_lt_of_le hlt (Nat.pow_le_pow_right (by omega) hk7)
 have hw:wrap .u32 (v:Int)=(v:Int):=Zb1 (by omega) (by omega)
 have t1:tmod (v:Int) 10000=((v % 10000:Nat):Int):=Zkn v 10000
 have t2:tmod ((v % 10000:Nat):Int) 100=((v % 10000 % 100:Nat):Int):=Zkn _ 100
 have t3:wrap .u32 (tdiv ((v % 10000:Nat):Int) 100)=((v % 10000 / 100:Nat):Int):=by rw [show tdiv ((v % 10000:Nat):Int) 100=((v % 10000 / 100:Nat):Int) from ZiT _ 100,Zb1 (by omega) (by omega)]
 have t4:wrap .u32 (tdiv (v:Int) 10000)=((v / 10000:Nat):Int):=by rw [show tdiv (v:Int) 10000=((v / 10000:Nat):Int) from ZiT _ 10000,Zb1 (by omega) (by omega)]
 simp only [hw,t1,t2,t3,t4,Za4 (smA (v % 10000 % 100) (by omega)),Za4 (smB (v % 10000 % 100) (by omega)),Za4 (smA (v % 10000 / 100) (by omega)),Za4 (smB (v % 10000 / 100) (by omega)),Zgi]
 refine ⟨fun hp=>?_,fun hp=>?_⟩
 ·obtain ⟨k,rfl⟩:∃ j,k=j+4:=⟨k - 4,by omega⟩
  have w1:wrap .i64 (((k+4:Nat):Int) - 1)=((k+3:Nat):Int):=wm (k+3) 1 (by omega)
  have w2:wrap .i64 (((k+4:Nat):Int) - 2)=((k+2:Nat):Int):=wm (k+2) 2 (by omega)
  have w3:wrap .i64 (((k+4:Nat):Int) - 3)=((k+1:Nat):Int):=wm (k+1) 3 (by omega)
  have w4:wrap .i64 (((k+4:Nat):Int) - 4)=(k:Int):=wm k 4 (by omega)
  simp only [w1,w2,w3,w4,Zay]
  refine ⟨⟨by omega,by omega⟩,⟨by omega,by omega⟩,⟨by omega,by omega⟩,⟨by omega,by omega⟩,⟨by omega,by omega⟩,⟨by omega,by omega⟩,⟨by omega,by omega⟩,⟨by omega,by omega⟩,?_⟩
  have p0:=ZcG u nd (k+3) (nd - (k+4)) v hv 0 (v % 10000 % 100 % 10) (by simp only [pow_zero,div_one];omega) (by omega) h
  have p1:=ZcG u nd (k+2) (nd - (k+4)) v hv 1 (v % 10000 % 100 / 10) (by omega) (by omega) p0
  have p2:=ZcG u nd (k+1) (nd - (k+4)) v hv 2 (v % 10000 / 100 % 10) (by omega) (by omega) p1
  have p3:=ZcG u nd k (nd - (k+4)) v hv 3 (v % 10000 / 100 / 10) (by omega) (by omega) p2
  refine ZC3 u nd k hn (v / 10000) ?_ (by omega) ?_ _ p3
  ·rw [hv,Nat.div_div_eq_div_mul,show (10000:Nat)=10 ^ 4 from rfl,<-pow_add];congr 2;omega
  ·have:v < 10 ^ k * 10000:=by rw [show (10000:Nat)=10 ^ 4 from rfl,<-pow_add];exact hlt
   exact Nat.div_lt_of_lt_mul (by rw [mul_comm];exact this)
 ·exact ZC3 u nd k hn v hv (by omega) hlt a h
theorem ZCJ (u nd:Nat) (hn:nd<=20) (hu:u < 18446744073709551616) (q:Int×Int×List Int) (h:FbI u nd q):Ret (Zxu q) (Zev (FbI u nd) (fun q=>q.2.1.toNat) (fun r=>r=ZhV u nd) q):=by
 obtain ⟨u',k',a⟩:=q
 obtain ⟨k,v,e1,e2,hv,h,hlt⟩:=h
 dsimp only at e1 e2 h
 subst e1;subst e2
 by_cases hp:8<=k
 ·exact ZCH u nd hn hu k v a hv h hlt hp
 ·exact ZCI u nd hn hu k v a hv h hlt (by omega)
theorem ZAL (u:Nat) (a:List Int) (hn:a.length<=20) (hu:u < 18446744073709551616) (hlt:u < 10 ^ a.length):F99 (u:Int) a=some (ZhV u a.length):=by
 refine Ret.eq ?_
 unfold F99
 exact Zac (FbI u a.length) (fun q=>q.2.1.toNat) (ZCJ u a.length hn hu) _ ⟨a.length,u,rfl,rfl,by simp,⟨rfl,le_refl _,by simp [ZhV]⟩,hlt⟩

def BL (u m : Nat) : Prop := u < 2 ^ m ∧ (0 < u → 2 ^ m ≤ 2 * u)
theorem l8 : ∀ v : Fin 256, ∃ m : Fin 9, gB BS2 ((v.val : Nat) : Int) = some ((m.val : Nat) : Int) ∧ v.val < 2 ^ m.val ∧ (0 < v.val → 2 ^ m.val ≤ 2 * v.val) := by decide +kernel
theorem BL.up {u x m : Nat} (k : Nat) (hx : x = u / 2 ^ k) (h : BL x m) (h0 : 0 < x) : BL u (m + k) := by
  obtain ⟨h1, h2⟩ := h
  have hk : 0 < 2 ^ k := Nat.pow_pos (by omega)
  have e1 : 2 ^ k * (u / 2 ^ k) ≤ u := Nat.mul_div_le u (2 ^ k)
  have e2 : u < 2 ^ k * (u / 2 ^ k + 1) := Nat.lt_mul_div_succ u hk
  rw [← hx] at e1 e2
  refine ⟨?_, fun _ => ?_⟩
  · rw [pow_add, mul_comm]
    exact Nat.lt_of_lt_of_le e2 (Nat.mul_le_mul_left _ h1)
  · rw [pow_add, mul_comm]
    have := Nat.mul_le_mul_left (2 ^ k) (h2 h0)
    have e3 : 2 ^ k * (2 * x) = 2 * (2 ^ k * x) := by rw [Nat.mul_left_comm]
    omega
theorem ZpY (a b : Nat) : fdiv (a : Int) (b : Int) = ((a / b : Nat) : Int) := by
  rw [Int.fdiv_eq_ediv_of_nonneg _ (by omega)]; rfl
theorem ZCt (u x n : Nat) (hx : x < 256) (hn : n ≤ 56) {Q : Int → Prop} (hQ : ∀ m : Nat, m ≤ n + 8 → (∃ k, m = k + n ∧ BL x k) → Q (m : Int)) : Ret (ZC6 ((x : Int), (n : Int))) Q := by
  obtain ⟨m, h1, h2, h3⟩ := l8 ⟨x, hx⟩
  dsimp only at h1 h2 h3
  simp only [ZC6, ZpU (n := (x : Int)) (by omega) (by omega), Za4 h1, wq, reduceCtorEq]
  have hm := m.isLt
  rw [Zau (n := ((m.val : Nat) : Int)) (by omega) (by omega), Zau (by omega) (by omega)]
  have := hQ (n + m.val) (by omega) ⟨m.val, by omega, h2, h3⟩
  rw [show (n : Int) + ((m.val : Nat) : Int) = ((n + m.val : Nat) : Int) by omega]
  exact this
theorem ZCu (x n : Nat) (hx : x < 65536) (hn : n ≤ 48) {Q : Int → Prop} (hQ : ∀ m : Nat, m ≤ n + 16 → (∃ k, m = k + n ∧ BL x k) → Q (m : Int)) : Ret (ZC7 ((x : Int), (n : Int))) Q := by
  have e : fdiv (x : Int) (2 ^ (min (toNat 8) (IntKind.bits .u64))) = ((x / 256 : Nat) : Int) := ZpY x 256
  simp only [ZC7, e, wq, reduceCtorEq]
  refine ⟨fun h => ?_, fun h => ?_⟩
  · rw [Zau (n := (n : Int) + 8) (by omega) (by omega), show (n : Int) + 8 = ((n + 8 : Nat) : Int) by omega]
    refine ZCt x (x / 256) (n + 8) (by omega) (by omega) fun m hm ⟨k, hk, hb⟩ => hQ m (by omega) ⟨k + 8, by omega, hb.up 8 rfl (by omega)⟩
  · exact ZCt x x n (by omega) (by omega) fun m hm hk => hQ m (by omega) hk
theorem ZCv (x n : Nat) (hx : x < 4294967296) (hn : n ≤ 32) {Q : Int → Prop} (hQ : ∀ m : Nat, m ≤ n + 32 → (∃ k, m = k + n ∧ BL x k) → Q (m : Int)) : Ret (Ztn ((x : Int), (n : Int))) Q := by
  have e : fdiv (x : Int) (2 ^ (min (toNat 16) (IntKind.bits .u64))) = ((x / 65536 : Nat) : Int) := ZpY x 65536
  simp only [Ztn, e, wq, reduceCtorEq]
  refine ⟨fun h => ?_, fun h => ?_⟩
  · rw [Zau (n := (n : Int) + 16) (by omega) (by omega), show (n : Int) + 16 = ((n + 16 : Nat) : Int) by omega]
    refine ZCu (x / 65536) (n + 16) (by omega) (by omega) fun m hm ⟨k, hk, hb⟩ => hQ m (by omega) ⟨k + 16, by omega, hb.up 16 rfl (by omega)⟩
  · exact ZCu x n (by omega) (by omega) fun m hm hk => hQ m (by omega) hk
theorem ZvL (u : Nat) (hu : u < 18446744073709551616) : Ret (ZxQ (u : Int)) fun r => ∃ m : Nat, r = m ∧ m ≤ 64 ∧ BL u m := by
  have e : fdiv (u : Int) (2 ^ (min (toNat 32) (IntKind.bits .u64))) = ((u / 4294967296 : Nat) : Int) := ZpY u 4294967296
  simp only [ZxQ, e, wq, reduceCtorEq]
  refine ⟨fun h => ?_, fun h => ?_⟩
  · exact ZCv (u / 4294967296) 32 (by omega) (by omega) fun m hm ⟨k, hk, hb⟩ => ⟨m, rfl, by omega, by rw [hk]; exact hb.up 32 rfl (by omega)⟩
  · exact ZCv u 0 (by omega) (by omega) fun m hm ⟨k, hk, hb⟩ => ⟨m, rfl, by omega, by rw [hk]; exact hb⟩

theorem lg : ∀ n : Fin 65, 1 ≤ n.val → n.val * 78913 / 262144 ≤ 19 ∧ 2 ^ n.val ≤ 10 ^ (n.val * 78913 / 262144 + 1) ∧ (1 ≤ n.val * 78913 / 262144 → 2 * 10 ^ (n.val * 78913 / 262144 - 1) ≤ 2 ^ n.val) := by decide +kernel
theorem p10 : ∀ t : Fin 20, gI GT0 ((t.val : Nat) : Int) = some ((10 ^ t.val : Nat) : Int) := by decide +kernel
theorem ZtH (u : Nat) (h0 : 10 ≤ u) (hu : u < 18446744073709551616) : Ret (F98 (u : Int)) fun r => ∃ d : Nat, r = d ∧ d ≤ 20 ∧ 1 ≤ d ∧ 10 ^ (d - 1) ≤ u ∧ u < 10 ^ d := by
  simp only [F98, wq, reduceCtorEq]
  refine Ret.mono (ZvL u hu) fun r _ ⟨n, hr, hn, hb1, hb2⟩ => ?_
  subst hr
  have e : fdiv (wrap .i64 ((n : Int) * 78913)) (2 ^ (min (toNat 18) (IntKind.bits .i64))) = ((n * 78913 / 262144 : Nat) : Int) := by
    rw [Zau (by omega) (by omega), show (n : Int) * 78913 = ((n * 78913 : Nat) : Int) by omega]
    exact ZpY (n * 78913) 262144
  simp only [ZxP, e, wq, reduceCtorEq]
  have hn1 : 4 ≤ n := by
    rcases Nat.lt_or_ge n 4 with h | h
    · have : 2 ^ n ≤ 2 ^ 3 := Nat.pow_le_pow_right (by omega) (by omega)
      omega
    · exact h
  obtain ⟨g1, g2, g3⟩ := lg ⟨n, by omega⟩ (by show 1 ≤ n; omega)
  dsimp only at g1 g2 g3
  have ht1 : 1 ≤ n * 78913 / 262144 := by omega
  generalize n * 78913 / 262144 = t at *
  have hp := p10 ⟨t, by omega⟩
  dsimp only at hp
  simp only [Za4 hp, Z0q, wq, reduceCtorEq]
  have hbb := hb2 (by omega)
  have hg3 := g3 ht1
  refine ⟨fun h => ?_, fun h => ?_⟩
  · rw [Zau (by omega) (by omega)]
    have : 10 ^ t ≤ u := by omega
    exact ⟨t + 1, by omega, by omega, by omega, by rw [Nat.add_sub_cancel]; exact this, by omega⟩
  · rw [Zau (by omega) (by omega)]
    have : u < 10 ^ t := by omega
    exact ⟨t, by omega, by omega, by omega, by omega, this⟩

def Zm3 (u : Nat) : Nat := if u < 10 then 1 else Zm3 (u / 10) + 1
theorem ZpZ (u : Nat) (h : u < 10) : Zm3 u = 1 := by unfold Zm3; rw [if_pos h]
theorem Zll : ∀ (d u : Nat), 1 ≤ d → (d = 1 ∨ 10 ^ (d - 1) ≤ u) → u < 10 ^ d → Zm3 u = d
  | 0, _, h, _, _ => by omega
  | 1, u, _, _, h => ZpZ u (by simpa using h)
  | d + 2, u, _, h1, h2 => by
    have h1 : 10 ^ (d + 1) ≤ u := by rcases h1 with h | h; · omega
                                     · exact h
    have hp : 0 < 10 ^ d := Nat.pow_pos (by omega)
    have e1 : 10 ^ (d + 1) = 10 ^ d * 10 := pow_succ ..
    have e2 : 10 ^ (d + 2) = 10 ^ (d + 1) * 10 := pow_succ ..
    rw [Zm3, if_neg (by omega), Zll (d + 1) (u / 10) (by omega) (.inr (by rw [Nat.add_sub_cancel]; exact (Nat.le_div_iff_mul_le (by omega)).2 (by omega))) (by exact (Nat.div_lt_iff_lt_mul (by omega)).2 (by omega))]
theorem Zqa : ∀ u : Nat, u < 10 ^ Zm3 u ∧ 1 ≤ Zm3 u := fun u => by
  induction u using Nat.strongRecOn with
  | _ u ih =>
    unfold Zm3
    split
    · rename_i h; exact ⟨by simpa using h, by omega⟩
    · obtain ⟨h1, h2⟩ := ih (u / 10) (by omega)
      refine ⟨?_, by omega⟩
      rw [pow_succ]
      exact (Nat.div_lt_iff_lt_mul (by omega)).1 h1
def Zlm (u : Nat) : List Int := ZhV u (Zm3 u)
def ZeB (i : Int) : List Int := if i < 0 then 45 :: Zlm i.natAbs else Zlm i.natAbs
theorem ZiU (u : Nat) (h : u < 100000000000000000000) : (Zlm u).length ≤ 20 := by
  unfold Zlm; rw [Zm2]
  rcases Nat.lt_or_ge 20 (Zm3 u) with hl | hl
  · exfalso
    have : ∀ n v : Nat, v < 10 ^ n → 1 ≤ n → Zm3 v ≤ n := by
      intro n
      induction n with
      | zero => intro v _ h; omega
      | succ n ih =>
        intro v hv _
        unfold Zm3
        split
        · omega
        · rename_i hge
          have h1 : v / 10 < 10 ^ n := by rw [pow_succ] at hv; exact (Nat.div_lt_iff_lt_mul (by omega)).2 hv
          have : 1 ≤ n := by
            rcases n with _ | n
            · simp at hv; omega
            · omega
          have := ih (v / 10) h1 this
          omega
    have := this 20 u (by omega) (by omega)
    omega
  · exact hl

theorem smS : ∀ v : Fin 100, 10 ≤ v.val → toB (slB BS1 ((2 * v.val : Nat) : Int) ((2 * v.val + 2 : Nat) : Int)) = [((48 + v.val / 10 : Nat) : Int), ((48 + v.val % 10 : Nat) : Int)] := by decide +kernel
theorem smD : ∀ v : Fin 10, toB (slB BS0 ((v.val : Nat) : Int) ((v.val + 1 : Nat) : Int)) = [((48 + v.val : Nat) : Int)] := by decide +kernel
theorem ZEH (v : Nat) (h : v < 100) : Ret (F97 (v : Int)) fun r => toB r = Zlm v := by
  have s36 : (BS0.size : Int) = 36 := by decide +kernel
  have s200 : (BS1.size : Int) = 200 := by decide +kernel
  have w1 : wrap .i64 ((v : Int) + 1) = ((v + 1 : Nat) : Int) := by rw [Zau (by omega) (by omega)]; omega
  have w2 : wrap .i64 ((v : Int) * 2) = ((2 * v : Nat) : Int) := by rw [Zau (by omega) (by omega)]; omega
  have w3 : wrap .i64 (((2 * v : Nat) : Int) + 2) = ((2 * v + 2 : Nat) : Int) := by rw [Zau (by omega) (by omega)]; omega
  simp only [F97, w1, w2, w3, s36, s200, wq, reduceCtorEq]
  refine ⟨fun hl => ⟨fun _ => ?_, fun h => absurd h (by omega)⟩, fun hl => ⟨fun _ => ?_, fun h => absurd h (by omega)⟩⟩
  · have hv : v < 10 := by omega
    rw [smD ⟨v, hv⟩]
    unfold Zlm
    rw [ZpZ v hv]
    simp only [ZhV, dig, pow_zero, div_one]
    rw [mod_eq_of_lt hv]
  · have hv : 10 ≤ v := by omega
    rw [smS ⟨v, h⟩ hv]
    unfold Zlm
    rw [Zll 2 v (by omega) (.inr (by simpa using hv)) (by simpa using h)]
    simp only [ZhV, dig, pow_zero, div_one, reducePow, Nat.pow_one]
    rw [mod_eq_of_lt (show v / 10 < 10 by omega)]
theorem ZCZ (u : Nat) (hu : u < 18446744073709551616) (d : List Int) (hd : d.length ≤ 900000) : F95 (u : Int) 10 d = some (d ++ Zlm u) := by
  refine Ret.eq ?_
  have hl := ZiU u (by omega)
  simp only [F95, wq, reduceCtorEq]
  refine ⟨fun h => ?_, fun h => ?_⟩
  · rw [Zau (by omega) (by omega)]
    refine Ret.mono (ZEH u (by omega)) fun r _ hr => ?_
    rw [hr]
    exact ⟨fun _ => rfl, fun h => absurd h (by omega)⟩
  · refine Ret.mono (ZtH u (by omega) hu) fun r _ ⟨n, hr, hn, h1, h2, h3⟩ => ?_
    subst hr
    have hsl : (slI (replicate 24 (0 : Int)) 0 (n : Int)).length = n := by unfold slI; simp; omega
    have hdec : Zlm u = ZhV u n := by unfold Zlm; rw [Zll n u h1 (.inr h2) h3]
    refine ⟨fun _ => ?_, fun h => absurd h (by omega)⟩
    rw [ZAL u _ (by rw [hsl]; exact hn) hu (by rw [hsl]; exact h3), hsl, ← hdec]
    simp only [ZaH]
    exact ⟨fun _ => trivial, fun h => absurd h (by omega)⟩
theorem ZCq (i : Int) (h1 : -9223372036854775808 ≤ i) (h2 : i ≤ 9223372036854775807) (d : List Int) (hd : d.length ≤ 800000) : F73 i 10 d = some (d ++ ZeB i) := by
  refine Ret.eq ?_
  simp only [F73, F91, Zy9, wq, reduceCtorEq]
  refine ⟨fun h => ⟨fun _ => ?_, fun h => absurd h (by simp only [length_cons, length_nil]; omega)⟩, fun h => ?_⟩
  · have e1 : wrap .u64 i = i + 18446744073709551616 := by
      show (let m := i % (2 ^ 64 : Int); if false && m ≥ (2 ^ 63 : Int) then m - (2 ^ 64 : Int) else m) = _
      simp only [Bool.false_and, false_eq_true, if_false]; omega
    have e2 : wrap .u64 (0 - (i + 18446744073709551616)) = ((i.natAbs : Nat) : Int) := by
      show (let m := (0 - (i + 18446744073709551616)) % (2 ^ 64 : Int); if false && m ≥ (2 ^ 63 : Int) then m - (2 ^ 64 : Int) else m) = _
      simp only [Bool.false_and, false_eq_true, if_false]; omega
    rw [e1, e2, ZCZ _ (by omega) _ (by simp; omega)]
    simp only [ZaH, ZeB, if_pos h, List.append_assoc, cons_append, nil_append]
  · rw [Zdz (by omega) (by omega), show i = ((i.natAbs : Nat) : Int) by omega, ZCZ _ (by omega) _ (by omega)]
    simp only [ZaH, ZeB]
    rw [if_neg (by omega)]
    simp
def Z02:List Int->Nat->Nat
 | [],a=>a
 | x::l,a=>Z02 l (a * 10+(x - 48).toNat)
theorem ZgU (u:Nat):∀ n a,Z02 (ZhV u n) a=a * 10 ^ n+u % 10 ^ n
 | 0,a=>by simp [ZhV,Z02,Nat.mod_one]
 | n+1,a=>by
  have e:(dig u n - 48).toNat=u / 10 ^ n % 10:=by unfold dig;omega
  simp only [ZhV,Z02,e,ZgU u n]
  have h1:u % 10 ^ (n+1)=u % 10 ^ n+10 ^ n * (u / 10 ^ n % 10):=by rw [pow_succ,Nat.mod_mul]
  rw [h1,pow_succ,Nat.add_mul,Nat.mul_assoc,mul_comm 10 (10 ^ n),mul_comm (u / 10 ^ n % 10)]
  omega
theorem Zm4 {u v:Nat} (h:Zlm u=Zlm v):u=v:=by
 have h1:=ZgU u (Zm3 u) 0
 have h2:=ZgU v (Zm3 v) 0
 unfold Zlm at h
 rw [h,h2] at h1
 rw [mod_eq_of_lt (Zqa u).1,mod_eq_of_lt (Zqa v).1] at h1
 omega
theorem Zgj {u:Nat} {x:Int}:∀ {n:Nat},x∈ZhV u n->48<=x/\x<=57
 | 0,h=>by cases h
 | n+1,h=>by
  rcases mem_cons.1 h with rfl | h
  ·unfold dig;omega
  ·exact Zgj h
theorem ZgV {i x:Int} (h:x∈ZeB i):x=45\/(48<=x/\x<=57):=by
 unfold ZeB at h
 split at h
 ·rcases mem_cons.1 h with rfl | h
  ·exact .inl rfl
  ·exact .inr (Zgj h)
 ·exact .inr (Zgj h)
theorem Zkt {i j:Int} (h:ZeB i=ZeB j):i=j:=by
 have hd:∀ u:Nat,∀ r,Zlm u≠45::r:=by
  intro u r e
  have:(45:Int)∈Zlm u:=by rw [e];simp
  have:=Zgj this
  omega
 unfold ZeB at h
 split at h<;>split at h
 ·have:=Zm4 (List.cons.inj h).2;omega
 ·exact absurd h.symm (hd _ _)
 ·exact absurd h (hd _ _)
 ·have:=Zm4 h;omega
theorem ZdS {i:Int} (h1:-9223372036854775808<=i) (h2:i<=9223372036854775807):(ZeB i).length<=21:=by
 unfold ZeB
 split
 ·have:=ZiU i.natAbs (by omega);simp;omega
 ·have:=ZiU i.natAbs (by omega);omega
def ZfT (l:List Int):List Int:=l.flatMap fun k=>32::ZeB k
def ZgW (a:Int) (l:List Int):List Int:=ZeB a++ZfT l
theorem Zqc:∀ {a b r s:List Int},(32:Int)∉a->(32:Int)∉b->a++32::r=b++32::s->a=b/\r=s
 | [],[],r,s,_,_,h=>⟨rfl,(List.cons.inj h).2⟩
 | [],y::b,r,s,_,hb,h=>by
  have:=(List.cons.inj h).1
  exact absurd (by rw [this];simp) hb
 | x::a,[],r,s,ha,_,h=>by
  have:=(List.cons.inj h).1
  exact absurd (by rw [this];simp) ha
 | x::a,y::b,r,s,ha,hb,h=>by
  obtain ⟨h1,h2⟩:=List.cons.inj h
  obtain ⟨e1,e2⟩:=Zqc (fun m=>ha (mem_cons_of_mem _ m)) (fun m=>hb (mem_cons_of_mem _ m)) h2
  exact ⟨by rw [h1,e1],e2⟩
theorem Z03 (i:Int):(32:Int)∉ZeB i:=fun h=>by have:=ZgV h;omega
theorem Zm5:∀ {l m:List Int} {a b:Int},ZgW a l=ZgW b m->a=b/\l=m
 | [],[],a,b,h=>by
  simp only [ZgW,ZfT,flatMap_nil,append_nil] at h
  exact ⟨Zkt h,rfl⟩
 | [],y::m,a,b,h=>by
  simp only [ZgW,ZfT,flatMap_nil,append_nil,flatMap_cons,cons_append] at h
  exact absurd (by rw [h];simp) (Z03 a)
 | x::l,[],a,b,h=>by
  simp only [ZgW,ZfT,flatMap_nil,append_nil,flatMap_cons,cons_append] at h
  exact absurd (by rw [<-h];simp) (Z03 b)
 | x::l,y::m,a,b,h=>by
  simp only [ZgW,ZfT,flatMap_cons,cons_append] at h
  obtain ⟨h1,h2⟩:=Zqc (Z03 a) (Z03 b) h
  obtain ⟨h3,h4⟩:=Zm5 (a:=x) (b:=y) (l:=l) (m:=m) h2
  exact ⟨Zkt h1,by rw [h3,h4]⟩
theorem Zqd {l m:List Int} (hl:∀ x∈l,0<=x/\x < 256) (hm:∀ x∈m,0<=x/\x < 256) (h:ofB l=ofB m):l=m:=by
 have h1:(l.map fun n=>UInt8.ofNat n.toNat)=m.map fun n=>UInt8.ofNat n.toNat:=by
  unfold ofB at h
  have:=ByteArray.mk.inj h
  simpa using congrArg Array.toList this
 have key:∀ (l:List Int),(∀ x∈l,0<=x/\x < 256)->(l.map fun n=>UInt8.ofNat n.toNat).map (fun b=>(b.toNat:Int))=l:=by
  intro l hl
  induction l with
  | nil=>rfl
  | cons x l ih=>
   simp only [map_cons]
   rw [ih (fun y hy=>hl y (mem_cons_of_mem _ hy))]
   have:=hl x (by simp)
   congr 1
   rw [UInt8.toNat_ofNat']
   omega
 rw [<-key l hl,<-key m hm,h1]
theorem Zm6 {a:Int} {l:List Int} {x:Int} (h:x∈ZgW a l):0<=x/\x < 256:=by
 rcases mem_append.1 h with h | h
 ·have:=ZgV h;omega
 ·obtain ⟨k,_,hk⟩:=List.mem_flatMap.1 h
  rcases mem_cons.1 hk with rfl | hk
  ·omega
  ·have:=ZgV hk;omega
def Zvy (op imm:Int) (kids:List Int):ByteArray:=ofB (ZgW op (imm::kids))
theorem Zm7 {a b c d:Int} {k l:List Int} (h:Zvy a b k=Zvy c d l):a=c/\b=d/\k=l:=by
 have h1:=Zqd (fun x hx=>Zm6 hx) (fun x hx=>Zm6 hx) h
 obtain ⟨h2,h3⟩:=Zm5 h1
 exact ⟨h2,(List.cons.inj h3).1,(List.cons.inj h3).2⟩
abbrev I64 (i:Int):Prop:=-9223372036854775808<=i/\i<=9223372036854775807
structure ZiV (n:Zae):Prop where
 op:I64 n.1
 imm:I64 n.2.1
 k:n.2.2.length<=1000
 kid:∀ x∈n.2.2,I64 x
theorem Zm8 {l:List Int} (h:∀ x∈l,I64 x):(ZfT l).length<=22 * l.length:=by
 induction l with
 | nil=>simp [ZfT]
 | cons x l ih=>
  have h1:=ZdS (h x (by simp)).1 (h x (by simp)).2
  have h2:=ih (fun y hy=>h y (mem_cons_of_mem _ hy))
  unfold ZfT at h2 |-
  simp only [flatMap_cons,length_append,length_cons]
  omega
theorem ZCA (n:Zae) (hn:ZiV n):ZC0 n=some (Zvy n.1 n.2.1 n.2.2):=by
 refine Ret.eq ?_
 have l1:=ZdS hn.op.1 hn.op.2
 have l2:=ZdS hn.imm.1 hn.imm.2
 simp only [ZC0,ZCq _ hn.op.1 hn.op.2 [] (by simp),wq,reduceCtorEq,nil_append]
 refine ⟨fun _=>?_,fun h=>absurd h (by simp only [length_cons,length_nil];omega)⟩
 rw [ZCq _ hn.imm.1 hn.imm.2 _ (by simp only [length_append,length_cons,length_nil];omega)]
 simp only [ZaH]
 refine Zac (fun q:Int×List Int=>∃ j:Nat,q.1=j/\j<=n.2.2.length/\q.2=ZgW n.1 (n.2.1::n.2.2.take j)) (fun q=>n.2.2.length - q.1.toNat) ?_ _ ⟨0,rfl,by omega,by simp [ZgW,ZfT]⟩
 rintro ⟨j',b⟩ ⟨j,e1,hj,e2⟩
 dsimp only at e1 e2
 subst e1;subst e2
 have hk:=hn.k
 simp only [ZCz,F89,wq,reduceCtorEq]
 refine ⟨fun hlt=>Zaj (by omega) hlt fun y hy hm=>?_,fun hge=>?_⟩
 ·have hb:(ZgW n.1 (n.2.1::n.2.2.take j)).length<=30000:=by
   have h1:=Zm8 (l:=n.2.1::n.2.2.take j) (fun x hx=>by
    rcases mem_cons.1 hx with rfl | hx
    ·exact hn.imm
    ·exact hn.kid x (mem_of_mem_take hx))
   have h2:(n.2.2.take j).length<=1000:=by rw [length_take];omega
   simp only [length_cons] at h1
   simp only [ZgW,length_append]
   omega
  refine ⟨fun _=>?_,fun h=>absurd h (by simp only [length_cons,length_nil];omega)⟩
  have hy':=hn.kid y hm
  rw [ZCq _ hy'.1 hy'.2 _ (by simp only [length_append,length_cons,length_nil];omega)]
  have hw:=Zab j (by omega)
  simp only [ZaH,hw]
  refine ⟨⟨j+1,rfl,by omega,?_⟩,by omega⟩
  rw [Zax] at hy
  rw [take_add_one,hy]
  have e:ZgW n.1 (n.2.1::(n.2.2.take j++[y]))=ZgW n.1 (n.2.1::n.2.2.take j)++(32::ZeB y):=by simp [ZgW,ZfT]
  show _=ZgW n.1 (n.2.1::(n.2.2.take j++[y]))
  rw [e];simp
 ·have:j=n.2.2.length:=by omega
  subst this
  rw [take_length]
  rfl
theorem ZeV (a b:ByteArray):ZaS .str a b=decide (a=b):=by
 have e:ZaS .str a b=(a.data==b.data):=by cases a;cases b;rfl
 rw [e,Bool.eq_iff_iff,beq_iff_eq,decide_eq_true_eq]
 constructor
 ·intro h;cases a;cases b;simpa using h
 ·rintro rfl;rfl
theorem ZeW {ν:Type} (m:List (ByteArray×ν)) (x y:ByteArray) (v:ν):Zc3 (ZaS .str) (ZfQ (ZaS .str) m x v) y=if y=x then some v else Zc3 (ZaS .str) m y:=by
 induction m with
 | nil=>
  simp only [ZfQ,Zc3,ZeV]
  by_cases h:y=x<;>simp [h]
 | cons e m ih=>
  obtain ⟨k,w⟩:=e
  simp only [ZfQ,ZeV]
  by_cases h:x=k
  ·subst h
   simp only [decide_true,cond_true,Zc3,ZeV]
   by_cases h2:y=x<;>simp [h2]
  ·simp only [h,decide_false,cond_false,Zc3,ZeV,ih]
   by_cases h2:y=k
   ·subst h2
    simp only [decide_true,cond_true]
    rw [if_neg (fun e=>h e.symm)]
   ·simp only [h2,decide_false,cond_false]
theorem Zz9 (a b:Zae) (ha:a.2.2.length<=100000):F58 a b=some (decide (a=b)):=by
 refine Ret.eq ?_
 obtain ⟨a1,a2,a3⟩:=a
 obtain ⟨b1,b2,b3⟩:=b
 dsimp only at ha
 simp only [F58,ZAa,wq,reduceCtorEq]
 have hne:∀ P:Prop,[Decidable P]->¬ P->false=decide P:=fun P _ h=>by simp [h]
 refine ⟨fun h=>hne _ fun e=>h (by cases e;rfl),fun h1=>⟨fun h=>hne _ fun e=>h (by cases e;rfl),fun h2=>⟨fun h=>hne _ fun e=>h (by cases e;rfl),fun h3=>?_⟩⟩⟩
 subst h1;subst h2
 refine Zac (fun i:Int=>∃ n:Nat,i=n/\n<=a3.length/\a3.take n=b3.take n) (fun i=>a3.length - i.toNat) ?_ _ ⟨0,rfl,by omega,by simp⟩
 rintro _ ⟨n,rfl,hn,ht⟩
 simp only [ZyH,wq,reduceCtorEq]
 have hw:=Zab n (by omega)
 refine ⟨fun hlt=>Zaj (by omega) hlt fun y hy _=>Zaj (by omega) (by omega) fun z hz _=>?_,fun hge=>?_⟩
 ·rw [Zax] at hy hz
  simp only [wq,reduceCtorEq,hw]
  refine ⟨fun h=>hne _ fun e=>h ?_,fun h=>⟨⟨n+1,rfl,by omega,?_⟩,by omega⟩⟩
  ·cases e;rw [hy] at hz;exact inj hz
  ·rw [take_add_one,take_add_one,hy,hz,ht,h]
 ·have e1:n=a3.length:=by omega
  have e2:n=b3.length:=by omega
  have:a3=b3:=by
   rw [<-take_length (l:=a3),<-e1,ht,e2,take_length]
  subst this
  simp
def Zex (l:List Zae) (m:Nat):Prop:=∀ i < m,atI (Zam l l.length) i≠0/\∀ j < i,l[j]?≠l[i]?
open Classical in
def ZeX (l:List Zae):Bool:=decide (Zex l l.length)
theorem Zc5 {l:List Zae} (h:Zex l l.length):ZeX l=true:=by unfold ZeX;simp [h]
theorem Zd0 {l:List Zae} {i:Nat} (hi:i < l.length) (h:¬ (atI (Zam l l.length) i≠0/\∀ j < i,l[j]?≠l[i]?)):ZeX l=false:=by
 unfold ZeX
 simp only [decide_eq_false_iff_not]
 exact fun e=>h (e i hi)
theorem ZtG (l:List Zae) (h:GraphH l):F40 l=some (ZeX l):=by
 refine Ret.eq ?_
 have hn:=h.n
 unfold F40
 rw [Zzi l h]
 simp only [wq,reduceCtorEq]
 have hlen:=ZaK l l.length
 refine Zac (fun i:Int=>∃ n:Nat,i=n/\n<=l.length/\Zex l n) (fun i=>l.length - i.toNat) ?_ _ ⟨0,rfl,by omega,fun i hi=>by omega⟩
 rintro _ ⟨n,rfl,hn',hg⟩
 have hw:=Zab n (by omega)
 simp only [ZwW,wq,reduceCtorEq]
 refine ⟨fun hlt=>Zaj (by omega) (by omega) fun y hy _=>?_,fun hge=>?_⟩
 ·have hy':=ZhU hy
  refine ⟨fun h0=>?_,fun h0=>?_⟩
  ·exact (Zd0 (i:=n) (by omega) fun e=>e.1 (by rw [hy',h0])).symm
  ·refine Zac (fun k:Int=>∃ j:Nat,k=j/\j<=n/\∀ p < j,l[p]?≠l[n]?) (fun k=>n - k.toNat) ?_ _ ⟨0,rfl,by omega,fun p hp=>by omega⟩
   rintro _ ⟨j,rfl,hj,hd⟩
   have hw2:=Zab j (by omega)
   simp only [ZD3,wq,reduceCtorEq]
   refine ⟨fun hlt2=>Zaj (by omega) (by omega) fun a ha ham=>Zaj (by omega) (by omega) fun b hb _=>?_,fun hge2=>?_⟩
   ·rw [Zax] at ha hb
    rw [Zz9 a b (by have:=h.k a ham;omega)]
    simp only [wq,reduceCtorEq,hw2]
    refine ⟨fun e=>?_,fun e=>⟨⟨j+1,rfl,by omega,fun p hp=>?_⟩,by omega⟩⟩
    ·exact (Zd0 (i:=n) (by omega) fun q=>q.2 j (by omega) (by rw [ha,hb,e])).symm
    ·by_cases e2:p < j
     ·exact hd p e2
     ·have:p=j:=by omega
      subst this
      rw [ha,hb];exact fun q=>e (inj q)
   ·have:j=n:=by omega
    subst this
    rw [hw]
    refine ⟨⟨j+1,rfl,by omega,fun i hi=>?_⟩,by omega⟩
    by_cases e:i < j
    ·exact hg i e
    ·have:i=j:=by omega
     subst this
     exact ⟨by rw [hy'];exact h0,hd⟩
 ·have:n=l.length:=by omega
  subst this
  exact (Zc5 hg).symm
structure ZhX (l:List Zae):Prop extends GraphH l where
 w:∀ x∈l,ZiV x
theorem ZDa (l:List Zae) (h:ZhX l):F68 l=some (bif ZeX l then (Zam l l.length,true) else ([],false)):=by
 refine Ret.eq ?_
 have hn:=h.n
 have hlen:=ZaK l l.length
 unfold F68
 simp only [wq,reduceCtorEq]
 refine ⟨fun _=>?_,fun h=>absurd h (by omega)⟩
 refine Zac (fun q:Int×List Int×List (ByteArray×Bool)=>∃ m:Nat,q.1=m/\m<=l.length/\q.2.1=(Zam l l.length).take m++replicate (l.length - m) 0/\Zex l m/\(∀ t,getD (Zc3 (ZaS .str) q.2.2 t) false=true->∃ j,j < m/\∃ n,l[j]?=some n/\t=Zvy n.1 n.2.1 n.2.2)/\(∀ j < m,∀ n,l[j]?=some n->getD (Zc3 (ZaS .str) q.2.2 (Zvy n.1 n.2.1 n.2.2)) false=true)) (fun q=>l.length - q.1.toNat) ?_ _ ⟨0,rfl,by omega,by simp,fun i hi=>by omega,fun t ht=>by simp [Zc3] at ht,fun j hj=>by omega⟩
 rintro ⟨i',out,mp⟩ ⟨m,e,hm,e2,hg,h1,h2⟩
 dsimp only at e e2 h1 h2
 subst e;subst e2
 simp only [ZEa,wq,reduceCtorEq]
 refine ⟨fun hlt=>?_,fun hge=>?_⟩
 ·have hml:m < l.length:=by omega
  have hn:l[m]?=some l[m]:=getElem?_eq_getElem hml
  have hgm:gI l (m:Int)=some l[m]:=by rw [Zax,hn]
  have hw:=Zab m (by omega)
  have hW:=h.w l[m] (getElem_mem hml)
  rw [ZEG l h.toGraphH m hml,hgm]
  generalize hnn:l[m]=n at *
  simp only [wq,reduceCtorEq]
  have hol:((Zam l l.length).take m++replicate (l.length - m) 0).length=l.length:=by simp;omega
  refine Zaj (by omega) (by omega) fun y hy _=>?_
  simp only [Za4 hy]
  rw [ZCA n hW]
  simp only [wq,reduceCtorEq]
  have hset:Zaq ((Zam l l.length).take m++replicate (l.length - m) 0) (m:Int) (atI (Zam l l.length) m)=(Zam l l.length).take (m+1)++replicate (l.length - (m+1)) 0:=by
   rw [Zcf]
   obtain ⟨d,hd⟩:∃ d,l.length - m=d+1:=⟨l.length - m - 1,by omega⟩
   have htl:((Zam l l.length).take m).length=m:=by simp;omega
   rw [hd,replicate_succ,show l.length - (m+1)=d by omega,set_append_right _ _ (by omega),htl,take_add_one,Zdy l l.length m hml]
   simp
  rw [hset,Zax]
  have hget:((Zam l l.length).take (m+1)++replicate (l.length - (m+1)) 0)[m]?=some (atI (Zam l l.length) m):=by
   rw [getElem?_append_left (by simp;omega),getElem?_take,if_pos (by omega),Zdy l l.length m hml]
  rw [hget]
  simp only [wq,reduceCtorEq,Zu5,hw]
  have fin:ZeX l=false->(([]:List Int),false)=bif ZeX l then (Zam l l.length,true) else ([],false):=fun e=>by rw [e];rfl
  refine ⟨fun h0=>fin (Zd0 (i:=m) hml fun e=>e.1 h0),fun h0=>⟨fun hs=>?_,fun hs=>⟨⟨m+1,rfl,by omega,rfl,fun i hi=>?_,fun t ht=>?_,fun j hj n' hn'=>?_⟩,by omega⟩⟩⟩
  ·obtain ⟨j,hj,n',hn',hk⟩:=h1 _ hs
   obtain ⟨k1,k2,k3⟩:=Zm7 hk
   refine fin (Zd0 (i:=m) hml fun e=>e.2 j hj ?_)
   rw [hn',hn]
   obtain ⟨a,b,c⟩:=n
   obtain ⟨a',b',c'⟩:=n'
   dsimp only at k1 k2 k3
   rw [k1,k2,k3]
  ·by_cases e:i < m
   ·exact hg i e
   ·have:i=m:=by omega
    subst this
    refine ⟨h0,fun j hj e=>?_⟩
    rw [hn] at e
    have:=h2 j hj n e
    rw [hs] at this;cases this
  ·rw [ZeW] at ht
   by_cases e:t=Zvy n.1 n.2.1 n.2.2
   ·exact ⟨m,by omega,n,hn,e⟩
   ·rw [if_neg e] at ht
    obtain ⟨j,hj,r⟩:=h1 t ht
    exact ⟨j,by omega,r⟩
  ·rw [ZeW]
   split
   ·rfl
   ·by_cases e:j < m
    ·exact h2 j e n' hn'
    ·have:j=m:=by omega
     subst this
     rw [hn] at hn'
     obtain rfl:=inj hn'
     exact absurd rfl ‹_›
 ·have:m=l.length:=by omega
  subst this
  rw [Zc5 hg]
  simp only [cond_true]
  rw [take_of_length_le (by omega)]
  simp
def ZfU (l:List Int) (i:Int):Int:=if inR l.length i then atI l i else 0
theorem ZaB {l:List Int} {i:Int} (h:inR l.length i):gI l i=some (atI l i):=by
 obtain ⟨x,hx,_⟩:=Zn9 h.1 h.2
 rw [hx,ZhU hx]
theorem Z7U (l:List Int) (i:Int):F69 l i=some (ZfU l i):=by
 refine Ret.eq ?_
 simp only [F69,ZEb,wq,reduceCtorEq,ZfU]
 refine ⟨fun h=>?_,fun h=>⟨fun h2=>?_,fun h2=>?_⟩⟩
 ·rw [if_neg (fun e=>by have:=e.1;omega)]
 ·rw [if_neg (fun e=>by have:=e.2;omega)]
 ·have hr:inR l.length i:=⟨by omega,by omega⟩
  rw [ZaB hr,ZaH,if_pos hr]
theorem Z86 (l:List Zae) (i:Int):F39 l i=some (decide (inR l.length i)):=by
 refine Ret.eq ?_
 simp only [F39,ZuI,wq,reduceCtorEq]
 refine ⟨fun h=>?_,fun h=>?_⟩
 ·rw [Bool.eq_iff_iff,decide_eq_true_eq,decide_eq_true_eq];exact ⟨fun h2=>⟨h,h2⟩,fun h2=>h2.2⟩
 ·symm;rw [decide_eq_false_iff_not];exact fun e=>by have:=e.1;omega
theorem Zzl (l:List Zae) (s:Zew):F41 l s=some (decide (inR l.length s.1/\inR l.length s.2.1)):=by
 refine Ret.eq ?_
 simp only [F41,Z86,ZxM,wq,reduceCtorEq]
 refine ⟨fun h=>?_,fun h=>?_⟩
 ·by_cases h2:inR l.length s.2.1<;>simp [h,h2]
 ·rw [eq_comm,decide_eq_false_iff_not];exact fun e=>h e.1
structure ZcO (s:Za5):Prop where
 n:s.1.length<=2000
 good:Zex s.1 s.1.length
 va:inR s.1.length s.2.2.2.1
 va1:atI (Zam s.1 s.1.length) s.2.2.2.1=1
 st:inR s.1.length s.2.2.2.2.1
 st2:atI (Zam s.1 s.1.length) s.2.2.2.2.1=2
 steps:∀ x∈s.2.1,inR s.1.length x.1/\inR s.1.length x.2.1/\atI (Zam s.1 s.1.length) x.1=atI (Zam s.1 s.1.length) x.2.1
open Classical in
def ZdT (s:Za5):Bool:=decide (ZcO s)
theorem ZcH {s:Za5} (h:ZcO s):ZdT s=true:=by unfold ZdT;simp [h]
theorem ZaC {s:Za5} (h:¬ ZcO s):false=ZdT s:=by unfold ZdT;simp [h]
theorem Zel {s:Za5}:ZdT s=true↔ZcO s:=by unfold ZdT;simp
structure ZmA (s:Za5):Prop where
 g:ZhX s.1
 sl:s.2.1.length<=100000
theorem ZCB (s:Za5) (h:ZmA s):F20 s=some (ZdT s):=by
 refine Ret.eq ?_
 have hn:=h.g.n
 have hsl:=h.sl
 have hlen:=ZaK s.1 s.1.length
 have gi:∀ {i:Int},inR s.1.length i->gI (Zam s.1 s.1.length) i=some (atI (Zam s.1 s.1.length) i):=fun hi=>ZaB (by rw [hlen];exact hi)
 unfold F20
 rw [Zzi s.1 h.g.toGraphH]
 simp only [Z86,Zy1,wq,reduceCtorEq]
 refine ⟨fun h1=>ZaC fun e=>by have:=e.n;omega,fun h1=>⟨fun h2=>ZaC fun e=>h2 e.va,fun h2=>⟨fun h3=>ZaC fun e=>h3 e.st,fun h3=>?_⟩⟩⟩
 rw [gi h2,gi h3,ZtG s.1 h.g.toGraphH]
 simp only [wq,reduceCtorEq]
 refine ⟨fun h4=>ZaC fun e=>h4 e.va1,fun h4=>⟨fun h5=>ZaC fun e=>h5 e.st2,fun h5=>⟨fun h6=>ZaC fun e=>(by rw [Zc5 e.good] at h6;cases h6),fun h6=>?_⟩⟩⟩
 have hgood:Zex s.1 s.1.length:=by unfold ZeX at h6;simpa using h6
 refine Zac (fun i:Int=>∃ n:Nat,i=n/\n<=s.2.1.length/\∀ x∈s.2.1.take n,inR s.1.length x.1/\inR s.1.length x.2.1/\atI (Zam s.1 s.1.length) x.1=atI (Zam s.1 s.1.length) x.2.1) (fun i=>s.2.1.length - i.toNat) ?_ _ ⟨0,rfl,by omega,fun x hx=>by simp at hx⟩
 rintro _ ⟨n,rfl,hn',hg⟩
 have hw:=Zab n (by omega)
 simp only [ZD5,wq,reduceCtorEq]
 refine ⟨fun hlt=>Zaj (by omega) hlt fun y hy hm=>?_,fun hge=>?_⟩
 ·rw [Zax] at hy
  rw [Zzl]
  simp only [ZD4,wq,reduceCtorEq,hw]
  refine ⟨fun e=>ZaC fun q=>e ⟨(q.steps y hm).1,(q.steps y hm).2.1⟩,fun e=>?_⟩
  rw [gi e.1,gi e.2]
  simp only [wq,reduceCtorEq]
  refine ⟨fun e2=>ZaC fun q=>e2 (q.steps y hm).2.2,fun e2=>⟨⟨n+1,rfl,by omega,fun x hx=>?_⟩,by omega⟩⟩
  rw [take_add_one,hy] at hx
  rcases mem_append.1 hx with hx | hx
  ·exact hg x hx
  ·rw [show x=y by simpa using hx];exact ⟨e.1,e.2,e2⟩
 ·have:n=s.2.1.length:=by omega
  subst this
  rw [take_length] at hg
  exact (ZcH ⟨by omega,hgood,h2,h4,h3,h5,hg⟩).symm
theorem Z85 (s:Za5) (h:ZmA s):F46 s=some (ZdT s):=by
 refine Ret.eq ?_
 have hn:=h.g.n
 have hsl:=h.sl
 have hlen:=ZaK s.1 s.1.length
 unfold F46
 rw [ZDa s.1 h.g]
 simp only [Z7U,Z9w,wq,reduceCtorEq]
 refine ⟨fun h1=>ZaC fun e=>by have:=e.n;omega,fun h1=>?_⟩
 cases hgb:ZeX s.1
 ·simp only [wq,reduceCtorEq,cond_false]
  exact ZaC fun e=>by rw [Zc5 e.good] at hgb;cases hgb
 ·have hgood:Zex s.1 s.1.length:=by unfold ZeX at hgb;simpa using hgb
  have so:∀ i,ZfU (Zam s.1 s.1.length) i=if inR s.1.length i then atI (Zam s.1 s.1.length) i else 0:=fun i=>by unfold ZfU;rw [hlen]
  have nz:∀ i,inR s.1.length i->atI (Zam s.1 s.1.length) i≠0:=by
   rintro i ⟨i0,i1⟩
   have:=(hgood i.toNat (by omega)).1
   rwa [show ((i.toNat:Nat):Int)=i by omega] at this
  simp only [wq,reduceCtorEq,cond_true,so]
  refine ⟨fun h2=>ZaC fun e=>h2 (by rw [if_pos e.va,e.va1]),fun h2=>⟨fun h3=>ZaC fun e=>h3 (by rw [if_pos e.st,e.st2]),fun h3=>?_⟩⟩
  have va:inR s.1.length s.2.2.2.1:=Decidable.byContradiction fun e=>by rw [if_neg e] at h2;cases h2
  have st:inR s.1.length s.2.2.2.2.1:=Decidable.byContradiction fun e=>by rw [if_neg e] at h3;cases h3
  rw [if_pos va] at h2
  rw [if_pos st] at h3
  refine Zac (fun i:Int=>∃ n:Nat,i=n/\n<=s.2.1.length/\∀ x∈s.2.1.take n,inR s.1.length x.1/\inR s.1.length x.2.1/\atI (Zam s.1 s.1.length) x.1=atI (Zam s.1 s.1.length) x.2.1) (fun i=>s.2.1.length - i.toNat) ?_ _ ⟨0,rfl,by omega,fun x hx=>by simp at hx⟩
  rintro _ ⟨n,rfl,hn',hg⟩
  have hw:=Zab n (by omega)
  simp only [Z9x,wq,reduceCtorEq]
  refine ⟨fun hlt=>Zaj (by omega) hlt fun y hy hm=>?_,fun hge=>?_⟩
  ·rw [Zax] at hy
   simp only [Z7U,so,ZEc,wq,reduceCtorEq,hw]
   refine ⟨fun e=>ZaC fun q=>?_,fun e=>⟨fun e2=>ZaC fun q=>e2 ?_,fun e2=>⟨⟨n+1,rfl,by omega,fun x hx=>?_⟩,by omega⟩⟩⟩
   ·have:=(q.steps y hm).1
    rw [if_pos this] at e;exact nz _ this e
   ·obtain ⟨q1,q2,q3⟩:=q.steps y hm
    rw [if_pos q1,if_pos q2,q3]
   ·have r1:inR s.1.length y.1:=Decidable.byContradiction fun q=>by rw [if_neg q] at e;exact e rfl
    rw [if_pos r1] at e e2
    have r2:inR s.1.length y.2.1:=Decidable.byContradiction fun q=>by rw [if_neg q] at e2;exact e e2
    rw [if_pos r2] at e2
    rw [take_add_one,hy] at hx
    rcases mem_append.1 hx with hx | hx
    ·exact hg x hx
    ·rw [show x=y by simpa using hx];exact ⟨r1,r2,e2⟩
  ·have:n=s.2.1.length:=by omega
   subst this
   rw [take_length] at hg
   exact (ZcH ⟨by omega,hgood,va,h2,st,h3,hg⟩).symm
abbrev Zc0:=Int×Int
inductive Clo (l:List Zae) (ps:List Zc0):Int->Int->Prop
 | pair {a b:Int}:(a,b)∈ps->inR l.length a->inR l.length b->Clo l ps a b
 | refl {a:Int}:Clo l ps a a
 | symm {a b:Int}:Clo l ps a b->Clo l ps b a
 | trans {a b c:Int}:Clo l ps a b->Clo l ps b c->Clo l ps a c
 | cong {i j:Int} {x y:Zae}:gI l i=some x->gI l j=some y->x.1=y.1->x.2.1=y.2.1->x.2.2.length=y.2.2.length ->
  (∀ (k:Nat) p q,x.2.2[k]?=some p->y.2.2[k]?=some q->Clo l ps p q) ->
  (∀ p∈x.2.2,inR l.length p)->(∀ q∈y.2.2,inR l.length q)->Clo l ps i j
structure ZbH (n:Nat) (c:List Int) (x y:Zae):Prop where
 op:x.1=y.1
 imm:x.2.1=y.2.1
 len:x.2.2.length=y.2.2.length
 kid:∀ (k:Nat) p q,x.2.2[k]?=some p->y.2.2[k]?=some q->inR n p/\inR n q/\atI c p=atI c q
structure CI (n:Nat) (c:List Int):Prop where
 len:c.length=n
 r0:∀ i,inR n i->0<=atI c i
 r1:∀ i,inR n i->atI c i<=i
 r2:∀ i,inR n i->atI c (atI c i)=atI c i
theorem CI.rng {n:Nat} {c:List Int} (h:CI n c) {i:Int} (hi:inR n i):inR n (atI c i):=⟨h.r0 i hi,by have:=h.r1 i hi;have:=hi.2;omega⟩
theorem CI.get {n:Nat} {c:List Int} (h:CI n c) {i:Int} (hi:inR n i):gI c i=some (atI c i):=ZaB (by rw [h.len];exact hi)
def Zh3 (l:List Zae) (ps:List Zc0) (c:List Int):Prop:=∀ i j,inR l.length i->inR l.length j->atI c i=atI c j->Clo l ps i j
structure Zd1 (l:List Zae) (ps:List Zc0) (c:List Int):Prop where
 pair:∀ a b,(a,b)∈ps->inR l.length a->inR l.length b->atI c a=atI c b
 cong:∀ i j x y,gI l i=some x->gI l j=some y->ZbH l.length c x y->atI c i=atI c j
theorem Zd1.clo {l:List Zae} {ps:List Zc0} {c:List Int} (h:Zd1 l ps c) {i j:Int} (hc:Clo l ps i j):atI c i=atI c j:=by
 induction hc with
 | pair h1 h2 h3=>exact h.pair _ _ h1 h2 h3
 | refl=>rfl
 | symm _ ih=>exact ih.symm
 | trans _ _ i1 i2=>exact i1.trans i2
 | cong h1 h2 h3 h4 h5 _ h7 h8 ih=>exact h.cong _ _ _ _ h1 h2 ⟨h3,h4,h5,fun k p q hp hq=>⟨h7 p (mem_of_getElem? hp),h8 q (mem_of_getElem? hq),ih k p q hp hq⟩⟩
structure ZbU (l:List Zae) (ps:List Zc0) (c:List Int):Prop where
 ci:CI l.length c
 sound:Zh3 l ps c
 comp:Zd1 l ps c
theorem ZbU.le {l:List Zae} {ps:List Zc0} {c d:List Int} (hc:ZbU l ps c) (hd:ZbU l ps d) {i:Int} (hi:inR l.length i):atI d i<=atI c i:=by
 have h1:=hc.ci.rng hi
 have h2:=hc.sound _ _ h1 hi (hc.ci.r2 i hi)
 rw [<-hd.comp.clo h2]
 exact hd.ci.r1 _ h1
theorem ZbU.uniq {l:List Zae} {ps:List Zc0} {c d:List Int} (hc:ZbU l ps c) (hd:ZbU l ps d):c=d:=by
 apply ext_getElem?
 intro i
 by_cases hi:i < l.length
 ·have hr:inR l.length (i:Int):=⟨by omega,by omega⟩
  have h1:=ZbU.le hc hd hr
  have h2:=ZbU.le hd hc hr
  have e1:=hc.ci.get hr
  have e2:=hd.ci.get hr
  rw [Zax] at e1 e2
  rw [e1,e2];congr 1;omega
 ·rw [getElem?_eq_none (by rw [hc.ci.len];omega),getElem?_eq_none (by rw [hd.ci.len];omega)]
def Zcs (x y z:Int):Int:=if z=max x y then min x y else z
def Zc1 (c:List Int) (a b:Int):List Int:=c.map (Zcs (atI c a) (atI c b))
theorem ZeC {c:List Int} {f:Int->Int} {i:Int} (h:inR c.length i):atI (c.map f) i=f (atI c i):=by
 unfold atI
 have:i.toNat < c.length:=by have:=h.1;have:=h.2;omega
 rw [getElem?_map,getElem?_eq_getElem this];rfl
theorem ZiW (x y z:Int):Zcs x y z<=z:=by unfold Zcs;split<;>omega
theorem ZrZ (x z:Int):Zcs x x z=z:=by unfold Zcs;split<;>omega
theorem CI.join {n:Nat} {c:List Int} (h:CI n c) {a b:Int} (ha:inR n a) (hb:inR n b):CI n (Zc1 c a b):=by
 have hm:∀ i,inR n i->atI (Zc1 c a b) i=Zcs (atI c a) (atI c b) (atI c i):=fun i hi=>ZeC (by rw [h.len];exact hi)
 have a0:=h.r0 a ha
 have b0:=h.r0 b hb
 have a2:=h.r2 a ha
 have b2:=h.r2 b hb
 refine ⟨by simp [Zc1,h.len],fun i hi=>?_,fun i hi=>?_,fun i hi=>?_⟩
 ·rw [hm i hi]
  have:=h.r0 i hi
  unfold Zcs;split<;>omega
 ·rw [hm i hi]
  have:=h.r1 i hi
  have:=ZiW (atI c a) (atI c b) (atI c i)
  omega
 ·have hr:=h.rng hi
  have r2:=h.r2 i hi
  rw [hm i hi]
  by_cases e:atI c i=max (atI c a) (atI c b)
  ·have e1:Zcs (atI c a) (atI c b) (atI c i)=min (atI c a) (atI c b):=by unfold Zcs;rw [if_pos e]
   rw [e1]
   rcases (by omega:min (atI c a) (atI c b)=atI c a\/min (atI c a) (atI c b)=atI c b) with e2 | e2
   ·rw [e2,hm _ (h.rng ha),a2]
    unfold Zcs;split<;>omega
   ·rw [e2,hm _ (h.rng hb),b2]
    unfold Zcs;split<;>omega
  ·have e1:Zcs (atI c a) (atI c b) (atI c i)=atI c i:=by unfold Zcs;rw [if_neg e]
   rw [e1,hm _ hr,r2,e1]
theorem Zh3.join {l:List Zae} {ps:List Zc0} {c:List Int} (hc:CI l.length c) (h:Zh3 l ps c) {a b:Int} (ha:inR l.length a) (hb:inR l.length b) (hab:Clo l ps a b):Zh3 l ps (Zc1 c a b):=by
 intro i j hi hj e
 have hm:∀ i,inR l.length i->atI (Zc1 c a b) i=Zcs (atI c a) (atI c b) (atI c i):=fun i hi=>ZeC (by rw [hc.len];exact hi)
 rw [hm i hi,hm j hj] at e
 by_cases e0:atI c i=atI c j
 ·exact h i j hi hj e0
 ·have key:∀ i,inR l.length i->(atI c i=max (atI c a) (atI c b)\/atI c i=min (atI c a) (atI c b))->Clo l ps i a:=by
   intro i hi hx
   rcases (by omega:atI c i=atI c a\/atI c i=atI c b) with hx | hx
   ·exact h i a hi ha hx
   ·exact (h i b hi hb hx).trans hab.symm
  unfold Zcs at e
  refine (key i hi ?_).trans (key j hj ?_).symm
  ·split at e<;>split at e<;>omega
  ·split at e<;>split at e<;>omega
theorem ZhY {n:Nat} {c:List Int} (h:CI n c) {a b p q:Int} (hp:inR n p) (hq:inR n q) (e:atI c p=atI c q):atI (Zc1 c a b) p=atI (Zc1 c a b) q:=by
 unfold Zc1
 rw [ZeC (by rw [h.len];exact hp),ZeC (by rw [h.len];exact hq),e]
theorem ZhZ {n:Nat} {c:List Int} (h:CI n c) {a b:Int} (ha:inR n a) (hb:inR n b):atI (Zc1 c a b) a=atI (Zc1 c a b) b:=by
 unfold Zc1
 rw [ZeC (by rw [h.len];exact ha),ZeC (by rw [h.len];exact hb)]
 unfold Zcs;split<;>split<;>omega
theorem ZmB {c:List Int} {a b:Int} (e:atI c a=atI c b):Zc1 c a b=c:=by
 unfold Zc1
 rw [e]
 conv=>rhs;rw [<-List.map_id c]
 exact List.map_congr_left fun z _=>ZrZ _ _
def ZfJ (c:List Int):Nat:=(c.map toNat).sum
theorem Zln {f:Int->Int} (hf:∀ x,f x<=x):∀ c:List Int,ZfJ (c.map f)<=ZfJ c
 | []=>by simp [ZfJ]
 | x::c=>by
  have:=Zln hf c
  have:=hf x
  simp only [ZfJ,map_cons,sum_cons] at *
  omega
theorem Zqg {f:Int->Int} (hf:∀ x,f x<=x) {z:Int} (hz:f z < z) (h0:0 < z):∀ c:List Int,z∈c->ZfJ (c.map f) < ZfJ c
 | [],h=>by cases h
 | x::c,h=>by
  have h1:=Zln hf c
  have h2:=hf x
  rcases mem_cons.1 h with rfl | h
  ·simp only [ZfJ,map_cons,sum_cons] at *
   omega
  ·have:=Zqg hf hz h0 c h
   simp only [ZfJ,map_cons,sum_cons] at *
   omega
theorem ZmC {n:Nat} {c:List Int} (h:CI n c) {a b:Int} (ha:inR n a) (hb:inR n b) (e:atI c a≠atI c b):ZfJ (Zc1 c a b) < ZfJ c:=by
 have a0:=h.r0 a ha
 have b0:=h.r0 b hb
 refine Zqg (fun x=>ZiW _ _ x) (z:=max (atI c a) (atI c b)) ?_ (by omega) c ?_
 ·unfold Zcs;rw [if_pos rfl];omega
 ·rcases (by omega:max (atI c a) (atI c b)=atI c a\/max (atI c a) (atI c b)=atI c b) with e | e
  ·rw [e];exact ZeR (h.get ha)
  ·rw [e];exact ZeR (h.get hb)
def idN (n:Nat):List Int:=(List.range n).map fun (i:Nat)=>(i:Int)
theorem ZdU {n:Nat} {i:Int} (h:inR n i):atI (idN n) i=i:=by
 unfold atI idN
 have:i.toNat < n:=by have:=h.1;have:=h.2;omega
 rw [getElem?_map,List.getElem?_range this]
 have:=h.1
 show ((i.toNat:Nat):Int)=i
 omega
theorem ZmD (n:Nat):idN (n+1)=idN n++[(n:Int)]:=by simp [idN,List.range_succ]
theorem CI.id (n:Nat):CI n (idN n):=
 ⟨by simp [idN],fun i hi=>by rw [ZdU hi];exact hi.1,fun i hi=>by rw [ZdU hi];omega,fun i hi=>by rw [ZdU hi,ZdU hi]⟩
theorem Zh3.id (l:List Zae) (ps:List Zc0):Zh3 l ps (idN l.length):=fun i j hi hj e=>by
 rw [ZdU hi,ZdU hj] at e;subst e;exact .refl
theorem ZbH.clo {l:List Zae} {ps:List Zc0} {c:List Int} (h:Zh3 l ps c) {i j:Int} {x y:Zae} (hi:gI l i=some x) (hj:gI l j=some y) (hc:ZbH l.length c x y):Clo l ps i j:=by
 have key:∀ (k:Nat),k < x.2.2.length->∃ p q,x.2.2[k]?=some p/\y.2.2[k]?=some q:=fun k hk=>
  ⟨_,_,getElem?_eq_getElem hk,getElem?_eq_getElem (by rw [<-hc.len];exact hk)⟩
 refine .cong hi hj hc.op hc.imm hc.len (fun k p q hp hq=>?_) (fun p hp=>?_) (fun q hq=>?_)
 ·obtain ⟨h1,h2,h3⟩:=hc.kid k p q hp hq
  exact h _ _ h1 h2 h3
 ·obtain ⟨k,hk⟩:=getElem?_of_mem hp
  obtain ⟨p',q',h1,h2⟩:=key k (ZaA hk)
  exact (hc.kid k p q' hk h2).1
 ·obtain ⟨k,hk⟩:=getElem?_of_mem hq
  obtain ⟨p',q',h1,h2⟩:=key k (by rw [hc.len];exact ZaA hk)
  exact (hc.kid k p' q h1 hk).2.1
def Zvz {σ β:Type} (I:Nat->σ->Prop) (m:Nat) (Q:β->Prop):σ⊕β->Prop
 | .inl s'=>∃ m',m' < m/\I m' s'
 | .inr b=>Q b
theorem Zdd {σ β:Type} {I:Nat->σ->Prop} {m:Nat} {Q:β->Prop} {s':σ}:Zvz I m Q (.inl s')=∃ m',m' < m/\I m' s':=rfl
theorem ZeY {σ β:Type} {I:Nat->σ->Prop} {m:Nat} {Q:β->Prop} {b:β}:Zvz I m Q (.inr b:σ⊕β)=Q b:=rfl
theorem ZdV {σ β:Type} {F:σ->Option (σ⊕β)} (I:Nat->σ->Prop) {Q:β->Prop} (h:∀ m s,I m s->Ret (F s) (Zvz I m Q)):∀ m s,I m s->Ret (Zao F s) Q:=by
 intro m
 induction m using Nat.strongRecOn with
 | _ m ih=>
  intro s hI
  obtain ⟨r,e,q⟩:=h m s hI
  cases r with
  | inr b=>exact ⟨b,ZgS e,q⟩
  | inl s'=>
   obtain ⟨m',hm,hI'⟩:=q
   obtain ⟨b,e2,q2⟩:=ih m' hm s' hI'
   exact ⟨b,by rw [ZhS e];exact e2,q2⟩
theorem Za3 {l:List Int} {i j x:Int} (hi:inR l.length i) (hj:0<=j):atI (Zaq l i x) j=if j=i then x else atI l j:=by
 unfold atI Zaq
 have:=hi.1;have:=hi.2
 by_cases e:j=i
 ·subst e;rw [if_pos rfl,List.getElem?_set_self (by omega)];rfl
 ·rw [if_neg e,List.getElem?_set_ne (by omega)]
structure UM (n:Nat) (c u:List Int):Prop where
 len:u.length=n
 r0:∀ i,inR n i->0<=atI u i
 r1:∀ i,inR n i->atI u i<=i
 st:∀ i,inR n i->atI c (atI u i)=atI c i
 root:∀ i,inR n i->atI u i=i->atI c i=i
theorem UM.rng {n:Nat} {c u:List Int} (h:UM n c u) {i:Int} (hi:inR n i):inR n (atI u i):=⟨h.r0 i hi,by have:=h.r1 i hi;have:=hi.2;omega⟩
theorem UM.get {n:Nat} {c u:List Int} (h:UM n c u) {i:Int} (hi:inR n i):gI u i=some (atI u i):=ZaB (by rw [h.len];exact hi)
theorem UM.id (n:Nat):UM n (idN n) (idN n):=by
 have hl:(idN n).length=n:=by simp [idN]
 exact ⟨hl,fun i hi=>by rw [ZdU hi];exact hi.1,fun i hi=>by rw [ZdU hi];omega,fun i hi=>by rw [ZdU hi,ZdU hi],fun i hi _=>by rw [ZdU hi]⟩
theorem UM.halve {n:Nat} {c u:List Int} (h:UM n c u) {k:Int} (hk:inR n k) (hne:atI u k≠k):UM n c (Zaq u k (atI u (atI u k))):=by
 have hl:inR u.length k:=by rw [h.len];exact hk
 have h1:=h.rng hk
 have h2:=h.rng h1
 have a:=h.r1 k hk
 have b:=h.r1 _ h1
 refine ⟨by rw [Zay,h.len],fun i hi=>?_,fun i hi=>?_,fun i hi=>?_,fun i hi=>?_⟩
 all_goals rw [Za3 hl hi.1]
 ·split
  ·exact h2.1
  ·exact h.r0 i hi
 ·split
  ·subst ‹i=k›;omega
  ·exact h.r1 i hi
 ·split
  ·subst ‹i=k›;rw [h.st _ h1,h.st _ hk]
  ·exact h.st i hi
 ·split
  ·subst ‹i=k›;intro e;omega
  ·exact h.root i hi
theorem UM.join {n:Nat} {c u:List Int} (hc:CI n c) (h:UM n c u) {a b:Int} (ha:inR n a) (hb:inR n b) (hne:atI c a≠atI c b):UM n (Zc1 c a b) (Zaq u (max (atI c a) (atI c b)) (min (atI c a) (atI c b))):=by
 have ra:=hc.rng ha
 have rb:=hc.rng hb
 have a2:=hc.r2 a ha
 have b2:=hc.r2 b hb
 have hm:∀ i,inR n i->atI (Zc1 c a b) i=Zcs (atI c a) (atI c b) (atI c i):=fun i hi=>ZeC (by rw [hc.len];exact hi)
 have hmx:inR n (max (atI c a) (atI c b)):=⟨by have:=ra.1;omega,by have:=ra.2;have:=rb.2;omega⟩
 have hmn:inR n (min (atI c a) (atI c b)):=⟨by have:=ra.1;have:=rb.1;omega,by have:=ra.2;omega⟩
 have hl:inR u.length (max (atI c a) (atI c b)):=by rw [h.len];exact hmx
 have cmx:atI c (max (atI c a) (atI c b))=max (atI c a) (atI c b):=by
  rcases (by omega:max (atI c a) (atI c b)=atI c a\/max (atI c a) (atI c b)=atI c b) with e | e<;>rw [e]<;>assumption
 have cmn:atI c (min (atI c a) (atI c b))=min (atI c a) (atI c b):=by
  rcases (by omega:min (atI c a) (atI c b)=atI c a\/min (atI c a) (atI c b)=atI c b) with e | e<;>rw [e]<;>assumption
 refine ⟨by rw [Zay,h.len],fun i hi=>?_,fun i hi=>?_,fun i hi=>?_,fun i hi=>?_⟩
 all_goals rw [Za3 hl hi.1]
 ·split
  ·exact hmn.1
  ·exact h.r0 i hi
 ·split
  ·omega
  ·exact h.r1 i hi
 ·split
  ·rename_i e
   rw [hm _ hmn,hm _ hi,e,cmx,cmn]
   unfold Zcs;split<;>split<;>omega
  ·rw [hm _ (h.rng hi),hm _ hi,h.st i hi]
 ·split
  ·intro e;omega
  ·intro e
   rw [hm _ hi,h.root i hi e]
   unfold Zcs;rw [if_neg ‹_›]
theorem ZC4 {n:Nat} {c u:List Int} (h:UM n c u) {i:Int} (hi:inR n i):Ret (F72 i u) fun r=>r.1=atI c i/\UM n c r.2:=by
 unfold F72
 refine Zac (fun q:Int×List Int=>inR n q.1/\atI c q.1=atI c i/\UM n c q.2) (fun q=>q.1.toNat) ?_ _ ⟨hi,rfl,h⟩
 rintro ⟨k,s⟩ ⟨hk,e,U⟩
 dsimp only at hk e U
 have h1:=U.rng hk
 have hl:inR s.length k:=by rw [U.len];exact hk
 have gs:gI (Zaq s k (atI s (atI s k))) k=some (atI s (atI s k)):=ZtA _ hl.1 hl.2
 simp only [Zxr,Za4 (U.get hk),Za4 (U.get h1),Za4 gs,wq,reduceCtorEq]
 refine ⟨fun hne=>⟨⟨U.rng h1,by rw [U.st _ h1,U.st _ hk,e],U.halve hk hne⟩,?_⟩,fun he=>⟨?_,U⟩⟩
 ·have:=U.r1 k hk
  have:=U.r1 _ h1
  have:=U.r0 _ h1
  have:=hk.1
  omega
 ·rw [<-e,U.root k hk he]
theorem Zzn {n:Nat} {c u:List Int} (hc:CI n c) (h:UM n c u) {i j:Int} (hi:inR n i) (hj:inR n j):Ret (F70 i j u) fun r=>r.1=decide (atI c i≠atI c j)/\UM n (Zc1 c i j) r.2:=by
 unfold F70
 simp only [wq,reduceCtorEq]
 refine (ZC4 h hi).mono fun r4 _ ⟨e4,U4⟩=>?_
 refine (ZC4 U4 hj).mono fun r5 _ ⟨e5,U5⟩=>?_
 rw [e4,e5]
 have emx:(if atI c j > atI c i then atI c j else atI c i)=max (atI c i) (atI c j):=by split<;>omega
 have emn:(if atI c j < atI c i then atI c j else atI c i)=min (atI c i) (atI c j):=by split<;>omega
 rw [emx,emn]
 have ri:=hc.rng hi
 have rj:=hc.rng hj
 have hmx:inR n (max (atI c i) (atI c j)):=⟨by have:=ri.1;omega,by have:=ri.2;have:=rj.2;omega⟩
 simp only [Za4 (U5.get hmx),wq,reduceCtorEq]
 refine ⟨fun e=>⟨by simp [e],by rw [ZmB e];exact U5⟩,fun e=>⟨by simp [e],?_⟩⟩
 exact U5.join hc hi hj e
def leN (x k:Nat):List Int:=(List.range k).map fun i=>((x / 2 ^ (8 * i) % 256:Nat):Int)
theorem Zsa (x k:Nat):leN x (k+1)=leN x k++[((x / 2 ^ (8 * k) % 256:Nat):Int)]:=by simp [leN,List.range_succ]
theorem Zf2 (x k:Nat):(leN x k).length=k:=by simp [leN]
theorem Zv0 {x k:Nat} {b:Int} (h:b∈leN x k):0<=b/\b < 256:=by
 obtain ⟨i,_,rfl⟩:=mem_map.1 h
 omega
theorem Zv1 {x y:Nat} (hx:x < 18446744073709551616) (hy:y < 18446744073709551616) (h:leN x 8=leN y 8):x=y:=by
 have e:∀ z:Nat,leN z 8=[((z / 1 % 256:Nat):Int),((z / 256 % 256:Nat):Int),((z / 65536 % 256:Nat):Int),((z / 16777216 % 256:Nat):Int),((z / 4294967296 % 256:Nat):Int),((z / 1099511627776 % 256:Nat):Int),((z / 281474976710656 % 256:Nat):Int),((z / 72057594037927936 % 256:Nat):Int)]:=fun z=>rfl
 rw [e,e] at h
 simp only [List.cons.injEq,and_true] at h
 omega
theorem Zsb (n:Nat):wrap .u8 (n:Int)=((n % 256:Nat):Int):=by
 show (let m:=(n:Int) % (2 ^ 8:Int);if false&&m>=(2 ^ 7:Int) then m - (2 ^ 8:Int) else m)=_
 simp only [Bool.false_and,false_eq_true,if_false];omega
theorem Z6U (x:Nat) (b:List Int) (hb:b.length<=900000):F90 (x:Int) b=some (b++leN x 8):=by
 refine Ret.eq ?_
 unfold F90
 refine Zac (fun q:Int×List Int=>∃ k:Nat,q.1=k/\k<=8/\q.2=b++leN x k) (fun q=>8 - q.1.toNat) ?_ _ ⟨0,rfl,by omega,by simp [leN]⟩
 rintro ⟨_,_⟩ ⟨k,rfl,hk,rfl⟩
 simp only [Zy8,wq,reduceCtorEq]
 refine ⟨fun hlt=>⟨fun hneg=>?_,fun hpos=>⟨fun _=>⟨⟨k+1,by rw [Zau (by omega) (by omega)];omega,by omega,?_⟩,?_⟩,fun hlen=>?_⟩⟩,fun hge=>?_⟩
 ·rw [Zau (by omega) (by omega),Zdz (by omega) (by omega)] at hneg;omega
 ·rw [Zsa,<-List.append_assoc]
  congr 2
  rw [Zau (n:=8 * (k:Int)) (by omega) (by omega),Zdz (by omega) (by omega)]
  have e1:min (toNat (8 * (k:Int))) (IntKind.bits .u64)=8 * k:=by
   have:IntKind.bits .u64=64:=rfl
   rw [this];omega
  rw [e1,show ((2:Int) ^ (8 * k))=((2 ^ (8 * k):Nat):Int) by push_cast;rfl,ZpY,Zsb]
 ·rw [Zau (by omega) (by omega)];omega
 ·simp only [length_append,Zf2,length_cons,length_nil] at hlen
  omega
 ·have:k=8:=by omega
  subst this;rfl
def u64 (x:Int):Nat:=(wrap .u64 x).toNat
theorem ZeZ (x:Int):((u64 x:Nat):Int)=wrap .u64 x:=by
 have:wrap .u64 x=x % 18446744073709551616:=by
  show (let m:=x % (2 ^ 64:Int);if false&&m>=(2 ^ 63:Int) then m - (2 ^ 64:Int) else m)=_
  simp only [Bool.false_and,false_eq_true,if_false];rfl
 unfold u64;rw [this];omega
theorem ZtI (x:Int):u64 x < 18446744073709551616:=by
 have:wrap .u64 x=x % 18446744073709551616:=by
  show (let m:=x % (2 ^ 64:Int);if false&&m>=(2 ^ 63:Int) then m - (2 ^ 64:Int) else m)=_
  simp only [Bool.false_and,false_eq_true,if_false];rfl
 unfold u64;rw [this];omega
theorem Zv2 {x y:Int} (hx:I64 x) (hy:I64 y) (h:u64 x=u64 y):x=y:=by
 have e:∀ x,wrap .u64 x=x % 18446744073709551616:=fun x=>by
  show (let m:=x % (2 ^ 64:Int);if false&&m>=(2 ^ 63:Int) then m - (2 ^ 64:Int) else m)=_
  simp only [Bool.false_and,false_eq_true,if_false];rfl
 have h1:=ZeZ x
 have h2:=ZeZ y
 rw [e] at h1 h2
 have:=hx.1;have:=hx.2;have:=hy.1;have:=hy.2
 omega
def le8 (x:Int):List Int:=leN (u64 x) 8
def kbs (l:List Int):List Int:=l.flatMap le8
theorem Zqh:∀ {l m:List Int},(∀ x∈l,I64 x)->(∀ x∈m,I64 x)->kbs l=kbs m->l=m
 | [],[],_,_,_=>rfl
 | [],y::m,_,_,h=>by
  have:=congrArg List.length h
  simp [kbs,le8,Zf2] at this
  omega
 | x::l,[],_,_,h=>by
  have:=congrArg List.length h
  simp [kbs,le8,Zf2] at this
 | x::l,y::m,hl,hm,h=>by
  unfold kbs at h
  rw [flatMap_cons,flatMap_cons] at h
  obtain ⟨h1,h2⟩:=List.append_inj h (by simp [le8,Zf2])
  rw [Zqh (fun z hz=>hl z (mem_cons_of_mem _ hz)) (fun z hz=>hm z (mem_cons_of_mem _ hz)) h2,Zv2 (hl x (by simp)) (hm y (by simp)) (Zv1 (ZtI _) (ZtI _) h1)]
theorem Zqi {l:List Int} {b:Int} (h:b∈kbs l):0<=b/\b < 256:=by
 obtain ⟨x,_,hx⟩:=List.mem_flatMap.1 h
 exact Zv0 hx
theorem Zv3 (l:List Int):(kbs l).length=8 * l.length:=by
 induction l with
 | nil=>rfl
 | cons x l ih=>
  unfold kbs at *
  rw [flatMap_cons,length_append,ih,length_cons]
  simp only [le8,Zf2];omega
theorem Zsc (l:List Int) (x:Int):kbs (l++[x])=kbs l++le8 x:=by simp [kbs]
def ZmE (c:List Int) (n:Zae):ByteArray:=ofB (kbs (n.1::n.2.1::n.2.2.map (atI c)))
theorem Zsd {c d:List Int} {x y:Zae} (hx:I64 x.1/\I64 x.2.1/\∀ k∈x.2.2,I64 (atI c k)) (hy:I64 y.1/\I64 y.2.1/\∀ k∈y.2.2,I64 (atI d k)) (h:ZmE c x=ZmE d y):x.1=y.1/\x.2.1=y.2.1/\x.2.2.map (atI c)=y.2.2.map (atI d):=by
 have h1:=Zqd (fun x hx=>Zqi hx) (fun x hx=>Zqi hx) h
 have h2:=Zqh ?_ ?_ h1
 ·exact ⟨(List.cons.inj h2).1,(List.cons.inj (List.cons.inj h2).2).1,(List.cons.inj (List.cons.inj h2).2).2⟩
 ·intro z hz
  rcases mem_cons.1 hz with rfl | hz
  ·exact hx.1
  ·rcases mem_cons.1 hz with rfl | hz
   ·exact hx.2.1
   ·obtain ⟨k,hk,rfl⟩:=mem_map.1 hz
    exact hx.2.2 k hk
 ·intro z hz
  rcases mem_cons.1 hz with rfl | hz
  ·exact hy.1
  ·rcases mem_cons.1 hz with rfl | hz
   ·exact hy.2.1
   ·obtain ⟨k,hk,rfl⟩:=mem_map.1 hz
    exact hy.2.2 k hk
theorem Zzh {n:Nat} {c u:List Int} (h:UM n c u) (x:Zae) (hk:∀ k∈x.2.2,inR n k) (hl:x.2.2.length<=1000):Ret (F71 x.1 x.2.1 x.2.2 u) fun r=>r.1=ZmE c x/\r.2.1=true/\UM n c r.2.2:=by
 unfold F71
 rw [<-ZeZ,<-ZeZ,Z6U _ _ (by simp)]
 simp only [wq,reduceCtorEq]
 rw [Z6U _ _ (by simp [Zf2])]
 simp only [wq,reduceCtorEq]
 refine Zac (fun q:Int×List Int×List Int=>∃ k:Nat,q.1=k/\k<=x.2.2.length/\UM n c q.2.1/\q.2.2=kbs (x.1::x.2.1::(x.2.2.take k).map (atI c))) (fun q=>x.2.2.length - q.1.toNat) ?_ _ ⟨0,rfl,by omega,h,by simp [kbs,le8]⟩
 rintro ⟨_,s,_⟩ ⟨k,rfl,hkl,U,rfl⟩
 simp only [Zxk,wq,reduceCtorEq]
 refine ⟨fun hlt=>Zaj (by omega) hlt fun y hy hm=>?_,fun hge=>⟨?_,U⟩⟩
 ·have hr:=hk y hm
  have hw:=Zab k (by omega)
  rw [Zax] at hy
  refine ⟨fun hneg=>absurd hr.1 (by omega),fun _=>?_⟩
  simp only [Zxe,wq,reduceCtorEq]
  refine ⟨fun hb=>absurd hr.2 (by have:=U.len;dsimp only at this;omega),fun _=>?_⟩
  refine (ZC4 U hr).mono fun r17 _ ⟨e,U2⟩=>?_
  rw [e,<-ZeZ,Z6U _ _ (by rw [Zv3];simp;omega)]
  simp only [wq,reduceCtorEq,hw]
  refine ⟨⟨k+1,rfl,by omega,U2,?_⟩,by omega⟩
  rw [take_add_one,hy]
  simp only [toList_some,map_append,map_cons,List.map_nil]
  rw [<-cons_append,<-cons_append,Zsc];rfl
 ·have:k=x.2.2.length:=by omega
  subst this
  rw [take_length];rfl
theorem Zqj {n:Nat} {c:List Int} {a b:Int}:ZfJ (Zc1 c a b)<=ZfJ c:=Zln (fun x=>ZiW _ _ x) c
structure Zfa (l:List Zae):Prop extends ZhX l where
 r:∀ x∈l,∀ k∈x.2.2,inR l.length k
def ZmF (n:Nat) (ps:List Zc0) (k:Nat) (c:List Int):Prop:=∀ a b,(a,b)∈ps.take k->inR n a->inR n b->atI c a=atI c b
theorem ZmF.join {n:Nat} {ps:List Zc0} {k:Nat} {c:List Int} (hc:CI n c) (h:ZmF n ps k c) (a b:Int):ZmF n ps k (Zc1 c a b):=fun p q hm hp hq=>ZhY hc hp hq (h p q hm hp hq)
structure ZdB (l:List Zae) (ps:List Zc0) (k:Nat) (c:List Int):Prop where
 ci:CI l.length c
 sound:Zh3 l ps c
 pairs:ZmF l.length ps k c
theorem ZdB.join {l:List Zae} {ps:List Zc0} {k:Nat} {c:List Int} (h:ZdB l ps k c) {a b:Int} (ha:inR l.length a) (hb:inR l.length b) (hab:Clo l ps a b):ZdB l ps k (Zc1 c a b):=
 ⟨h.ci.join ha hb,h.sound.join h.ci ha hb hab,h.pairs.join h.ci a b⟩
theorem ZdB.more {l:List Zae} {ps:List Zc0} {k:Nat} {c:List Int} (h:ZdB l ps k c) {p:Zc0} (hp:ps[k]?=some p) (e:inR l.length p.1->inR l.length p.2->atI c p.1=atI c p.2):ZdB l ps (k+1) c:=by
 refine ⟨h.ci,h.sound,fun a b hm ha hb=>?_⟩
 rw [take_add_one,hp] at hm
 rcases mem_append.1 hm with hm | hm
 ·exact h.pairs a b hm ha hb
 ·obtain rfl:(a,b)=p:=by simpa using hm
  exact e ha hb
theorem Zku {l:List Zae} (hl:Zfa l) {c c0:List Int} (hc:CI l.length c) (h0:CI l.length c0) (hf:∀ p q,inR l.length p->inR l.length q->atI c0 p=atI c0 q->atI c p=atI c q) {x y:Zae} (hx:x∈l) (hy:y∈l) (h:ZmE c x=ZmE c0 y):ZbH l.length c x y:=by
 have wx:=hl.w x hx
 have wy:=hl.w y hy
 have kx:=hl.r x hx
 have ky:=hl.r y hy
 have hn:=hl.n
 have i64:∀ {c:List Int} {k:Int},CI l.length c->inR l.length k->I64 (atI c k):=fun hc hk=>by
  have:=(hc.rng hk).1;have:=(hc.rng hk).2
  constructor<;>omega
 obtain ⟨e1,e2,e3⟩:=Zsd ⟨wx.op,wx.imm,fun k hk=>i64 hc (kx k hk)⟩ ⟨wy.op,wy.imm,fun k hk=>i64 h0 (ky k hk)⟩ h
 have elen:x.2.2.length=y.2.2.length:=by simpa using congrArg List.length e3
 refine ⟨e1,e2,elen,fun k p q hp hq=>?_⟩
 have hpr:=kx p (mem_of_getElem? hp)
 have hqr:=ky q (mem_of_getElem? hq)
 refine ⟨hpr,hqr,?_⟩
 have e4:atI c p=atI c0 q:=by
  have:=congrArg (fun l=>l[k]?) e3
  simpa [getElem?_map,hp,hq] using this
 have r0:=h0.rng hqr
 have h1:=hf q (atI c0 q) hqr r0 (h0.r2 q hqr).symm
 rw [h1,<-e4,hc.r2 p hpr]
theorem Zkv {l:List Zae} {c:List Int} {x y:Zae} (h:ZbH l.length c x y):ZmE c x=ZmE c y:=by
 unfold ZmE
 have e:x.2.2.map (atI c)=y.2.2.map (atI c):=by
  apply ext_getElem?
  intro k
  rw [getElem?_map,getElem?_map]
  by_cases hk:k < x.2.2.length
  ·have hk2:k < y.2.2.length:=by rw [<-h.len];exact hk
   rw [getElem?_eq_getElem hk,getElem?_eq_getElem hk2]
   simp only [map_some]
   rw [(h.kid k _ _ (getElem?_eq_getElem hk) (getElem?_eq_getElem hk2)).2.2]
  ·rw [getElem?_eq_none (by omega),getElem?_eq_none (by rw [<-h.len];omega)]
 rw [h.op,h.imm,e]
section
variable {l:List Zae} {ps:List Zc0} (hl:Zfa l)
include hl
structure Z47 (l:List Zae) (ps:List Zc0) (cs:List Int) (k:Nat) (on:Bool) (mp:List (ByteArray×Int)) (c:List Int):Prop where
 g:ZdB l ps ps.length c
 le:ZfJ c<=ZfJ cs
 on1:on=true->ZfJ c < ZfJ cs
 on0:on=false->c=cs/\∀ j < k,∀ x,l[j]?=some x->∃ j',Zc3 (ZaS .str) mp (ZmE cs x)=some j'/\atI cs j'=atI cs (j:Int)
 ent:∀ t j,Zc3 (ZaS .str) mp t=some j->inR l.length j/\∃ x c0,gI l j=some x/\t=ZmE c0 x/\CI l.length c0/\∀ p q,inR l.length p->inR l.length q->atI c0 p=atI c0 q->atI c p=atI c q
theorem Zv4 (cs:List Int) (hcs:ZdB l ps ps.length cs) (u:List Int) (hu:UM l.length cs u) :
 Ret (Zao (ZDk l) (false,0,u,([]:List (ByteArray×Int)))) fun r=>∃ on' u',r=.inl (on',u')/\∃ c,ZdB l ps ps.length c/\UM l.length c u'/\(on'=true->ZfJ c < ZfJ cs)/\(on'=false->c=cs/\Zd1 l ps cs):=by
 have hn:=hl.n
 refine Zac (fun q:Bool×Int×List Int×List (ByteArray×Int)=>∃ k:Nat,q.2.1=k/\k<=l.length/\∃ c,UM l.length c q.2.2.1/\Z47 l ps cs k q.1 q.2.2.2 c) (fun q=>l.length - q.2.1.toNat) ?_ _ ⟨0,rfl,by omega,cs,hu,hcs,le_refl _,(fun h=>by cases h),fun _=>⟨rfl,fun j hj=>by omega⟩,fun t j h=>by simp [Zc3] at h⟩
 rintro ⟨on,_,s,mp⟩ ⟨k,rfl,hk,c,U,hp⟩
 dsimp only at U hp
 simp only [ZDk,wq,reduceCtorEq]
 refine ⟨fun hlt=>Zaj (by omega) hlt fun x hx hm=>?_,fun hge=>?_⟩
 ·have hw:=Zab k (by omega)
  have hx':l[k]?=some x:=by rw [<-Zax];exact hx
  have hkr:inR l.length (k:Int):=⟨by omega,hlt⟩
  refine (Zzh U x (hl.r x hm) (hl.k x hm)).mono fun r _ ⟨e1,e2,U2⟩=>?_
  simp only [e2,e1,ZEd,wq,reduceCtorEq,hw]
  refine ⟨fun h=>?_,fun h=>?_⟩
  ·-- not there
   have hno:Zc3 (ZaS .str) mp (ZmE c x)=none:=by simpa using h
   refine ⟨⟨k+1,rfl,by omega,c,U2,hp.g,hp.le,hp.on1,fun ho=>⟨(hp.on0 ho).1,fun j hj y hy=>?_⟩,fun t j ht=>?_⟩,by omega⟩
   ·obtain ⟨rfl,h0⟩:=hp.on0 ho
    rw [ZeW]
    by_cases e:j < k
    ·obtain ⟨j',h1,h2⟩:=h0 j e y hy
     rw [if_neg (fun e=>by rw [e,hno] at h1;cases h1)]
     exact ⟨j',h1,h2⟩
    ·have:j=k:=by omega
     subst this
     rw [hx'] at hy;obtain rfl:=inj hy
     exact ⟨j,by rw [if_pos rfl],rfl⟩
   ·rw [ZeW] at ht
    split at ht
    ·obtain rfl:=inj ht
     exact ⟨hkr,x,c,hx,‹_›,hp.g.ci,fun _ _ _ _ h=>h⟩
    ·exact hp.ent t j ht
  ·obtain ⟨j,hj⟩:∃ j,Zc3 (ZaS .str) mp (ZmE c x)=some j:=by
    cases hh:Zc3 (ZaS .str) mp (ZmE c x) with
    | none=>rw [hh] at h;cases h
    | some j=>exact ⟨j,rfl⟩
   obtain ⟨hjr,y,c0,hy,hkey,hc0,hfin⟩:=hp.ent _ _ hj
   have hcg:=Zku hl hp.g.ci hc0 hfin hm (ZeR hy) hkey
   have hclo:Clo l ps (k:Int) j:=hcg.clo hp.g.sound hx hy
   rw [hj,Option.getD_some]
   refine (Zzn hp.g.ci U2 hkr hjr).mono fun r7 _ ⟨e7,U7⟩=>?_
   have hg:=hp.g.join hkr hjr hclo
   have hent:∀ t j',Zc3 (ZaS .str) mp t=some j'->inR l.length j'/\∃ x c0,gI l j'=some x/\t=ZmE c0 x/\CI l.length c0/\∀ p q,inR l.length p->inR l.length q->atI c0 p=atI c0 q->atI (Zc1 c k j) p=atI (Zc1 c k j) q:=fun t j' ht=>by
    obtain ⟨a,x,c0,b1,b2,b3,b4⟩:=hp.ent t j' ht
    exact ⟨a,x,c0,b1,b2,b3,fun p q hpr hqr e=>ZhY hp.g.ci hpr hqr (b4 p q hpr hqr e)⟩
   have hle:=Zqj (n:=l.length) (c:=c) (a:=k) (b:=j)
   refine ⟨fun e=>?_,fun e=>?_⟩
   ·rw [e] at e7
    have hne:atI c k≠atI c j:=by simpa using e7
    have hlt2:=ZmC hp.g.ci hkr hjr hne
    have:=hp.le
    exact ⟨⟨k+1,rfl,by omega,_,U7,hg,by omega,fun _=>by omega,(fun h=>by cases h),hent⟩,by omega⟩
   ·rw [e] at e7
    have heq:atI c k=atI c j:=by simpa using e7
    rw [ZmB heq] at *
    refine ⟨⟨k+1,rfl,by omega,_,U7,hg,hp.le,hp.on1,fun ho=>⟨(hp.on0 ho).1,fun i hi z hz=>?_⟩,hent⟩,by omega⟩
    obtain ⟨rfl,h0⟩:=hp.on0 ho
    by_cases e:i < k
    ·exact h0 i e z hz
    ·have:i=k:=by omega
     subst this
     rw [hx'] at hz;obtain rfl:=inj hz
     exact ⟨j,hj,heq.symm⟩
 ·have:k=l.length:=by omega
  subst this
  refine ⟨on,s,rfl,c,hp.g,U,hp.on1,fun ho=>?_⟩
  obtain ⟨rfl,h0⟩:=hp.on0 ho
  refine ⟨rfl,fun a b hm ha hb=>hp.g.pairs a b (by rw [take_length];exact hm) ha hb,fun i j x y hi hj hcg=>?_⟩
  obtain ⟨i0,i1,i2⟩:=ZaI hi
  obtain ⟨j0,j1,j2⟩:=ZaI hj
  obtain ⟨i',a1,a2⟩:=h0 i.toNat (by omega) x i2
  obtain ⟨j',b1,b2⟩:=h0 j.toNat (by omega) y j2
  rw [Zkv hcg,b1] at a1
  obtain rfl:=inj a1
  rw [show ((i.toNat:Nat):Int)=i by omega] at a2
  rw [show ((j.toNat:Nat):Int)=j by omega] at b2
  rw [<-a2,b2]
theorem ZEI (hps:ps.length<=100000):Ret (F47 l ps) fun c=>ZbU l ps c:=by
 have hn:=hl.n
 unfold F47
 simp only [wq,reduceCtorEq]
 refine ⟨fun _=>?_,fun h=>absurd h (by omega)⟩
 refine Zac (fun q:Int×List Int=>∃ k:Nat,q.1=k/\k<=l.length/\q.2=(idN l.length).take k++replicate (l.length - k) 0) (fun q=>l.length - q.1.toNat) ?_ _ ⟨0,rfl,by omega,by simp⟩
 rintro ⟨_,_⟩ ⟨k,rfl,hk,rfl⟩
 have hidl:(idN l.length).length=l.length:=by simp [idN]
 simp only [ZEh,wq,reduceCtorEq]
 refine ⟨fun hlt=>?_,fun hge=>?_⟩
 ·have hlt':k < l.length:=by simp only [length_replicate,toNat_natCast] at hlt;omega
  have hw:=Zab k (by omega)
  have hlen:((idN l.length).take k++replicate (l.length - k) 0).length=l.length:=by simp [hidl];omega
  refine Zaj (by omega) (by omega) fun y hy _=>?_
  simp only [Za4 hy,wq,reduceCtorEq,hw]
  refine ⟨⟨k+1,rfl,by omega,?_⟩,by omega⟩
  obtain ⟨d,hd⟩:∃ d,l.length - k=d+1:=⟨l.length - k - 1,by omega⟩
  have htl:((idN l.length).take k).length=k:=by simp [hidl];omega
  rw [Zcf,hd,replicate_succ,show l.length - (k+1)=d by omega,set_append_right _ _ (by omega),htl,take_add_one]
  have e:(idN l.length)[k]?=some (k:Int):=by unfold idN;rw [getElem?_map,List.getElem?_range hlt'];rfl
  rw [e];simp
 ·have:k=l.length:=by simp only [length_replicate,toNat_natCast] at hge;omega
  subst this
  have e0:(idN l.length).take l.length++replicate (l.length - l.length) 0=idN l.length:=by rw [take_of_length_le (by omega)];simp
  rw [e0]
  refine Zac (fun q:Int×List Int=>∃ k:Nat,q.1=k/\k<=ps.length/\∃ c,ZdB l ps k c/\UM l.length c q.2) (fun q=>ps.length - q.1.toNat) ?_ _ ⟨0,rfl,by omega,idN l.length,⟨CI.id _,Zh3.id l ps,fun a b hm=>by simp at hm⟩,UM.id _⟩
  rintro ⟨_,u⟩ ⟨k,rfl,hk,c,hg,U⟩
  dsimp only at U
  simp only [ZEg,wq,reduceCtorEq]
  refine ⟨fun hlt=>Zaj (by omega) hlt fun p hp hm=>?_,fun hge=>?_⟩
  ·have hw:=Zab k (by omega)
   rw [Zax] at hp
   obtain ⟨a,b⟩:=p
   dsimp only
   have skip:(inR l.length a->inR l.length b->False)->(∃ k':Nat,(((k+1:Nat):Int))=k'/\k'<=ps.length/\∃ c,ZdB l ps k' c/\UM l.length c u):=fun hno=>
    ⟨k+1,rfl,by omega,c,hg.more hp (fun ha hb=>(hno ha hb).elim),U⟩
   refine ⟨fun h1=>?_,fun h1=>?_⟩
   ·simp only [Z9y,ZDj,wq,reduceCtorEq,hw]
    refine ⟨fun h2=>?_,fun h2=>⟨skip fun ha hb=>?_,by omega⟩⟩
    ·have ha:inR l.length a:=by constructor<;>(split at h1<;>split at h2<;>omega)
     have hb:inR l.length b:=by constructor<;>(split at h1<;>split at h2<;>omega)
     refine (Zzn hg.ci U ha hb).mono fun r _ ⟨_,U2⟩=>?_
     have hj:=hg.join ha hb (.pair hm ha hb)
     exact ⟨⟨k+1,rfl,by omega,_,hj.more hp (fun _ _=>ZhZ hg.ci ha hb),U2⟩,by omega⟩
    ·have:=ha.2;have:=hb.2
     split at h2<;>omega
   ·simp only [Z9y,ZDj,wq,reduceCtorEq,hw]
    refine ⟨skip fun ha hb=>?_,by omega⟩
    have:=ha.1;have:=hb.1
    split at h1<;>omega
  ·have:k=ps.length:=by omega
   subst this
   refine ZdV (fun m (q:Bool×List Int)=>∃ c,ZdB l ps ps.length c/\UM l.length c q.2/\(q.1=false->Zd1 l ps c)/\m=ZfJ c+(if q.1=true then 1 else 0)) ?_ _ _ ⟨c,hg,U,(fun h=>by cases h),rfl⟩
   rintro m ⟨on,s⟩ ⟨c,hg,U,hcomp,rfl⟩
   dsimp only at U hcomp
   simp only [ZEf,wq,reduceCtorEq]
   refine ⟨fun ho=>?_,fun ho=>⟨fun _=>?_,fun h=>absurd h (by omega)⟩⟩
   ·subst ho
    refine (Zv4 hl c hg s U).mono fun r _ ⟨on',u',er,c',hg',U',h1,h2⟩=>?_
    subst er
    rw [Zdd]
    refine ⟨_,?_,c',hg',U',fun h=>by obtain ⟨e,h3⟩:=h2 h;rw [e];exact h3,rfl⟩
    cases on' with
    | true=>have:=h1 rfl;simp;omega
    | false=>rw [(h2 rfl).1];simp
   ·have hcl:ZbU l ps c:=⟨hg.ci,hg.sound,hcomp ho⟩
    have hcl2:=hg.ci.len
    refine Ret.mono (Q:=fun a=>a=c) ?_ (fun a _ ha=>by rw [ZeY,ha];exact hcl)
    refine Zac (fun q:Int×List Int×List Int=>∃ k:Nat,q.1=k/\k<=l.length/\UM l.length c q.2.1/\q.2.2=c.take k++replicate (l.length - k) 0) (fun q=>l.length - q.1.toNat) ?_ _ ⟨0,rfl,by omega,U,by simp⟩
    rintro ⟨_,s,_⟩ ⟨k,rfl,hk,U,rfl⟩
    dsimp only at U
    simp only [ZEe,wq,reduceCtorEq]
    refine ⟨fun hlt=>?_,fun hge=>?_⟩
    ·have hlt':k < l.length:=by simp only [length_replicate,toNat_natCast] at hlt;omega
     have hw:=Zab k (by omega)
     have hlen:(c.take k++replicate (l.length - k) 0).length=l.length:=by simp [hcl2];omega
     refine (ZC4 U (i:=(k:Int)) ⟨by omega,by omega⟩).mono fun r _ ⟨er,U2⟩=>?_
     refine Zaj (by omega) (by omega) fun y hy _=>?_
     simp only [Za4 hy,wq,reduceCtorEq,hw]
     refine ⟨⟨k+1,rfl,by omega,U2,?_⟩,by omega⟩
     obtain ⟨d,hd⟩:∃ d,l.length - k=d+1:=⟨l.length - k - 1,by omega⟩
     have htl:(c.take k).length=k:=by simp [hcl2];omega
     have e:c[k]?=some (atI c (k:Int)):=by rw [<-Zax];exact hg.ci.get ⟨by omega,by omega⟩
     rw [Zcf,hd,replicate_succ,show l.length - (k+1)=d by omega,set_append_right _ _ (by omega),htl,take_add_one,e,er]
     simp
    ·have:k=l.length:=by simp only [length_replicate,toNat_natCast] at hge;omega
     subst this
     rw [take_of_length_le (by omega)];simp
end
theorem Zlp {c:List Int} {f:Int->Int} {k:Nat} {y z:Int} (hy:c[k]?=some y) (hz:z=f y):((c.take k).map f++c.drop k).set k z=(c.take (k+1)).map f++c.drop (k+1):=by
 have hk:=ZaA hy
 have hl:((c.take k).map f).length=k:=by simp;omega
 have hd:c.drop k=y::c.drop (k+1):=by
  rw [drop_eq_getElem_cons hk]
  rw [getElem?_eq_getElem hk] at hy
  rw [inj hy]
 rw [set_append_right _ _ (by omega),hl,hd,take_add_one,hy]
 simp [hz]
theorem Zkw {c:List Int} {f:Int->Int} {k:Nat} {y:Int} (hy:c[k]?=some y) (hz:f y=y):(c.take k).map f++c.drop k=(c.take (k+1)).map f++c.drop (k+1):=by
 have hk:=ZaA hy
 have hd:c.drop k=y::c.drop (k+1):=by
  rw [drop_eq_getElem_cons hk]
  rw [getElem?_eq_getElem hk] at hy
  rw [inj hy]
 rw [hd,take_add_one,hy]
 simp [hz]
theorem Zlq {c:List Int} {f:Int->Int} {k:Nat} (hk:k < c.length):((c.take k).map f++c.drop k)[k]?=c[k]?:=by
 have hl:((c.take k).map f).length=k:=by simp;omega
 rw [getElem?_append_right (by omega),hl,List.getElem?_drop];simp
theorem Zzw (c:List Int) {a b:Int} (ha:inR c.length a) (hb:inR c.length b) (hn:c.length<=100000):F59 a b c=some (Zc1 c a b):=by
 refine Ret.eq ?_
 unfold F59
 simp only [ZaB ha,ZaB hb,wq,reduceCtorEq]
 refine Zac (fun q:Int×List Int=>∃ k:Nat,q.1=k/\k<=c.length/\q.2=(c.take k).map (Zcs (atI c a) (atI c b))++c.drop k) (fun q=>c.length - q.1.toNat) ?_ _ ⟨0,rfl,by omega,by simp⟩
 rintro ⟨_,_⟩ ⟨k,rfl,hk,rfl⟩
 have hlen:((c.take k).map (Zcs (atI c a) (atI c b))++c.drop k).length=c.length:=by simp;omega
 simp only [Zx5,Zx4,wq,reduceCtorEq]
 refine ⟨fun hlt=>?_,fun hge=>?_⟩
 ·have hkl:k < c.length:=by omega
  have hw:=Zab k (by omega)
  obtain ⟨y,hy⟩:=ZeS hkl
  have hg:gI ((c.take k).map (Zcs (atI c a) (atI c b))++c.drop k) (k:Int)=some y:=by rw [Zax,Zlq hkl,hy]
  simp only [hg,wq,reduceCtorEq,hw]
  have emx:(if atI c b > atI c a then atI c b else atI c a)=max (atI c a) (atI c b):=by split<;>omega
  have emn:(if atI c b < atI c a then atI c b else atI c a)=min (atI c a) (atI c b):=by split<;>omega
  simp only [gt_iff_lt] at emx
  simp only [emx,emn]
  refine ⟨fun e=>⟨⟨k+1,rfl,by omega,?_⟩,by omega⟩,fun e=>⟨⟨k+1,rfl,by omega,?_⟩,by omega⟩⟩
  ·rw [Zcf];exact Zlp hy (by unfold Zcs;rw [if_pos e])
  ·exact Zkw hy (by unfold Zcs;rw [if_neg e])
 ·have:k=c.length:=by omega
  subst this
  simp [Zc1]
open Classical in
def ZfV (n:Nat) (c:List Int) (x y:Zae):Bool:=decide (ZbH n c x y)
theorem Zem {n:Nat} {c:List Int} {x y:Zae} (h:ZbH n c x y):ZfV n c x y=true:=by unfold ZfV;simp [h]
theorem Zb6 {n:Nat} {c:List Int} {x y:Zae} (h:¬ ZbH n c x y):false=ZfV n c x y:=by unfold ZfV;simp [h]
theorem ZgX {n:Nat} {c:List Int} {x y:Zae}:ZfV n c x y=true↔ZbH n c x y:=by unfold ZfV;simp
theorem ZAQ (x y:Zae) (c:List Int) (hk:x.2.2.length<=100000):F60 x y c=some (ZfV c.length c x y):=by
 refine Ret.eq ?_
 obtain ⟨x1,x2,x3⟩:=x
 obtain ⟨y1,y2,y3⟩:=y
 dsimp only at hk
 simp only [F60,ZAf,wq,reduceCtorEq]
 refine ⟨fun h=>Zb6 fun e=>h e.op,fun h1=>⟨fun h=>Zb6 fun e=>h e.imm,fun h2=>⟨fun h=>Zb6 fun e=>h (by have:x3.length=y3.length:=e.len;omega),fun h3=>?_⟩⟩⟩
 have h3':(x3.length:Int)=y3.length:=h3
 refine Zac (fun i:Int=>∃ k:Nat,i=k/\k<=x3.length/\∀ j < k,∀ p q,x3[j]?=some p->y3[j]?=some q->inR c.length p/\inR c.length q/\atI c p=atI c q) (fun i=>x3.length - i.toNat) ?_ _ ⟨0,rfl,by omega,fun j hj=>by omega⟩
 rintro _ ⟨k,rfl,hkl,ih⟩
 have hw:=Zab k (by omega)
 simp only [ZD7,ZD6,wq,reduceCtorEq]
 refine ⟨fun hlt=>Zaj (by omega) hlt fun p hp _=>Zaj (by omega) (by show (k:Int) < y3.length;omega) fun q hq _=>?_,fun hge=>?_⟩
 ·rw [Zax] at hp hq
  have no:¬ (inR c.length p/\inR c.length q/\atI c p=atI c q)->false=ZfV c.length c (x1,x2,x3) (y1,y2,y3):=fun h=>Zb6 fun e=>h (e.kid k p q hp hq)
  simp only [wq,reduceCtorEq,hw]
  refine ⟨fun e=>no fun r=>by have:=r.1.1;omega,fun e1=>⟨fun e=>no fun r=>by have:=r.2.1.1;omega,fun e2=>⟨fun e=>no fun r=>by have:=r.1.2;omega,fun e3=>⟨fun e=>no fun r=>by have:=r.2.1.2;omega,fun e4=>?_⟩⟩⟩⟩
  have hpr:inR c.length p:=⟨e1,e3⟩
  have hqr:inR c.length q:=⟨e2,e4⟩
  simp only [ZaB hpr,ZaB hqr,wq,reduceCtorEq]
  refine ⟨fun e=>no fun r=>e r.2.2,fun e=>⟨⟨k+1,rfl,by omega,fun j hj p' q' hp' hq'=>?_⟩,by omega⟩⟩
  by_cases h:j < k
  ·exact ih j h p' q' hp' hq'
  ·have:j=k:=by omega
   subst this
   rw [hp] at hp';rw [hq] at hq'
   obtain rfl:=inj hp'
   obtain rfl:=inj hq'
   exact ⟨hpr,hqr,e⟩
 ·have:k=x3.length:=by omega
  subst this
  exact (Zem ⟨h1,h2,by show x3.length=y3.length;omega,fun j p q hp hq=>ih j (ZaA hp) p q hp hq⟩).symm
theorem ZbH.symm {n:Nat} {c:List Int} {x y:Zae} (h:ZbH n c x y):ZbH n c y x:=
 ⟨h.op.symm,h.imm.symm,h.len.symm,fun k p q hp hq=>by obtain ⟨a,b,e⟩:=h.kid k q p hq hp;exact ⟨b,a,e.symm⟩⟩
section
variable {l:List Zae} {ps:List Zc0} (hl:Zfa l)
include hl
structure RP (l:List Zae) (ps:List Zc0) (cs:List Int) (on:Bool) (c:List Int) (D:Nat->Nat->Prop):Prop where
 g:ZdB l ps ps.length c
 le:ZfJ c<=ZfJ cs
 on1:on=true->ZfJ c < ZfJ cs
 on0:on=false->c=cs/\∀ i j,D i j->∀ x y,l[i]?=some x->l[j]?=some y->ZbH l.length cs x y->atI cs (i:Int)=atI cs (j:Int)
theorem ZCK (cs:List Int) (hcs:ZdB l ps ps.length cs) :
 Ret (Zao (ZDd l) (false,0,cs)) fun r=>∃ on' c,r=.inl (on',c)/\ZdB l ps ps.length c/\(on'=true->ZfJ c < ZfJ cs)/\(on'=false->c=cs/\Zd1 l ps cs):=by
 have hn:=hl.n
 refine Zac (fun q:Bool×Int×List Int=>∃ k:Nat,q.2.1=k/\k<=l.length/\RP l ps cs q.1 q.2.2 (fun i j=>i < j/\j < k)) (fun q=>l.length - q.2.1.toNat) ?_ _ ⟨0,rfl,by omega,hcs,le_refl _,(fun h=>by cases h),fun _=>⟨rfl,fun i j hj=>by omega⟩⟩
 rintro ⟨on,_,c⟩ ⟨k,rfl,hk,hp⟩
 dsimp only at hp
 have hw:=Zab k (by omega)
 simp only [ZDd,wq,reduceCtorEq,hw]
 refine ⟨fun hlt=>?_,fun hge=>?_⟩
 ·refine Zac (fun q:Bool×Int×List Int=>∃ i:Nat,q.2.1=i/\i<=k/\RP l ps cs q.1 q.2.2 (fun a b=>a < b/\(b < k\/b=k/\a < i))) (fun q=>k - q.2.1.toNat) ?_ _ ⟨0,rfl,by omega,hp.g,hp.le,hp.on1,fun h=>⟨(hp.on0 h).1,fun a b hab=>(hp.on0 h).2 a b (by omega)⟩⟩
  rintro ⟨on,_,c⟩ ⟨i,rfl,hi,hp⟩
  dsimp only at hp
  have hw2:=Zab i (by omega)
  simp only [ZDB,ZDA,ZD9,wq,reduceCtorEq,hw,hw2]
  refine ⟨fun hlt2=>?_,fun hge2=>?_⟩
  ·have hir:inR l.length (i:Int):=⟨by omega,by omega⟩
   have hkr:inR l.length (k:Int):=⟨by omega,hlt⟩
   have hcl:=hp.g.ci.len
   simp only [hp.g.ci.get hir,hp.g.ci.get hkr,wq,reduceCtorEq]
   have step:∀ {on':Bool},(on'=true->on=true)->(on'=false->on=false)->(on=false->∀ x y,l[i]?=some x->l[k]?=some y->ZbH l.length cs x y->atI cs (i:Int)=atI cs (k:Int))->RP l ps cs on' c (fun a b=>a < b/\(b < k\/b=k/\a < i+1)):=fun hon hoff h=>
    ⟨hp.g,hp.le,fun e=>hp.on1 (hon e),fun e=>⟨(hp.on0 (hoff e)).1,fun a b hab x y hx hy hc=>by
     by_cases e2:b < k\/b=k/\a < i
     ·exact (hp.on0 (hoff e)).2 a b ⟨hab.1,e2⟩ x y hx hy hc
     ·obtain rfl:b=k:=by omega
      obtain rfl:a=i:=by omega
      exact h (hoff e) x y hx hy hc⟩⟩
   refine ⟨fun hne=>?_,fun he=>⟨⟨i+1,rfl,by omega,?_⟩,by omega⟩⟩
   ·refine Zaj (by omega) (by omega) fun x hx hxm=>Zaj (by omega) (by omega) fun y hy hym=>?_
    rw [ZAQ x y c (by have:=hl.k x hxm;omega),hcl]
    simp only [wq,reduceCtorEq]
    rw [Zax] at hx hy
    refine ⟨fun e=>?_,fun e=>⟨⟨i+1,rfl,by omega,?_⟩,by omega⟩⟩
    ·rw [Zzw c (by rw [hcl];exact hir) (by rw [hcl];exact hkr) (by omega)]
     simp only [wq,reduceCtorEq]
     have hclo:=(ZgX.1 e).clo hp.g.sound (by rw [Zax];exact hx) (by rw [Zax];exact hy)
     have hlt3:=ZmC hp.g.ci hir hkr hne
     have hle:=hp.le
     exact ⟨⟨i+1,rfl,by omega,hp.g.join hir hkr hclo,by omega,fun _=>by omega,fun h=>by cases h⟩,by omega⟩
    ·refine step id id fun ho x' y' hx' hy' hc=>?_
     rw [hx] at hx';rw [hy] at hy'
     obtain rfl:=inj hx'
     obtain rfl:=inj hy'
     rw [<-(hp.on0 ho).1] at hc
     rw [Zem hc] at e;cases e
   ·refine step id id fun ho x' y' hx' hy' hc=>?_
    rw [<-(hp.on0 ho).1];exact he
  ·have:i=k:=by omega
   subst this
   exact ⟨⟨i+1,rfl,by omega,hp.g,hp.le,hp.on1,fun h=>⟨(hp.on0 h).1,fun a b hab=>(hp.on0 h).2 a b (by omega)⟩⟩,by omega⟩
 ·have:k=l.length:=by omega
  subst this
  refine ⟨on,c,rfl,hp.g,hp.on1,fun ho=>?_⟩
  obtain ⟨rfl,h0⟩:=hp.on0 ho
  refine ⟨rfl,fun a b hm ha hb=>hp.g.pairs a b (by rw [take_length];exact hm) ha hb,fun i j x y hi hj hcg=>?_⟩
  obtain ⟨i0,i1,i2⟩:=ZaI hi
  obtain ⟨j0,j1,j2⟩:=ZaI hj
  have ei:((i.toNat:Nat):Int)=i:=by omega
  have ej:((j.toNat:Nat):Int)=j:=by omega
  rcases Nat.lt_trichotomy i.toNat j.toNat with h | h | h
  ·have:=h0 i.toNat j.toNat ⟨h,by omega⟩ x y i2 j2 hcg
   rwa [ei,ej] at this
  ·rw [<-ei,<-ej,h]
  ·have:=h0 j.toNat i.toNat ⟨h,by omega⟩ y x j2 i2 hcg.symm
   rw [ei,ej] at this
   exact this.symm
theorem ZEJ (hps:ps.length<=100000):Ret (F36 l ps) fun c=>ZbU l ps c:=by
 have hn:=hl.n
 have hidl:(idN l.length).length=l.length:=by simp [idN]
 unfold F36
 refine Zac (fun q:Int×List Int=>∃ k:Nat,q.1=k/\k<=l.length/\q.2=idN k) (fun q=>l.length - q.1.toNat) ?_ _ ⟨0,rfl,by omega,rfl⟩
 rintro ⟨_,_⟩ ⟨k,rfl,hk,rfl⟩
 have hidk:(idN k).length=k:=by simp [idN]
 have hw:=Zab k (by omega)
 simp only [Z9Q,wq,reduceCtorEq,hw]
 refine ⟨fun hlt=>⟨fun _=>⟨⟨k+1,rfl,by omega,(ZmD k).symm⟩,by omega⟩,fun h=>absurd h (by simp only [length_cons,length_nil];omega)⟩,fun hge=>?_⟩
 have:k=l.length:=by omega
 subst this
 clear hw hidk
 refine Zac (fun q:Int×List Int=>∃ k:Nat,q.1=k/\k<=ps.length/\ZdB l ps k q.2) (fun q=>ps.length - q.1.toNat) ?_ _ ⟨0,rfl,by omega,CI.id _,Zh3.id l ps,fun a b hm=>by simp at hm⟩
 rintro ⟨_,c⟩ ⟨k,rfl,hk,hg⟩
 dsimp only at hg
 have hcl:=hg.ci.len
 simp only [ZDD,Z9P,ZD8,wq,reduceCtorEq]
 refine ⟨fun hlt=>Zaj (by omega) hlt fun p hp hm=>?_,fun hge=>?_⟩
 ·have hw:=Zab k (by omega)
  simp only [Za4 hp]
  rw [Zax] at hp
  obtain ⟨a,b⟩:=p
  simp only [hw]
  have skip:(inR l.length a->inR l.length b->False)->(∃ k':Nat,(((k+1:Nat):Int))=k'/\k'<=ps.length/\ZdB l ps k' c):=fun hno=>⟨k+1,rfl,by omega,hg.more hp (fun ha hb=>(hno ha hb).elim)⟩
  refine ⟨fun h1=>⟨fun h2=>⟨fun h3=>⟨fun h4=>?_,fun h4=>⟨skip fun ha hb=>?_,by omega⟩⟩,fun h3=>⟨skip fun ha hb=>?_,by omega⟩⟩,fun h2=>⟨skip fun ha hb=>?_,by omega⟩⟩,fun h1=>⟨skip fun ha hb=>?_,by omega⟩⟩
  ·have ha:inR l.length a:=⟨h1,h3⟩
   have hb:inR l.length b:=⟨h2,h4⟩
   rw [Zzw c (by rw [hcl];exact ha) (by rw [hcl];exact hb) (by omega)]
   simp only [wq,reduceCtorEq]
   exact ⟨⟨k+1,rfl,by omega,(hg.join ha hb (.pair hm ha hb)).more hp (fun _ _=>ZhZ hg.ci ha hb)⟩,by omega⟩
  ·have:=hb.2;omega
  ·have:=ha.2;omega
  ·have:=hb.1;omega
  ·have:=ha.1;omega
 ·have:k=ps.length:=by omega
  subst this
  refine ZdV (fun m (q:Bool×List Int)=>ZdB l ps ps.length q.2/\(q.1=false->Zd1 l ps q.2)/\m=ZfJ q.2+(if q.1=true then 1 else 0)) ?_ _ _ ⟨hg,(fun h=>by cases h),rfl⟩
  rintro m ⟨on,c⟩ ⟨hg,hcomp,rfl⟩
  dsimp only at hg hcomp
  simp only [ZDC,wq,reduceCtorEq]
  refine ⟨fun ho=>?_,fun ho=>?_⟩
  ·subst ho
   refine (ZCK hl c hg).mono fun r _ ⟨on',c',er,hg',h1,h2⟩=>?_
   subst er
   rw [Zdd]
   refine ⟨_,?_,hg',fun h=>by obtain ⟨e,h3⟩:=h2 h;rw [e];exact h3,rfl⟩
   cases on' with
   | true=>have:=h1 rfl;simp;omega
   | false=>rw [(h2 rfl).1];simp
  ·exact ⟨hg.ci,hg.sound,hcomp ho⟩
theorem ZiY (hps:ps.length<=100000):∃ c,ZbU l ps c/\F47 l ps=some c/\F36 l ps=some c:=by
 obtain ⟨c,e1,h1⟩:=ZEI hl hps
 obtain ⟨d,e2,h2⟩:=ZEJ hl hps
 exact ⟨c,h1,e1,by rw [e2,h1.uniq h2]⟩
end
theorem ZeD {l:List Zae} (hg:Zex l l.length) {i:Nat} {x:Zae} (hx:l[i]?=some x):∀ k∈x.2.2,0<=k/\k < i:=by
 have hi:=ZaA hx
 have h1:=(hg i hi).1
 have h2:(Zam l l.length)[i]?=some (Zbu l (Zam l i) i x):=by
  rw [Zek l i l.length hi]
  have hl:=ZaK l i
  show (Zam l i++[match l[i]? with | some n=>Zbu l (Zam l i) i n | none=>0])[i]?=_
  rw [getElem?_append_right (by omega),hl,hx];simp
 have h3:atI (Zam l l.length) i=Zbu l (Zam l i) i x:=by unfold atI;rw [toNat_natCast,h2];rfl
 rw [h3] at h1
 have h4:okK (Zam l i) i x=true:=by
  cases h:okK (Zam l i) i x
  ·unfold Zbu at h1;rw [h] at h1;exact absurd rfl h1
  ·rfl
 intro k hk
 unfold okK at h4
 have:=(all_eq_true.1 h4) k hk
 unfold okQ at this
 simp at this
 exact this.1
theorem Zfa.of {l:List Zae} (h:ZhX l) (hg:Zex l l.length):Zfa l:=by
 refine ⟨h,fun x hx k hk=>?_⟩
 obtain ⟨i,hi⟩:=getElem?_of_mem hx
 have:=ZeD hg hi k hk
 have:=ZaA hi
 constructor<;>omega
def ZnQ (c:List Int) (x:Zae):ByteArray:=Zvy x.1 x.2.1 (x.2.2.map (atI c))
theorem Zkx {n:Nat} {c:List Int} {x y:Zae} (kx:∀ k∈x.2.2,inR n k) (ky:∀ k∈y.2.2,inR n k) (h1:x.1=y.1) (h2:x.2.1=y.2.1) (h3:x.2.2.map (atI c)=y.2.2.map (atI c)):ZbH n c x y:=by
 refine ⟨h1,h2,by simpa using congrArg List.length h3,fun k p q hp hq=>⟨kx p (mem_of_getElem? hp),ky q (mem_of_getElem? hq),?_⟩⟩
 have:=congrArg (fun l=>l[k]?) h3
 simpa [getElem?_map,hp,hq] using this
theorem ZbH.map {n:Nat} {c:List Int} {x y:Zae} (h:ZbH n c x y):x.2.2.map (atI c)=y.2.2.map (atI c):=by
 apply ext_getElem?
 intro k
 rw [getElem?_map,getElem?_map]
 by_cases hk:k < x.2.2.length
 ·have hk2:k < y.2.2.length:=by rw [<-h.len];exact hk
  rw [getElem?_eq_getElem hk,getElem?_eq_getElem hk2]
  simp only [map_some]
  rw [(h.kid k _ _ (getElem?_eq_getElem hk) (getElem?_eq_getElem hk2)).2.2]
 ·rw [getElem?_eq_none (by omega),getElem?_eq_none (by rw [<-h.len];omega)]
theorem Zen {l:List Zae} (hl:Zfa l) {c:List Int} {x y:Zae} (hx:x∈l) (hy:y∈l):ZnQ c x=ZnQ c y↔ZbH l.length c x y:=by
 constructor
 ·intro h
  obtain ⟨h1,h2,h3⟩:=Zm7 h
  exact Zkx (hl.r x hx) (hl.r y hy) h1 h2 h3
 ·intro h
  unfold ZnQ
  rw [h.op,h.imm,h.map]
theorem ZbH.rfl' {l:List Zae} (hl:Zfa l) {c:List Int} {x:Zae} (hx:x∈l):ZbH l.length c x x:=(Zen hl hx hx).1 rfl
theorem ZbH.trans' {l:List Zae} (hl:Zfa l) {c:List Int} {x y z:Zae} (hx:x∈l) (hy:y∈l) (hz:z∈l) (h1:ZbH l.length c x y) (h2:ZbH l.length c y z):ZbH l.length c x z:=
 (Zen hl hx hz).1 (((Zen hl hx hy).2 h1).trans ((Zen hl hy hz).2 h2))
theorem ZCC {l:List Zae} (hl:Zfa l) {c:List Int} (hc:CI l.length c) (x:Zae) (hx:x∈l) (l4:List Zae) (l5:List Zew) (l6:List (Int×Int×Int)) (a b d e:Int) (l12:List Int) (l13:List (List Int)) :
 ZCs x l4 l5 l6 a b d e c l12 l13=some (ZnQ c x,l4,l5,l6,a,b,d,e,c,l12,l13):=by
 refine Ret.eq ?_
 have hn:=hl.w x hx
 have hkr:=hl.r x hx
 have hll:=hl.n
 have l1:=ZdS hn.op.1 hn.op.2
 have l2:=ZdS hn.imm.1 hn.imm.2
 have i64:∀ k,inR l.length k->I64 (atI c k):=fun k hk=>by
  have:=(hc.rng hk).1;have:=(hc.rng hk).2
  constructor<;>omega
 simp only [ZCs,ZCq _ hn.op.1 hn.op.2 [] (by simp),wq,reduceCtorEq,nil_append]
 refine ⟨fun _=>?_,fun h=>absurd h (by simp only [length_cons,length_nil];omega)⟩
 rw [ZCq _ hn.imm.1 hn.imm.2 _ (by simp only [length_append,length_cons,length_nil];omega)]
 simp only [ZaH]
 refine Zac (fun q=>∃ j:Nat,j<=x.2.2.length/\q=((j:Int),ZgW x.1 (x.2.1::(x.2.2.take j).map (atI c)),l4,l5,l6,a,b,d,e,c,l12,l13)) (fun q=>x.2.2.length - q.1.toNat) ?_ _ ⟨0,by omega,by simp [ZgW,ZfT]⟩
 rintro _ ⟨j,hj,rfl⟩
 have hk:=hn.k
 simp only [ZC1,F49,wq,reduceCtorEq]
 refine ⟨fun hlt=>Zaj (by omega) hlt fun y hy hm=>?_,fun hge=>?_⟩
 ·have hb:(ZgW x.1 (x.2.1::(x.2.2.take j).map (atI c))).length<=30000:=by
   have h1:=Zm8 (l:=x.2.1::(x.2.2.take j).map (atI c)) (fun z hz=>by
    rcases mem_cons.1 hz with rfl | hz
    ·exact hn.imm
    ·obtain ⟨k,hk,rfl⟩:=mem_map.1 hz
     exact i64 k (hkr k (mem_of_mem_take hk)))
   have h2:((x.2.2.take j).map (atI c)).length<=1000:=by rw [length_map,length_take];omega
   simp only [length_cons] at h1
   simp only [ZgW,length_append]
   omega
  refine ⟨fun _=>?_,fun h=>absurd h (by simp only [length_cons,length_nil];omega)⟩
  have hyr:=hkr y hm
  have hy':=i64 y hyr
  simp only [hc.get hyr,wq,reduceCtorEq]
  rw [ZCq _ hy'.1 hy'.2 _ (by simp only [length_append,length_cons,length_nil];omega)]
  have hw:=Zab j (by omega)
  simp only [ZaH,hw]
  refine ⟨⟨j+1,by omega,?_⟩,by omega⟩
  rw [Zax] at hy
  rw [take_add_one,hy]
  have e:ZgW x.1 (x.2.1::((x.2.2.take j).map (atI c)++[atI c y]))=ZgW x.1 (x.2.1::(x.2.2.take j).map (atI c))++(32::ZeB (atI c y)):=by simp [ZgW,ZfT]
  simp only [toList_some,map_append,map_cons,List.map_nil]
  rw [e];simp
 ·have:j=x.2.2.length:=by omega
  subst this
  rw [take_length]
  rfl
def Zar (l:List Zae) (j:Int):Zae:=l[j.toNat]?.getD (0,0,[])
theorem Za2 {l:List Zae} {j:Int} (h:inR l.length j):gI l j=some (Zar l j):=by
 obtain ⟨x,hx,_⟩:=Zn9 h.1 h.2
 rw [hx];unfold Zar;rw [(ZaI hx).2.2];rfl
theorem Zav {l:List Zae} {j:Int} (h:inR l.length j):Zar l j∈l:=ZeR (Za2 h)
theorem Zia {l:List Zae} {k:Nat} {x:Zae} (h:l[k]?=some x):Zar l (k:Int)=x:=by unfold Zar;rw [toNat_natCast,h];rfl
def Zjn (l:List Zae) (c:List Int) (row:List Int) (k:Int):Bool:=row.any fun j=>ZfV l.length c (Zar l j) (Zar l k)
def Zaw (T:List (List Int)) (q:Int):List Int:=T[q.toNat]?.getD []
theorem ZdW {T:List (List Int)} {q:Int} (h:inR T.length q):gI T q=some (Zaw T q):=by
 obtain ⟨x,hx,_⟩:=Zn9 h.1 h.2
 rw [hx];unfold Zaw;rw [(ZaI hx).2.2];rfl
theorem Zfb {T:List (List Int)} {q p:Int} {r:List Int} (hq:inR T.length q) (hp:0<=p):Zaw (Zaq T q r) p=if p=q then r else Zaw T p:=by
 unfold Zaw Zaq
 have:=hq.1;have:=hq.2
 by_cases e:p=q
 ·subst e;rw [if_pos rfl,List.getElem?_set_self (by omega)];rfl
 ·rw [if_neg e,List.getElem?_set_ne (by omega)]
def ZaD (l:List Zae) (c:List Int):Nat->List (List Int)
 | 0=>replicate l.length []
 | k+1=>bif Zjn l c (Zaw (ZaD l c k) (atI c (k:Int))) (k:Int) then ZaD l c k else Zaq (ZaD l c k) (atI c (k:Int)) (Zaw (ZaD l c k) (atI c (k:Int))++[(k:Int)])
theorem ZdX (l:List Zae) (c:List Int):∀ k,(ZaD l c k).length=l.length
 | 0=>by simp [ZaD]
 | k+1=>by
  have:=ZdX l c k
  unfold ZaD
  cases Zjn l c (Zaw (ZaD l c k) (atI c (k:Int))) (k:Int)
  ·rw [cond_false,Zay];exact this
  ·exact this
structure Zv5 (l:List Zae) (c:List Int) (T:List (List Int)) (k:Nat):Prop where
 mem:∀ q,inR l.length q->∀ j∈Zaw T q,inR l.length j/\j < k/\atI c j=q
 cov:∀ j,inR l.length j->j < k->∃ j'∈Zaw T (atI c j),ZbH l.length c (Zar l j') (Zar l j)
 len:∀ q,inR l.length q->(Zaw T q).length<=k
 asc:∀ q,inR l.length q->(Zaw T q).Pairwise (· < ·)
theorem ZcI (n:Nat) (q:Int):Zaw (replicate n []) q=[]:=by
 unfold Zaw
 cases h:(replicate n ([]:List Int))[q.toNat]? with
 | none=>rfl
 | some r=>exact (List.mem_replicate.1 (mem_of_getElem? h)).2
theorem ZgY {l:List Zae} (hl:Zfa l) {c:List Int} (hc:CI l.length c):∀ k≤l.length,Zv5 l c (ZaD l c k) k
 | 0,_=>by
  refine ⟨fun q _ j hj=>?_,fun j h1 h2=>?_,fun q _=>?_,fun q _=>?_⟩
  ·unfold ZaD at hj;rw [ZcI] at hj;cases hj
  ·have:=h1.1;omega
  ·unfold ZaD;rw [ZcI];simp
  ·unfold ZaD;rw [ZcI];simp
 | k+1,hk=>by
  have ih:=ZgY hl hc k (by omega)
  have hkr:inR l.length (k:Int):=⟨by omega,by omega⟩
  have hq:=hc.rng hkr
  have hT:=ZdX l c k
  have hqT:inR (ZaD l c k).length (atI c (k:Int)):=by rw [hT];exact hq
  unfold ZaD
  cases hh:Zjn l c (Zaw (ZaD l c k) (atI c (k:Int))) (k:Int)
  ·rw [cond_false]
   refine ⟨fun q hq' j hj=>?_,fun j h1 h2=>?_,fun q hq'=>?_,fun q hq'=>?_⟩
   ·rw [Zfb hqT hq'.1] at hj
    split at hj
    ·subst ‹q=_›
     rcases mem_append.1 hj with hj | hj
     ·obtain ⟨a,b,e⟩:=ih.mem _ hq j hj;exact ⟨a,by omega,e⟩
     ·obtain rfl:=mem_singleton.1 hj;exact ⟨hkr,by omega,rfl⟩
    ·obtain ⟨a,b,e⟩:=ih.mem q hq' j hj;exact ⟨a,by omega,e⟩
   ·rw [Zfb hqT (hc.rng h1).1]
    by_cases e:j < k
    ·obtain ⟨j',m,hcg⟩:=ih.cov j h1 (by omega)
     refine ⟨j',?_,hcg⟩
     split
     ·rename_i e2;rw [e2] at m;exact List.mem_append_left _ m
     ·exact m
    ·have:j=k:=by omega
     subst this
     refine ⟨(k:Int),?_,ZbH.rfl' hl (Zav hkr)⟩
     rw [if_pos rfl];simp
   ·rw [Zfb hqT hq'.1]
    split
    ·have:=ih.len _ hq;simp;omega
    ·have:=ih.len q hq';omega
   ·rw [Zfb hqT hq'.1]
    split
    ·rw [List.pairwise_append]
     refine ⟨ih.asc _ hq,by simp,fun a ha b hb=>?_⟩
     obtain rfl:=mem_singleton.1 hb
     exact (ih.mem _ hq a ha).2.1
    ·exact ih.asc q hq'
  ·rw [cond_true]
   refine ⟨fun q hq' j hj=>?_,fun j h1 h2=>?_,fun q hq'=>by have:=ih.len q hq';omega,ih.asc⟩
   ·obtain ⟨a,b,e⟩:=ih.mem q hq' j hj;exact ⟨a,by omega,e⟩
   ·by_cases e:j < k
    ·exact ih.cov j h1 (by omega)
    ·have:j=k:=by omega
     subst this
     unfold Zjn at hh
     obtain ⟨j',m,hcg⟩:=any_eq_true.1 hh
     exact ⟨j',m,ZgX.1 hcg⟩
theorem ZmG {l:List Zae} (hl:Zfa l) {ps:List Zc0} {c:List Int} (hc:ZbU l ps c) {k:Nat} (hk:k < l.length):Zjn l c (Zaw (ZaD l c k) (atI c (k:Int))) (k:Int)=true↔∃ j,j < k/\∃ x,l[j]?=some x/\ZnQ c (Zar l (k:Int))=ZnQ c x:=by
 have hkr:inR l.length (k:Int):=⟨by omega,by omega⟩
 have ih:=ZgY hl hc.ci k (by omega)
 constructor
 ·intro h
  obtain ⟨j',m,hcg⟩:=any_eq_true.1 h
  obtain ⟨a,b,_⟩:=ih.mem _ (hc.ci.rng hkr) j' m
  have h0:=a.1
  have hlt:j'.toNat < l.length:=by have:=a.2;omega
  refine ⟨j'.toNat,by omega,Zar l j',?_,((Zen hl (Zav a) (Zav hkr)).2 (ZgX.1 hcg)).symm⟩
  have:=Za2 a
  rw [<-(ZaI this).2.2]
 ·rintro ⟨j,hj,x,hx,he⟩
  have hjr:inR l.length (j:Int):=⟨by omega,by omega⟩
  have hxm:=mem_of_getElem? hx
  have hcg:=(Zen hl (Zav hkr) hxm).1 he
  have hcl:atI c (k:Int)=atI c (j:Int):=hc.comp.cong _ _ _ _ (Za2 hkr) (by rw [Zax];exact hx) hcg
  obtain ⟨j',m,hcg'⟩:=ih.cov (j:Int) hjr (by omega)
  rw [Zia hx] at hcg'
  rw [<-hcl] at m
  obtain ⟨a,_,_⟩:=ih.mem _ (hc.ci.rng hkr) j' m
  exact any_eq_true.2 ⟨j',m,Zem (ZbH.trans' hl (Zav a) hxm (Zav hkr) hcg' hcg.symm)⟩
abbrev Zwb:=Za5×List Int×List Int×List (List Int)
abbrev Z48:=Za5×List Int×List (List Int)
def Zd2 (s:Za5):List Zc0:=s.2.1.map fun x=>(x.1,x.2.1)
def Zai (s:Za5):List Int:=(F47 s.1 (Zd2 s)).getD []
def ZaW (c:List Int) (k:Nat):List Int:=(idN k).filter fun i=>atI c i==i
theorem Zeo (c:List Int) (k:Nat):ZaW c (k+1)=if atI c (k:Int)=k then ZaW c k++[(k:Int)] else ZaW c k:=by
 unfold ZaW
 rw [ZmD,List.filter_append]
 by_cases h:atI c (k:Int)=k<;>simp [h]
theorem Zde (c:List Int) (k:Nat):(ZaW c k).length<=k:=by
 have:=List.length_filter_le (fun i=>atI c i==i) (idN k)
 simp only [idN,length_map,List.length_range] at this
 exact this
def Zaz (s:Za5):List (List Int):=ZaD s.1 (Zai s) s.1.length
def Zbz (s:Za5):Zwb:=(s,Zai s,ZaW (Zai s) s.1.length,Zaz s)
def Zcg (s:Za5):Z48:=(s,Zai s,Zaz s)
section
variable {s:Za5} (h:ZmA s)
include h
theorem Zlr:(Zd2 s).length<=100000:=by have:=h.sl;simp [Zd2];exact this
variable (hv:ZcO s)
include hv
theorem Zql:Zfa s.1:=Zfa.of h.g hv.good
theorem ZgZ:ZbU s.1 (Zd2 s) (Zai s)/\F47 s.1 (Zd2 s)=some (Zai s)/\F36 s.1 (Zd2 s)=some (Zai s):=by
 obtain ⟨c,h1,h2,h3⟩:=ZiY (ps:=Zd2 s) (Zql h hv) (Zlr h)
 have:Zai s=c:=by unfold Zai;rw [h2];rfl
 rw [this];exact ⟨h1,h2,h3⟩
theorem Zqm:CI s.1.length (Zai s):=(ZgZ h hv).1.ci
theorem Zv6:Zv5 s.1 (Zai s) (Zaz s) s.1.length:=ZgY (Zql h hv) (Zqm h hv) _ (le_refl _)
theorem Zqn:Ret (Zao (ZDl s) (0,([]:List (ByteArray×Bool)),s.1,s.2.1,s.2.2.1,s.2.2.2.1,s.2.2.2.2.1,s.2.2.2.2.2.1,s.2.2.2.2.2.2,Zai s,[],(replicate (toNat (List.length s.1:Int)) []:List (List Int)))) fun r=>r=(some (Zbz s),true):=by
 have hl:=Zql h hv
 have hc:=(ZgZ h hv).1
 have hn:=h.g.n
 refine Zac (fun q=>∃ (k:Nat) (sn:List (ByteArray×Bool)),k<=s.1.length/\q=((k:Int),sn,s.1,s.2.1,s.2.2.1,s.2.2.2.1,s.2.2.2.2.1,s.2.2.2.2.2.1,s.2.2.2.2.2.2,Zai s,ZaW (Zai s) k,ZaD s.1 (Zai s) k)/\∀ t,getD (Zc3 (ZaS .str) sn t) false=true↔∃ j,j < k/\∃ x,s.1[j]?=some x/\t=ZnQ (Zai s) x) (fun q=>s.1.length - q.1.toNat) ?_ _ ⟨0,[],by omega,by simp [ZaW,idN,ZaD],fun t=>by simp [Zc3]⟩
 rintro _ ⟨k,sn,hk,rfl,hsn⟩
 simp only [ZDl,wq,reduceCtorEq]
 refine ⟨fun hlt=>?_,fun hge=>?_⟩
 ·have hkl:k < s.1.length:=by omega
  have hw:=Zab k (by omega)
  have hkr:inR s.1.length (k:Int):=⟨by omega,hlt⟩
  obtain ⟨x,hx⟩:=ZeS hkl
  have hgx:gI s.1 (k:Int)=some x:=by rw [Zax];exact hx
  have hxm:=mem_of_getElem? hx
  have hnx:=Zia hx
  have hq:=hc.ci.rng hkr
  have hT:=ZdX s.1 (Zai s) k
  have hqT:inR (ZaD s.1 (Zai s) k).length (atI (Zai s) (k:Int)):=by rw [hT];exact hq
  have hI:=ZgY hl hc.ci k hk
  have hrl:=hI.len _ hq
  have hlr:=Zde (Zai s) k
  simp only [hgx,hc.ci.get hkr,wq,reduceCtorEq,ZAq,ZAo,hw]
  have fin:∀ L:List Int,L=ZaW (Zai s) (k+1)->(∃ (k':Nat) (sn':List (ByteArray×Bool)),k'<=s.1.length/\(((k+1:Nat):Int),(bif Zjn s.1 (Zai s) (Zaw (ZaD s.1 (Zai s) k) (atI (Zai s) (k:Int))) (k:Int) then sn else ZfQ (ZaS .str) sn (ZnQ (Zai s) x) true),s.1,s.2.1,s.2.2.1,s.2.2.2.1,s.2.2.2.2.1,s.2.2.2.2.2.1,s.2.2.2.2.2.2,Zai s,L,ZaD s.1 (Zai s) (k+1))=((k':Int),sn',s.1,s.2.1,s.2.2.1,s.2.2.2.1,s.2.2.2.2.1,s.2.2.2.2.2.1,s.2.2.2.2.2.2,Zai s,ZaW (Zai s) k',ZaD s.1 (Zai s) k')/\∀ t,getD (Zc3 (ZaS .str) sn' t) false=true↔∃ j,j < k'/\∃ x,s.1[j]?=some x/\t=ZnQ (Zai s) x):=by
   rintro L rfl
   refine ⟨k+1,_,by omega,rfl,fun t=>?_⟩
   have hi:=ZmG hl hc hkl
   rw [hnx] at hi
   cases hh:Zjn s.1 (Zai s) (Zaw (ZaD s.1 (Zai s) k) (atI (Zai s) (k:Int))) (k:Int)
   ·rw [cond_false,ZeW]
    by_cases e:t=ZnQ (Zai s) x
    ·rw [if_pos e];exact ⟨fun _=>⟨k,by omega,x,hx,e⟩,fun _=>rfl⟩
    ·rw [if_neg e,hsn t]
     constructor
     ·rintro ⟨j,hj,y,hy,e2⟩;exact ⟨j,by omega,y,hy,e2⟩
     ·rintro ⟨j,hj,y,hy,e2⟩
      refine ⟨j,?_,y,hy,e2⟩
      by_cases e3:j=k
      ·subst e3;rw [hx] at hy;obtain rfl:=inj hy;exact absurd e2 e
      ·omega
   ·rw [cond_true,hsn t]
    constructor
    ·rintro ⟨j,hj,y,hy,e2⟩;exact ⟨j,by omega,y,hy,e2⟩
    ·rintro ⟨j,hj,y,hy,e2⟩
     by_cases e3:j=k
     ·subst e3;rw [hx] at hy;obtain rfl:=inj hy
      obtain ⟨j',hj',x',hx',he⟩:=hi.1 hh
      exact ⟨j',hj',x',hx',e2.trans he⟩
     ·exact ⟨j,by omega,y,hy,e2⟩
  have main:∀ L:List Int,L=ZaW (Zai s) (k+1)->Ret (ZCs x s.1 s.2.1 s.2.2.1 s.2.2.2.1 s.2.2.2.2.1 s.2.2.2.2.2.1 s.2.2.2.2.2.2 (Zai s) L (ZaD s.1 (Zai s) k)) fun a=>a=(ZnQ (Zai s) x,s.1,s.2.1,s.2.2.1,s.2.2.2.1,s.2.2.2.2.1,s.2.2.2.2.2.1,s.2.2.2.2.2.2,Zai s,L,ZaD s.1 (Zai s) k):=fun L _=>⟨_,ZCC hl hc.ci x hxm _ _ _ _ _ _ _ _ _,rfl⟩
  have hdec:(getD (Zc3 (ZaS .str) sn (ZnQ (Zai s) x)) false=true)↔Zjn s.1 (Zai s) (Zaw (ZaD s.1 (Zai s) k) (atI (Zai s) (k:Int))) (k:Int)=true:=by
   rw [hsn,ZmG hl hc hkl,hnx]
  refine ⟨fun e=>⟨fun _=>?_,fun h=>absurd h (by simp only [length_cons,length_nil];omega)⟩,fun e=>?_⟩
  ·have hL:ZaW (Zai s) k++[(k:Int)]=ZaW (Zai s) (k+1):=by rw [Zeo,if_pos e]
   refine (main _ hL).mono fun a _ ha=>?_
   subst ha
   simp only [ZdW hqT,wq,reduceCtorEq]
   have hf:=fin _ hL
   refine ⟨fun e0=>⟨fun _=>⟨?_,by omega⟩,fun h=>absurd h (by simp only [length_cons,length_nil];omega)⟩,fun e0=>⟨?_,by omega⟩⟩
   ·have e1:Zjn s.1 (Zai s) (Zaw (ZaD s.1 (Zai s) k) (atI (Zai s) (k:Int))) (k:Int)=false:=by
     cases hh:Zjn s.1 (Zai s) (Zaw (ZaD s.1 (Zai s) k) (atI (Zai s) (k:Int))) (k:Int)
     ·rfl
     ·rw [hdec.2 hh] at e0;cases e0
    have e2:ZaD s.1 (Zai s) (k+1)=Zaq (ZaD s.1 (Zai s) k) (atI (Zai s) (k:Int)) (Zaw (ZaD s.1 (Zai s) k) (atI (Zai s) (k:Int))++[(k:Int)]):=by
     conv=>lhs;unfold ZaD
     rw [e1,cond_false]
    rw [e1,cond_false,e2] at hf
    exact hf
   ·have e1:=hdec.1 e0
    have e2:ZaD s.1 (Zai s) (k+1)=ZaD s.1 (Zai s) k:=by
     conv=>lhs;unfold ZaD
     rw [e1,cond_true]
    rw [e1,cond_true,e2] at hf
    exact hf
  ·have hL:ZaW (Zai s) k=ZaW (Zai s) (k+1):=by rw [Zeo,if_neg e]
   refine (main _ hL).mono fun a _ ha=>?_
   subst ha
   simp only [ZdW hqT,wq,reduceCtorEq]
   have hf:=fin _ hL
   refine ⟨fun e0=>⟨fun _=>⟨?_,by omega⟩,fun h=>absurd h (by simp only [length_cons,length_nil];omega)⟩,fun e0=>⟨?_,by omega⟩⟩
   ·have e1:Zjn s.1 (Zai s) (Zaw (ZaD s.1 (Zai s) k) (atI (Zai s) (k:Int))) (k:Int)=false:=by
     cases hh:Zjn s.1 (Zai s) (Zaw (ZaD s.1 (Zai s) k) (atI (Zai s) (k:Int))) (k:Int)
     ·rfl
     ·rw [hdec.2 hh] at e0;cases e0
    have e2:ZaD s.1 (Zai s) (k+1)=Zaq (ZaD s.1 (Zai s) k) (atI (Zai s) (k:Int)) (Zaw (ZaD s.1 (Zai s) k) (atI (Zai s) (k:Int))++[(k:Int)]):=by
     conv=>lhs;unfold ZaD
     rw [e1,cond_false]
    rw [e1,cond_false,e2] at hf
    exact hf
   ·have e1:=hdec.1 e0
    have e2:ZaD s.1 (Zai s) (k+1)=ZaD s.1 (Zai s) k:=by
     conv=>lhs;unfold ZaD
     rw [e1,cond_true]
    rw [e1,cond_true,e2] at hf
    exact hf
 ·have:k=s.1.length:=by omega
  subst this
  rfl
end
theorem Zfc {α β:Type} {l:List α} {f:α->β} {k:Nat} {x:α} (h:l[k]?=some x):(l.take k).map f++[f x]=(l.take (k+1)).map f:=by
 rw [take_add_one,h];simp
theorem ZAX (s:Za5) (h:ZmA s):F24 s=some (bif ZdT s then (some (Zbz s),true) else (none,false)):=by
 refine Ret.eq ?_
 have hn:=h.g.n
 have hsl:=h.sl
 unfold F24
 rw [Z85 s h]
 simp only [wq,reduceCtorEq]
 refine ⟨fun e=>by rw [e];rfl,fun e=>?_⟩
 rw [e]
 have hv:=Zel.1 e
 refine Zac (fun q:Int×List Zc0=>∃ k:Nat,k<=s.2.1.length/\q=((k:Int),(s.2.1.take k).map fun x=>(x.1,x.2.1))) (fun q=>s.2.1.length - q.1.toNat) ?_ _ ⟨0,by omega,rfl⟩
 rintro _ ⟨k,hk,rfl⟩
 have hw:=Zab k (by omega)
 simp only [ZAp,wq,reduceCtorEq,hw]
 refine ⟨fun hlt=>Zaj (by omega) hlt fun y hy _=>⟨fun _=>⟨⟨k+1,by omega,?_⟩,by omega⟩,fun h=>absurd h (by simp only [length_map,length_take,length_cons,length_nil];omega)⟩,fun hge=>⟨fun _=>?_,fun h=>absurd h (by omega)⟩⟩
 ·rw [Zax] at hy
  rw [Zfc (f:=fun x:Zew=>(x.1,x.2.1)) hy]
 ·have:k=s.2.1.length:=by omega
  subst this
  rw [take_length]
  show Ret (F47 s.1 (Zd2 s)) _
  rw [(ZgZ h hv).2.1]
  simp only [wq,reduceCtorEq,cond_true]
  exact Zqn h hv
theorem ZAW (s:Za5) (h:ZmA s):F16 s=some (bif ZdT s then Zai s else []):=by
 refine Ret.eq ?_
 have hn:=h.g.n
 have hsl:=h.sl
 unfold F16
 rw [ZCB s h]
 simp only [wq,reduceCtorEq]
 refine ⟨fun e=>by rw [e];rfl,fun e=>?_⟩
 rw [e]
 have hv:=Zel.1 e
 refine Zac (fun q:Int×List Zc0=>∃ k:Nat,k<=s.2.1.length/\q=((k:Int),(s.2.1.take k).map fun x=>(x.1,x.2.1))) (fun q=>s.2.1.length - q.1.toNat) ?_ _ ⟨0,by omega,rfl⟩
 rintro _ ⟨k,hk,rfl⟩
 have hw:=Zab k (by omega)
 simp only [Z9C,wq,reduceCtorEq,hw]
 refine ⟨fun hlt=>Zaj (by omega) hlt fun y hy _=>?_,fun hge=>?_⟩
 ·simp only [Za4 hy,wq,reduceCtorEq]
  refine ⟨fun _=>⟨⟨k+1,by omega,?_⟩,by omega⟩,fun h=>absurd h (by simp only [length_map,length_take,length_cons,length_nil];omega)⟩
  rw [Zax] at hy
  rw [Zfc (f:=fun x:Zew=>(x.1,x.2.1)) hy]
 ·have:k=s.2.1.length:=by omega
  subst this
  rw [take_length]
  show Ret (F36 s.1 (Zd2 s)) _
  rw [(ZgZ h hv).2.2]
  simp only [wq,reduceCtorEq,cond_true]
theorem Z75 {l:List Zae} (hl:GraphH l) {c:List Int} (hc:CI l.length c) {a b:Int} (ha:inR l.length a) (hb:inR l.length b):F42 l c a b=some (ZfV l.length c (Zar l a) (Zar l b)):=by
 refine Ret.eq ?_
 have hkx:=hl.k _ (Zav ha)
 unfold F42
 rw [Za2 ha,Za2 hb]
 generalize Zar l a=x at *
 generalize Zar l b=y at *
 obtain ⟨x1,x2,x3⟩:=x
 obtain ⟨y1,y2,y3⟩:=y
 dsimp only at hkx
 simp only [ZuM,wq,reduceCtorEq]
 refine ⟨fun h=>Zb6 fun e=>h e.op,fun h1=>⟨fun h=>Zb6 fun e=>h e.imm,fun h2=>⟨fun h=>Zb6 fun e=>h (by have:x3.length=y3.length:=e.len;omega),fun h3=>?_⟩⟩⟩
 have h3':(x3.length:Int)=y3.length:=h3
 refine Zac (fun i:Int=>∃ k:Nat,i=k/\k<=x3.length/\∀ j < k,∀ p q,x3[j]?=some p->y3[j]?=some q->inR l.length p/\inR l.length q/\atI c p=atI c q) (fun i=>x3.length - i.toNat) ?_ _ ⟨0,rfl,by omega,fun j hj=>by omega⟩
 rintro _ ⟨k,rfl,hkl,ih⟩
 have hw:=Zab k (by omega)
 simp only [Zyc,ZDE,Z86,wq,reduceCtorEq]
 refine ⟨fun hlt=>Zaj (by omega) hlt fun p hp _=>?_,fun hge=>?_⟩
 ·simp only [Za4 hp,hw]
  rw [Zax] at hp
  obtain ⟨q,hq⟩:=ZeS (l:=y3) (i:=k) (by omega)
  have hqg:gI y3 (k:Int)=some q:=by rw [Zax];exact hq
  simp only [hqg,wq,reduceCtorEq]
  have no:¬ (inR l.length p/\inR l.length q/\atI c p=atI c q)->false=ZfV l.length c (x1,x2,x3) (y1,y2,y3):=fun h=>Zb6 fun e=>h (e.kid k p q hp hq)
  refine ⟨fun e=>no fun r=>e r.1,fun hpr=>⟨fun e=>no fun r=>e r.2.1,fun hqr=>?_⟩⟩
  simp only [hc.get hpr,hc.get hqr,wq,reduceCtorEq]
  refine ⟨fun e=>no fun r=>e r.2.2,fun e=>⟨⟨k+1,rfl,by omega,fun j hj p' q' hp' hq'=>?_⟩,by omega⟩⟩
  by_cases h:j < k
  ·exact ih j h p' q' hp' hq'
  ·have:j=k:=by omega
   subst this
   rw [hp] at hp';rw [hq] at hq'
   obtain rfl:=inj hp'
   obtain rfl:=inj hq'
   exact ⟨hpr,hqr,e⟩
 ·have:k=x3.length:=by omega
  subst this
  exact (Zem ⟨h1,h2,by show x3.length=y3.length;omega,fun j p q hp hq=>ih j (ZaA hp) p q hp hq⟩).symm
theorem Zqo {T:List (List Int)} {q:Int} (h:inR T.length q):Zaq T q (Zaw T q)=T:=by
 unfold Zaq Zaw
 have:=h.1;have:=h.2
 have hlt:q.toNat < T.length:=by omega
 rw [getElem?_eq_getElem hlt]
 exact List.set_getElem_self hlt
section
variable {s:Za5} (h:ZmA s) (hv:ZcO s)
include h hv
theorem ZiZ:Ret (Zao (ZDe s) (0,0,0,0,0,s.1,s.2.1,s.2.2.1,s.2.2.2.1,s.2.2.2.2.1,s.2.2.2.2.2.1,s.2.2.2.2.2.2,Zai s,(replicate (toNat (List.length s.1:Int)) []:List (List Int)))) fun r=>r=Zcg s:=by
 have hl:=Zql h hv
 have hc:=(ZgZ h hv).1
 have hn:=h.g.n
 refine Zac (fun q=>∃ (k:Nat) (a b d e:Int),k<=s.1.length/\q=((k:Int),a,b,d,e,s.1,s.2.1,s.2.2.1,s.2.2.2.1,s.2.2.2.2.1,s.2.2.2.2.2.1,s.2.2.2.2.2.2,Zai s,ZaD s.1 (Zai s) k)) (fun q=>s.1.length - q.1.toNat) ?_ _ ⟨0,0,0,0,0,by omega,by simp [ZaD]⟩
 rintro _ ⟨k,a,b,d,e,hk,rfl⟩
 simp only [ZDe,wq,reduceCtorEq]
 refine ⟨fun hlt=>?_,fun hge=>?_⟩
 ·have hkl:k < s.1.length:=by omega
  have hw:=Zab k (by omega)
  have hkr:inR s.1.length (k:Int):=⟨by omega,hlt⟩
  have hq:=hc.ci.rng hkr
  have hT:=ZdX s.1 (Zai s) k
  have hqT:inR (ZaD s.1 (Zai s) k).length (atI (Zai s) (k:Int)):=by rw [hT];exact hq
  have hI:=ZgY hl hc.ci k hk
  have hrl:=hI.len _ hq
  refine Zac (fun p=>∃ (j:Nat) (a b d e:Int),j<=(Zaw (ZaD s.1 (Zai s) k) (atI (Zai s) (k:Int))).length/\p=(!Zjn s.1 (Zai s) ((Zaw (ZaD s.1 (Zai s) k) (atI (Zai s) (k:Int))).take j) (k:Int),(j:Int),a,b,d,e,s.1,s.2.1,s.2.2.1,s.2.2.2.1,s.2.2.2.2.1,s.2.2.2.2.2.1,s.2.2.2.2.2.2,Zai s,ZaD s.1 (Zai s) k)) (fun p=>(Zaw (ZaD s.1 (Zai s) k) (atI (Zai s) (k:Int))).length - p.2.1.toNat) ?_ _ ⟨0,a,b,d,e,by omega,by simp [Zjn]⟩
  rintro _ ⟨j,a,b,d,e,hj,rfl⟩
  have hw2:=Zab j (by omega)
  simp only [ZDF,ZyK,ZAB,hc.ci.get hkr,ZdW hqT,Zqo hqT,wq,reduceCtorEq,hw,hw2]
  refine ⟨fun hlt2=>⟨fun e1=>?_,fun e1=>?_⟩,fun hge2=>⟨fun e1=>⟨fun _=>⟨⟨k+1,a,b,d,e,by omega,?_⟩,by omega⟩,fun h=>absurd h (by simp only [length_cons,length_nil];omega)⟩,fun e1=>⟨⟨k+1,a,b,d,e,by omega,?_⟩,by omega⟩⟩⟩
  ·refine Zaj (by omega) hlt2 fun y hy hym=>?_
   obtain ⟨y1,y2,_⟩:=hI.mem _ hq y hym
   simp only [Za4 hy]
   rw [Z75 h.g.toGraphH hc.ci y1 hkr]
   simp only [wq,reduceCtorEq]
   refine ⟨⟨j+1,a,b,d,e,by omega,?_⟩,by omega⟩
   rw [Zax] at hy
   have:Zjn s.1 (Zai s) ((Zaw (ZaD s.1 (Zai s) k) (atI (Zai s) (k:Int))).take (j+1)) (k:Int)=ZfV s.1.length (Zai s) (Zar s.1 y) (Zar s.1 (k:Int)):=by
    unfold Zjn at e1 |-
    rw [take_add_one,hy,List.any_append,e1]
    simp
   rw [this]
  ·obtain ⟨y,hy⟩:=ZeS (l:=Zaw (ZaD s.1 (Zai s) k) (atI (Zai s) (k:Int))) (i:=j) (by omega)
   refine ⟨⟨j+1,a,b,d,e,by omega,?_⟩,by omega⟩
   have:Zjn s.1 (Zai s) ((Zaw (ZaD s.1 (Zai s) k) (atI (Zai s) (k:Int))).take (j+1)) (k:Int)=true:=by
    unfold Zjn at e1 |-
    rw [take_add_one,List.any_append,e1];rfl
   rw [this];rfl
  ·have:j=(Zaw (ZaD s.1 (Zai s) k) (atI (Zai s) (k:Int))).length:=by omega
   subst this
   rw [take_length] at e1
   have e2:ZaD s.1 (Zai s) (k+1)=Zaq (ZaD s.1 (Zai s) k) (atI (Zai s) (k:Int)) (Zaw (ZaD s.1 (Zai s) k) (atI (Zai s) (k:Int))++[(k:Int)]):=by
    conv=>lhs;unfold ZaD
    rw [e1,cond_false]
   rw [e2]
  ·have:j=(Zaw (ZaD s.1 (Zai s) k) (atI (Zai s) (k:Int))).length:=by omega
   subst this
   rw [take_length] at e1
   have e2:ZaD s.1 (Zai s) (k+1)=ZaD s.1 (Zai s) k:=by
    conv=>lhs;unfold ZaD
    rw [e1,cond_true]
   rw [e2]
 ·have:k=s.1.length:=by omega
  subst this
  rfl
theorem ZDb:F21 s=some (Zcg s):=by
 refine Ret.eq ?_
 have hn:=h.g.n
 unfold F21
 rw [ZAW s h,ZcH hv]
 simp only [wq,reduceCtorEq,cond_true]
 exact ⟨fun _=>ZiZ h hv,fun h=>absurd h (by omega)⟩
end
theorem Z6Y (t:Zwb) (q:Int):F55 (some t) q=some (if inR t.2.2.2.length q then Zaw t.2.2.2 q else []):=by
 refine Ret.eq ?_
 simp only [F55,ZuW,wq,reduceCtorEq,bind_some]
 refine ⟨fun h=>?_,fun h1=>⟨fun h=>?_,fun h=>?_⟩⟩
 ·rw [if_neg (fun e=>by have:=e.1;omega)]
 ·rw [if_neg (fun e=>by have:=e.2;omega)]
 ·have hr:inR t.2.2.2.length q:=⟨h1,h⟩
  rw [ZdW hr,ZaH,if_pos hr]
theorem ZEK (a b:Zae) (ha:a.2.2.length<=1000000):Ret (F58 a b) fun _=>True:=by
 have key:(a.2.2.length:Int)=(b.2.2.length:Int)->Ret (Zao (ZyH a b) 0) fun _=>True:=fun hab=>by
  refine Zac (fun i:Int=>∃ n:Nat,i=n/\n<=a.2.2.length) (fun i=>a.2.2.length - i.toNat) ?_ _ ⟨0,rfl,by omega⟩
  rintro _ ⟨n,rfl,hn⟩
  simp only [ZyH,wq,reduceCtorEq]
  refine fun hlt=>Zaj (by omega) hlt fun y hy hm=>Zaj (by omega) (by omega) fun z hz hm'=>?_
  have hw:=Zab n (by omega)
  simp only [wq,reduceCtorEq,hw]
  exact fun _=>⟨⟨n+1,rfl,by omega⟩,by omega⟩
 simp only [F58,ZAa,wq,reduceCtorEq]
 refine fun _ _=>?_
 exact key
theorem ZfK (l:List Zae) (n:Zae) (hl:l.length<=100000) (hk:∀ x∈l,x.2.2.length<=100000):Ret (F35 l n) fun _=>True:=by
 unfold F35
 refine Zac (fun i:Int=>∃ n:Nat,i=n/\n<=l.length) (fun i=>l.length - i.toNat) ?_ _ ⟨0,rfl,by omega⟩
 rintro _ ⟨m,rfl,hm⟩
 simp only [Z8Q,wq,reduceCtorEq]
 refine fun hlt=>Zaj (by omega) hlt fun y hy hy'=>Ret.mono (ZEK y n (by have:=hk y hy';omega)) fun r _ _=>?_
 have hw:=Zab m (by omega)
 simp only [wq,reduceCtorEq,hw]
 exact fun _=>⟨⟨m+1,rfl,by omega⟩,by omega⟩
theorem ZAZ (n raw:Int) (hraw:I64 raw):Ret (F30 n raw) fun r=>I64 r:=by
 simp only [F30,wq,reduceCtorEq]
 refine ZCc (by omega) (by omega) fun r r0 r1=>⟨fun h=>?_,fun h=>?_⟩
 ·refine Zaj r0 (by simp only [length_cons,length_nil];omega) fun y hy _=>?_
  simp only [Za4 hy]
  have key:∀ y∈([0,1,(-1),2,(-9223372036854775808),9223372036854775807,4294967296,(-2147483648),63,64]:List Int),I64 y:=by decide
  exact key y (ZeR hy)
 ·exact ⟨fun _=>ZCc (by omega) (by omega) fun r r0 r1=>(by rw [Zau (by omega) (by omega)];constructor<;>omega),fun _=>hraw⟩
theorem ZBh (op:Int):Ret (F57 op) fun _=>True:=by
 simp only [F57,ZrR,wq,reduceCtorEq]
theorem ZtK (op k:Int):Ret (F33 op k) fun r=>r=1\/r=2:=by
 have t:∀ b,Ret (ZrM b) fun r=>r=1\/r=2:=fun b=>by cases b<;>simp [ZrM,ZaH]
 simp only [F33,wq,reduceCtorEq]
 exact ⟨fun _=>Ret.mono (ZBh op) fun r _ _=>⟨fun _=>t _,fun _=>⟨fun _=>t _,fun _=>t _⟩⟩,fun _=>t _⟩
theorem ZmI (x:Int) (l:List Int):Ret (F34 x l) fun _=>True:=by
 simp only [F34,wq,reduceCtorEq]
 refine fun h=>Zaj (by omega) (by omega) fun y hy _=>?_
 simp only [Za4 hy,wq,reduceCtorEq]
 exact fun h=>absurd h (by omega)
theorem Z8B {m d:Int} {Q:Int×Int->Prop} (hm:0 < m) (h2:m<=1000000000) (h:∀ r d',0<=r->r < m->Q (r,d')):Ret (F14 m d) Q:=by
 simp only [F14,wq,reduceCtorEq]
 refine ZCc hm (by omega) fun r r0 r1=>⟨by omega,fun _=>h _ _ r0 r1⟩
theorem Z5k (l:List Zae) (sort:Int) (hl:l.length<=1000000) (h0:0 < l.length):Ret (F13 l sort) fun r=>0<=r/\r < l.length:=by
 unfold F13
 rw [Zau (by omega) (by omega)]
 refine Zac (fun i:Int=>-1<=i/\i < l.length) (fun i=>(i+1).toNat) ?_ _ (by omega)
 rintro i ⟨h1,h2⟩
 have t:0<=i->∀ b,Ret (Z8l sort i b) (Zev (fun i:Int=>-1<=i/\i < l.length) (fun i=>(i+1).toNat) (fun r:Int=>0<=r/\r < l.length) i):=fun hi b=>by
  cases b<;>simp only [Z8l,wq,reduceCtorEq]<;>rw [Zau (by omega) (by omega)]<;>exact ⟨fun _=>⟨by omega,by omega⟩,fun _=>by omega⟩
 simp only [Z5z,wq,reduceCtorEq]
 refine ⟨fun hlt=>Zaj (by omega) (by omega) fun y hy hm=>?_,fun _=>by omega⟩
 simp only [Za4 hy,wq,reduceCtorEq,t hlt]
structure Zjo (l:List Zae) (m:Nat):Prop where
 len:l.length<=m+3
 k:∀ x∈l,x.2.2.length<=3
 w:∀ x∈l,ZiV x
 h0:l[0]?=some (2,0,[])
 h2:l[2]?=some (26,0,[])
theorem Zsf (op:Int):(ZaY op).1<=3:=by
 unfold ZaY
 repeat' split
 all_goals simp
theorem Zjo.push {l:List Zae} {m:Nat} (h:Zjo l m) (n:Zae) (hn:n.2.2.length<=3) (hw:ZiV n):Zjo (l++[n]) (m+1):=by
 obtain ⟨a,b,w,c,d⟩:=h
 have l2:2 < l.length:=(List.getElem?_eq_some_iff.1 d).1
 refine ⟨by simp;omega,fun x hx=>?_,fun x hx=>?_,?_,?_⟩
 ·rcases mem_append.1 hx with hx | hx
  ·exact b x hx
  ·rw [mem_singleton.1 hx];exact hn
 ·rcases mem_append.1 hx with hx | hx
  ·exact w x hx
  ·rw [mem_singleton.1 hx];exact hw
 ·rw [getElem?_append_left (by omega)];exact c
 ·rw [getElem?_append_left (by omega)];exact d
theorem Zjo.up {l:List Zae} {m:Nat} (h:Zjo l m):Zjo l (m+1):=⟨by have:=h.len;omega,h.k,h.w,h.h0,h.h2⟩
section
variable (l1:List Int) (i:Nat) (hi:i < l1.length) (hi2:i < 14)
 {Q:((List Zae)⊕((Int×List Zae)⊕(List Zae)))->Prop} {out:List Zae} (hg:Zjo out i) (hQ:∀ o,Zjo o (i+1)->Q (.inl o))
include hg hQ hi hi2
theorem Z77 (n m:Int) (k:List Int) (hk:k.length<=3) (hw:ZiV (n,m,k)):Ret (Z7t (out,n,m,k)) Q:=by
 simp only [Z7t,wq,reduceCtorEq]
 have:=hg.len
 refine Ret.mono (ZfK out _ (by omega) (fun x hx=>by have:=hg.k x hx;omega)) fun r _ _=>?_
 exact ⟨fun _=>⟨fun _=>hQ _ (hg.push _ hk hw),fun h=>absurd h (by simp only [length_cons,length_nil];omega)⟩,fun _=>hQ _ hg.up⟩
theorem Z78 (n m:Int) (k:List Int) (hk:k.length<=3) (hn:I64 n) (hm:I64 m) (hkw:∀ x∈k,I64 x):Ret (Z7M l1 (i:Int) (out,n,m,k)) Q:=by
 have t:∀ b,Ret (Z7s l1 (i:Int) (b,out,n,m,k)) fun a=>Ret (Sum.elim Z7t some a) Q:=fun b=>by
  cases b
  ·simp only [Z7s,wq,reduceCtorEq]
   exact Z77 l1 i hi hi2 hg hQ n m k hk ⟨hn,hm,by show k.length<=1000;omega,hkw⟩
  ·simp only [Z7s,wq,reduceCtorEq]
   refine Zaj (by omega) (by omega) fun y hy _=>ZCc (by omega) (by omega) fun r r0 r1=>Z77 l1 i hi hi2 hg hQ n r k hk ⟨hn,by constructor<;>(dsimp only;omega),by show k.length<=1000;omega,hkw⟩
 simp only [Z7M,wq,reduceCtorEq]
 exact ⟨fun _=>t _,fun _=>t _⟩
theorem Z79 (x n m:Int) (rd:List Int) (hn:I64 n) (hm:I64 m):Ret (Z7N l1 (i:Int) (out,x,n,m,rd)) Q:=by
 simp only [Z7N,ZAR,wq,reduceCtorEq]
 have har:=Zsf n
 have hgl:=hg.len
 refine Zac (fun q:Int×List Zae×Int×Int×Int×List Int×List Int=>∃ j:Nat,q.1=j/\q.2.2.2.2.2.2.length=j/\(j:Int)<=3/\q.2.1=out/\q.2.2.2.1=n/\q.2.2.2.2.1=m/\∀ y∈q.2.2.2.2.2.2,I64 y) (fun q=>3 - q.1.toNat) ?_ _ ⟨0,rfl,rfl,by omega,rfl,rfl,rfl,fun y hy=>by cases hy⟩
 rintro ⟨j',out',x',n',m',rd',k⟩ ⟨j,e1,e2,e3,e4,e5,e6,e7⟩
 dsimp only at e1 e2 e4 e5 e6 e7
 subst e1 e4 e5 e6
 simp only [Z8I,wq,reduceCtorEq]
 refine ⟨fun hlt=>Ret.mono (ZtK _ _) fun so _ hso=>Ret.mono (ZmI _ _) fun rr _ _=>Ret.mono (ZAT out' (by omega) (fun x hx=>by have:=hg.k x hx;omega) hg.h0 hg.h2 so rr.1 hso) fun q _ hq=>?_,fun hge=>⟨fun _=>?_,fun _=>?_⟩⟩
 ·have hw:=Zab j (by omega)
  rw [hw]
  exact ⟨fun _=>⟨⟨j+1,rfl,by simp;omega,by omega,fun y hy=>by
   rcases mem_append.1 hy with hy | hy
   ·exact e7 y hy
   ·rw [mem_singleton.1 hy];constructor<;>omega⟩,by omega⟩,fun h=>absurd h (by simp only [length_cons,length_nil];omega)⟩
 ·refine Zaj (by omega) (by omega) fun y hy _=>ZCc (by omega) (by omega) fun r r0 r1=>Z78 l1 i hi hi2 hg hQ _ _ k (by omega) hn (by rw [Zau (by omega) (by omega)];constructor<;>omega) e7
 ·exact Z78 l1 i hi hi2 hg hQ _ _ k (by omega) hn hm e7
theorem Z7A (hl:∀ x∈l1,I64 x) (x n m:Int) (rd:List Int) (hn:I64 n) (hm:I64 m):Ret (Z7u l1 (i:Int) (out,x,n,m,rd)) Q:=by
 simp only [Z7u,wq,reduceCtorEq]
 refine Zaj (by omega) (by omega) fun y hy hym=>ZCc (by omega) (by omega) fun r r0 r1=>⟨fun _=>?_,fun _=>?_⟩
 ·simp only [Za4 hy,wq,reduceCtorEq]
  exact Ret.mono (ZAZ _ _ (hl y hym)) fun w _ hw=>Z79 l1 i hi hi2 hg hQ _ _ _ _ (by constructor<;>omega) hw
 ·exact Z79 l1 i hi hi2 hg hQ _ _ _ _ hn hm
theorem Z8s (hl:∀ x∈l1,I64 x) (b:Bool) (x n m:Int) (rd:List Int) (hn:I64 n) (hm:I64 m):Ret (Z7r l1 (i:Int) (b,out,x,n,m,rd)) fun a=>Ret (Sum.elim (Z7u l1 (i:Int)) some a) Q:=by
 cases b
 ·simp only [Z7r,wq,reduceCtorEq]
  exact Z7A l1 i hi hi2 hg hQ hl _ _ _ _ hn hm
 ·simp only [Z7r,wq,reduceCtorEq]
  refine Zaj (by omega) (by omega) fun y hy _=>ZCc (by omega) (by omega) fun r r0 r1=>Zaj r0 (by simp only [length_cons,length_nil];omega) fun z hz _=>?_
  simp only [Za4 hz,wq,reduceCtorEq]
  have key:∀ z∈([23,27,28,29,24]:List Int),I64 z:=by decide
  exact Z7A l1 i hi hi2 hg hQ hl _ _ _ _ (key z (ZeR hz)) hm
end
theorem ZBc (l:List Int) (hl:∀ x∈l,I64 x) (b:Bool):Ret (F12 l b) fun o=>Zjo o 14:=by
 unfold F12
 refine Zac (fun q:Int×List Zae=>∃ m:Nat,q.1=m/\m<=14/\Zjo q.2 m) (fun q=>14 - q.1.toNat) ?_ _ ⟨0,rfl,by omega,?_,?_,?_,rfl,rfl⟩
 ·rintro ⟨i',out⟩ ⟨m,e,hm,hg⟩
  dsimp only at e hg
  subst e
  have up:∀ k,Zjo out (m+k):=fun k=>by
   induction k with
   | zero=>exact hg
   | succ k ih=>exact ih.up
  have fin:Ret (Z7v l b (m:Int) (false,out)) (Zev (fun q:Int×List Zae=>∃ m:Nat,q.1=m/\m<=14/\Zjo q.2 m) (fun q=>14 - q.1.toNat) (fun o=>Zjo o 14) ((m:Int),out)):=by
   simp only [Z7v,wq,reduceCtorEq]
   have:=up (14 - m)
   rwa [show m+(14 - m)=14 by omega] at this
  simp only [Z8J,wq,reduceCtorEq]
  refine ⟨fun hlt=>?_,fun _=>fin⟩
  by_cases h14:m < 14
  ·have hw:=Zab m (by omega)
   rw [show decide ((m:Int) < 14)=true by simp;omega]
   simp only [Z7v,wq,reduceCtorEq]
   refine Zaj (by omega) hlt fun y hy _=>?_
   simp only [Za4 hy,wq,reduceCtorEq]
   refine ZCc (by omega) (by omega) fun r r0 r1=>?_
   have J:=fun b x n m' rd hn hm=>Z8s l m (by omega) h14 (Q:=fun a=>Ret (Sum.elim (Z7O (m:Int)) some a) (Zev (fun q:Int×List Zae=>∃ m:Nat,q.1=m/\m<=14/\Zjo q.2 m) (fun q=>14 - q.1.toNat) (fun o=>Zjo o 14) ((m:Int),out))) hg (fun o ho=>by
    simp only [Z7O,wq,reduceCtorEq,hw]
    exact ⟨⟨m+1,rfl,by omega,ho⟩,by omega⟩) hl b x n m' rd hn hm
   have hn:I64 (wrap .i64 (4+r)):=by rw [Zau (by omega) (by omega)];constructor<;>omega
   exact ⟨fun _=>ZCc (by omega) (by omega) fun _ _ _=>J _ _ _ _ _ hn (by decide),fun _=>J _ _ _ _ _ hn (by decide)⟩
  ·rw [show decide ((m:Int) < 14)=false by simp;omega]
   exact fin
 ·simp
 ·intro x hx
  simp at hx
  rcases hx with rfl | rfl | rfl<;>simp
 ·intro x hx
  simp at hx
  rcases hx with rfl | rfl | rfl<;>exact ⟨by decide,by decide,by decide,fun x hx=>by cases hx⟩

abbrev StM:=Int×Int×Int×Int×Int×(List Zae)×Int×Int×Int×Int×List Zew
def Zv8 (o:List Zae) (x:Zew):Prop:=inR o.length x.1/\inR o.length x.2.1/\decide ((Zar o x.1).1<=24)=decide ((Zar o x.2.1).1<=24)/\x.2.2=(1,[],[])
structure Zzu (l:List Int) (s:Za5):Prop where
 nodes:F12 l false=some s.1
 va:F13 s.1 1=some s.2.2.2.1
 st:F13 s.1 2=some s.2.2.2.2.1
 sl:s.2.1.length<=6
 steps:∀ x∈s.2.1,Zv8 s.1 x
 rest:s.2.2.1=[]/\s.2.2.2.2.2=(0,0)
theorem ZEP (l pairs:List Int) (hl:∀ x∈l,I64 x):Ret (F4 l pairs) fun s=>Zjo s.1 14/\Zzu l s:=by
 simp only [F4,wq,reduceCtorEq]
 refine Ret.mono (ZBc l hl false) fun o eo ho=>?_
 have ol:=ho.len
 have l2:2 < o.length:=ZaA ho.h2
 refine Ret.mono (Z5k o 1 (by omega) (by omega)) fun v ev hv=>Ret.mono (Z5k o 2 (by omega) (by omega)) fun w ew hw=>?_
 refine Zac (fun q:StM=>∃ (m:Nat) (ss:List Zew),m<=6/\ss.length<=m/\(∀ x∈ss,Zv8 o x)/\q=((m:Int),0,0,0,0,o,v,w,0,0,ss)) (fun q=>6 - q.1.toNat) ?_ _ ⟨0,[],by omega,by simp,(fun x hx=>by cases hx),rfl⟩
 rintro _ ⟨m,ss,hm,hs,hx,rfl⟩
 have hwr:=Zab m (by omega)
 have fin:Ret (Z2d pairs (m:Int) (false,0,0,0,0,o,v,w,0,0,ss)) (Zev (fun q:StM=>∃ (m:Nat) (ss:List Zew),m<=6/\ss.length<=m/\(∀ x∈ss,Zv8 o x)/\q=((m:Int),0,0,0,0,o,v,w,0,0,ss)) (fun q=>6 - q.1.toNat) (fun s=>Zjo s.1 14/\Zzu l s) ((m:Int),0,0,0,0,o,v,w,0,0,ss)):=by
  simp only [Z2d,wq,reduceCtorEq]
  exact ⟨ho,eo,ev,ew,by show ss.length<=6;omega,hx,rfl,rfl⟩
 simp only [Z2f,wq,reduceCtorEq]
 refine ⟨fun hlt=>?_,fun _=>fin⟩
 by_cases h6:m < 6
 ·rw [show decide ((m:Int) < 6)=true by simp;omega]
  simp only [Z2d,ZEQ,F15,wq,reduceCtorEq,hwr]
  refine Zaj (by omega) hlt fun y hy _=>Z8B (by omega) (by omega) fun p d' p0 p1=>Z8B (by omega) (by omega) fun q d'' q0 q1=>?_
  have pr:inR o.length p:=⟨p0,p1⟩
  have qr:inR o.length q:=⟨q0,q1⟩
  dsimp only
  rw [Za2 pr,Za2 qr]
  simp only [wq,reduceCtorEq]
  refine ⟨fun e=>⟨fun _=>⟨⟨m+1,_,by omega,?_,fun x hx'=>?_,rfl⟩,by omega⟩,fun h=>absurd h (by simp only [length_cons,length_nil];omega)⟩,fun e=>⟨⟨m+1,ss,by omega,by omega,hx,rfl⟩,by omega⟩⟩
  ·simp;omega
  ·rcases mem_append.1 hx' with hx' | hx'
   ·exact hx x hx'
   ·rw [mem_singleton.1 hx'];exact ⟨pr,qr,e,rfl⟩
 ·rw [show decide ((m:Int) < 6)=false by simp;omega]
  exact fin
theorem Zzu.satH {l:List Int} {s:Za5} (h:Zjo s.1 14/\Zzu l s):ZmA s:=⟨⟨⟨by have:=h.1.len;omega,fun x hx=>by have:=h.1.k x hx;omega⟩,h.1.w⟩,by have:=h.2.sl;omega⟩
structure Ctx (s:Za5):Prop where
 h:ZmA s
 v:ZcO s
 n:s.1.length<=900
section
variable {s:Za5} (X:Ctx s)
include X
theorem Ctx.kids:Zfa s.1:=Zql X.h X.v
theorem Ctx.ci:CI s.1.length (Zai s):=Zqm X.h X.v
theorem Ctx.cI:Zv5 s.1 (Zai s) (Zaz s) s.1.length:=Zv6 X.h X.v
theorem Ctx.clen:(Zai s).length=s.1.length:=X.ci.len
theorem Ctx.tlen:(Zaz s).length=s.1.length:=ZdX _ _ _
theorem Ctx.cget {q:Int} (h:inR s.1.length q):gI (Zai s) q=some (atI (Zai s) q):=X.ci.get h
theorem Ctx.tget {q:Int} (h:inR s.1.length q):gI (Zaz s) q=some (Zaw (Zaz s) q):=ZdW (by rw [X.tlen];exact h)
end
def ZfW (s:Za5) (q:Int):Prop:=inR s.1.length q/\atI (Zai s) q=q
def Zdi (s:Za5) (ch:List Int):Prop:=ch.length=s.1.length/\∀ k,inR s.1.length k->atI ch k=-1\/(atI (Zai s) k=k/\inR s.1.length (atI ch k)/\atI (Zai s) (atI ch k)=k)
open Classical in
def ZqB (s:Za5) (ch:List Int):Bool:=decide (Zdi s ch)
theorem Zky {s:Za5} {ch:List Int} (h:Zdi s ch):true=ZqB s ch:=by unfold ZqB;simp [h]
theorem Zep {s:Za5} {ch:List Int} (h:¬ Zdi s ch):false=ZqB s ch:=by unfold ZqB;simp [h]
theorem ZmP {s:Za5} {ch:List Int}:ZqB s ch=true↔Zdi s ch:=by unfold ZqB;simp
theorem Zz8 {s:Za5} (X:Ctx s) (ch:List Int):F56 (some (Zbz s)) ch=some (ZqB s ch):=by
 refine Ret.eq ?_
 have hcl:=X.clen
 have hn:=X.n
 simp only [F56,wq,reduceCtorEq,bind_some,Zbz]
 refine ⟨fun h=>Zep fun e=>h (by have:=e.1;omega),fun h=>?_⟩
 have hl:ch.length=s.1.length:=by omega
 refine Zac (fun i:Int=>∃ k:Nat,i=k/\k<=s.1.length/\∀ j,inR s.1.length j->j < k->atI ch j=-1\/(atI (Zai s) j=j/\inR s.1.length (atI ch j)/\atI (Zai s) (atI ch j)=j)) (fun i=>s.1.length - i.toNat) ?_ _ ⟨0,rfl,by omega,fun j h1 h2=>by have:=h1.1;omega⟩
 rintro _ ⟨k,rfl,hk,ih⟩
 have hw:=Zab k (by omega)
 simp only [Zyz,ZEj,ZEi,wq,reduceCtorEq,hw,bind_some]
 refine ⟨fun hlt=>?_,fun hge=>?_⟩
 ·have hkr:inR s.1.length (k:Int):=⟨by omega,by omega⟩
  rw [ZaB (l:=ch) (by rw [hl];exact hkr)]
  have next:(atI ch (k:Int)=-1\/(atI (Zai s) (k:Int)=k/\inR s.1.length (atI ch (k:Int))/\atI (Zai s) (atI ch (k:Int))=k))->∀ j,inR s.1.length j->j < ((k+1:Nat):Int)->atI ch j=-1\/(atI (Zai s) j=j/\inR s.1.length (atI ch j)/\atI (Zai s) (atI ch j)=j):=by
   intro h j hj hlt
   by_cases e:j < k
   ·exact ih j hj e
   ·have:j=k:=by omega
    subst this;exact h
  have bad:¬ (atI ch (k:Int)=-1\/(atI (Zai s) (k:Int)=k/\inR s.1.length (atI ch (k:Int))/\atI (Zai s) (atI ch (k:Int))=k))->false=ZqB s ch:=fun h=>Zep fun e=>h (e.2 _ hkr)
  simp only [X.cget hkr,wq,reduceCtorEq]
  refine ⟨fun e=>⟨⟨k+1,rfl,by omega,next (.inl e)⟩,by omega⟩,fun e1=>⟨fun e2=>bad (fun q=>q.elim e1 fun q=>e2 q.1),fun e2=>⟨fun e3=>bad (fun q=>q.elim e1 fun q=>by have:=q.2.1.1;omega),fun e3=>⟨fun e4=>bad (fun q=>q.elim e1 fun q=>by have:=q.2.1.2;omega),fun e4=>?_⟩⟩⟩⟩
  have hr:inR s.1.length (atI ch (k:Int)):=⟨e3,by omega⟩
  simp only [X.cget hr,wq,reduceCtorEq]
  refine ⟨fun e5=>bad (fun q=>q.elim e1 fun q=>e5 q.2.2),fun e5=>⟨⟨k+1,rfl,by omega,next (.inr ⟨e2,hr,e5⟩)⟩,by omega⟩⟩
 ·exact Zky ⟨hl,fun j hj=>ih j hj (by have:=hj.2;omega)⟩
theorem Zzx {s:Za5} (X:Ctx s) (ch:List Int):F61 (Zcg s) ch=some (ZqB s ch):=by
 refine Ret.eq ?_
 have hcl:=X.clen
 have hn:=X.n
 simp only [F61,wq,reduceCtorEq,Zcg]
 refine ⟨fun h=>Zep fun e=>h (by have:=e.1;omega),fun h=>?_⟩
 have hl:ch.length=s.1.length:=by omega
 refine Zac (fun i:Int=>∃ k:Nat,i=k/\k<=s.1.length/\∀ j,inR s.1.length j->j < k->atI ch j=-1\/(atI (Zai s) j=j/\inR s.1.length (atI ch j)/\atI (Zai s) (atI ch j)=j)) (fun i=>s.1.length - i.toNat) ?_ _ ⟨0,rfl,by omega,fun j h1 h2=>by have:=h1.1;omega⟩
 rintro _ ⟨k,rfl,hk,ih⟩
 have hw:=Zab k (by omega)
 simp only [ZxO,ZxN,Z86,wq,reduceCtorEq,hw]
 refine ⟨fun hlt=>?_,fun hge=>?_⟩
 ·have hkr:inR s.1.length (k:Int):=⟨by omega,by omega⟩
  rw [ZaB (l:=ch) (by rw [hl];exact hkr)]
  have next:(atI ch (k:Int)=-1\/(atI (Zai s) (k:Int)=k/\inR s.1.length (atI ch (k:Int))/\atI (Zai s) (atI ch (k:Int))=k))->∀ j,inR s.1.length j->j < ((k+1:Nat):Int)->atI ch j=-1\/(atI (Zai s) j=j/\inR s.1.length (atI ch j)/\atI (Zai s) (atI ch j)=j):=by
   intro h j hj hlt
   by_cases e:j < k
   ·exact ih j hj e
   ·have:j=k:=by omega
    subst this;exact h
  have bad:¬ (atI ch (k:Int)=-1\/(atI (Zai s) (k:Int)=k/\inR s.1.length (atI ch (k:Int))/\atI (Zai s) (atI ch (k:Int))=k))->false=ZqB s ch:=fun h=>Zep fun e=>h (e.2 _ hkr)
  simp only [X.cget hkr,wq,reduceCtorEq]
  refine ⟨fun e1=>⟨fun e2=>bad (fun q=>q.elim e1 fun q=>e2 q.1),fun e2=>⟨fun e3=>bad (fun q=>q.elim e1 fun q=>e3 q.2.1),fun hr=>?_⟩⟩,fun e=>⟨⟨k+1,rfl,by omega,next (.inl e)⟩,by omega⟩⟩
  simp only [X.cget hr,wq,reduceCtorEq]
  refine ⟨fun e5=>bad (fun q=>q.elim e1 fun q=>e5 q.2.2),fun e5=>⟨⟨k+1,rfl,by omega,next (.inr ⟨e2,hr,e5⟩)⟩,by omega⟩⟩
 ·exact Zky ⟨hl,fun j hj=>ih j hj (by have:=hj.2;omega)⟩
def ZaU (s:Za5) (ch:List Int) (q:Int):Int:=if 0<=atI ch q then atI ch q else if (Zaw (Zaz s) q).length=1 then atI (Zaw (Zaz s) q) 0 else -1
theorem Z2m {l:List Int} (h:l.length=1):gI l 0=some (atI l 0):=ZaB ⟨by omega,by omega⟩
theorem Zm9 {s:Za5} (X:Ctx s) {ch:List Int} (hl:ch.length=s.1.length) {q:Int} (hq:inR s.1.length q):F77 (some (Zbz s)) ch q=some (ZaU s ch q):=by
 refine Ret.eq ?_
 have htl:=X.tlen
 simp only [F77,ZaB (l:=ch) (i:=q) (by rw [hl];exact hq),Z6Y,wq,reduceCtorEq,Zbz,htl]
 rw [if_pos hq]
 refine ⟨fun h=>by rw [ZaU,if_pos h],fun h=>⟨fun h2=>?_,fun h2=>?_⟩⟩
 ·rw [Z2m (by omega),ZaH,ZaU,if_neg (by omega),if_pos (by omega)]
 ·rw [ZaU,if_neg (by omega),if_neg (by omega)]
theorem ZbF {s:Za5} (X:Ctx s) {ch:List Int} (hl:ch.length=s.1.length) {q:Int} (hq:inR s.1.length q):F66 (Zcg s) ch q=some (ZaU s ch q):=by
 refine Ret.eq ?_
 simp only [F66,ZaB (l:=ch) (i:=q) (by rw [hl];exact hq),wq,reduceCtorEq,Zcg,X.tget hq]
 refine ⟨fun h=>by rw [ZaU,if_pos h],fun h=>⟨fun h2=>?_,fun h2=>?_⟩⟩
 ·rw [Z2m (by omega),ZaH,ZaU,if_neg (by omega),if_pos (by omega)]
 ·rw [ZaU,if_neg (by omega),if_neg (by omega)]
theorem Zqp {l:List Int} {i:Int} (h:inR l.length i):atI l i∈l:=ZeR (ZaB h)
theorem Zct {s:Za5} (X:Ctx s) {ch:List Int} (hs:Zdi s ch) {q:Int} (hq:inR s.1.length q) (h:0<=ZaU s ch q):inR s.1.length (ZaU s ch q)/\atI (Zai s) (ZaU s ch q)=q:=by
 unfold ZaU at h |-
 split
 ·rcases hs.2 q hq with e | ⟨_,e1,e2⟩
  ·omega
  ·exact ⟨e1,e2⟩
 ·rw [if_neg ‹_›] at h
  split
  ·obtain ⟨a,_,b⟩:=X.cI.mem q hq _ (Zqp (l:=Zaw (Zaz s) q) (i:=0) ⟨by omega,by omega⟩)
   exact ⟨a,b⟩
  ·rw [if_neg ‹_›] at h;omega
def Zbh (s:Za5) (f:Int):List Int:=(Zar s.1 f).2.2.map (atI (Zai s))
theorem Zdf {s:Za5} (X:Ctx s) {f:Int} (hf:inR s.1.length f) {p:Int} (hp:p∈Zbh s f):ZfW s p:=by
 obtain ⟨k,hk,rfl⟩:=mem_map.1 hp
 have hr:=X.kids.r _ (Zav hf) k hk
 exact ⟨X.ci.rng hr,X.ci.r2 k hr⟩
theorem ZmH {s:Za5} (X:Ctx s) {f:Int} (hf:inR s.1.length f) (q:Int):F87 (Zcg s) f q=some (decide (q∈Zbh s f)):=by
 refine Ret.eq ?_
 have hkl:=X.kids.k _ (Zav hf)
 have hkr:=X.kids.r _ (Zav hf)
 simp only [F87,Zcg,Za2 hf,wq,reduceCtorEq]
 refine Zac (fun i:Int=>∃ k:Nat,i=k/\k<=(Zar s.1 f).2.2.length/\∀ j < k,∀ x,(Zar s.1 f).2.2[j]?=some x->atI (Zai s) x≠q) (fun i=>(Zar s.1 f).2.2.length - i.toNat) ?_ _ ⟨0,rfl,by omega,fun j hj=>by omega⟩
 rintro _ ⟨k,rfl,hk,ih⟩
 have hw:=Zab k (by omega)
 simp only [Z7H,wq,reduceCtorEq,hw]
 refine ⟨fun hlt=>Zaj (by omega) hlt fun y hy hm=>?_,fun hge=>?_⟩
 ·simp only [X.cget (hkr y hm),wq,reduceCtorEq]
  rw [Zax] at hy
  refine ⟨fun e=>?_,fun e=>⟨⟨k+1,rfl,by omega,fun j hj x hx=>?_⟩,by omega⟩⟩
  ·symm;rw [decide_eq_true_eq];exact mem_map.2 ⟨y,hm,e⟩
  ·by_cases h:j < k
   ·exact ih j h x hx
   ·have:j=k:=by omega
    subst this;rw [hy] at hx;obtain rfl:=inj hx;exact e
 ·symm;rw [decide_eq_false_iff_not]
  intro h
  obtain ⟨x,hx,e⟩:=mem_map.1 h
  obtain ⟨j,hj⟩:=getElem?_of_mem hx
  exact ih j (by have:=ZaA hj;omega) x hj e
def ZfX (s:Za5) (ch:List Int) (q p:Int):Prop:=if 0<=ZaU s ch q then p∈Zbh s (ZaU s ch q) else ∀ f∈Zaw (Zaz s) q,p∈Zbh s f
open Classical in
def Zv9 (s:Za5) (ch:List Int) (q p:Int):Bool:=decide (ZfX s ch q p)
theorem ZmQ {s:Za5} {ch:List Int} {q p:Int}:Zv9 s ch q p=true↔ZfX s ch q p:=by unfold Zv9;simp
theorem Zkz {s:Za5} {ch:List Int} {q p:Int} (h:ZfX s ch q p):true=Zv9 s ch q p:=by unfold Zv9;simp [h]
theorem Zib {s:Za5} {ch:List Int} {q p:Int} (h:¬ ZfX s ch q p):false=Zv9 s ch q p:=by unfold Zv9;simp [h]
theorem ZAU {s:Za5} (X:Ctx s) {ch:List Int} (hs:Zdi s ch) {q:Int} (hq:inR s.1.length q) (p:Int):F65 (Zcg s) ch q p=some (Zv9 s ch q p):=by
 refine Ret.eq ?_
 have hrl:=X.cI.len q hq
 have hn:=X.n
 simp only [F65,ZbF X hs.1 hq,wq,reduceCtorEq]
 refine ⟨fun h=>?_,fun h=>?_⟩
 ·rw [ZmH X (Zct X hs hq h).1]
  simp only [wq,reduceCtorEq]
  have e:ZfX s ch q p↔p∈Zbh s (ZaU s ch q):=by unfold ZfX;rw [if_pos h]
  by_cases hp:p∈Zbh s (ZaU s ch q)
  ·rw [<-Zkz (e.2 hp)];simp [hp]
  ·rw [<-Zib (fun r=>hp (e.1 r))];simp [hp]
 ·have e:ZfX s ch q p↔∀ f∈Zaw (Zaz s) q,p∈Zbh s f:=by unfold ZfX;rw [if_neg (by omega)]
  refine Zac (fun i:Int=>∃ k:Nat,i=k/\k<=(Zaw (Zaz s) q).length/\∀ f∈(Zaw (Zaz s) q).take k,p∈Zbh s f) (fun i=>(Zaw (Zaz s) q).length - i.toNat) ?_ _ ⟨0,rfl,by omega,fun f hf=>by simp at hf⟩
  rintro _ ⟨k,rfl,hk,ih⟩
  have hw:=Zab k (by omega)
  simp only [ZAi,wq,reduceCtorEq,hw]
  have ht:gI (Zcg s).2.2 q=some (Zaw (Zaz s) q):=X.tget hq
  simp only [ht,wq,reduceCtorEq]
  refine ⟨fun hlt=>Zaj (by omega) hlt fun y hy hm=>?_,fun hge=>?_⟩
  ·rw [ZmH X (X.cI.mem q hq y hm).1]
   simp only [wq,reduceCtorEq]
   rw [Zax] at hy
   refine ⟨fun h2=>Zib fun r=>h2 (e.1 r y hm),fun h2=>⟨⟨k+1,rfl,by omega,fun f hf=>?_⟩,by omega⟩⟩
   rw [take_add_one,hy] at hf
   rcases mem_append.1 hf with hf | hf
   ·exact ih f hf
   ·rw [show f=y by simpa using hf];exact h2
  ·rw [take_of_length_le (by omega)] at ih
   exact Zkz (e.2 ih)
def ncM (x:Zae):Int:=(F52 x).getD 0
theorem ZCf (x:Zae):F52 x=some (ncM x)/\F19 x=some (ncM x)/\0<=ncM x/\ncM x<=20:=by
 have key:∃ r,F52 x=some r/\F19 x=some r/\0<=r/\r<=20:=by
  obtain ⟨op,i,k⟩:=x
  by_cases h:1<=op/\op<=31
  ·have:op=1\/op=2\/op=3\/op=4\/op=5\/op=6\/op=7\/op=8\/op=9\/op=10\/op=11\/op=12\/op=13\/op=14\/op=15\/op=16\/op=17\/op=18\/op=19\/op=20\/op=21\/op=22\/op=23\/op=24\/op=25\/op=26\/op=27\/op=28\/op=29\/op=30\/op=31:=by omega
   rcases this with rfl | rfl | rfl | rfl | rfl | rfl | rfl | rfl | rfl | rfl | rfl | rfl | rfl | rfl | rfl | rfl | rfl | rfl | rfl | rfl | rfl | rfl | rfl | rfl | rfl | rfl | rfl | rfl | rfl | rfl | rfl<;>exact ⟨_,rfl,rfl,by decide,by decide⟩
  ·have e:∀ n:Int,1<=n->n<=31->(op==n)=false:=fun n h1 h2=>by rw [beq_eq_false_iff_ne];omega
   refine ⟨0,?_,?_,by omega,by omega⟩
   ·simp only [F52,ZEw,ZEv,ZEu,ZEt,ZEs,e 1 (by decide) (by decide),e 2 (by decide) (by decide),e 24 (by decide) (by decide),e 20 (by decide) (by decide),e 21 (by decide) (by decide),e 4 (by decide) (by decide),e 5 (by decide) (by decide),e 6 (by decide) (by decide),e 7 (by decide) (by decide),e 8 (by decide) (by decide),e 9 (by decide) (by decide),e 10 (by decide) (by decide),e 11 (by decide) (by decide),e 12 (by decide) (by decide),e 13 (by decide) (by decide),e 14 (by decide) (by decide),e 15 (by decide) (by decide),e 16 (by decide) (by decide),e 17 (by decide) (by decide),e 18 (by decide) (by decide),e 19 (by decide) (by decide),e 29 (by decide) (by decide),e 22 (by decide) (by decide),e 27 (by decide) (by decide),e 23 (by decide) (by decide),e 28 (by decide) (by decide),e 31 (by decide) (by decide),e 30 (by decide) (by decide),cond_false,bind_some,Sum.elim_inl]
   ·have e2:(decide (op>=4)&&decide (op<=19))=false:=by simp;omega
    have e3:(bif decide (op>=4) then some (Sum.inl (β:=Int) (decide (op<=19))) else some (Sum.inl false))=some (Sum.inl false):=by
     cases h4:decide (op>=4)
     ·rfl
     ·rw [h4,Bool.true_and] at e2;rw [e2];rfl
    simp only [F19,ZuQ,ZrN,ZuO,ZDL,ZDK,ZDJ,e 1 (by decide) (by decide),e 2 (by decide) (by decide),e 24 (by decide) (by decide),e 20 (by decide) (by decide),e 21 (by decide) (by decide),e 4 (by decide) (by decide),e 5 (by decide) (by decide),e 6 (by decide) (by decide),e 7 (by decide) (by decide),e 8 (by decide) (by decide),e 9 (by decide) (by decide),e 10 (by decide) (by decide),e 11 (by decide) (by decide),e 12 (by decide) (by decide),e 13 (by decide) (by decide),e 14 (by decide) (by decide),e 15 (by decide) (by decide),e 16 (by decide) (by decide),e 17 (by decide) (by decide),e 18 (by decide) (by decide),e 19 (by decide) (by decide),e 29 (by decide) (by decide),e 22 (by decide) (by decide),e 27 (by decide) (by decide),e 23 (by decide) (by decide),e 28 (by decide) (by decide),e 31 (by decide) (by decide),e 30 (by decide) (by decide),e3,cond_false,bind_some,Sum.elim_inl]
 obtain ⟨r,h1,h2,h3⟩:=key
 have:ncM x=r:=by unfold ncM;rw [h1];rfl
 rw [this];exact ⟨h1,h2,h3⟩
def ZaJ (l:List Bool) (q:Int):Bool:=l[q.toNat]?.getD false
theorem Zbj {l:List Bool} {q:Int} (h:inR l.length q):gI l q=some (ZaJ l q):=by
 obtain ⟨x,hx,_⟩:=Zn9 h.1 h.2
 rw [hx];unfold ZaJ;rw [(ZaI hx).2.2];rfl
theorem ZaN {l:List Bool} {i j:Int} {x:Bool} (hi:inR l.length i) (hj:0<=j):ZaJ (Zaq l i x) j=if j=i then x else ZaJ l j:=by
 unfold ZaJ Zaq
 have:=hi.1;have:=hi.2
 by_cases e:j=i
 ·subst e;rw [if_pos rfl,List.getElem?_set_self (by omega)];rfl
 ·rw [if_neg e,List.getElem?_set_ne (by omega)]
theorem Zeq (n:Nat) (q:Int):ZaJ (replicate n false) q=false:=by
 unfold ZaJ
 cases h:(replicate n false)[q.toNat]? with
 | none=>rfl
 | some r=>exact (List.mem_replicate.1 (mem_of_getElem? h)).2
def Zid (l:List Bool):Nat:=l.count false
theorem Zgk {l:List Bool} {i:Int} (hi:inR l.length i) (h:ZaJ l i=false):Zid (Zaq l i true)+1=Zid l:=by
 have h1:=hi.1
 have h2:i.toNat < l.length:=by have:=hi.2;omega
 have h3:l[i.toNat]=false:=by
  unfold ZaJ at h
  rw [getElem?_eq_getElem h2] at h;exact h
 unfold Zid Zaq
 rw [count_set h2,h3]
 have:0 < l.count false:=List.count_pos_iff.2 (by rw [<-h3];exact getElem_mem h2)
 simp
 omega
theorem ZvB (l:List Bool):Zid l<=l.length:=List.count_le_length
theorem Zsi {a b:List Bool} (hl:a.length=b.length) (h:∀ q,inR a.length q->ZaJ a q=ZaJ b q):a=b:=by
 apply ext_getElem?
 intro i
 by_cases hi:i < a.length
 ·have:=h (i:Int) ⟨by omega,by omega⟩
  unfold ZaJ at this
  rw [toNat_natCast,getElem?_eq_getElem hi,getElem?_eq_getElem (by omega)] at this
  rw [getElem?_eq_getElem hi,getElem?_eq_getElem (by omega)]
  exact congrArg some this
 ·rw [getElem?_eq_none (by omega),getElem?_eq_none (by omega)]
inductive Zb7 (s:Za5) (ch:List Int):Int->Prop
 | val:Zb7 s ch (atI (Zai s) s.2.2.2.1)
 | st:Zb7 s ch (atI (Zai s) s.2.2.2.2.1)
 | step {q p:Int}:Zb7 s ch q->ZfX s ch q p->ZfW s p->Zb7 s ch p
structure Zbv (s:Za5) (ch:List Int) (need:List Bool):Prop where
 len:need.length=s.1.length
 ok:∀ q,inR s.1.length q->(ZaJ need q=true↔Zb7 s ch q)
theorem Zbv.uniq {s:Za5} {ch:List Int} {a b:List Bool} (ha:Zbv s ch a) (hb:Zbv s ch b):a=b:=by
 refine Zsi (by rw [ha.len,hb.len]) fun q hq=>?_
 rw [ha.len] at hq
 rw [Bool.eq_iff_iff,ha.ok q hq,hb.ok q hq]
section
variable {s:Za5} (X:Ctx s) {ch:List Int} (hs:Zdi s ch)
include X
theorem Zb7.rep {q:Int} (h:Zb7 s ch q):ZfW s q:=by
 induction h with
 | val=>exact ⟨X.ci.rng X.v.va,X.ci.r2 _ X.v.va⟩
 | st=>exact ⟨X.ci.rng X.v.st,X.ci.r2 _ X.v.st⟩
 | step _ _ h _=>exact h
theorem Zqr {q:Int} (h:ZfW s q):Zaw (Zaz s) q≠[]:=by
 obtain ⟨j,m,_⟩:=X.cI.cov q h.1 (by have:=h.1.2;exact this)
 rw [h.2] at m
 exact List.ne_nil_of_mem m
theorem Zk0 {need:List Bool} (hl:need.length=s.1.length) (hsd:∀ q,inR s.1.length q->ZaJ need q=true->Zb7 s ch q) (h1:ZaJ need (atI (Zai s) s.2.2.2.1)=true) (h2:ZaJ need (atI (Zai s) s.2.2.2.2.1)=true)
 (hc:∀ q p,inR s.1.length q->ZfW s p->ZaJ need q=true->ZfX s ch q p->ZaJ need p=true):Zbv s ch need:=by
 refine ⟨hl,fun q hq=>⟨hsd q hq,fun h=>?_⟩⟩
 clear hq
 induction h with
 | val=>exact h1
 | st=>exact h2
 | step hr hp hrep ih=>exact hc _ _ (Zb7.rep X hr).1 hrep ih hp
include hs
structure Zls (s:Za5) (ch:List Int) (n0:List Bool) (more:Bool) (need:List Bool) (D:Int->Int->Prop):Prop where
 len:need.length=s.1.length
 sd:∀ q,inR s.1.length q->ZaJ need q=true->Zb7 s ch q
 r1:ZaJ need (atI (Zai s) s.2.2.2.1)=true
 r2:ZaJ need (atI (Zai s) s.2.2.2.2.1)=true
 le:Zid need<=Zid n0
 on:more=true->Zid need < Zid n0
 off:more=false->need=n0/\∀ q p,D q p->inR s.1.length q->ZfW s p->ZaJ n0 q=true->ZfX s ch q p->ZaJ n0 p=true
theorem ZCL (n0:List Bool) (hn0:Zls s ch n0 false n0 fun _ _=>False) :
 Ret (Zao (Z7K (Zcg s) ch) (false,0,n0)) fun r=>∃ more need,r=.inl (more,need)/\Zls s ch n0 more need fun _ _=>True:=by
 have hn:=X.n
 have hcl:(Zcg s).2.1.length=s.1.length:=X.clen
 refine Zac (fun q:Bool×Int×List Bool=>∃ k:Nat,q.2.1=k/\k<=s.1.length/\Zls s ch n0 q.1 q.2.2 (fun a _=>a < k)) (fun q=>s.1.length - q.2.1.toNat) ?_ _ ⟨0,rfl,by omega,hn0.len,hn0.sd,hn0.r1,hn0.r2,le_refl _,(fun h=>by cases h),fun _=>⟨rfl,fun q p h hq=>by have:=hq.1;omega⟩⟩
 rintro ⟨more,_,need⟩ ⟨k,rfl,hk,hp⟩
 dsimp only at hp
 have hw:=Zab k (by omega)
 simp only [Z7K,wq,reduceCtorEq,hcl]
 refine ⟨fun hlt=>?_,fun hge=>⟨more,need,rfl,hp.len,hp.sd,hp.r1,hp.r2,hp.le,hp.on,fun h=>⟨(hp.off h).1,fun q p _ hq=>(hp.off h).2 q p (by have:=hq.2;omega) hq⟩⟩⟩
 have hkr:inR s.1.length (k:Int):=⟨by omega,hlt⟩
 refine Zac (fun q:Bool×Int×List Bool=>∃ j:Nat,q.2.1=j/\j<=s.1.length/\Zls s ch n0 q.1 q.2.2 (fun a b=>a < k\/a=k/\b < j)) (fun q=>s.1.length - q.2.1.toNat) ?_ _ ⟨0,rfl,by omega,hp.len,hp.sd,hp.r1,hp.r2,hp.le,hp.on,fun h=>⟨(hp.off h).1,fun q p hd hq hp'=>(hp.off h).2 q p (by rcases hd with hd | hd;exact hd;have:=hp'.1.1;omega) hq hp'⟩⟩
 rintro ⟨more,_,need⟩ ⟨j,rfl,hj,hp⟩
 dsimp only at hp
 have hw2:=Zab j (by omega)
 have hgk:gI need (k:Int)=some (ZaJ need k):=Zbj (by rw [hp.len];exact hkr)
 have skip:(ZaJ need k=true->j < s.1.length->False)->(∃ k':Nat,(((k+1:Nat):Int))=k'/\k'<=s.1.length/\Zls s ch n0 more need (fun a _=>a < k')):=fun hno=>
  ⟨k+1,rfl,by omega,hp.len,hp.sd,hp.r1,hp.r2,hp.le,hp.on,fun h=>⟨(hp.off h).1,fun q p hd hq hpr hg hr=>by
   by_cases e:q < k
   ·exact (hp.off h).2 q p (.inl e) hq hpr hg hr
   ·obtain rfl:q=k:=by omega
    by_cases e2:j < s.1.length
    ·exact (hno (by rw [(hp.off h).1];exact hg) e2).elim
    ·exact (hp.off h).2 _ p (.inr ⟨rfl,by have:=hpr.1.2;omega⟩) hq hpr hg hr⟩⟩
 simp only [ZDR,Z7L,Z8j,Z8E,hgk,wq,reduceCtorEq,hw,hw2,hcl]
 refine ⟨fun hlt2=>⟨fun hgt=>?_,fun hgf=>⟨skip fun h _=>(by rw [hgf] at h;cases h),by omega⟩⟩,fun hge2=>⟨skip fun _ h=>by omega,by omega⟩⟩
 have hjr:inR s.1.length (j:Int):=⟨by omega,hlt2⟩
 have hgj:gI need (j:Int)=some (ZaJ need j):=Zbj (by rw [hp.len];exact hjr)
 have hcj:gI (Zcg s).2.1 (j:Int)=some (atI (Zai s) j):=X.cget hjr
 simp only [hcj,hgj,ZAU X hs hkr,wq,reduceCtorEq]
 have next:(ZfW s (j:Int)->ZfX s ch k j->ZaJ need j=true)->(∃ j':Nat,(((j+1:Nat):Int))=j'/\j'<=s.1.length/\Zls s ch n0 more need (fun a b=>a < k\/a=k/\b < j')):=fun hc=>
  ⟨j+1,rfl,by omega,hp.len,hp.sd,hp.r1,hp.r2,hp.le,hp.on,fun h=>⟨(hp.off h).1,fun q p hd hq hpr hg hr=>by
   by_cases e:q < k\/q=k/\p < j
   ·exact (hp.off h).2 q p e hq hpr hg hr
   ·obtain rfl:q=k:=by omega
    obtain rfl:p=j:=by omega
    rw [<-(hp.off h).1]
    exact hc hpr hr⟩⟩
 refine ⟨fun e1=>⟨fun e2=>⟨fun e3=>⟨⟨j+1,rfl,by omega,?_⟩,by omega⟩,fun e3=>⟨next fun _ hr=>(by rw [ZmQ.2 hr] at e3;cases e3),by omega⟩⟩,fun e2=>⟨next fun _ _=>e2,by omega⟩⟩,fun e1=>⟨next fun hr _=>absurd hr.2 e1,by omega⟩⟩
 have hjl:inR need.length (j:Int):=by rw [hp.len];exact hjr
 have hcnt:=Zgk hjl e2
 have hle:=hp.le
 have mono:∀ q,0<=q->ZaJ need q=true->ZaJ (Zaq need j true) q=true:=fun q hq h=>by
  rw [ZaN hjl hq];split
  ·rfl
  ·exact h
 refine ⟨by rw [Zay];exact hp.len,fun q hq h=>?_,mono _ (X.ci.rng X.v.va).1 hp.r1,mono _ (X.ci.rng X.v.st).1 hp.r2,by omega,fun _=>by omega,fun h=>by cases h⟩
 rw [ZaN hjl hq.1] at h
 split at h
 ·subst ‹q=_›
  exact .step (hp.sd _ hkr hgt) (ZmQ.1 e3) ⟨hjr,e1⟩
 ·exact hp.sd q hq h
structure WL (s:Za5) (ch:List Int) (need:List Bool) (queue:List Int) (ex:Int->Prop) (m:Nat):Prop where
 len:need.length=s.1.length
 sd:∀ q,inR s.1.length q->ZaJ need q=true->Zb7 s ch q
 qn:∀ q∈queue,inR s.1.length q/\ZaJ need q=true
 cl:∀ q,inR s.1.length q->ZaJ need q=true->q∉queue->¬ ex q->∀ p,ZfW s p->ZfX s ch q p->ZaJ need p=true
 sz:2 * Zid need+queue.length<=m
theorem ZyW {need:List Bool} {queue:List Int} {ex:Int->Prop} {m:Nat} (h:WL s ch need queue ex m) (hm:m<=4000) {p:Int} (hp:Zb7 s ch p) :
 Ret (F76 p need queue) fun r=>WL s ch r.1 r.2 ex m/\ZaJ r.1 p=true/\∀ q,0<=q->ZaJ need q=true->ZaJ r.1 q=true:=by
 have hpr:=(Zb7.rep X hp).1
 have hpl:inR need.length p:=by rw [h.len];exact hpr
 have hsz:=h.sz
 simp only [F76,Zbj hpl,wq,reduceCtorEq]
 refine ⟨fun e=>⟨fun _=>?_,fun hh=>absurd hh (by simp only [length_cons,length_nil];omega)⟩,fun e=>⟨h,e,fun _ _ h=>h⟩⟩
 have hcnt:=Zgk hpl e
 have mono:∀ q,0<=q->ZaJ need q=true->ZaJ (Zaq need p true) q=true:=fun q hq h=>by
  rw [ZaN hpl hq];split
  ·rfl
  ·exact h
 refine ⟨⟨by rw [Zay];exact h.len,fun q hq hg=>?_,fun q hq=>?_,fun q hq hg hnq hex p' hp' hr=>?_,by simp;omega⟩,by rw [ZaN hpl hpr.1,if_pos rfl],mono⟩
 ·rw [ZaN hpl hq.1] at hg
  split at hg
  ·subst ‹q=_›;exact hp
  ·exact h.sd q hq hg
 ·rcases mem_append.1 hq with hq | hq
  ·exact ⟨(h.qn q hq).1,mono q (h.qn q hq).1.1 (h.qn q hq).2⟩
  ·rw [mem_singleton.1 hq];exact ⟨hpr,by rw [ZaN hpl hpr.1,if_pos rfl]⟩
 ·have hne:q≠p:=fun e2=>hnq (List.mem_append_right _ (mem_singleton.2 e2))
  rw [ZaN hpl hq.1,if_neg hne] at hg
  exact mono p' hp'.1.1 (h.cl q hq hg (fun hm=>hnq (List.mem_append_left _ hm)) hex p' hp' hr)
end
theorem Zfd (a b:Int):ZaS (.int .i64) a b=decide (a=b):=by
 show (a==b)=decide (a=b)
 rw [Bool.eq_iff_iff,beq_iff_eq,decide_eq_true_eq]
theorem Zk1 {ν:Type} (m:List (Int×ν)) (x y:Int) (v:ν):Zc3 (ZaS (.int .i64)) (ZfQ (ZaS (.int .i64)) m x v) y=if y=x then some v else Zc3 (ZaS (.int .i64)) m y:=by
 induction m with
 | nil=>
  simp only [ZfQ,Zc3,Zfd]
  by_cases h:y=x<;>simp [h]
 | cons e m ih=>
  obtain ⟨k,w⟩:=e
  simp only [ZfQ,Zfd]
  by_cases h:x=k
  ·subst h
   simp only [decide_true,cond_true,Zc3,Zfd]
   by_cases h2:y=x<;>simp [h2]
  ·simp only [h,decide_false,cond_false,Zc3,Zfd,ih]
   by_cases h2:y=k
   ·subst h2
    simp only [decide_true,cond_true]
    rw [if_neg (fun e=>h e.symm)]
   ·simp only [h2,decide_false,cond_false]
def gM (m:List (Int×Int)) (p:Int):Int:=getD (Zc3 (ZaS (.int .i64)) m p) 0
def gS (m:List (Int×Bool)) (p:Int):Bool:=getD (Zc3 (ZaS (.int .i64)) m p) false
theorem ZtL (m:List (Int×Int)) (x y v:Int):gM (ZfQ (ZaS (.int .i64)) m x v) y=if y=x then v else gM m y:=by
 unfold gM;rw [Zk1];split<;>rfl
theorem Zzy (m:List (Int×Bool)) (x y:Int) (v:Bool):gS (ZfQ (ZaS (.int .i64)) m x v) y=if y=x then v else gS m y:=by
 unfold gS;rw [Zk1];split<;>rfl
section
variable {s:Za5} (X:Ctx s) {ch:List Int} (hs:Zdi s ch)
include X
def ZnR (s:Za5) (row:List Int) (p:Int):Nat:=row.countP fun f=>decide (p∈Zbh s f)
theorem ZvC (row:List Int) (p:Int):ZnR s row p<=row.length:=List.countP_le_length
theorem Zqs (row:List Int) (p:Int):ZnR s row p=row.length↔∀ f∈row,p∈Zbh s f:=by
 unfold ZnR;rw [List.countP_eq_length];simp
theorem Zqt (row:List Int) (f p:Int):ZnR s (row++[f]) p=ZnR s row p+(if p∈Zbh s f then 1 else 0):=by
 unfold ZnR;rw [List.countP_append];by_cases h:p∈Zbh s f<;>simp [h]
def Za9 (s:Za5) (f:Int) (k:Nat):List Int:=(Zbh s f).take k
theorem ZbV {f:Int} {k:Nat} {y:Int} (h:(Zar s.1 f).2.2[k]?=some y):(Zbh s f)[k]?=some (atI (Zai s) y):=by
 unfold Zbh;rw [getElem?_map,h];rfl
theorem Zbw (f:Int):(Zbh s f).length=(Zar s.1 f).2.2.length:=by simp [Zbh]
theorem Z81 {q:Int} (hq:ZfW s q):Ret (F78 (some (Zbz s)) q) fun out=>out.length<=1000/\∀ p,p∈out↔∀ f∈Zaw (Zaz s) q,p∈Zbh s f:=by
 have htl:=X.tlen
 have hn:=X.n
 have hrl:=X.cI.len q hq.1
 have hne:=Zqr X hq
 unfold F78
 rw [Z6Y]
 have hq':inR (Zbz s).2.2.2.length q:=by show inR (Zaz s).length q;rw [htl];exact hq.1
 rw [if_pos hq']
 show Ret ((some (Zaw (Zaz s) q)).bind _) _
 simp only [wq,reduceCtorEq]
 generalize hrow:Zaw (Zaz s) q=row at *
 have hmem:∀ f∈row,inR s.1.length f:=fun f hf=>(X.cI.mem q hq.1 f (by rw [hrow];exact hf)).1
 refine Zac (fun st:Int×List (Int×Int)=>∃ k:Nat,st.1=k/\k<=row.length/\∀ p,gM st.2 p=(ZnR s (row.take k) p:Nat)) (fun st=>row.length - st.1.toNat) ?_ _ ⟨0,rfl,by omega,fun p=>by simp [gM,Zc3,ZnR]⟩
 rintro ⟨_,mp⟩ ⟨k,rfl,hk,hc⟩
 dsimp only at hc
 have hw:=Zab k (by omega)
 simp only [ZwT,wq,reduceCtorEq,bind_some,Zbz]
 refine ⟨fun hlt=>Zaj (by omega) hlt fun f hf hfm=>?_,fun hge=>?_⟩
 ·have hfr:=hmem f hfm
  rw [Zax] at hf
  have hkl:=X.kids.k _ (Zav hfr)
  have hkr:=X.kids.r _ (Zav hfr)
  rw [Za2 hfr]
  simp only [wq,reduceCtorEq]
  refine Zac (fun st:Int×List (Int×Int)×List (Int×Bool)=>∃ j:Nat,st.1=j/\j<=(Zar s.1 f).2.2.length/\(∀ p,gM st.2.1 p=((ZnR s (row.take k) p+(if p∈Za9 s f j then 1 else 0):Nat):Int))/\∀ p,gS st.2.2 p=decide (p∈Za9 s f j)) (fun st=>(Zar s.1 f).2.2.length - st.1.toNat) ?_ _ ⟨0,rfl,by omega,fun p=>by rw [hc p];simp [Za9],fun p=>by simp [Za9,gS,Zc3]⟩
  rintro ⟨_,mp,sn⟩ ⟨j,rfl,hj,hm,hsn⟩
  dsimp only at hm hsn
  have hw2:=Zab j (by omega)
  simp only [ZwS,Z7J,wq,reduceCtorEq,hw,hw2,bind_some]
  refine ⟨fun hlt2=>Zaj (by omega) hlt2 fun y hy hym=>?_,fun hge2=>⟨⟨k+1,rfl,by omega,fun p=>?_⟩,by omega⟩⟩
  ·rw [Zax] at hy
   have hg:=ZbV X hy
   have hmk:∀ p,p∈Za9 s f (j+1)↔p∈Za9 s f j\/p=atI (Zai s) y:=fun p=>by
    unfold Za9;rw [take_add_one,hg];simp
   rw [X.cget (hkr y hym)]
   simp only [wq,reduceCtorEq]
   refine ⟨fun e=>⟨⟨j+1,rfl,by omega,fun p=>?_,fun p=>?_⟩,by omega⟩,fun e=>⟨⟨j+1,rfl,by omega,fun p=>?_,fun p=>?_⟩,by omega⟩⟩
   ·have e':gS sn (atI (Zai s) y)=false:=e
    rw [hsn] at e'
    have hno:atI (Zai s) y∉Za9 s f j:=by simpa using e'
    rw [ZtL]
    by_cases hpy:p=atI (Zai s) y
    ·subst hpy
     rw [if_pos rfl,if_pos ((hmk _).2 (.inr rfl))]
     show wrap .i64 (gM mp _+1)=_
     have hle:=ZvC X (row.take k) (atI (Zai s) y)
     have hle2:(row.take k).length<=900:=by rw [length_take];omega
     rw [hm,if_neg hno,Zau (by omega) (by omega)];omega
    ·rw [if_neg hpy,hm]
     have:p∈Za9 s f (j+1)↔p∈Za9 s f j:=by rw [hmk];simp [hpy]
     simp only [this]
   ·rw [Zzy]
    by_cases hpy:p=atI (Zai s) y
    ·rw [if_pos hpy];symm;rw [decide_eq_true_eq];exact (hmk p).2 (.inr hpy)
    ·rw [if_neg hpy,hsn]
     have:p∈Za9 s f (j+1)↔p∈Za9 s f j:=by rw [hmk];simp [hpy]
     simp only [this]
   ·have e':gS sn (atI (Zai s) y)=true:=e
    rw [hsn] at e'
    have hyes:atI (Zai s) y∈Za9 s f j:=by simpa using e'
    have:p∈Za9 s f (j+1)↔p∈Za9 s f j:=by
     rw [hmk]
     exact ⟨fun h=>h.elim id fun h=>by rw [h];exact hyes,.inl⟩
    simp only [this];exact hm p
   ·have e':gS sn (atI (Zai s) y)=true:=e
    rw [hsn] at e'
    have hyes:atI (Zai s) y∈Za9 s f j:=by simpa using e'
    have:p∈Za9 s f (j+1)↔p∈Za9 s f j:=by
     rw [hmk]
     exact ⟨fun h=>h.elim id fun h=>by rw [h];exact hyes,.inl⟩
    simp only [this];exact hsn p
  ·have hall:Za9 s f j=Zbh s f:=by unfold Za9;rw [take_of_length_le (by rw [Zbw X];omega)]
   rw [hm p,hall,take_add_one,hf]
   simp only [toList_some]
   rw [Zqt X]
 ·have hkl0:k=row.length:=by omega
  subst hkl0
  rw [take_length] at hc
  obtain ⟨f0,r0,hcons⟩:=List.exists_cons_of_ne_nil hne
  have h0r:=hmem f0 (by rw [hcons];simp)
  have hkl:=X.kids.k _ (Zav h0r)
  have hkr:=X.kids.r _ (Zav h0r)
  have hg0:gI row 0=some f0:=by rw [hcons];rfl
  rw [hg0]
  simp only [wq,reduceCtorEq,Za2 h0r]
  have hpos:0 < row.length:=by rw [hcons];simp
  refine Zac (fun st:Int×List (Int×Int)×List Int=>∃ j:Nat,st.1=j/\j<=(Zar s.1 f0).2.2.length/\st.2.2.length<=j/\(∀ p,gM st.2.1 p=if p∈st.2.2 then 0 else ((ZnR s row p:Nat):Int))/\∀ p,p∈st.2.2↔p∈Za9 s f0 j/\ZnR s row p=row.length) (fun st=>(Zar s.1 f0).2.2.length - st.1.toNat) ?_ _ ⟨0,rfl,by omega,by simp,fun p=>by simpa using hc p,fun p=>by simp [Za9]⟩
  rintro ⟨_,mp,out⟩ ⟨j,rfl,hj,hol,hm,ho⟩
  dsimp only at hol hm ho
  have hw2:=Zab j (by omega)
  simp only [ZEz,ZEy,wq,reduceCtorEq,hw2,bind_some]
  refine ⟨fun hlt2=>Zaj (by omega) hlt2 fun y hy hym=>?_,fun hge2=>⟨by omega,fun p=>?_⟩⟩
  ·rw [Zax] at hy
   have hg:=ZbV X hy
   have hmk:∀ p,p∈Za9 s f0 (j+1)↔p∈Za9 s f0 j\/p=atI (Zai s) y:=fun p=>by
    unfold Za9;rw [take_add_one,hg];simp
   rw [X.cget (hkr y hym)]
   simp only [wq,reduceCtorEq]
   refine ⟨fun e=>⟨fun _=>⟨⟨j+1,rfl,by omega,by simp;omega,fun p=>?_,fun p=>?_⟩,by omega⟩,fun h=>absurd h (by simp only [length_cons,length_nil];omega)⟩,fun e=>⟨⟨j+1,rfl,by omega,by omega,hm,fun p=>?_⟩,by omega⟩⟩
   ·rw [ZtL]
    by_cases hpy:p=atI (Zai s) y
    ·rw [if_pos hpy,if_pos (by rw [hpy];simp)]
    ·rw [if_neg hpy,hm]
     have:p∈out++[atI (Zai s) y]↔p∈out:=by simp [hpy]
     simp only [this]
   ·have e':gM mp (atI (Zai s) y)=row.length:=e
    rw [hm] at e'
    have hcn:ZnR s row (atI (Zai s) y)=row.length:=by
     split at e'
     ·omega
     ·omega
    rw [mem_append,ho,hmk,mem_singleton]
    constructor
    ·rintro (⟨h1,h2⟩ | rfl)
     ·exact ⟨.inl h1,h2⟩
     ·exact ⟨.inr rfl,hcn⟩
    ·rintro ⟨h1 | rfl,h2⟩
     ·exact .inl ⟨h1,h2⟩
     ·exact .inr rfl
   ·have e':gM mp (atI (Zai s) y)≠row.length:=e
    rw [hm] at e'
    rw [ho,hmk]
    constructor
    ·rintro ⟨h1,h2⟩;exact ⟨.inl h1,h2⟩
    ·rintro ⟨h1 | rfl,h2⟩
     ·exact ⟨h1,h2⟩
     ·by_cases hin:atI (Zai s) y∈out
      ·exact (ho _).1 hin
      ·rw [if_neg hin] at e';exact absurd (by rw [h2]) e'
  ·have hall:Za9 s f0 j=Zbh s f0:=by unfold Za9;rw [take_of_length_le (by rw [Zbw X];omega)]
   rw [ho,hall,Zqs X]
   exact ⟨fun h=>h.2,fun h=>⟨h f0 (by rw [hcons];simp),h⟩⟩
end
theorem ZnE {l:List Int} (h:0 < l.length):∃ a x,l=a++[x]/\gI l ((l.length:Int) - 1)=some x/\slI l 0 ((l.length:Int) - 1)=a:=by
 obtain ⟨a,x,rfl⟩:∃ a x,l=a++[x]:=⟨l.dropLast,l.getLast (by intro e;rw [e] at h;simp at h),(List.dropLast_concat_getLast _).symm⟩
 refine ⟨a,x,rfl,?_,?_⟩
 ·have:(((a++[x]).length:Int) - 1)=(a.length:Int):=by simp
  rw [this,Zax,getElem?_append_right (by omega)];simp
 ·have:((((a++[x]).length:Int) - 1).toNat - (0:Int).toNat)=a.length:=by simp
  unfold slI
  rw [this];simp
section
variable {s:Za5} (X:Ctx s) {ch:List Int} (hs:Zdi s ch)
include X hs
theorem WL.closed {need:List Bool} {queue:List Int} {q0:Int} {m:Nat} (h:WL s ch need queue (fun q=>q=q0) m) (hc:∀ p,ZfW s p->ZfX s ch q0 p->ZaJ need p=true):WL s ch need queue (fun _=>False) m:=
 ⟨h.len,h.sd,h.qn,fun q hq hg hnq _ p hp hr=>by
  by_cases e:q=q0
  ·rw [e] at hr;exact hc p hp hr
  ·exact h.cl q hq hg hnq e p hp hr,h.sz⟩
theorem ZCM {Q:(List Int×List Int×Int×Bool)->Prop} (hQ:∀ need,Zbv s ch need->Ret (Zao (ZC8 (some (Zbz s)) ch (Zbz s)) (0,0,false,0,false,need,[],[])) Q)
 (m:Nat) (hm:m<=4000) (need:List Bool) (queue:List Int) (h:WL s ch need queue (fun _=>False) m) (r1:ZaJ need (atI (Zai s) s.2.2.2.1)=true) (r2:ZaJ need (atI (Zai s) s.2.2.2.2.1)=true) :
 Ret (Zao (ZDn (some (Zbz s)) ch) (0,false,need,queue)) Q:=by
 have hn:=X.n
 have v0:=(X.ci.rng X.v.va).1
 have s0:=(X.ci.rng X.v.st).1
 refine ZdV (fun m st=>m<=4000/\∃ need queue,st=(0,false,need,queue)/\WL s ch need queue (fun _=>False) m/\ZaJ need (atI (Zai s) s.2.2.2.1)=true/\ZaJ need (atI (Zai s) s.2.2.2.2.1)=true) ?_ m _ ⟨hm,need,queue,rfl,h,r1,r2⟩
 clear h r1 r2 need queue hm m
 rintro m _ ⟨hm,need,queue,rfl,h,r1,r2⟩
 have hsz:=h.sz
 simp only [ZDn,wq,reduceCtorEq]
 refine ⟨fun hpos=>?_,fun hz=>?_⟩
 ·obtain ⟨qu,q0,hqe,hg,hsl⟩:=ZnE (l:=queue) (by omega)
  have hw:wrap .i64 ((queue.length:Int) - 1)=(queue.length:Int) - 1:=Zau (by omega) (by omega)
  obtain ⟨hqr,hqg⟩:=h.qn q0 (by rw [hqe];simp)
  have hql:queue.length=qu.length+1:=by rw [hqe];simp
  have hwl:WL s ch need qu (fun q=>q=q0) (m - 1):=⟨h.len,h.sd,fun q hq=>h.qn q (by rw [hqe];exact List.mem_append_left _ hq),fun q hq hgq hnq hne p hp hr=>h.cl q hq hgq (by rw [hqe,mem_append,mem_singleton];exact fun e=>e.elim hnq hne) (fun f=>f) p hp hr,by omega⟩
  have hreach:=h.sd q0 hqr hqg
  simp only [hw,hg,hsl,wq,reduceCtorEq,Zm9 X hs.1 hqr,bind_some]
  refine ⟨fun _=>⟨fun hd=>?_,fun hd=>?_⟩,fun h=>absurd h (by omega)⟩
  ·obtain ⟨hdr,_⟩:=Zct X hs hqr hd
   have hkl:=X.kids.k _ (Zav hdr)
   have hkr:=X.kids.r _ (Zav hdr)
   have hnd:gI (Zbz s).1.1 (ZaU s ch q0)=some (Zar s.1 (ZaU s ch q0)):=Za2 hdr
   have hreq:∀ p,ZfX s ch q0 p↔p∈Zbh s (ZaU s ch q0):=fun p=>by unfold ZfX;rw [if_pos hd]
   rw [hnd]
   simp only [wq,reduceCtorEq]
   refine Zac (fun st:Int×Int×Bool×List Bool×List Int=>∃ (j:Nat) (need:List Bool) (queue:List Int),st=((j:Int),0,false,need,queue)/\j<=(Zar s.1 (ZaU s ch q0)).2.2.length/\WL s ch need queue (fun q=>q=q0) (m - 1)/\ZaJ need (atI (Zai s) s.2.2.2.1)=true/\ZaJ need (atI (Zai s) s.2.2.2.2.1)=true/\∀ p∈Za9 s (ZaU s ch q0) j,ZaJ need p=true) (fun st=>(Zar s.1 (ZaU s ch q0)).2.2.length - st.1.toNat) ?_ _ ⟨0,need,qu,rfl,by omega,hwl,r1,r2,fun p hp=>by simp [Za9] at hp⟩
   rintro _ ⟨j,need',queue',rfl,hj,hwl',r1',r2',hk'⟩
   have hw2:=Zab j (by omega)
   simp only [ZE1,wq,reduceCtorEq,hw2,bind_some]
   refine ⟨fun hlt=>Zaj (by omega) hlt fun y hy hym=>?_,fun hge=>?_⟩
   ·have hyr:=hkr y hym
    have hcy:gI (Zbz s).2.1 y=some (atI (Zai s) y):=X.cget hyr
    rw [hcy]
    simp only [wq,reduceCtorEq]
    rw [Zax] at hy
    have hgk:=ZbV X hy
    have hrp:Zb7 s ch (atI (Zai s) y):=.step hreach ((hreq _).2 (mem_of_getElem? hgk)) ⟨X.ci.rng hyr,X.ci.r2 y hyr⟩
    refine (ZyW X hs hwl' (by omega) hrp).mono fun r _ ⟨w1,w2,w3⟩=>?_
    refine ⟨⟨j+1,r.1,r.2,rfl,by omega,w1,w3 _ v0 r1',w3 _ s0 r2',fun p hp=>?_⟩,by omega⟩
    unfold Za9 at hp
    rw [take_add_one,hgk] at hp
    rcases mem_append.1 hp with hp | hp
    ·exact w3 p (Zdf X hdr (mem_of_mem_take hp)).1.1 (hk' p hp)
    ·rw [show p=atI (Zai s) y by simpa using hp];exact w2
   ·rw [Zdd]
    refine ⟨m - 1,by omega,by omega,need',queue',rfl,hwl'.closed X hs fun p hp hr=>hk' p ?_,r1',r2'⟩
    have hall:Za9 s (ZaU s ch q0) j=Zbh s (ZaU s ch q0):=by unfold Za9;rw [take_of_length_le (by rw [Zbw X];omega)]
    rw [hall];exact (hreq p).1 hr
  ·have hrep:=Zb7.rep X hreach
   have hreq:∀ p,ZfX s ch q0 p↔∀ f∈Zaw (Zaz s) q0,p∈Zbh s f:=fun p=>by unfold ZfX;rw [if_neg (by omega)]
   refine (Z81 X hrep).mono fun out _ ⟨hol,ho⟩=>?_
   refine Zac (fun st:Int×Int×Bool×List Bool×List Int=>∃ (j:Nat) (need:List Bool) (queue:List Int),st=((j:Int),0,false,need,queue)/\j<=out.length/\WL s ch need queue (fun q=>q=q0) (m - 1)/\ZaJ need (atI (Zai s) s.2.2.2.1)=true/\ZaJ need (atI (Zai s) s.2.2.2.2.1)=true/\∀ p∈out.take j,ZaJ need p=true) (fun st=>out.length - st.1.toNat) ?_ _ ⟨0,need,qu,rfl,by omega,hwl,r1,r2,fun p hp=>by simp at hp⟩
   rintro _ ⟨j,need',queue',rfl,hj,hwl',r1',r2',hk'⟩
   have hw2:=Zab j (by omega)
   have hrepo:∀ p∈out,ZfW s p:=fun p hp=>by
    obtain ⟨f,r,hcons⟩:=List.exists_cons_of_ne_nil (Zqr X hrep)
    exact Zdf X (X.cI.mem q0 hqr f (by rw [hcons];simp)).1 ((ho p).1 hp f (by rw [hcons];simp))
   simp only [ZE2,wq,reduceCtorEq,hw2]
   refine ⟨fun hlt=>Zaj (by omega) hlt fun y hy hym=>?_,fun hge=>?_⟩
   ·rw [Zax] at hy
    have hrp:Zb7 s ch y:=.step hreach ((hreq _).2 ((ho y).1 hym)) (hrepo y hym)
    refine (ZyW X hs hwl' (by omega) hrp).mono fun r _ ⟨w1,w2,w3⟩=>?_
    refine ⟨⟨j+1,r.1,r.2,rfl,by omega,w1,w3 _ v0 r1',w3 _ s0 r2',fun p hp=>?_⟩,by omega⟩
    rw [take_add_one,hy] at hp
    rcases mem_append.1 hp with hp | hp
    ·exact w3 p (hrepo p (mem_of_mem_take hp)).1.1 (hk' p hp)
    ·rw [show p=y by simpa using hp];exact w2
   ·rw [Zdd]
    refine ⟨m - 1,by omega,by omega,need',queue',rfl,hwl'.closed X hs fun p hp hr=>hk' p ?_,r1',r2'⟩
    rw [take_of_length_le (by omega)]
    exact (ho p).2 ((hreq p).1 hr)
 ·have:queue=[]:=List.length_eq_zero_iff.1 (by omega)
  subst this
  refine (hQ need (Zk0 X h.len h.sd r1 r2 fun q p hq hp hg hr=>h.cl q hq hg (by simp) (fun f=>f) p hp hr)).mono fun b _ hb=>?_
  rw [ZeY];exact hb
theorem Zk2 {Q:(List Int×List Int×Int×Bool)->Prop} (hQ:∀ need,Zbv s ch need->Ret (Zao (ZC8 (some (Zbz s)) ch (Zbz s)) (0,0,false,0,false,need,[],[])) Q):Ret (F53 (some (Zbz s)) ch) Q:=by
 have hn:=X.n
 have hcl:=hs.1
 have hva:gI (Zbz s).2.1 (Zbz s).1.2.2.2.1=some (atI (Zai s) s.2.2.2.1):=X.cget X.v.va
 have hst:gI (Zbz s).2.1 (Zbz s).1.2.2.2.2.1=some (atI (Zai s) s.2.2.2.2.1):=X.cget X.v.st
 simp only [F53,wq,reduceCtorEq,bind_some,hva,hst]
 refine ⟨fun _=>?_,fun h=>absurd h (by omega)⟩
 have hcnt:=ZvB (replicate ch.length false)
 rw [length_replicate] at hcnt
 have w0:WL s ch (replicate ch.length false) [] (fun _=>False) 4000:=⟨by simp;omega,(fun q hq hg=>by rw [Zeq] at hg;cases hg),(fun q hq=>by simp at hq),(fun q hq hg=>by rw [Zeq] at hg;cases hg),by simp;omega⟩
 rw [toNat_natCast]
 refine (ZyW X hs w0 (by omega) .val).mono fun r _ ⟨w1,g1,_⟩=>?_
 refine (ZyW X hs w1 (by omega) .st).mono fun r' _ ⟨w2,g2,mono⟩=>?_
 exact ZCM X hs hQ 4000 (by omega) _ _ w2 (mono _ (X.ci.rng X.v.va).1 g1) g2
theorem Zsl {Q:(List Int×Int×Bool)->Prop} (hQ:∀ need,Zbv s ch need->Ret (Zao (ZCE (Zcg s) ch) (0,0,need,[])) Q):Ret (F43 (Zcg s) ch) Q:=by
 have hn:=X.n
 have hcl:(Zcg s).2.1.length=s.1.length:=X.clen
 have hva:gI (Zcg s).2.1 (Zcg s).1.2.2.2.1=some (atI (Zai s) s.2.2.2.1):=X.cget X.v.va
 have hst:gI (Zcg s).2.1 (Zcg s).1.2.2.2.2.1=some (atI (Zai s) s.2.2.2.2.1):=X.cget X.v.st
 have va:=X.ci.rng X.v.va
 have st:=X.ci.rng X.v.st
 have l0:inR (replicate s.1.length false).length (atI (Zai s) s.2.2.2.1):=by rw [length_replicate];exact va
 have l1:inR (Zaq (replicate s.1.length false) (atI (Zai s) s.2.2.2.1) true).length (atI (Zai s) s.2.2.2.2.1):=by rw [Zay,length_replicate];exact st
 simp only [F43,wq,reduceCtorEq,hva,hst,hcl,toNat_natCast,Zbj l0,Zbj l1]
 refine ⟨fun _=>?_,fun h=>absurd h (by omega)⟩
 refine ZdV (fun m (q:Bool×List Bool)=>Zls s ch q.2 false q.2 (fun _ _=>False)/\(q.1=false->∀ a p,inR s.1.length a->ZfW s p->ZaJ q.2 a=true->ZfX s ch a p->ZaJ q.2 p=true)/\m=Zid q.2+(if q.1=true then 1 else 0)) ?_ _ _ ⟨⟨by rw [Zay,Zay,length_replicate],fun q hq hg=>?_,?_,?_,le_refl _,(fun h=>by cases h),fun _=>⟨rfl,fun _ _ h=>h.elim⟩⟩,(fun h=>by cases h),rfl⟩
 ·rintro m ⟨more,need⟩ ⟨hp,hc,rfl⟩
  dsimp only at hp hc
  simp only [Z5y,wq,reduceCtorEq]
  refine ⟨fun ho=>?_,fun ho=>?_⟩
  ·subst ho
   refine (ZCL X hs need hp).mono fun r _ ⟨more',need',er,hp'⟩=>?_
   subst er
   rw [Zdd]
   refine ⟨_,?_,⟨hp'.len,hp'.sd,hp'.r1,hp'.r2,le_refl _,(fun h=>by cases h),fun _=>⟨rfl,fun _ _ h=>h.elim⟩⟩,fun h=>?_,rfl⟩
   ·cases more' with
    | true=>have:=hp'.on rfl;simp;omega
    | false=>rw [(hp'.off rfl).1];simp
   ·obtain ⟨e,h2⟩:=hp'.off h
    dsimp only
    rw [e]
    exact fun a p ha hpr hg hr=>h2 a p trivial ha hpr hg hr
  ·refine (hQ need (Zk0 X hp.len hp.sd hp.r1 hp.r2 (hc ho))).mono fun b _ hb=>?_
   rw [ZeY];exact hb
 ·rw [ZaN l1 hq.1] at hg
  split at hg
  ·subst ‹q=_›;exact .st
  ·rw [ZaN l0 hq.1] at hg
   split at hg
   ·subst ‹q=_›;exact .val
   ·rw [Zeq] at hg;cases hg
 ·rw [ZaN l1 va.1]
  split
  ·rfl
  ·rw [ZaN l0 va.1,if_pos rfl]
 ·rw [ZaN l1 st.1,if_pos rfl]
end
structure Act (s:Za5) (ch:List Int) (need:List Bool) (q:Int):Prop where
 r:inR s.1.length q
 n:ZaJ need q=true
 d:0<=ZaU s ch q
def Ed (s:Za5) (ch:List Int) (need:List Bool) (a b:Int):Prop:=Act s ch need a/\b∈Zbh s (ZaU s ch a)
inductive Pth (s:Za5) (ch:List Int) (need:List Bool):Int->Int->Prop
 | refl {a:Int}:Pth s ch need a a
 | snoc {a b c:Int}:Pth s ch need a b->Ed s ch need b c->Pth s ch need a c
inductive Dn (s:Za5) (ch:List Int):Int->Prop
 | mk {q:Int}:(∀ p∈Zbh s (ZaU s ch q),0<=ZaU s ch p->Dn s ch p)->Dn s ch q
def Zwc (s:Za5) (ch:List Int) (need:List Bool):Prop:=∃ q,Act s ch need q/\¬ Dn s ch q
theorem Pth.act {s:Za5} {ch:List Int} {need:List Bool} {a b:Int} (h:Pth s ch need a b):Act s ch need b->Act s ch need a:=by
 induction h with
 | refl=>exact id
 | snoc _ e ih=>exact fun _=>ih e.1
theorem Pth.head {s:Za5} {ch:List Int} {need:List Bool} {a b:Int} (h:Pth s ch need a b):a=b\/∃ c,Ed s ch need a c/\Pth s ch need c b:=by
 induction h with
 | refl=>exact .inl rfl
 | snoc _ e ih=>
  rcases ih with rfl | ⟨c,h1,h2⟩
  ·exact .inr ⟨_,e,.refl⟩
  ·exact .inr ⟨c,h1,h2.snoc e⟩
theorem Dn.no {s:Za5} {ch:List Int} {need:List Bool} {q:Int} (h:Dn s ch q):¬ ∃ p,Ed s ch need q p/\Pth s ch need p q:=by
 induction h with
 | mk h ih=>
  rintro ⟨p,e,hp⟩
  have hap:=hp.act e.1
  refine ih p e.2 hap.d ?_
  rcases hp.head with rfl | ⟨c,h1,h2⟩
  ·exact ⟨_,e,.refl⟩
  ·exact ⟨c,h1,h2.snoc e⟩
theorem Pth.cyc {s:Za5} {ch:List Int} {need:List Bool} {q b:Int} (h:Pth s ch need q b) (e:Ed s ch need b q):¬ Dn s ch q:=by
 intro hd
 rcases h.head with rfl | ⟨c,h1,h2⟩
 ·exact hd.no ⟨_,e,.refl⟩
 ·exact hd.no ⟨c,h1,h2.snoc e⟩
open Classical in
def ZtM (s:Za5) (ch:List Int) (need:List Bool):Bool:=decide (Zwc s ch need)
theorem Zk3 {s:Za5} {ch:List Int} {need:List Bool} (h:Zwc s ch need):true=ZtM s ch need:=by unfold ZtM;simp [h]
theorem Zie {s:Za5} {ch:List Int} {need:List Bool} (h:¬ Zwc s ch need):false=ZtM s ch need:=by unfold ZtM;simp [h]
section
variable {s:Za5} (X:Ctx s) {ch:List Int} (hs:Zdi s ch) {need:List Bool} (hN:Zbv s ch need)
include X hs hN
theorem Act.kid {q p:Int} (h:Act s ch need q) (hp:p∈Zbh s (ZaU s ch q)):ZfW s p/\ZaJ need p=true:=by
 have hr:=Zdf X (Zct X hs h.r h.d).1 hp
 refine ⟨hr,(hN.ok p hr.1).2 (.step ((hN.ok q h.r).1 h.n) ?_ hr)⟩
 unfold ZfX;rw [if_pos h.d];exact hp
theorem Act.kidAct {q p:Int} (h:Act s ch need q) (hp:p∈Zbh s (ZaU s ch q)) (hd:0<=ZaU s ch p):Act s ch need p:=
 ⟨(Act.kid X hs hN h hp).1.1,(Act.kid X hs hN h hp).2,hd⟩
structure ZvE (s:Za5) (ch:List Int) (need done:List Bool):Prop where
 len:done.length=s.1.length
 ok:∀ q,inR s.1.length q->ZaJ done q=true->Act s ch need q/\Dn s ch q
structure Zjc (s:Za5) (ch:List Int) (need d0:List Bool) (more:Bool) (done:List Bool) (k:Nat):Prop where
 i:ZvE s ch need done
 le:Zid done<=Zid d0
 on:more=true->Zid done < Zid d0
 off:more=false->done=d0/\∀ q:Int,q < k->Act s ch need q->ZaJ d0 q=false->∃ p∈Zbh s (ZaU s ch q),ZaJ d0 p=false/\0<=ZaU s ch p
theorem ZCN (d0:List Bool) (h0:ZvE s ch need d0) :
 Ret (Zao (ZDg (Zcg s) ch need) (false,0,d0)) fun r=>∃ more done,r=.inl (more,done)/\Zjc s ch need d0 more done s.1.length:=by
 have hn:=X.n
 have hnl:=hN.len
 refine Zac (fun q:Bool×Int×List Bool=>∃ k:Nat,q.2.1=k/\k<=s.1.length/\Zjc s ch need d0 q.1 q.2.2 k) (fun q=>s.1.length - q.2.1.toNat) ?_ _ ⟨0,rfl,by omega,h0,le_refl _,(fun h=>by cases h),fun _=>⟨rfl,fun q h ha=>by have:=ha.r.1;omega⟩⟩
 rintro ⟨more,_,done⟩ ⟨k,rfl,hk,hp⟩
 dsimp only at hp
 have hw:=Zab k (by omega)
 simp only [ZDg,ZwK,ZDO,wq,reduceCtorEq,hnl,hw]
 refine ⟨fun hlt=>?_,fun hge=>⟨more,done,rfl,(show k=s.1.length by omega)▸hp⟩⟩
 have hkr:inR s.1.length (k:Int):=⟨by omega,hlt⟩
 have hgn:gI need (k:Int)=some (ZaJ need k):=Zbj (by rw [hnl];exact hkr)
 have hgd:gI done (k:Int)=some (ZaJ done k):=Zbj (by rw [hp.i.len];exact hkr)
 have skip:(Act s ch need k->ZaJ done k=false->False)->(∃ k':Nat,(((k+1:Nat):Int))=k'/\k'<=s.1.length/\Zjc s ch need d0 more done k'):=fun hno=>
  ⟨k+1,rfl,by omega,hp.i,hp.le,hp.on,fun h=>⟨(hp.off h).1,fun q hq ha hg=>by
   by_cases e:q < k
   ·exact (hp.off h).2 q e ha hg
   ·obtain rfl:q=k:=by omega
    exact (hno ha (by rw [(hp.off h).1];exact hg)).elim⟩⟩
 have tail:∀ f:Int,(f=if ZaJ need k=true then ZaU s ch k else -1)->Ret (bif ZaJ done k then some (Sum.inl (β:=(Bool×List Bool)⊕((Bool×Int×List Bool)⊕((Bool×List Bool)⊕Bool))) (true,done)) else some (.inl (decide (f < 0),done))) fun a=>Ret (Sum.elim (ZDf (Zcg s) ch more (k:Int) f) some a) fun a=>Ret (Sum.elim (ZwK (k:Int)) some a) (Zev (fun q:Bool×Int×List Bool=>∃ k:Nat,q.2.1=k/\k<=s.1.length/\Zjc s ch need d0 q.1 q.2.2 k) (fun q=>s.1.length - q.2.1.toNat) (fun r=>∃ more done,r=.inl (more,done)/\Zjc s ch need d0 more done s.1.length) (more,(k:Int),done)):=by
  intro f hf
  simp only [ZDf,wq,reduceCtorEq]
  have fin:Ret (ZwK (k:Int) (more,done)) (Zev (fun q:Bool×Int×List Bool=>∃ k:Nat,q.2.1=k/\k<=s.1.length/\Zjc s ch need d0 q.1 q.2.2 k) (fun q=>s.1.length - q.2.1.toNat) (fun r=>∃ more done,r=.inl (more,done)/\Zjc s ch need d0 more done s.1.length) (more,(k:Int),done))↔((∃ k':Nat,(((k+1:Nat):Int))=k'/\k'<=s.1.length/\Zjc s ch need d0 more done k')/\s.1.length - (((k+1:Nat):Int)).toNat < s.1.length - ((k:Int)).toNat):=by
   simp only [ZwK,wq,reduceCtorEq,hw]
  refine ⟨fun e=>fin.2 ⟨skip fun _ h=>(by rw [e] at h;cases h),by omega⟩,fun e=>⟨fun h=>fin.2 ⟨skip fun ha _=>?_,by omega⟩,fun h=>?_⟩⟩
  ·rw [if_pos ha.n] at hf;have:=ha.d;omega
  ·have hne:ZaJ need k=true:=by
    cases hh:ZaJ need k
    ·rw [hh,if_neg (by simp)] at hf;omega
    ·rfl
   rw [if_pos hne] at hf
   subst hf
   have ha:Act s ch need k:=⟨hkr,hne,h⟩
   obtain ⟨hdr,_⟩:=Zct X hs hkr h
   have hkl:=X.kids.k _ (Zav hdr)
   have hkr2:=X.kids.r _ (Zav hdr)
   have hnd:gI (Zcg s).1.1 (ZaU s ch k)=some (Zar s.1 (ZaU s ch k)):=Za2 hdr
   rw [hnd]
   simp only [wq,reduceCtorEq]
   refine Zac (fun q:Bool×Int×List Bool=>∃ (ok:Bool) (j:Nat),q=(ok,(j:Int),done)/\j<=(Zar s.1 (ZaU s ch k)).2.2.length/\(ok=true↔∀ p∈Za9 s (ZaU s ch k) j,ZaJ done p=true\/ZaU s ch p < 0)) (fun q=>(Zar s.1 (ZaU s ch k)).2.2.length - q.2.1.toNat) ?_ _ ⟨true,0,rfl,by omega,by simp [Za9]⟩
   rintro _ ⟨ok,j,rfl,hj,hok⟩
   have hw2:=Zab j (by omega)
   simp only [ZDN,ZDM,wq,reduceCtorEq,hw2]
   refine ⟨fun hlt2=>Zaj (by omega) hlt2 fun y hy hym=>?_,fun hge2=>?_⟩
   ·have hyr:=hkr2 y hym
    have hcy:gI (Zcg s).2.1 y=some (atI (Zai s) y):=X.cget hyr
    have hcr:=X.ci.rng hyr
    rw [Zax] at hy
    have hgk:=ZbV X hy
    have hmk:∀ p,p∈Za9 s (ZaU s ch k) (j+1)↔p∈Za9 s (ZaU s ch k) j\/p=atI (Zai s) y:=fun p=>by
     unfold Za9;rw [take_add_one,hgk];simp
    have hgd2:gI done (atI (Zai s) y)=some (ZaJ done (atI (Zai s) y)):=Zbj (by rw [hp.i.len];exact hcr)
    rw [hcy]
    simp only [hgd2,ZbF X hs.1 hcr,wq,reduceCtorEq]
    refine ⟨fun e1=>⟨fun e2=>⟨⟨_,j+1,rfl,by omega,?_⟩,by omega⟩,fun e2=>⟨⟨_,j+1,rfl,by omega,?_⟩,by omega⟩⟩,fun e1=>⟨⟨_,j+1,rfl,by omega,?_⟩,by omega⟩⟩
    ·refine ⟨fun _ p hp'=>?_,fun _=>rfl⟩
     rcases (hmk p).1 hp' with hp' | rfl
     ·exact hok.1 e1 p hp'
     ·exact .inl e2
    ·rw [decide_eq_true_eq]
     constructor
     ·intro e3 p hp'
      rcases (hmk p).1 hp' with hp' | rfl
      ·exact hok.1 e1 p hp'
      ·exact .inr e3
     ·intro hh
      rcases hh _ ((hmk _).2 (.inr rfl)) with h4 | h4
      ·rw [e2] at h4;cases h4
      ·exact h4
    ·refine ⟨fun h=>(by cases h),fun hh=>?_⟩
     rw [hok.2 fun p hp'=>hh p ((hmk p).2 (.inl hp'))] at e1;cases e1
   ·have hall:Za9 s (ZaU s ch k) j=Zbh s (ZaU s ch k):=by unfold Za9;rw [take_of_length_le (by rw [Zbw X];omega)]
    rw [hall] at hok
    have hdl:inR done.length (k:Int):=by rw [hp.i.len];exact hkr
    simp only [hgd,wq,reduceCtorEq]
    refine ⟨fun e1=>?_,fun e1=>?_⟩
    ·simp only [ZwK,wq,reduceCtorEq,hw]
     have hcnt:=Zgk hdl e
     have hle:=hp.le
     refine ⟨⟨k+1,rfl,by omega,⟨by rw [Zay];exact hp.i.len,fun q hq hg=>?_⟩,by omega,fun _=>by omega,fun h=>by cases h⟩,by omega⟩
     rw [ZaN hdl hq.1] at hg
     split at hg
     ·subst ‹q=_›
      refine ⟨ha,.mk fun p hp' hd=>?_⟩
      rcases hok.1 e1 p hp' with h4 | h4
      ·exact (hp.i.ok p (Act.kid X hs hN ha hp').1.1 h4).2
      ·omega
     ·exact hp.i.ok q hq hg
    ·have hfin:(∃ k':Nat,(((k+1:Nat):Int))=k'/\k'<=s.1.length/\Zjc s ch need d0 more done k'):=by
      refine ⟨k+1,rfl,by omega,hp.i,hp.le,hp.on,fun h=>⟨(hp.off h).1,fun q hq ha' hg=>?_⟩⟩
      by_cases e2:q < k
      ·exact (hp.off h).2 q e2 ha' hg
      ·obtain rfl:q=k:=by omega
       have hno:¬ ∀ p∈Zbh s (ZaU s ch k),ZaJ done p=true\/ZaU s ch p < 0:=fun hh=>by rw [hok.2 hh] at e1;cases e1
       obtain ⟨p,hp'⟩:=Classical.not_forall.1 hno
       obtain ⟨hp1,hp2⟩:=Classical.not_imp.1 hp'
       refine ⟨p,hp1,?_,?_⟩
       ·rw [<-(hp.off h).1]
        cases hh:ZaJ done p
        ·rfl
        ·exact absurd (.inl hh) hp2
       ·have:=fun h4=>hp2 (.inr h4);omega
     exact fin.2 ⟨hfin,by omega⟩
 simp only [hgn,hgd,wq,reduceCtorEq,ZbF X hs.1 hkr]
 simp only [wq,reduceCtorEq] at tail
 refine ⟨fun e=>?_,fun e=>?_⟩
 ·exact tail _ (by rw [if_pos e])
 ·exact tail (-1) (by rw [e];simp)
theorem ZAO:F67 (Zcg s) ch need=some (ZtM s ch need):=by
 refine Ret.eq ?_
 have hn:=X.n
 have hnl:=hN.len
 simp only [F67,wq,reduceCtorEq,hnl,toNat_natCast]
 refine ⟨fun _=>?_,fun h=>absurd h (by omega)⟩
 refine ZdV (fun m (q:Bool×List Bool)=>ZvE s ch need q.2/\(q.1=false->∀ a,Act s ch need a->ZaJ q.2 a=false->∃ p∈Zbh s (ZaU s ch a),ZaJ q.2 p=false/\0<=ZaU s ch p)/\m=Zid q.2+(if q.1=true then 1 else 0)) ?_ _ _ ⟨⟨by simp,fun q hq hg=>by rw [Zeq] at hg;cases hg⟩,(fun h=>by cases h),rfl⟩
 rintro m ⟨more,done⟩ ⟨hi,hc,rfl⟩
 dsimp only at hi hc
 simp only [ZwL,wq,reduceCtorEq]
 refine ⟨fun ho=>?_,fun ho=>?_⟩
 ·subst ho
  refine (ZCN X hs hN done hi).mono fun r _ ⟨more',done',er,hp'⟩=>?_
  subst er
  rw [Zdd]
  refine ⟨_,?_,hp'.i,fun h=>?_,rfl⟩
  ·cases more' with
   | true=>have:=hp'.on rfl;simp;omega
   | false=>rw [(hp'.off rfl).1];simp
  ·obtain ⟨e,h2⟩:=hp'.off h
   dsimp only
   rw [e]
   exact fun a ha hg=>h2 a ha.r.2 ha hg
 ·have hall:∀ a,Dn s ch a->Act s ch need a->ZaJ done a=true:=by
   intro a hd
   induction hd with
   | mk h ih=>
    rename_i a
    intro ha
    cases hg:ZaJ done a
    ·obtain ⟨p,hp1,hp2,hp3⟩:=hc ho a ha hg
     rw [ih p hp1 hp3 (Act.kidAct X hs hN ha hp1 hp3)] at hp2;cases hp2
    ·rfl
  refine Ret.mono (Q:=fun b=>b=ZtM s ch need) ?_ (fun b _ hb=>by rw [ZeY];exact hb)
  refine Zac (fun q:Int×List Bool=>∃ k:Nat,q=((k:Int),done)/\k<=s.1.length/\∀ a:Int,a < k->Act s ch need a->Dn s ch a) (fun q=>s.1.length - q.1.toNat) ?_ _ ⟨0,rfl,by omega,fun a h ha=>by have:=ha.r.1;omega⟩
  rintro _ ⟨k,rfl,hk,hd⟩
  have hw:=Zab k (by omega)
  simp only [ZDQ,ZDP,wq,reduceCtorEq,hnl,hw]
  refine ⟨fun hlt=>?_,fun hge=>?_⟩
  ·have hkr:inR s.1.length (k:Int):=⟨by omega,hlt⟩
   have hgn:gI need (k:Int)=some (ZaJ need k):=Zbj (by rw [hnl];exact hkr)
   have hgd:gI done (k:Int)=some (ZaJ done k):=Zbj (by rw [hi.len];exact hkr)
   have next:(Act s ch need k->Dn s ch k)->(∃ k':Nat,((((k+1:Nat):Int)),done)=((k':Int),done)/\k'<=s.1.length/\∀ a:Int,a < k'->Act s ch need a->Dn s ch a):=fun h=>⟨k+1,rfl,by omega,fun a ha haa=>by
    by_cases e:a < k
    ·exact hd a e haa
    ·obtain rfl:a=k:=by omega
     exact h haa⟩
   simp only [hgn,hgd,ZbF X hs.1 hkr,wq,reduceCtorEq]
   refine ⟨fun e1=>⟨fun e2=>⟨fun e3=>?_,fun e3=>⟨next fun _=>(hi.ok _ hkr e3).2,by omega⟩⟩,fun e2=>⟨next fun ha=>by have:=ha.d;omega,by omega⟩⟩,fun e1=>⟨next fun ha=>(by rw [ha.n] at e1;cases e1),by omega⟩⟩
   have ha:Act s ch need k:=⟨hkr,e1,e2⟩
   exact Zk3 ⟨_,ha,fun h=>by rw [hall _ h ha] at e3;cases e3⟩
  ·exact Zie fun ⟨q,ha,h⟩=>h (hd q (by have:=ha.r.2;omega) ha)
end
def Zhb (l:List Int):Nat:=l.count 0
theorem ZmR {l:List Int} {i x:Int} (hi:inR l.length i) (h:atI l i=0) (hx:x≠0):Zhb (Zaq l i x)+1=Zhb l:=by
 have h1:=hi.1
 have h2:i.toNat < l.length:=by have:=hi.2;omega
 have h3:l[i.toNat]=0:=by
  unfold atI at h
  rw [getElem?_eq_getElem h2] at h;exact h
 unfold Zhb Zaq
 rw [count_set h2,h3]
 have:0 < l.count 0:=List.count_pos_iff.2 (by rw [<-h3];exact getElem_mem h2)
 simp [hx]
 omega
theorem Zhc {l:List Int} {i x:Int} (hi:inR l.length i) (hx:x≠0):Zhb (Zaq l i x)<=Zhb l:=by
 have h2:i.toNat < l.length:=by have:=hi.1;have:=hi.2;omega
 unfold Zhb Zaq
 rw [count_set h2]
 simp [hx]
theorem Zjd (n:Nat) (q:Int):atI (replicate n 0) q=0:=by
 unfold atI
 cases h:(replicate n (0:Int))[q.toNat]? with
 | none=>rfl
 | some r=>exact (List.mem_replicate.1 (mem_of_getElem? h)).2
abbrev StC:=Option Zwb×List Int×List Bool×Bool×List Int
section
variable {s:Za5} (X:Ctx s) {ch:List Int} (hs:Zdi s ch) {need:List Bool} (hN:Zbv s ch need)
structure DI (s:Za5) (ch:List Int) (need:List Bool) (st:List Int):Prop where
 len:st.length=s.1.length
 v:∀ q,inR s.1.length q->atI st q=0\/atI st q=1\/atI st q=2
 d1:∀ q,inR s.1.length q->atI st q=1->Act s ch need q
 d2:∀ q,inR s.1.length q->atI st q=2->Act s ch need q/\Dn s ch q
structure Z05 (s:Za5) (ch:List Int) (need:List Bool) (st st':List Int):Prop where
 i:DI s ch need st'
 one:∀ q,inR s.1.length q->(atI st' q=1↔atI st q=1)
 two:∀ q,inR s.1.length q->atI st q=2->atI st' q=2
 z:Zhb st'<=Zhb st
def Z2n (s:Za5) (ch:List Int) (need:List Bool) (c:Int) (st:List Int) (r:StC):Prop:=
 ∃ f st',r=(some (Zbz s),ch,need,f,st')/\st'.length=s.1.length/\(f=true->Zwc s ch need)/\(f=false->Z05 s ch need st st'/\(Act s ch need c->atI st' c=2))
theorem Z05.refl {st:List Int} (h:DI s ch need st):Z05 s ch need st st:=⟨h,fun _ _=>Iff.rfl,fun _ _ h=>h,le_refl _⟩
include X hs hN
theorem Zhd (n:Nat) (c:Int) (hc:inR s.1.length c) (st:List Int) (hl:st.length=s.1.length):N92 (n+1) c (some (Zbz s)) ch need true st=some (some (Zbz s),ch,need,true,st):=by
 refine Ret.eq ?_
 have hgn:gI need c=some (ZaJ need c):=Zbj (by rw [hN.len];exact hc)
 show Ret (G92 (N92 n) c (some (Zbz s)) ch need true st) _
 simp only [G92,Zm9 X hs.1 hc,hgn,wq,reduceCtorEq,ZyC]
theorem ZmS:∀ (n:Nat) (c:Int),ZfW s c->∀ st:List Int,DI s ch need st->(∀ q,inR s.1.length q->atI st q=1->∃ b,Pth s ch need q b/\Ed s ch need b c)->Zhb st < n ->
 Ret (N92 n c (some (Zbz s)) ch need false st) (Z2n s ch need c st)
 | 0,c,hc,st,hi,h1,hz=>by omega
 | n+1,c,hc,st,hi,h1,hz=>by
  have hgn:gI need c=some (ZaJ need c):=Zbj (by rw [hN.len];exact hc.1)
  have hcl:inR st.length c:=by rw [hi.len];exact hc.1
  have hgs:gI st c=some (atI st c):=ZaB hcl
  show Ret (G92 (N92 n) c (some (Zbz s)) ch need false st) _
  simp only [G92,Zm9 X hs.1 hc.1,hgn,hgs,wq,reduceCtorEq,ZyC]
  have stop:(Act s ch need c->atI st c=2)->Z2n s ch need c st (some (Zbz s),ch,need,false,st):=fun h=>⟨false,st,rfl,hi.len,(fun h=>by cases h),fun _=>⟨.refl hi,h⟩⟩
  refine ⟨fun e=>stop fun ha=>by have:=ha.d;omega,fun e1=>⟨fun e=>stop fun ha=>(by rw [ha.n] at e;cases e),fun e2=>⟨fun e=>stop fun _=>e,fun e3=>?_⟩⟩⟩
  have ha:Act s ch need c:=⟨hc.1,e2,e1⟩
  refine ⟨fun e=>?_,fun e4=>?_⟩
  ·obtain ⟨b,p1,p2⟩:=h1 c hc.1 e
   exact ⟨true,st,rfl,hi.len,fun _=>⟨c,ha,p1.cyc p2⟩,fun h=>by cases h⟩
  have e0:atI st c=0:=by rcases hi.v c hc.1 with h | h | h;exact h;exact absurd h e4;exact absurd h e3
  obtain ⟨hdr,_⟩:=Zct X hs hc.1 e1
  have hkl:=X.kids.k _ (Zav hdr)
  have hkr:=X.kids.r _ (Zav hdr)
  have hnd:gI (Zbz s).1.1 (ZaU s ch c)=some (Zar s.1 (ZaU s ch c)):=Za2 hdr
  simp only [hnd,wq,reduceCtorEq,bind_some]
  have hz1:=ZmR hcl e0 (x:=1) (by omega)
  have i1:DI s ch need (Zaq st c 1):=by
   refine ⟨by rw [Zay];exact hi.len,fun q hq=>?_,fun q hq h=>?_,fun q hq h=>?_⟩
   ·rw [Za3 hcl hq.1];split
    ·exact .inr (.inl rfl)
    ·exact hi.v q hq
   ·rw [Za3 hcl hq.1] at h;split at h
    ·subst ‹q=c›;exact ha
    ·exact hi.d1 q hq h
   ·rw [Za3 hcl hq.1] at h;split at h
    ·omega
    ·exact hi.d2 q hq h
  refine Zac (fun q:Int×StC=>∃ (j:Nat) (f:Bool) (st':List Int),q=((j:Int),some (Zbz s),ch,need,f,st')/\j<=(Zar s.1 (ZaU s ch c)).2.2.length/\st'.length=s.1.length/\(f=true->Zwc s ch need)/\(f=false->Z05 s ch need (Zaq st c 1) st'/\∀ p∈Za9 s (ZaU s ch c) j,Act s ch need p->atI st' p=2)) (fun q=>(Zar s.1 (ZaU s ch c)).2.2.length - q.1.toNat) ?_ _ ⟨0,false,_,rfl,by omega,i1.len,(fun h=>by cases h),fun _=>⟨.refl i1,fun p hp=>by simp [Za9] at hp⟩⟩
  rintro _ ⟨j,f,st',rfl,hj,hl',hf,hv⟩
  have hw:=Zab j (by omega)
  simp only [ZuZ,wq,reduceCtorEq,hw,bind_some]
  refine ⟨fun hlt=>Zaj (by omega) hlt fun y hy hym=>?_,fun hge=>?_⟩
  ·have hyr:=hkr y hym
   have hcy:gI (Zbz s).2.1 y=some (atI (Zai s) y):=X.cget hyr
   rw [hcy]
   simp only [wq,reduceCtorEq]
   rw [Zax] at hy
   have hgk:=ZbV X hy
   have hpm:atI (Zai s) y∈Zbh s (ZaU s ch c):=mem_of_getElem? hgk
   have hprep:=Zdf X hdr hpm
   have hmk:∀ p,p∈Za9 s (ZaU s ch c) (j+1)↔p∈Za9 s (ZaU s ch c) j\/p=atI (Zai s) y:=fun p=>by
    unfold Za9;rw [take_add_one,hgk];simp
   cases f with
   | true=>
    obtain ⟨n',rfl⟩:∃ n',n=n'+1:=⟨n - 1,by omega⟩
    rw [Zhd X hs hN n' _ hprep.1 st' hl']
    simp only [wq,reduceCtorEq]
    exact ⟨⟨j+1,true,st',rfl,by omega,hl',hf,fun h=>by cases h⟩,by omega⟩
   | false=>
    obtain ⟨hq,hk⟩:=hv rfl
    have hzz:=hq.z
    refine (ZmS n _ hprep st' hq.i (fun q hqr h=>?_) (by omega)).mono fun r _ ⟨f2,st2,er,hl2,hf2,hv2⟩=>?_
    ·have hh:=(hq.one q hqr).1 h
     rw [Za3 hcl hqr.1] at hh
     split at hh
     ·subst ‹q=c›;exact ⟨q,.refl,ha,hpm⟩
     ·obtain ⟨b,p1,p2⟩:=h1 q hqr hh
      exact ⟨c,p1.snoc p2,ha,hpm⟩
    ·subst er
     refine ⟨⟨j+1,f2,st2,rfl,by omega,hl2,hf2,fun h=>?_⟩,by omega⟩
     obtain ⟨w1,w2⟩:=hv2 h
     refine ⟨⟨w1.i,fun q hqr=>(w1.one q hqr).trans (hq.one q hqr),fun q hqr h=>w1.two q hqr (hq.two q hqr h),by have:=w1.z;omega⟩,fun p hp hap=>?_⟩
     rcases (hmk p).1 hp with hp | rfl
     ·exact w1.two p hap.r (hk p hp hap)
     ·exact w2 hap
  ·have hcl':inR st'.length c:=by rw [hl'];exact hc.1
   simp only [ZaB hcl',wq,reduceCtorEq]
   have hall:Za9 s (ZaU s ch c) j=Zbh s (ZaU s ch c):=by unfold Za9;rw [take_of_length_le (by rw [Zbw X];omega)]
   refine ⟨f,Zaq st' c 2,rfl,by rw [Zay];exact hl',hf,fun h=>?_⟩
   obtain ⟨hq,hk⟩:=hv h
   rw [hall] at hk
   have hd:Dn s ch c:=.mk fun p hp hdp=>by
    have hap:=Act.kidAct X hs hN ha hp hdp
    exact (hq.i.d2 p hap.r (hk p hp hap)).2
   have hzl:=Zhc hcl' (x:=2) (by omega)
   refine ⟨⟨⟨by rw [Zay];exact hl',fun q hqr=>?_,fun q hqr h=>?_,fun q hqr h=>?_⟩,fun q hqr=>?_,fun q hqr h=>?_,by have:=hq.z;omega⟩,fun _=>by rw [Za3 hcl' hc.1.1,if_pos rfl]⟩
   ·rw [Za3 hcl' hqr.1];split
    ·exact .inr (.inr rfl)
    ·exact hq.i.v q hqr
   ·rw [Za3 hcl' hqr.1] at h;split at h
    ·omega
    ·exact hq.i.d1 q hqr h
   ·rw [Za3 hcl' hqr.1] at h;split at h
    ·subst ‹q=c›;exact ⟨ha,hd⟩
    ·exact hq.i.d2 q hqr h
   ·rw [Za3 hcl' hqr.1]
    split
    ·subst ‹q=c›;rw [e0];omega
    ·rename_i hne
     rw [hq.one q hqr,Za3 hcl hqr.1,if_neg hne]
   ·rw [Za3 hcl' hqr.1]
    split
    ·rfl
    ·rename_i hne
     refine hq.two q hqr ?_
     rw [Za3 hcl hqr.1,if_neg hne];exact h
theorem Zzc:F79 (some (Zbz s)) ch need=some (ZtM s ch need):=by
 refine Ret.eq ?_
 have hn:=X.n
 have hcl:=hs.1
 have hrl:=Zde (Zai s) s.1.length
 simp only [F79,wq,reduceCtorEq,toNat_natCast,bind_some]
 refine ⟨fun _=>?_,fun h=>absurd h (by omega)⟩
 have hrep:∀ {k:Nat} {q:Int},(ZaW (Zai s) s.1.length)[k]?=some q->ZfW s q:=fun {k q} h=>by
  have hm:=mem_of_getElem? h
  unfold ZaW at hm
  rw [mem_filter] at hm
  obtain ⟨h1,h2⟩:=hm
  unfold idN at h1
  obtain ⟨i,hi,rfl⟩:=mem_map.1 h1
  have:=mem_range.1 hi
  exact ⟨⟨by omega,by omega⟩,by simpa using h2⟩
 have hall:∀ q,ZfW s q->q∈ZaW (Zai s) s.1.length:=fun q h=>by
  unfold ZaW
  rw [mem_filter]
  refine ⟨mem_map.2 ⟨q.toNat,mem_range.2 (by have:=h.1.1;have:=h.1.2;omega),by have:=h.1.1;omega⟩,by simp [h.2]⟩
 refine Zac (fun q:Int×Bool×Option Zwb×List Int×List Bool×List Int=>∃ (k:Nat) (f:Bool) (st:List Int),q=((k:Int),f,some (Zbz s),ch,need,st)/\k<=(ZaW (Zai s) s.1.length).length/\st.length=s.1.length/\(f=true->Zwc s ch need)/\(f=false->DI s ch need st/\(∀ q,inR s.1.length q->atI st q≠1)/\∀ p∈(ZaW (Zai s) s.1.length).take k,Act s ch need p->atI st p=2)) (fun q=>(ZaW (Zai s) s.1.length).length - q.1.toNat) ?_ _ ⟨0,false,replicate ch.length 0,rfl,by omega,by simp;omega,(fun h=>by cases h),fun _=>⟨⟨by simp;omega,fun q _=>.inl (Zjd _ _),fun q _ h=>(by rw [Zjd] at h;omega),fun q _ h=>(by rw [Zjd] at h;omega)⟩,fun q _=>(by rw [Zjd];omega),fun p hp=>by simp at hp⟩⟩
 rintro _ ⟨k,f,st,rfl,hk,hl,hf,hv⟩
 have hw:=Zab k (by omega)
 have htr:(Zbz s).2.2.1=ZaW (Zai s) s.1.length:=rfl
 simp only [ZE0,wq,reduceCtorEq,hw,htr]
 refine ⟨fun hlt=>Zaj (by omega) hlt fun c hc hcm=>?_,fun hge=>?_⟩
 ·rw [Zax] at hc
  have hcr:=hrep hc
  show Ret (N92 1000 c (some (Zbz s)) ch need f st) _
  cases f with
  | true=>
   rw [Zhd X hs hN 999 c hcr.1 st hl]
   simp only [wq,reduceCtorEq]
   exact ⟨⟨k+1,true,st,rfl,by omega,hl,hf,fun h=>by cases h⟩,by omega⟩
  | false=>
   obtain ⟨hi,h1,hk2⟩:=hv rfl
   have hz:Zhb st < 1000:=by
    have:Zhb st<=st.length:=List.count_le_length
    omega
   refine (ZmS X hs hN 1000 c hcr st hi (fun q hq h=>absurd h (h1 q hq)) hz).mono fun r _ ⟨f2,st2,er,hl2,hf2,hv2⟩=>?_
   subst er
   refine ⟨⟨k+1,f2,st2,rfl,by omega,hl2,hf2,fun h=>?_⟩,by omega⟩
   obtain ⟨w1,w2⟩:=hv2 h
   refine ⟨w1.i,fun q hq e=>h1 q hq ((w1.one q hq).1 e),fun p hp hap=>?_⟩
   rw [take_add_one,hc] at hp
   rcases mem_append.1 hp with hp | hp
   ·exact w1.two p hap.r (hk2 p hp hap)
   ·rw [show p=c by simpa using hp] at hap |-;exact w2 hap
 ·cases f with
  | true=>exact Zk3 (hf rfl)
  | false=>
   obtain ⟨hi,_,hk2⟩:=hv rfl
   rw [take_of_length_le (by omega)] at hk2
   exact Zie fun ⟨q,ha,h⟩=>h (hi.d2 q ha.r (hk2 q (hall q (Zb7.rep X ((hN.ok q ha.r).1 ha.n))) ha)).2
end
def ZfL (s:Za5) (row:List Int):Nat->Int
 | 0=>-1
 | k+1=>if ZfL s row k < 0\/ncM (Zar s.1 (atI row (k:Int))) < ZfL s row k then ncM (Zar s.1 (atI row (k:Int))) else ZfL s row k
theorem Zqv (s:Za5) (row:List Int):∀ k,-1<=ZfL s row k/\ZfL s row k<=20/\(0 < k->0<=ZfL s row k)
 | 0=>⟨by simp [ZfL],by simp [ZfL],fun h=>by omega⟩
 | k+1=>by
  have ih:=Zqv s row k
  obtain ⟨_,_,h1,h2⟩:=ZCf (Zar s.1 (atI row (k:Int)))
  unfold ZfL
  split<;>refine ⟨by omega,by omega,fun _=>by omega⟩
def lbS (s:Za5) (ch:List Int) (need:List Bool) (a:List Int×List Int×Int) (q:Int):List Int×List Int×Int:=
 if ZaJ need q=true then
  if 0<=ZaU s ch q then (a.1++[q],a.2.1,wrap .i64 (a.2.2+ncM (Zar s.1 (ZaU s ch q))))
  else (a.1++[q],a.2.1++[q],wrap .i64 (a.2.2+ZfL s (Zaw (Zaz s) q) (Zaw (Zaz s) q).length))
 else a
def lbF (s:Za5) (ch:List Int) (need:List Bool) (l:List Int):List Int×List Int×Int:=l.foldl (lbS s ch need) ([],[],0)
theorem Zje (s:Za5) (ch:List Int) (need:List Bool) (l:List Int) (q:Int):lbF s ch need (l++[q])=lbS s ch need (lbF s ch need l) q:=by
 unfold lbF;rw [List.foldl_append];rfl
theorem ZvH (s:Za5) (ch:List Int) (need:List Bool) (a:List Int×List Int×Int) (q:Int):(lbS s ch need a q).1.length<=a.1.length+1/\(lbS s ch need a q).2.1.length<=a.2.1.length+1:=by
 unfold lbS
 split
 ·split<;>simp
 ·simp
theorem Zqw (s:Za5) (ch:List Int) (need:List Bool) (l:List Int):(lbF s ch need l).1.length<=l.length/\(lbF s ch need l).2.1.length<=l.length:=by
 have key:∀ (l:List Int) (a:List Int×List Int×Int),(l.foldl (lbS s ch need) a).1.length<=a.1.length+l.length/\(l.foldl (lbS s ch need) a).2.1.length<=a.2.1.length+l.length:=by
  intro l
  induction l with
  | nil=>intro a;simp
  | cons q l ih=>
   intro a
   have h1:=ih (lbS s ch need a q)
   have h2:=ZvH s ch need a q
   simp only [List.foldl_cons,length_cons]
   omega
 have:=key l ([],[],0)
 simpa [lbF] using this
def lbM (s:Za5) (ch:List Int) (need:List Bool):List Int×List Int×Int×Bool:=
 let r:=lbF s ch need (ZaW (Zai s) s.1.length)
 (r.1,r.2.1,r.2.2,!ZtM s ch need)
section
variable {s:Za5} (X:Ctx s) {ch:List Int} (hs:Zdi s ch) {need:List Bool} (hN:Zbv s ch need)
include X hs hN
theorem Zsm {k:Nat} {q:Int} (h:(ZaW (Zai s) s.1.length)[k]?=some q):ZfW s q:=by
 have hm:=mem_of_getElem? h
 unfold ZaW at hm
 rw [mem_filter] at hm
 obtain ⟨h1,h2⟩:=hm
 unfold idN at h1
 obtain ⟨i,hi,rfl⟩:=mem_map.1 h1
 have:=mem_range.1 hi
 exact ⟨⟨by omega,by omega⟩,by simpa using h2⟩
theorem ZCO:Ret (Zao (ZC8 (some (Zbz s)) ch (Zbz s)) (0,0,false,0,false,need,[],[])) fun r=>r=lbM s ch need:=by
 have hn:=X.n
 have hrl:=Zde (Zai s) s.1.length
 have htr:(Zbz s).2.2.1=ZaW (Zai s) s.1.length:=rfl
 refine Zac (fun q:Int×Int×Bool×Int×Bool×List Bool×List Int×List Int=>∃ k:Nat,k<=(ZaW (Zai s) s.1.length).length/\q=((k:Int),0,false,(lbF s ch need ((ZaW (Zai s) s.1.length).take k)).2.2,false,need,(lbF s ch need ((ZaW (Zai s) s.1.length).take k)).1,(lbF s ch need ((ZaW (Zai s) s.1.length).take k)).2.1)) (fun q=>(ZaW (Zai s) s.1.length).length - q.1.toNat) ?_ _ ⟨0,by omega,by simp [lbF]⟩
 rintro _ ⟨k,hk,rfl⟩
 have hw:=Zab k (by omega)
 simp only [ZC8,ZDm,wq,reduceCtorEq,hw,htr]
 refine ⟨fun hlt=>Zaj (by omega) hlt fun q hq hqm=>?_,fun hge=>?_⟩
 ·rw [Zax] at hq
  have hrep:=Zsm X hs hN hq
  have hgn:gI need q=some (ZaJ need q):=Zbj (by rw [hN.len];exact hrep.1)
  have hlen:=Zqw s ch need ((ZaW (Zai s) s.1.length).take k)
  rw [length_take] at hlen
  have hnext:lbF s ch need ((ZaW (Zai s) s.1.length).take (k+1))=lbS s ch need (lbF s ch need ((ZaW (Zai s) s.1.length).take k)) q:=by
   rw [take_add_one,hq];exact Zje _ _ _ _ _
  generalize lbF s ch need ((ZaW (Zai s) s.1.length).take k)=a at *
  simp only [hgn,wq,reduceCtorEq,Zm9 X hs.1 hrep.1,bind_some]
  refine ⟨fun e=>⟨⟨k+1,by omega,?_⟩,by omega⟩,fun e=>⟨fun _=>⟨fun hd=>?_,fun hd=>⟨fun _=>?_,fun h=>absurd h (by simp only [length_cons,length_nil];omega)⟩⟩,fun h=>absurd h (by simp only [length_cons,length_nil];omega)⟩⟩
  ·rw [hnext,lbS,if_neg (by rw [e];simp)]
  ·have hnd:gI (Zbz s).1.1 (ZaU s ch q)=some (Zar s.1 (ZaU s ch q)):=Za2 (Zct X hs hrep.1 hd).1
   rw [hnd]
   simp only [wq,reduceCtorEq,(ZCf _).1]
   refine ⟨⟨k+1,by omega,?_⟩,by omega⟩
   rw [hnext,lbS,if_pos e,if_pos hd]
  ·have htl:=X.tlen
   have hq':inR (Zbz s).2.2.2.length q:=by show inR (Zaz s).length q;rw [htl];exact hrep.1
   rw [Z6Y,if_pos hq']
   show Ret (some (Zaw (Zaz s) q)) _
   rw [ZaH]
   have hrowl:=X.cI.len q hrep.1
   refine Zac (fun st:Int×Int×Int×Bool×Int×Bool×List Bool×List Int×List Int=>∃ j:Nat,j<=(Zaw (Zaz s) q).length/\st=(ZfL s (Zaw (Zaz s) q) j,(j:Int),0,false,a.2.2,false,need,a.1++[q],a.2.1++[q])) (fun st=>(Zaw (Zaz s) q).length - st.2.1.toNat) ?_ _ ⟨0,by omega,rfl⟩
   rintro _ ⟨j,hj,rfl⟩
   have hw2:=Zab j (by omega)
   simp only [ZE5,ZDm,ZE4,ZE3,wq,reduceCtorEq,hw,hw2,bind_some]
   refine ⟨fun hlt2=>Zaj (by omega) hlt2 fun f hf hfm=>?_,fun hge2=>?_⟩
   ·have hfr:=(X.cI.mem q hrep.1 f hfm).1
    have hnd:gI (Zbz s).1.1 f=some (Zar s.1 f):=Za2 hfr
    have hat:=ZhU hf
    rw [hnd]
    simp only [wq,reduceCtorEq,(ZCf _).1]
    have hl1:ZfL s (Zaw (Zaz s) q) (j+1)=if ZfL s (Zaw (Zaz s) q) j < 0\/ncM (Zar s.1 f) < ZfL s (Zaw (Zaz s) q) j then ncM (Zar s.1 f) else ZfL s (Zaw (Zaz s) q) j:=by
     conv=>lhs;unfold ZfL
     rw [hat]
    refine ⟨fun h1=>⟨⟨j+1,by omega,?_⟩,by omega⟩,fun h1=>⟨fun h2=>⟨⟨j+1,by omega,?_⟩,by omega⟩,fun h2=>⟨⟨j+1,by omega,?_⟩,by omega⟩⟩⟩
    ·rw [hl1,if_pos (.inl h1)]
    ·rw [hl1,if_pos (.inr h2)]
    ·rw [hl1,if_neg (by omega)]
   ·have:j=(Zaw (Zaz s) q).length:=by omega
    refine ⟨⟨k+1,by omega,?_⟩,by omega⟩
    rw [hnext,lbS,if_pos e,if_neg (by omega),<-this]
 ·rw [Zzc X hs hN]
  simp only [wq,reduceCtorEq]
  rw [take_of_length_le (by omega)]
  rfl
theorem ZCP:Ret (Zao (ZCE (Zcg s) ch) (0,0,need,[])) fun r=>r=(lbM s ch need).2:=by
 have hn:=X.n
 have hcl:(Zcg s).2.1.length=s.1.length:=X.clen
 refine Zac (fun q:Int×Int×List Bool×List Int=>∃ k:Nat,k<=s.1.length/\q=((lbF s ch need (ZaW (Zai s) k)).2.2,(k:Int),need,(lbF s ch need (ZaW (Zai s) k)).2.1)) (fun q=>s.1.length - q.2.1.toNat) ?_ _ ⟨0,by omega,by simp [lbF,ZaW,idN]⟩
 rintro _ ⟨k,hk,rfl⟩
 have hw:=Zab k (by omega)
 simp only [ZCE,ZDh,wq,reduceCtorEq,hw,hcl]
 refine ⟨fun hlt=>?_,fun hge=>?_⟩
 ·have hkr:inR s.1.length (k:Int):=⟨by omega,hlt⟩
  have hgn:gI need (k:Int)=some (ZaJ need k):=Zbj (by rw [hN.len];exact hkr)
  have hlen:=Zqw s ch need (ZaW (Zai s) k)
  have hrl:=Zde (Zai s) k
  have hrep:ZaJ need k=true->ZfW s (k:Int):=fun e=>Zb7.rep X ((hN.ok _ hkr).1 e)
  have hnext:ZaJ need k=true->lbF s ch need (ZaW (Zai s) (k+1))=lbS s ch need (lbF s ch need (ZaW (Zai s) k)) k:=fun e=>by
   rw [Zeo,if_pos (hrep e).2];exact Zje _ _ _ _ _
  have hnext0:ZaJ need k=false->lbF s ch need (ZaW (Zai s) (k+1))=lbF s ch need (ZaW (Zai s) k):=fun e=>by
   rw [Zeo]
   split
   ·rw [Zje,lbS,if_neg (by rw [e];simp)]
   ·rfl
  generalize lbF s ch need (ZaW (Zai s) k)=a at *
  simp only [hgn,wq,reduceCtorEq,ZbF X hs.1 hkr]
  refine ⟨fun e=>⟨⟨k+1,by omega,?_⟩,by omega⟩,fun e=>⟨fun hd=>?_,fun hd=>⟨fun _=>?_,fun h=>absurd h (by simp only [length_cons,length_nil];omega)⟩⟩⟩
  ·rw [hnext0 e]
  ·have hnd:gI (Zcg s).1.1 (ZaU s ch k)=some (Zar s.1 (ZaU s ch k)):=Za2 (Zct X hs hkr hd).1
   rw [hnd]
   simp only [wq,reduceCtorEq,(ZCf _).2.1]
   refine ⟨⟨k+1,by omega,?_⟩,by omega⟩
   rw [hnext e,lbS,if_pos e,if_pos hd]
  ·have htg:gI (Zcg s).2.2 (k:Int)=some (Zaw (Zaz s) k):=X.tget hkr
   have hrowl:=X.cI.len _ hkr
   obtain ⟨f0,r0,hcons⟩:=List.exists_cons_of_ne_nil (Zqr X (hrep e))
   have hpos:0 < (Zaw (Zaz s) k).length:=by rw [hcons];simp
   have hg0:gI (Zaw (Zaz s) k) 0=some f0:=by rw [hcons];rfl
   have hf0:=(X.cI.mem _ hkr f0 (by rw [hcons];simp)).1
   have hnd:gI (Zcg s).1.1 f0=some (Zar s.1 f0):=Za2 hf0
   simp only [htg,hg0,hnd,wq,reduceCtorEq,(ZCf _).2.1]
   have hl0:ZfL s (Zaw (Zaz s) k) 1=ncM (Zar s.1 f0):=by
    have:atI (Zaw (Zaz s) k) ((0:Nat):Int)=f0:=by rw [hcons];rfl
    unfold ZfL;rw [if_pos (.inl (by simp [ZfL])),this]
   refine Zac (fun st:Int×Int×List Bool×List Int=>∃ j:Nat,j<=(Zaw (Zaz s) k).length/\st=(ZfL s (Zaw (Zaz s) k) (max j 1),(j:Int),need,a.2.1++[(k:Int)])) (fun st=>(Zaw (Zaz s) k).length - st.2.1.toNat) ?_ _ ⟨0,by omega,by show _=(ZfL s (Zaw (Zaz s) k) 1,_,_,_);rw [hl0];rfl⟩
   rintro _ ⟨j,hj,rfl⟩
   have hw2:=Zab j (by omega)
   simp only [ZDS,ZDh,htg,wq,reduceCtorEq,hw,hw2]
   refine ⟨fun hlt2=>Zaj (by omega) hlt2 fun f hf hfm=>?_,fun hge2=>?_⟩
   ·have hfr:=(X.cI.mem _ hkr f hfm).1
    have hnd:gI (Zcg s).1.1 f=some (Zar s.1 f):=Za2 hfr
    have hat:=ZhU hf
    rw [hnd]
    simp only [wq,reduceCtorEq,(ZCf _).2.1]
    refine ⟨⟨j+1,by omega,?_⟩,by omega⟩
    have hb:=Zqv s (Zaw (Zaz s) k) (max j 1)
    congr 1
    by_cases hj0:j=0
    ·subst hj0
     rw [Zax] at hf
     have hfe:f=f0:=by rw [hcons] at hf;simpa using hf.symm
     subst hfe
     show (if ncM (Zar s.1 f) < ZfL s (Zaw (Zaz s) k) 1 then _ else ZfL s (Zaw (Zaz s) k) 1)=ZfL s (Zaw (Zaz s) k) 1
     rw [hl0];simp
    ·have e1:max j 1=j:=by omega
     have e2:max (j+1) 1=j+1:=by omega
     rw [e1] at hb
     rw [e1,e2]
     conv=>rhs;unfold ZfL
     rw [hat]
     have:=hb.2.2 (by omega)
     by_cases hc:ncM (Zar s.1 f) < ZfL s (Zaw (Zaz s) k) j
     ·rw [if_pos hc,if_pos (.inr hc)]
     ·rw [if_neg hc,if_neg (by omega)]
   ·have:max j 1=(Zaw (Zaz s) k).length:=by omega
    refine ⟨⟨k+1,by omega,?_⟩,by omega⟩
    rw [hnext e,lbS,if_pos e,if_neg (by omega),this]
 ·rw [ZAO X hs hN]
  simp only [wq,reduceCtorEq]
  have:k=s.1.length:=by omega
  subst this
  rfl
end
structure Z4G (s:Za5) (ch:List Int):Prop where
 len:ch.length<=s.1.length
 sel:ZcO s->Zdi s ch
theorem ZBu {s:Za5} (h:ZmA s) (hn:s.1.length<=900) (l:List Int):Ret (F5 s l) (Z4G s):=by
 unfold F5
 rw [ZAW s h]
 simp only [wq,reduceCtorEq]
 cases hb:ZdT s
 ·simp only [cond_false]
  refine ⟨fun _=>?_,fun h=>absurd h (by simp)⟩
  refine Zac (fun q:Int×List Int=>q=(0,[])) (fun _=>0) ?_ _ rfl
  rintro _ rfl
  simp only [Z5R,wq,reduceCtorEq]
  exact ⟨fun hlt=>by simp at hlt,fun _=>⟨by simp,fun hv=>by rw [ZcH hv] at hb;cases hb⟩⟩
 ·have hv:=Zel.1 hb
  have X:Ctx s:=⟨h,hv,hn⟩
  have hcl:=X.clen
  simp only [cond_true,hcl,toNat_natCast]
  refine ⟨fun _=>?_,fun h=>absurd h (by omega)⟩
  refine Zac (fun q:Int×List Int=>∃ (i:Nat) (out:List Int),q=((i:Int),out)/\i<=s.1.length/\out.length=s.1.length/\∀ j,inR s.1.length j->j < i->atI out j=-1\/(atI (Zai s) j=j/\inR s.1.length (atI out j)/\atI (Zai s) (atI out j)=j)) (fun q=>s.1.length - q.1.toNat) ?_ _ ⟨0,_,rfl,by omega,by simp,fun j h1 h2=>by have:=h1.1;omega⟩
  rintro _ ⟨i,out,rfl,hi,hol,hO⟩
  have hw:=Zab i (by omega)
  simp only [Z5R,Z5O,wq,reduceCtorEq,hcl,hw]
  refine ⟨fun hlt=>?_,fun hge=>⟨by omega,fun _=>⟨hol,fun j hj=>hO j hj (by have:=hj.2;omega)⟩⟩⟩
  have hir:inR s.1.length (i:Int):=⟨by omega,hlt⟩
  have hil:inR out.length (i:Int):=by rw [hol];exact hir
  simp only [ZaB hil,X.cget hir,wq,reduceCtorEq]
  have next:∀ v:Int,v=-1\/(atI (Zai s) (i:Int)=i/\inR s.1.length v/\atI (Zai s) v=i)->∀ o:List Int,o.length=s.1.length->(∀ j,0<=j->atI o j=if j=i then v else atI out j)->(∃ (i':Nat) (out':List Int),(((i+1:Nat):Int),o)=((i':Int),out')/\i'<=s.1.length/\out'.length=s.1.length/\∀ j,inR s.1.length j->j < i'->atI out' j=-1\/(atI (Zai s) j=j/\inR s.1.length (atI out' j)/\atI (Zai s) (atI out' j)=j)):=by
   intro v hv o ho hat
   refine ⟨i+1,o,rfl,by omega,ho,fun j hj hlt=>?_⟩
   rw [hat j hj.1]
   split
   ·subst ‹j=_›;exact hv
   ·exact hO j hj (by omega)
  have s1:∀ j,0<=j->atI (Zaq out (i:Int) (-1)) j=if j=i then -1 else atI out j:=fun j hj=>Za3 hil hj
  refine ⟨fun e=>⟨next (-1) (.inl rfl) _ (by rw [Zay];exact hol) s1,by omega⟩,fun e=>?_⟩
  refine Zac (fun q:Int×List Int×List Int=>∃ (k:Nat) (all:List Int),q=((k:Int),Zaq out (i:Int) (-1),all)/\i<=k/\k<=s.1.length/\all.length+i<=k/\(i < k->0 < all.length)/\∀ x∈all,inR s.1.length x/\atI (Zai s) x=i) (fun q=>s.1.length - q.1.toNat) ?_ _ ⟨i,[],rfl,by omega,by omega,by simp,fun h=>by omega,fun x hx=>by cases hx⟩
  rintro _ ⟨k,all,rfl,hk1,hk2,hal,hpos,hall⟩
  have hw2:=Zab k (by omega)
  simp only [Z5Q,ZB1,wq,reduceCtorEq,hcl,hw2]
  refine ⟨fun hlt2=>?_,fun hge2=>?_⟩
  ·have hkr:inR s.1.length (k:Int):=⟨by omega,hlt2⟩
   simp only [X.cget hkr,wq,reduceCtorEq]
   refine ⟨fun e2=>⟨fun _=>⟨⟨k+1,_,rfl,by omega,by omega,by simp;omega,fun _=>by simp,fun x hx=>?_⟩,by omega⟩,fun h=>absurd h (by simp only [length_cons,length_nil];omega)⟩,fun e2=>⟨⟨k+1,all,rfl,by omega,by omega,by omega,fun _=>?_,hall⟩,by omega⟩⟩
   ·rcases mem_append.1 hx with hx | hx
    ·exact hall x hx
    ·rw [mem_singleton.1 hx];exact ⟨hkr,e2⟩
   ·refine hpos ?_
    by_cases h:i < k
    ·exact h
    ·obtain rfl:i=k:=by omega
     exact absurd e e2
  ·have hp:0 < all.length:=hpos (by omega)
   have J:∀ n:Int,Ret (ZEN (i:Int) (n,Zaq out (i:Int) (-1),all)) fun a=>Ret (Sum.elim (Z5O (i:Int)) some a) (Zev (fun q:Int×List Int=>∃ (i:Nat) (out:List Int),q=((i:Int),out)/\i<=s.1.length/\out.length=s.1.length/\∀ j,inR s.1.length j->j < i->atI out j=-1\/(atI (Zai s) j=j/\inR s.1.length (atI out j)/\atI (Zai s) (atI out j)=j)) (fun q=>s.1.length - q.1.toNat) (Z4G s) ((i:Int),out)):=by
    intro n
    have hil2:inR (Zaq out (i:Int) (-1)).length (i:Int):=by rw [Zay];exact hil
    simp only [ZEN,Z5O,wq,reduceCtorEq,hw]
    refine ZCc (by omega) (by omega) fun r r0 r1=>⟨fun _=>?_,fun _=>⟨next (-1) (.inl rfl) _ (by rw [Zay];exact hol) s1,by omega⟩⟩
    refine ZCc (by omega) (by omega) fun p p0 p1=>Zaj p0 p1 fun y hy hym=>?_
    simp only [Za4 hy,ZaB hil2,wq,reduceCtorEq]
    refine ⟨next y (.inr ⟨e,(hall y hym).1,(hall y hym).2⟩) _ (by rw [Zay,Zay];exact hol) fun j hj=>?_,by omega⟩
    rw [Za3 hil2 hj]
    split
    ·rfl
    ·rw [s1 j hj,if_neg ‹_›]
   refine ⟨fun h1=>Zaj (by omega) (by omega) fun y hy _=>J y,fun _=>J 0⟩
def ZnF (s:Za5) (a b:List Int):Prop:=∀ j,inR s.1.length j->atI a j=-1\/atI a j=atI b j
theorem Z6z {x y:Zae} (h:x.1=y.1):ncM x=ncM y:=by
 obtain ⟨a,b,c⟩:=x
 obtain ⟨a',b',c'⟩:=y
 dsimp only at h
 subst h
 rfl
theorem Z63 (s:Za5) (row:List Int):∀ k,k<=row.length->∀ f∈row.take k,ZfL s row k<=ncM (Zar s.1 f)
 | 0,_,f,hf=>by simp at hf
 | k+1,hk,f,hf=>by
  have ih:=Z63 s row k (by omega)
  obtain ⟨y,hy⟩:=ZeS (l:=row) (i:=k) (by omega)
  have hat:atI row (k:Int)=y:=by unfold atI;rw [toNat_natCast,hy];rfl
  rw [take_add_one,hy] at hf
  unfold ZfL
  rw [hat]
  rcases mem_append.1 hf with hf | hf
  ·have:=ih f hf
   have hb:=(Zqv s row k).2.2
   split
   ·rename_i h
    rcases h with h | h
    ·have:0 < k:=by
      cases k with
      | zero=>simp at hf
      | succ k=>omega
     have:=hb this;omega
    ·omega
   ·exact this
  ·rw [show f=y by simpa using hf]
   split<;>omega
def Z6u (s:Za5) (ch:List Int) (q:Int):Int:=if 0<=ZaU s ch q then ncM (Zar s.1 (ZaU s ch q)) else ZfL s (Zaw (Zaz s) q) (Zaw (Zaz s) q).length
def Z60 (s:Za5) (ch:List Int) (need:List Bool) (l:List Int):Int:=(l.map fun q=>if ZaJ need q=true then Z6u s ch q else 0).sum
section
variable {s:Za5} (X:Ctx s)
include X
theorem Z6w (ch:List Int) {q:Int} (hq:ZfW s q):0<=Z6u s ch q/\Z6u s ch q<=20:=by
 unfold Z6u
 split
 ·exact (ZCf _).2.2
 ·have hne:=Zqr X hq
  have hb:=Zqv s (Zaw (Zaz s) q) (Zaw (Zaz s) q).length
  have hpos:0 < (Zaw (Zaz s) q).length:=List.length_pos_iff.2 hne
  exact ⟨hb.2.2 hpos,hb.2.1⟩
theorem Z69 (ch:List Int) (need:List Bool) (a:List Int×List Int×Int) (q:Int):(lbS s ch need a q).2.2=if ZaJ need q=true then wrap .i64 (a.2.2+Z6u s ch q) else a.2.2:=by
 unfold lbS Z6u
 split
 ·split<;>rfl
 ·rfl
theorem Z64 (ch:List Int) (need:List Bool):∀ l:List Int,(∀ q∈l,ZfW s q)->0<=Z60 s ch need l/\Z60 s ch need l<=20 * l.length
 | [],_=>by simp [Z60]
 | q::l,h=>by
  have ih:=Z64 ch need l fun p hp=>h p (mem_cons_of_mem _ hp)
  have hb:=Z6w X ch (h q (by simp))
  unfold Z60 at ih |-
  simp only [map_cons,sum_cons,length_cons]
  split<;>omega
theorem Z65 (ch:List Int) (need:List Bool) (l:List Int) (q:Int):Z60 s ch need (l++[q])=Z60 s ch need l+(if ZaJ need q=true then Z6u s ch q else 0):=by
 simp [Z60]
theorem Z61 (ch:List Int) (need:List Bool) (l:List Int) (hl:l.length≤900) (h:∀ q∈l,ZfW s q):∀ k≤l.length,(lbF s ch need (l.take k)).2.2=Z60 s ch need (l.take k)
 | 0,_=>by simp [lbF,Z60]
 | k+1,hk=>by
  have ih:=Z61 ch need l hl h k (by omega)
  obtain ⟨q,hq⟩:=ZeS (l:=l) (i:=k) (by omega)
  have hqr:=h q (mem_of_getElem? hq)
  have hb:=Z6w X ch hqr
  have hs:=Z64 X ch need (l.take k) fun p hp=>h p (mem_of_mem_take hp)
  have hlt:(l.take k).length<=900:=by rw [length_take];omega
  rw [take_add_one,hq]
  simp only [toList_some]
  rw [Zje,Z69 X,ih,Z65 X]
  split
  ·rw [Zau (by omega) (by omega)]
  ·omega
theorem ZmT {q:Int} (h:q∈ZaW (Zai s) s.1.length):ZfW s q:=by
 unfold ZaW at h
 rw [mem_filter] at h
 obtain ⟨h1,h2⟩:=h
 unfold idN at h1
 obtain ⟨i,hi,rfl⟩:=mem_map.1 h1
 have:=mem_range.1 hi
 exact ⟨⟨by omega,by omega⟩,by simpa using h2⟩
theorem Z62 (ch:List Int) (need:List Bool):(lbM s ch need).2.2.1=Z60 s ch need (ZaW (Zai s) s.1.length):=by
 have h:=Z61 X ch need (ZaW (Zai s) s.1.length) (by have:=Zde (Zai s) s.1.length;have:=X.n;omega) (fun q hq=>ZmT X hq) _ (le_refl _)
 rw [take_length] at h
 exact h
theorem Zsp {a b:List Int} (ha:Zdi s a) (hb:Zdi s b) (h:ZnF s a b) {q:Int} (hq:inR s.1.length q) (hd:0<=ZaU s a q):0<=ZaU s b q/\ZbH s.1.length (Zai s) (Zar s.1 (ZaU s a q)) (Zar s.1 (ZaU s b q)):=by
 have hK:=X.kids
 by_cases h0:0<=atI a q
 ·have e:atI a q=atI b q:=by rcases h q hq with e | e;omega;exact e
  have e1:ZaU s a q=atI a q:=by unfold ZaU;rw [if_pos h0]
  have e2:ZaU s b q=atI a q:=by unfold ZaU;rw [<-e,if_pos h0]
  rw [e2,e1]
  exact ⟨h0,ZbH.rfl' hK (Zav (by rw [<-e1];exact (Zct X ha hq hd).1))⟩
 ·have e1:ZaU s a q=if (Zaw (Zaz s) q).length=1 then atI (Zaw (Zaz s) q) 0 else -1:=by unfold ZaU;rw [if_neg h0]
  by_cases h1:(Zaw (Zaz s) q).length=1
  ·rw [if_pos h1] at e1
   obtain ⟨f0,hf0⟩:=List.length_eq_one_iff.1 h1
   have e1':ZaU s a q=f0:=by rw [e1,hf0];rfl
   have hfr:=(Zct X ha hq hd).1
   by_cases h2:0<=atI b q
   ·have e2:ZaU s b q=atI b q:=by unfold ZaU;rw [if_pos h2]
    rcases hb.2 q hq with e3 | ⟨_,e4,e5⟩
    ·omega
    ·rw [e2]
     refine ⟨h2,?_⟩
     obtain ⟨j',m,hc⟩:=X.cI.cov _ e4 e4.2
     rw [e5,hf0,mem_singleton] at m
     rw [e1',<-m];exact hc
   ·have e2:ZaU s b q=f0:=by unfold ZaU;rw [if_neg h2,if_pos h1,hf0];rfl
    rw [e2,<-e1']
    exact ⟨hd,ZbH.rfl' hK (Zav hfr)⟩
  ·rw [if_neg h1] at e1;omega
theorem ZvI {b:List Int} (hb:Zdi s b) {q:Int} (hq:inR s.1.length q) (hd:0<=ZaU s b q):∃ f∈Zaw (Zaz s) q,inR s.1.length f/\ZbH s.1.length (Zai s) (Zar s.1 f) (Zar s.1 (ZaU s b q)):=by
 obtain ⟨h1,h2⟩:=Zct X hb hq hd
 obtain ⟨j',m,hc⟩:=X.cI.cov _ h1 h1.2
 rw [h2] at m
 exact ⟨j',m,(X.cI.mem q hq j' m).1,hc⟩
theorem Zif {f g:Int} (h:ZbH s.1.length (Zai s) (Zar s.1 f) (Zar s.1 g)):Zbh s f=Zbh s g:=h.map
theorem Zsq {a b:List Int} (ha:Zdi s a) (hb:Zdi s b) (h:ZnF s a b) {q p:Int} (hq:inR s.1.length q) (hr:ZfX s a q p):ZfX s b q p:=by
 unfold ZfX at hr |-
 by_cases hd:0<=ZaU s a q
 ·rw [if_pos hd] at hr
  obtain ⟨h1,h2⟩:=Zsp X ha hb h hq hd
  rw [if_pos h1,<-Zif X h2];exact hr
 ·rw [if_neg hd] at hr
  by_cases hd2:0<=ZaU s b q
  ·rw [if_pos hd2]
   obtain ⟨f,hf,_,hc⟩:=ZvI X hb hq hd2
   rw [<-Zif X hc];exact hr f hf
  ·rw [if_neg hd2];exact hr
theorem ZnG {a b:List Int} (ha:Zdi s a) (hb:Zdi s b) (h:ZnF s a b) {q:Int} (hr:Zb7 s a q):Zb7 s b q:=by
 induction hr with
 | val=>exact .val
 | st=>exact .st
 | step h1 h2 h3 ih=>exact .step ih (Zsq X ha hb h (Zb7.rep X h1).1 h2) h3
theorem Z66 {a b:List Int} (ha:Zdi s a) (hb:Zdi s b) (h:ZnF s a b) {q:Int} (hq:inR s.1.length q):Z6u s a q<=Z6u s b q:=by
 unfold Z6u
 by_cases hd:0<=ZaU s a q
 ·obtain ⟨h1,h2⟩:=Zsp X ha hb h hq hd
  rw [if_pos hd,if_pos h1,Z6z h2.op];omega
 ·rw [if_neg hd]
  by_cases hd2:0<=ZaU s b q
  ·rw [if_pos hd2]
   obtain ⟨f,hf,_,hc⟩:=ZvI X hb hq hd2
   rw [<-Z6z hc.op]
   exact Z63 s _ _ (le_refl _) f (by rw [take_length];exact hf)
  ·rw [if_neg hd2];omega
end
end Go.Dat
end
