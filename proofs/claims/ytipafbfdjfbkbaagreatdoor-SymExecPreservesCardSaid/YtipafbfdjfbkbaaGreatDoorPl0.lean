import Derived.Test.YtipafbfdjfbkbaaGreatDoorSb
import Derived.Test.YtipafbfdjfbkbaaGreatDoorFd
import Derived.Test.YtipafbfdjfbkbaaGreatDoorE2Run
noncomputable section
set_option linter.unusedVariables false
set_option linter.unusedSimpArgs false
set_option linter.unusedSectionVars false
open Go.IntKind (wrap)
open ByteArray (empty)
open Int (tdiv tmod fdiv toNat)
open List (getElem?_eq_getElem getElem?_append_left getElem?_append_right length_cons replicate mem_singleton mem_of_getElem? take_add_one length_nil mem_cons take_length all_eq_true append_assoc length_append mem_append getElem?_take cons_append mem_cons_of_mem flatMap_cons getElem?_map getElem_mem length_take drop_zero flatMap_nil append_nil)
open Nat (le_refl pow_add reducePow le_of_ble_eq_true mul_comm pow_succ pow_zero div_one mod_eq_of_lt)
open Option (bind_some map_some bind_none map_none)
open Bool (false_eq_true)
namespace Go.Proofs.YtipafbfdjfbkbaaGreatDoor
open Go.Eng Go.Dat
def Z9b (n:Nat):Zbc:=⟨[.bx 0 0,.dat (.int .i64),.dat (.int .i64),.sl 1],[.box [.sl 2,.mp 3,.dat (.list (.int .i64))] true,.own (.int .i64) true,.own (.st (.prod (.int .i64) (.prod (.int .i64) (.list (.int .i64))))) true,.map .str (.int .i64)],1,[.dat (.int .i64)],[(0,.bx 0 0)],[.box [.sl 1,.mp 2,.dat (.list (.int .i64))] true,.own (.st (.prod (.int .i64) (.prod (.int .i64) (.list (.int .i64))))) true,.map .str (.int .i64)],fun (x:Int×Int×List Int×List Int×(List (Int×Int×List Int))×List (ByteArray×Int))=>(N17 n x.1 x.2.1 x.2.2.1 x.2.2.2.1 x.2.2.2.2.1 x.2.2.2.2.2:Option (Int×List Int×(List (Int×Int×List Int))×List (ByteArray×Int)))⟩
end Go.Proofs.YtipafbfdjfbkbaaGreatDoor
namespace Go.Proofs.YtipafbfdjfbkbaaGreatDoor
open Go.Eng Go.Dat
def ZDo (n:Nat):Zbc:=⟨[.bx 0 0,.dat (.int .i64)],[.box [.dat (.list (.st (.prod .str (.int .i64)))),.dat (.list (.st (.prod .str (.prod (.int .i64) (.prod (.list (.st (.prod (.int .i64) (.prod (.int .i64) (.list (.int .i64)))))) (.prod (.int .i64) (.int .i64))))))),.dat .str,.dat (.int .i64),.dat (.list (.st (.prod (.int .i64) (.prod (.int .i64) (.list (.int .i64)))))),.dat (.int .i64),.dat (.int .i64),.dat (.list (.list .bool)),.sl 1,.sl 2,.dat (.list (.int .i64)),.dat (.int .i64),.dat (.int .i64),.dat (.int .i64),.dat (.int .i64),.sl 3,.sl 4,.sl 5] true,.own (.int .i64) false,.own (.list (.int .i64)) false,.own .bool true,.own (.tree .res) true,.own (.list (.tree .res)) true],1,[.agg [.dat (.int .i64),.dat (.list (.list (.int .i64))),.dat (.list (.int .i64)),.dat (.int .i64),.dat (.int .i64),.dat (.int .i64),.dat (.int .i64),.dat (.list (.tree .res))]],[(0,.bx 0 0)],[.box [.dat (.list (.st (.prod .str (.int .i64)))),.dat (.list (.st (.prod .str (.prod (.int .i64) (.prod (.list (.st (.prod (.int .i64) (.prod (.int .i64) (.list (.int .i64)))))) (.prod (.int .i64) (.int .i64))))))),.dat .str,.dat (.int .i64),.dat (.list (.st (.prod (.int .i64) (.prod (.int .i64) (.list (.int .i64)))))),.dat (.int .i64),.dat (.int .i64),.dat (.list (.list .bool)),.sl 1,.sl 2,.dat (.list (.int .i64)),.dat (.int .i64),.dat (.int .i64),.dat (.int .i64),.dat (.int .i64),.sl 3,.sl 4,.sl 5] true,.own (.int .i64) false,.own (.list (.int .i64)) false,.own .bool true,.own (.tree .res) true,.own (.list (.tree .res)) true],fun (x:Int×(List (ByteArray×Int))×(List (ByteArray×Int×(List (Int×Int×List Int))×Int×Int))×ByteArray×Int×(List (Int×Int×List Int))×Int×Int×List (List Bool)×List Int×Int×Int×Int×Int×List Int×List (List Int)×List Bool×List ReT×List (List ReT))=>(N22 n x.1 x.2.1 x.2.2.1 x.2.2.2.1 x.2.2.2.2.1 x.2.2.2.2.2.1 x.2.2.2.2.2.2.1 x.2.2.2.2.2.2.2.1 x.2.2.2.2.2.2.2.2.1 x.2.2.2.2.2.2.2.2.2.1 x.2.2.2.2.2.2.2.2.2.2.1 x.2.2.2.2.2.2.2.2.2.2.2.1 x.2.2.2.2.2.2.2.2.2.2.2.2.1 x.2.2.2.2.2.2.2.2.2.2.2.2.2.1 x.2.2.2.2.2.2.2.2.2.2.2.2.2.2.1 x.2.2.2.2.2.2.2.2.2.2.2.2.2.2.2.1 x.2.2.2.2.2.2.2.2.2.2.2.2.2.2.2.2.1 x.2.2.2.2.2.2.2.2.2.2.2.2.2.2.2.2.2.1 x.2.2.2.2.2.2.2.2.2.2.2.2.2.2.2.2.2.2:Option (Int×List (List Int)×List Int×Int×Int×Int×Int×List ReT×(List (ByteArray×Int))×(List (ByteArray×Int×(List (Int×Int×List Int))×Int×Int))×ByteArray×Int×(List (Int×Int×List Int))×Int×Int×List (List Bool)×List Int×Int×Int×Int×Int×List Int×List (List Int)×List Bool×List ReT×List (List ReT)))⟩
end Go.Proofs.YtipafbfdjfbkbaaGreatDoor
namespace Go.Dat
open Go.Eng
theorem Zau {n:Int} (h1:-9223372036854775808<=n) (h2:n<=9223372036854775807):wrap .i64 n=n:=by
 show (let m:=n % (2 ^ 64:Int);if true&&m>=(2 ^ 63:Int) then m - (2 ^ 64:Int) else m)=n;simp only [Bool.true_and,ge_iff_le,decide_eq_true_eq];split<;>omega
theorem ZLB (n:Int):-9223372036854775808<=wrap .i64 n/\wrap .i64 n<=9223372036854775807:=by
 show -9223372036854775808<=(let m:=n % (2 ^ 64:Int);if true&&m>=(2 ^ 63:Int) then m - (2 ^ 64:Int) else m)/\(let m:=n % (2 ^ 64:Int);if true&&m>=(2 ^ 63:Int) then m - (2 ^ 64:Int) else m)<=9223372036854775807;simp only [Bool.true_and,ge_iff_le,decide_eq_true_eq];split<;>omega
variable {α β σ:Type}
def Ret (o:Option α) (Q:α->Prop):Prop:=∃ a,o=some a/\Q a
theorem ZaH {a:α} {Q:α->Prop}:Ret (some a) Q=Q a:=by
 apply propext;constructor
 ·rintro ⟨b,h,q⟩;cases h;exact q
 ·intro q;exact ⟨a,rfl,q⟩
theorem Zgg {Q:α->Prop}:Ret (none:Option α) Q=False:=by
 apply propext;constructor
 ·rintro ⟨b,h,q⟩;cases h
 ·intro h;exact h.elim
theorem Zmt {o:Option α} {f:α->Option β} {Q:β->Prop}:Ret (o.bind f) Q=Ret o fun a=>Ret (f a) Q:=by
 cases o with
 | none=>simp only [bind_none,Zgg]
 | some a=>simp only [bind_some,ZaH]
theorem ZpH {o:Option α} {f:α->β} {Q:β->Prop}:Ret (o.map f) Q=Ret o fun a=>Q (f a):=by
 cases o with
 | none=>simp only [map_none,Zgg]
 | some a=>simp only [map_some,ZaH]
theorem ZpI {b:Bool} {x y:Option α} {Q:α->Prop}:Ret (bif b then x else y) Q=((b=true->Ret x Q)/\(b=false->Ret y Q)):=by
 cases b<;>simp
theorem Ret.mono {o:Option α} {Q R:α->Prop} (h:Ret o Q) (i:∀ a,o=some a->Q a->R a):Ret o R:=by
 obtain ⟨a,e,q⟩:=h;exact ⟨a,e,i a e q⟩
theorem Ret.eq {o:Option α} {a:α} (h:Ret o fun b=>b=a):o=some a:=by obtain ⟨b,e,q⟩:=h;rw [e,q]
theorem Za4 {o:Option α} {a:α} (h:o=some a) {Q:α->Prop}:Ret o Q=Q a:=by rw [h,ZaH]
theorem Zn9 {l:List α} {i:Int} (h0:0<=i) (h1:i < l.length):∃ x,gI l i=some x/\x∈l:=by
 have h:i.toNat < l.length:=by omega
 refine ⟨l[i.toNat],?_,getElem_mem h⟩;unfold gI;rw [if_pos h0,getElem?_eq_getElem h]
theorem Zax (l:List α) (k:Nat):gI l (k:Int)=l[k]?:=by
 unfold gI;rw [if_pos (by omega)];rfl
theorem ZaI {l:List α} {i:Int} {x:α} (h:gI l i=some x):0<=i/\i < l.length/\l[i.toNat]?=some x:=by
 unfold gI at h;split at h
 ·have:=(List.getElem?_eq_some_iff.1 h).1;exact ⟨‹_›,by omega,h⟩
 ·cases h
theorem ZeR {l:List α} {i:Int} {x:α} (h:gI l i=some x):x∈l:=mem_of_getElem? (ZaI h).2.2
theorem Zaj {l:List α} {i:Int} {Q:α->Prop} (h0:0<=i) (h1:i < l.length) (h:∀ x,gI l i=some x->x∈l->Q x):Ret (gI l i) Q:=by
 obtain ⟨x,e,m⟩:=Zn9 h0 h1;exact ⟨x,e,h x e m⟩
theorem Zay (l:List α) (i:Int) (x:α):(Zaq l i x).length=l.length:=by simp [Zaq]
theorem Zf1 {F:σ->Option (σ⊕β)}:∀ {n m:Nat} {s:σ} {b:β},n<=m->Zd9 F n s=some b->Zd9 F m s=some b
 | 0,_,_,_,_,h=>by cases h
 | n+1,0,_,_,hm,_=>by omega
 | n+1,m+1,s,b,hm,h=>by
  unfold Zd9 at h |-
  cases hF:F s with
  | none=>rw [hF] at h;cases h
  | some r=>
   rw [hF] at h;cases r with
   | inl s'=>exact Zf1 (n:=n) (m:=m) (by omega) h
   | inr b'=>exact h
theorem ZiQ {F:σ->Option (σ⊕β)} {n:Nat} {s:σ} {b:β} (h:Zd9 F n s=some b):Zao F s=some b:=by
 have hex:∃ b,∃ n,Zd9 F n s=some b:=⟨b,n,h⟩
 unfold Zao;rw [dif_pos hex];obtain ⟨m,hm⟩:=hex.choose_spec;have h1:=Zf1 (Nat.le_max_left n m) h;have h2:=Zf1 (Nat.le_max_right n m) hm;rw [h1] at h2;rw [<-Option.some.inj h2]
theorem ZhS {F:σ->Option (σ⊕β)} {s s':σ} (h:F s=some (.inl s')):Zao F s=Zao F s':=by
 have key:(∃ b,∃ n,Zd9 F n s=some b)↔∃ b,∃ n,Zd9 F n s'=some b:=by
  constructor
  ·rintro ⟨b,n,e⟩;cases n with
   | zero=>cases e
   | succ n=>
    unfold Zd9 at e;rw [h] at e;exact ⟨b,n,e⟩
  ·rintro ⟨b,n,e⟩;refine ⟨b,n+1,?_⟩;unfold Zd9;rw [h];exact e
 by_cases hx:∃ b,∃ n,Zd9 F n s'=some b
 ·obtain ⟨b,n,e⟩:=hx;rw [ZiQ e];refine ZiQ (n:=n+1) ?_;unfold Zd9;rw [h];exact e
 ·have hy:¬ ∃ b,∃ n,Zd9 F n s=some b:=fun x=>hx (key.1 x);unfold Zao;rw [dif_neg hx,dif_neg hy]
theorem ZgS {F:σ->Option (σ⊕β)} {s:σ} {b:β} (h:F s=some (.inr b)):Zao F s=some b:=ZiQ (n:=1) (by unfold Zd9;rw [h];rfl)
def Zev (I:σ->Prop) (m:σ->Nat) (Q:β->Prop) (s:σ):σ⊕β->Prop
 | .inl s'=>I s'/\m s' < m s
 | .inr b=>Q b
theorem ZgT {I:σ->Prop} {m:σ->Nat} {Q:β->Prop} {s s':σ}:Zev I m Q s (.inl s')=(I s'/\m s' < m s):=rfl
theorem Zkj {I:σ->Prop} {m:σ->Nat} {Q:β->Prop} {s:σ} {b:β}:Zev I m Q s (.inr b)=Q b:=rfl
theorem Zac {F:σ->Option (σ⊕β)} (I:σ->Prop) (m:σ->Nat) {Q:β->Prop} (h:∀ s,I s->Ret (F s) (Zev I m Q s)):∀ s,I s->Ret (Zao F s) Q:=by
 intro s
 induction hn:m s using Nat.strongRecOn generalizing s with
 | _ n ih=>
  intro hI;obtain ⟨r,e,q⟩:=h s hI;cases r with
  | inr b=>exact ⟨b,ZgS e,q⟩
  | inl s'=>
   obtain ⟨b,e2,q2⟩:=ih (m s') (by rw [<-hn];exact q.2) s' rfl q.1;exact ⟨b,by rw [ZhS e];exact e2,q2⟩
theorem wp:type_of% (And.intro @ZaH (And.intro @Zgg (And.intro @Zmt (And.intro @ZpH (And.intro @ZpI (And.intro @decide_eq_true_eq (And.intro @decide_eq_false_iff_not
 (And.intro @ZgT (And.intro @Zkj (And.intro @Bool.not_eq_true' (And.intro @Bool.not_eq_false' (And.intro @beq_iff_eq.{0} (And.intro @bne_iff_ne.{0} (And.intro @beq_eq_false_iff_ne.{0} (And.intro @bne_eq_false_iff_eq.{0}
 (And.intro @Int.not_le (And.intro @Int.not_lt (And.intro @false_implies (And.intro @true_implies (And.intro @and_true (And.intro @true_and
 (And.intro @not_true_eq_false (And.intro @not_false_eq_true (And.intro @decide_true (And.intro @decide_false (And.intro @Bool.not_true @Bool.not_false)))))))))))))))))))))))))):=
 And.intro @ZaH (And.intro @Zgg (And.intro @Zmt (And.intro @ZpH (And.intro @ZpI (And.intro @decide_eq_true_eq (And.intro @decide_eq_false_iff_not
 (And.intro @ZgT (And.intro @Zkj (And.intro @Bool.not_eq_true' (And.intro @Bool.not_eq_false' (And.intro @beq_iff_eq.{0} (And.intro @bne_iff_ne.{0} (And.intro @beq_eq_false_iff_ne.{0} (And.intro @bne_eq_false_iff_eq.{0}
 (And.intro @Int.not_le (And.intro @Int.not_lt (And.intro @false_implies (And.intro @true_implies (And.intro @and_true (And.intro @true_and
 (And.intro @not_true_eq_false (And.intro @not_false_eq_true (And.intro @decide_true (And.intro @decide_false (And.intro @Bool.not_true @Bool.not_false)))))))))))))))))))))))))
theorem wq:type_of% (And.intro @wp (And.intro @Sum.elim_inl.{0,1,0} (And.intro @Sum.elim_inr.{0,1,0} (And.intro @ne_eq.{1} (And.intro @ge_iff_le.{0} (And.intro @gt_iff_lt.{0} (And.intro @forall_const.{0} (And.intro @forall_const.{1} (And.intro Bool.true_eq_false (And.intro false_eq_true (And.intro @implies_true.{0} (@implies_true.{1})))))))))))):=And.intro @wp (And.intro @Sum.elim_inl.{0,1,0} (And.intro @Sum.elim_inr.{0,1,0} (And.intro @ne_eq.{1} (And.intro @ge_iff_le.{0} (And.intro @gt_iff_lt.{0} (And.intro @forall_const.{0} (And.intro @forall_const.{1} (And.intro Bool.true_eq_false (And.intro false_eq_true (And.intro @implies_true.{0} (@implies_true.{1})))))))))))
end Go.Dat
namespace Go.Dat
open Go.Eng
abbrev Zae:=Int×Int×List Int
abbrev Zew:=Int×Int×Int×List Int×List Int
abbrev Za5:=List Zae×List Zew×List (Int×Int×Int)×Int×Int×Int×Int
def inR (n:Nat) (i:Int):Prop:=0<=i/\i < n
instance (n:Nat) (i:Int):Decidable (inR n i):=by unfold inR;infer_instance
def ZnA (n m:Int):Int:=if n.tmod m < 0 then n.tmod m+m else n.tmod m
theorem ZpJ (n m:Int) (hm:0 < m):-m < n.tmod m/\n.tmod m < m:=by
 constructor
 ·have:=Int.tmod_lt_of_pos (-n) hm;rw [Int.neg_tmod] at this;omega
 ·exact Int.tmod_lt_of_pos n hm
theorem Zmu (n m:Int) (hm:0 < m):0<=ZnA n m/\ZnA n m < m:=by
 have:=ZpJ n m hm;unfold ZnA;split<;>omega
theorem ZJs (n m:Int) (hm:0 < m) (h2:m<=9223372036854775807):F13 n m=some (ZnA n m):=by
 have hb:=ZpJ n m hm;refine Ret.eq ?_;simp only [F13,Z8l,wq,reduceCtorEq];refine ⟨by omega,fun _=>⟨fun h=>?_,fun h=>?_⟩⟩
 ·rw [Zau (by omega) (by omega),ZnA,if_pos h]
 ·rw [ZnA,if_neg (by omega)]
theorem Z5k {n m:Int} {Q:Int->Prop} (hm:0 < m) (h2:m<=9223372036854775807) (h:∀ r,0<=r->r < m->Q r):Ret (F13 n m) Q:=by
 rw [ZJs n m hm h2,ZaH];exact h _ (Zmu n m hm).1 (Zmu n m hm).2
theorem ZGh {α:Type} {D:List α} {i:Nat} {x:α} (h:D[i]?=some x):gI D (i:Int)=some x:=by rw [Zax];exact h
theorem Zab (k:Nat) (h:k<=9223372036854775806):wrap .i64 ((k:Int)+1)=((k+1:Nat):Int):=by rw [Zau (by omega) (by omega)];omega
theorem Zcf {α:Type} (l:List α) (i:Nat) (x:α):Zaq l (i:Int) x=l.set i x:=rfl
theorem ZaA {α:Type} {l:List α} {i:Nat} {x:α} (h:l[i]?=some x):i < l.length:=(List.getElem?_eq_some_iff.1 h).1
theorem ZeS {α:Type} {l:List α} {i:Nat} (h:i < l.length):∃ x,l[i]?=some x:=⟨_,getElem?_eq_getElem h⟩
theorem Zzz (ok:Bool) (n:Int):F82 ok n=some (bif ok then n else 0):=by cases ok<;>rfl
theorem ZAH (k:List Int) (h:k.length<=1000000):Ret (F83 k) fun _=>True:=by
 unfold F83;refine Zac (fun i:Int=>∃ n:Nat,i=n/\n<=k.length) (fun i=>k.length - i.toNat) ?_ _ ⟨0,rfl,by omega⟩;rintro _ ⟨n,rfl,hn⟩;simp only [ZDI,wq,reduceCtorEq];refine fun hlt=>Zaj (by omega) hlt fun y hy hm=>?_;have hw:=Zab n (by omega);simp only [wq,reduceCtorEq,hw];exact fun _=>⟨⟨n+1,rfl,by omega⟩,by omega⟩
theorem ZvD (op:Int):Ret (Z0r op) fun _=>True:=by
 simp only [Z0r,Ztv,wq,reduceCtorEq]
theorem ZNq (op n:Int):Ret (F81 op n) fun _=>True:=by
 simp only [F81,wq,reduceCtorEq];refine fun _=>Ret.mono (ZvD op) fun r _ _=>?_;simp only [ZuL,wq,reduceCtorEq]
def ZaY (op:Int):Int×Bool:=
 if op=1\/op=2\/op=3\/op=26 then (0,true) else
 if op=20\/op=21\/op=24\/op=25 then (1,true) else
 if (4<=op/\op<=19)\/op=23\/op=27\/op=29 then (2,true) else
 if op=22\/op=28 then (3,true) else
 if op=30\/op=31 then (-1,true) else (0,false)
theorem Z6K (op:Int):F26 op=some (ZaY op):=by
 refine Ret.eq ?_;simp only [F26,Z5H,Z9o,Z9n,Z9m,Z9l,wq,reduceCtorEq,ZaY];refine ⟨fun h=>?_,fun h=>?_⟩<;>(repeat' first | apply And.intro | intro _)<;>(repeat' split)<;>first | rfl | (exfalso;omega)
theorem Zmw {α:Type} (l:List α) (a b:Int):(slI l a b).length<=l.length:=by
 unfold slI;simp;omega
theorem ZTv (l:List Zae) (n:Zae) (k:List Int) (hk:k.length=n.2.2.length) (hl:k.length<=1000000) (hkid:∀ x∈n.2.2,0<=x/\x < l.length) (hb:∀ x∈l,x.2.2.length<=1000000) (ha:(ZaY n.1).2=true) (hr:0<=(ZaY n.1).1->(n.2.2.length:Int)=(ZaY n.1).1):Ret (ZRq l n k false) fun _=>True:=by
 have h22:n.1=22->k.length=3:=fun h=>by rw [h] at hr;have:=hr (by decide);rw [show (ZaY 22).1=3 from rfl] at this;omega
 have h28:n.1=28->k.length=3:=fun h=>by rw [h] at hr;have:=hr (by decide);rw [show (ZaY 28).1=3 from rfl] at this;omega
 have h23:n.1=23->k.length=2:=fun h=>by rw [h] at hr;have:=hr (by decide);rw [show (ZaY 23).1=2 from rfl] at this;omega
 have h27:n.1=27->k.length=2:=fun h=>by rw [h] at hr;have:=hr (by decide);rw [show (ZaY 27).1=2 from rfl] at this;omega
 have h29:n.1=29->k.length=2:=fun h=>by rw [h] at hr;have:=hr (by decide);rw [show (ZaY 29).1=2 from rfl] at this;omega
 have h24:n.1=24->k.length=1:=fun h=>by rw [h] at hr;have:=hr (by decide);rw [show (ZaY 24).1=1 from rfl] at this;omega
 have h25:n.1=25->k.length=1:=fun h=>by rw [h] at hr;have:=hr (by decide);rw [show (ZaY 25).1=1 from rfl] at this;omega
 have hd:tdiv (k.length:Int) 2=((k.length / 2:Nat):Int):=by rw [Int.tdiv_eq_ediv_of_nonneg (by omega)];rfl
 have hm:tmod (k.length:Int) 2=((k.length % 2:Nat):Int):=by rw [Int.tmod_eq_emod_of_nonneg (by omega)];rfl
 have hq:wrap .i64 ((k.length / 2:Nat):Int)=((k.length / 2:Nat):Int):=Zau (by omega) (by omega);have hq1:wrap .i64 (((k.length / 2:Nat):Int)+1)=((k.length / 2+1:Nat):Int):=Zab _ (by omega);have hq2:wrap .i64 (((k.length / 2:Nat):Int)+2)=((k.length / 2+2:Nat):Int):=by rw [Zau (by omega) (by omega)];omega
 have h64:∀ a b:Int,Ret (F83 (slI k a b)) fun _=>True:=fun a b=>ZAH _ (by have:=Zmw k a b;omega);have h64':Ret (F83 k) fun _=>True:=ZAH _ hl;simp only [ZRq,ZRz,ZRv,ZR3,ZRs,ZRw,ZRu,ZR6,ZRD,Zzz,wq,reduceCtorEq,hd,hm,hq,hq1,hq2,h64,h64'];have hkid0:n.1=25->Ret (gI n.2.2 0) fun a=>Ret (gI l a) fun a=>True:=fun h=>Zaj (by omega) (by have:=h25 h;omega) fun x _ hx=>Zaj (hkid x hx).1 (hkid x hx).2 fun _ _ _=>trivial
 repeat' first | apply And.intro | (intro _) | exact hkid0 ‹_› | exact ZAH _ hl | refine Ret.mono (h64 _ _) fun _ _ _=>?_ | refine Zaj (by omega) (by omega) fun _ _ _=>?_ | trivial | omega
theorem Z76 (l:List Zae) (n:Zae) (k:List Int) (hk:k.length=n.2.2.length) (hl:k.length<=1000000) (hkid:∀ x∈n.2.2,0<=x/\x < l.length) (hb:∀ x∈l,x.2.2.length<=1000000):Ret (F50 l n k) fun _=>True:=by
 have ht:Ret (ZRq l n k true) fun _=>True:=by simp only [ZRq,wq,reduceCtorEq]
 have hf:=ZTv l n k hk hl hkid hb;simp only [F50,Z6K,wq,reduceCtorEq];refine ⟨fun _=>ht,fun h1=>⟨fun h2=>⟨fun _=>ht,fun h3=>?_⟩,fun h2=>?_⟩⟩
 ·refine Ret.mono (ZNq _ _) fun b _ _=>?_;cases b
  ·exact ht
  ·exact hf h1 (fun _=>h3)
 ·refine Ret.mono (ZNq _ _) fun b _ _=>?_;cases b
  ·exact ht
  ·exact hf h1 (fun h=>by omega)
def Zkk (l:List Zae) (m:Nat) (out:List Int):Prop:=out.length=m/\(∀ (i:Nat) (c:Int),(c=0\/c=1)->i < m->l[i]?=some (2,c,[])->out[i]?=some 1)/\(∀ i:Nat,i < m->l[i]?=some (26,0,[])->out[i]?=some 2)
theorem Zkk.push {l:List Zae} {m:Nat} {out:List Int} (h:Zkk l m out) {r:Int} (h1:∀ c:Int,(c=0\/c=1)->l[m]?=some (2,c,[])->r=1) (h2:l[m]?=some (26,0,[])->r=2):Zkk l (m+1) (out++[r]):=by
 obtain ⟨a,b,c⟩:=h;refine ⟨by simp [a],fun i v hv hi hl=>?_,fun i hi hl=>?_⟩
 ·by_cases e:i < m
  ·rw [getElem?_append_left (by omega)];exact b i v hv e hl
  ·have:i=m:=by omega
   subst this;rw [getElem?_append_right (by omega),a,h1 v hv hl];simp
 ·by_cases e:i < m
  ·rw [getElem?_append_left (by omega)];exact c i e hl
  ·have:i=m:=by omega
   subst this;rw [getElem?_append_right (by omega),a,h2 hl];simp
def ZfI (k:List Int):Bool:=k.all (·==1)
theorem ZpM (k:List Int) (n:Nat) (x:Int) (h:k[n]?=some x):ZfI (k.drop n)=(x==1&&ZfI (k.drop (n+1))):=by
 have hl:=ZaA h;rw [List.drop_eq_getElem_cons hl];have:k[n]=x:=by rw [getElem?_eq_getElem hl] at h;exact Option.some.inj h
 rw [this];simp [ZfI]
theorem Zic (k:List Int) (hk:k.length<=1000000):F83 k=some (ZfI k):=by
 refine Ret.eq ?_;unfold F83;refine Zac (fun i:Int=>∃ n:Nat,i=n/\n<=k.length/\ZfI (k.drop n)=ZfI k) (fun i=>k.length - i.toNat) ?_ _ ⟨0,rfl,by omega,rfl⟩;rintro _ ⟨n,rfl,hn,ha⟩;simp only [ZDI,wq,reduceCtorEq];have hw:=Zab n (by omega);refine ⟨fun hlt=>Zaj (by omega) hlt fun y hy hm=>?_,fun hge=>?_⟩
 ·rw [Zax] at hy;have hd:=ZpM k n y hy;simp only [wq,reduceCtorEq,hw];refine ⟨fun h=>?_,fun h=>⟨⟨n+1,rfl,by omega,?_⟩,by omega⟩⟩
  ·rw [<-ha,hd];simp [h]
  ·rw [<-ha,hd];simp [h]
 ·have:n=k.length:=by omega
  subst this;rw [<-ha,List.drop_length];rfl
theorem Zf3 (s w:List Int) (hs:s.length<=w.length) (hl:s.length<=1000000):ZrP s w=some (decide (w.take s.length=s)):=by
 refine Ret.eq ?_;unfold ZrP;refine Zac (fun i:Int=>∃ n:Nat,i=n/\n<=s.length/\w.take n=s.take n) (fun i=>s.length - i.toNat) ?_ _ ⟨0,rfl,by omega,by simp⟩;rintro _ ⟨n,rfl,hn,ha⟩;simp only [ZNm,wq,reduceCtorEq];have hw:=Zab n (by omega);refine ⟨fun hlt=>Zaj (by omega) hlt fun y hy _=>Zaj (by omega) (by omega) fun z hz _=>?_,fun hge=>?_⟩
 ·rw [Zax] at hy hz;simp only [wq,reduceCtorEq,hw];refine ⟨fun h=>?_,fun h=>⟨⟨n+1,rfl,by omega,?_⟩,by omega⟩⟩
  ·symm;rw [decide_eq_false_iff_not];intro e;have h1:(w.take s.length)[n]?=some z:=by rw [getElem?_take];rw [if_pos (by omega)];exact hz
   rw [e,hy] at h1;exact h (Option.some.inj h1)
  ·rw [take_add_one,take_add_one,hy,hz,ha,h]
 ·have:n=s.length:=by omega
  subst this;rw [take_length] at ha;simp [ha]
def ZfS (m:Nat):List Int:=2::(replicate m 1++2::replicate (m - 1) 1)
theorem ZpN (m:Nat) (h:1<=m):(ZfS m).length=2 * m+1:=by simp [ZfS];omega
theorem ZvA (m:Nat) (h:m<=100000):Z0t (((2 * m+1:Nat)):Int)=some (m:Int):=by
 unfold Z0t;rw [Zau (n:=((2 * m+1:Nat):Int) - 1) (by omega) (by omega),show (((2 * m+1:Nat)):Int) - 1=((2 * m:Nat):Int) by omega,show tdiv ((2 * m:Nat):Int) 2=((2 * m / 2:Nat):Int) from rfl,Zau (by omega) (by omega)];congr 2;omega
theorem ZvF (m:Nat) (h:1<=m) (h2:m<=100000):Z0u (((2 * m+1:Nat)):Int)=some (ZfS m):=by
 refine Ret.eq ?_;unfold Z0u;refine Zac (fun q:Int×List Int=>∃ n:Nat,q.1=n/\n<=2 * m+1/\q.2=replicate n 1) (fun q=>2 * m+1 - q.1.toNat) ?_ _ ⟨0,rfl,by omega,rfl⟩;rintro ⟨i,l⟩ ⟨n,e1,hn,e2⟩;dsimp only at e1 e2;subst e1;subst e2;have hw:=Zab n (by omega);simp only [Zt9,hw,ZvA m h2,wq,reduceCtorEq];refine ⟨fun hlt=>⟨fun _=>⟨⟨n+1,rfl,by omega,by simp [List.replicate_succ']⟩,by omega⟩,fun h=>absurd h (by simp;omega)⟩,fun hge=>?_⟩;have hn':n=2 * m+1:=by omega
 subst hn';have hw2:=Zab m (by omega);rw [hw2];refine Zaj (by omega) (by simp;omega) fun y hy _=>?_;simp only [Za4 hy];refine Zaj (by omega) (by rw [Zay];simp;omega) fun z hz _=>?_;simp only [Za4 hz,ZaH];rw [Zcf];show (Zaq (replicate (2 * m+1) (1:Int)) 0 2).set (m+1) 2=_;apply List.ext_getElem?;intro i;unfold Zaq ZfS;rw [List.getElem?_set,List.getElem?_set];simp only [Int.toNat_zero,List.length_set,List.length_replicate];by_cases h1:m+1=i
 ·subst h1;rw [if_pos rfl,if_pos (by omega),List.getElem?_cons_succ,getElem?_append_right (by simp)];simp
 ·rw [if_neg h1];by_cases h3:0=i
  ·subst h3;simp
  ·rw [if_neg h3];obtain ⟨j,rfl⟩:∃ j,i=j+1:=⟨i - 1,by omega⟩
   rw [List.getElem?_cons_succ,List.getElem?_replicate];by_cases h4:j < m
   ·rw [getElem?_append_left (by simpa using h4),List.getElem?_replicate,if_pos (by omega),if_pos h4]
   ·rw [getElem?_append_right (by simp;omega),List.length_replicate];obtain ⟨p,hp⟩:∃ p,j - m=p+1:=⟨j - m - 1,by omega⟩
    rw [hp,List.getElem?_cons_succ,List.getElem?_replicate];by_cases h5:j+1 < 2 * m+1
    ·rw [if_pos h5,if_pos (by omega)]
    ·rw [if_neg h5,if_neg (by omega)]
theorem ZvG (op:Int):Z0s op=some (ZaY op):=by
 refine Ret.eq ?_;simp only [Z0s,ZSJ,ZSI,ZSH,ZSG,ZSF,ZSE,wq,reduceCtorEq,ZaY];refine ⟨fun h=>?_,fun h=>?_⟩<;>(repeat' first | apply And.intro | intro _)<;>(repeat' split)<;>first | rfl | (exfalso;omega)
def ZbA (l:List Zae) (n:Zae) (s:List Int):Option Int:=
 ((F84 n s).bind fun r17=>
  bif !r17 then
   some (.inl (true,s))
  else
   (F85 l n).bind fun r18=>
   some (.inl (!r18,s))).bind (Sum.elim (ZEk n) some)
theorem ZnP {α:Type} (a:α) (l:List α):gI (a::l) 0=some a:=rfl
theorem ZtB {α:Type} (a b:α) (l:List α):gI (a::b::l) 1=some b:=rfl
theorem ZtC {α:Type} (a b c:α) (l:List α):gI (a::b::c::l) 2=some c:=rfl
theorem Zwa {k:List Int} (h:k.length=1):∃ a,k=[a]:=by
 match k,h with
 | [a],_=>exact ⟨a,rfl⟩
theorem Zrl {k:List Int} (h:k.length=2):∃ a b,k=[a,b]:=by
 match k,h with
 | [a,b],_=>exact ⟨a,b,rfl⟩
theorem Z01 {k:List Int} (h:k.length=3):∃ a b c,k=[a,b,c]:=by
 match k,h with
 | [a,b,c],_=>exact ⟨a,b,c,rfl⟩
theorem ZpO (l:List Zae) (op imm:Int) (ks k:List Int) (h:(ZaY op).2=false\/(0<=(ZaY op).1/\(ZaY op).1≠k.length)) (hk:k.length=ks.length):ZbA l (op,imm,ks) k=some 0/\F50 l (op,imm,ks) k=some 0:=by
 have e:(((k.length:Nat)):Int)=ks.length:=by omega
 unfold ZbA F84 F50;rw [ZvG,Z6K];dsimp only;rw [e] at h |-
 rcases h with h | ⟨h,h2⟩
 ·simp [h,ZuH,ZEk,ZRq]
 ·cases ha:(ZaY op).2
  ·simp [ha,ZuH,ZEk,ZRq]
  ·have h3:((ks.length:Int) != (ZaY op).1)=true:=by simpa using fun h=>h2 h.symm
   have h4:((ZaY op).1 != (ks.length:Int))=true:=by simpa using h2
   have h5:decide ((ZaY op).1>=0)=true:=by simpa using h
   simp [ha,h3,h4,h5,ZuH,ZEk,ZRq]
def Zfk (op imm:Int):Bool:=
 decide (op=1\/(0<=imm/\(op=27->1<=imm)/\imm<=(if op=2 then 5 else if op=3 then 255 else if op=23\/op=28 then 3 else if op=27 then 1000016 else if op=30 then 7 else if op=31 then 15 else if op=25 then 15 else 0)))
theorem Zmx {op imm:Int} {b:Bool} (h:b=true↔(op=1\/(0<=imm/\(op=27->1<=imm)/\imm<=(if op=2 then 5 else if op=3 then 255 else if op=23\/op=28 then 3 else if op=27 then 1000016 else if op=30 then 7 else if op=31 then 15 else if op=25 then 15 else 0)))):b=Zfk op imm:=by
 rw [Bool.eq_iff_iff,h,Zfk,decide_eq_true_eq]
theorem ZAN (op imm:Int):F81 op imm=some (Zfk op imm):=by
 refine Ret.eq ?_;simp only [F81,Z0r,Ztv,ZuL,wq,reduceCtorEq];refine ⟨fun _=>?_,fun _=>⟨fun _=>?_,fun _=>⟨fun _=>?_,fun _=>⟨fun _=>?_,fun _=>?_⟩⟩⟩⟩
 all_goals (repeat' first | apply And.intro | intro _)
 all_goals first | (exfalso;omega) | (refine Zmx ?_;simp only [wq,reduceCtorEq,decide_eq_true_eq,true_iff,false_iff,beq_iff_eq];(try split)<;>(try split)<;>(try split)<;>(try split)<;>(try split)<;>(try split)<;>(try split)<;>omega)
theorem ZhW (l:List Zae) (n:Zae) (h:n.1≠25):F85 l n=some (Zfk n.1 n.2.1):=by
 refine Ret.eq ?_;simp only [F85,ZGU,ZIB,ZIC,ZID,wq,reduceCtorEq];refine ⟨fun _=>?_,fun _=>⟨fun _=>?_,fun _=>⟨fun _=>?_,fun _=>⟨fun _=>?_,fun _=>?_⟩⟩⟩⟩
 all_goals (repeat' first | apply And.intro | intro _)
 all_goals first | (exfalso;omega) | (refine Zmx ?_;simp only [wq,reduceCtorEq,decide_eq_true_eq,true_iff,false_iff,beq_iff_eq];(try split)<;>(try split)<;>(try split)<;>(try split)<;>(try split)<;>(try split)<;>(try split)<;>omega)
theorem bqF {a n:Int} (h:¬ a=n):(a==n)=false:=by simpa using h
theorem Z1C {a n:Int} (h:¬ a=n):(a != n)=true:=by simpa using h
theorem dqF {a n:Int} (h:¬ a=n):decide (n=a)=false:=by simpa using fun e=>h e.symm
theorem ZyY (l:List Zae) (op imm:Int) (ks k:List Int) (h:op=4\/op=5\/op=6\/op=7\/op=8\/op=9\/op=10\/op=11\/op=12\/op=13\/op=14\/op=15\/op=16\/op=17\/op=18\/op=19) (hl:k.length=2) (hk:k.length=ks.length):ZbA l (op,imm,ks) k=F50 l (op,imm,ks) k:=by
 obtain ⟨a,b,rfl⟩:=Zrl hl;have hks:ks.length=2:=by rw [<-hk];rfl
 obtain ⟨d,e,rfl⟩:=Zrl hks;rcases h with rfl | rfl | rfl | rfl | rfl | rfl | rfl | rfl | rfl | rfl | rfl | rfl | rfl | rfl | rfl | rfl
 all_goals
  simp [ZbA,F84,ZvG,ZaY,ZuH,Z6V,ZR9,Z0m,Zte,Zf3,ZhW,ZAN,ZnP,ZtB,ZtC,
   F50,Z6K,ZRq,ZRz,ZRv,ZRs,ZRw,ZRu,Zic,ZfI,Zzz]
  generalize Zfk _ imm=q;cases q<;>by_cases h1:a=1<;>by_cases h2:b=1<;>simp [*,bqF,dqF,ZEk,ZEm,ZEl,ZRv,ZRw,ZRu]
theorem ZtD (l:List Zae) (op imm:Int) (ks k:List Int) (h:op=20\/op=21) (hl:k.length=1) (hk:k.length=ks.length):ZbA l (op,imm,ks) k=F50 l (op,imm,ks) k:=by
 obtain ⟨a,rfl⟩:=Zwa hl;have hks:ks.length=1:=by rw [<-hk];rfl
 obtain ⟨d,rfl⟩:=Zwa hks;rcases h with rfl | rfl
 all_goals
  simp [ZbA,F84,ZvG,ZaY,ZuH,Z6V,ZR9,Z0m,Zte,Zf3,ZhW,ZAN,ZnP,ZtB,ZtC,
   F50,Z6K,ZRq,ZRz,ZRv,ZRs,ZRw,ZRu,Zic,ZfI,Zzz]
  generalize Zfk _ imm=q;cases q<;>by_cases h1:a=1<;>simp [*,bqF,dqF,ZEk,ZEm,ZEl,ZRv,ZRw,ZRu]
theorem ZyZ (l:List Zae) (op imm:Int) (ks k:List Int) (h:op=1\/op=2\/op=3\/op=26) (hl:k.length=0) (hk:k.length=ks.length):ZbA l (op,imm,ks) k=F50 l (op,imm,ks) k:=by
 obtain rfl:=List.eq_nil_of_length_eq_zero hl;have hks:ks.length=0:=by rw [<-hk];rfl
 obtain rfl:=List.eq_nil_of_length_eq_zero hks;rcases h with rfl | rfl | rfl | rfl
 all_goals
  simp [ZbA,F84,ZvG,ZaY,ZuH,Z6V,ZR9,Z0m,Zte,Zf3,ZhW,ZAN,ZnP,ZtB,ZtC,
   F50,Z6K,ZRq,ZRz,ZRv,ZRs,ZRw,ZRu,Zic,ZfI,Zzz]
  generalize Zfk _ imm=q;cases q<;>by_cases h3:imm.tmod 16=0<;>simp [*,bqF,ZEk,ZEm,ZEl]
theorem ZrU (l:List Zae) (op imm:Int) (ks k:List Int) (h:op=22) (hl:k.length=3) (hk:k.length=ks.length) (hs:∀ x∈k,x=1\/x=2\/x=3):ZbA l (op,imm,ks) k=F50 l (op,imm,ks) k:=by
 obtain ⟨a,b,c,rfl⟩:=Z01 hl;have hks:ks.length=3:=by rw [<-hk];rfl
 obtain ⟨d,e,f,rfl⟩:=Z01 hks;rcases h with rfl
 all_goals
  simp [ZbA,F84,ZvG,ZaY,ZuH,Z6V,ZR9,Z0m,Zte,Zf3,ZhW,ZAN,ZnP,ZtB,ZtC,
   F50,Z6K,ZRq,ZRz,ZRv,ZRs,ZRw,ZRu,Zic,ZfI,Zzz]
  generalize Zfk _ imm=q;have ha:=hs a (by simp);have hb:=hs b (by simp);have hc:=hs c (by simp);clear hs hk hl;cases q<;>rcases ha with rfl | rfl | rfl<;>rcases hb with rfl | rfl | rfl<;>rcases hc with rfl | rfl | rfl<;>simp [ZnP,ZtB,ZtC,ZRz,ZR9,ZEk,ZEm,ZEl]
theorem Zvl (l:List Zae) (op imm:Int) (ks k:List Int) (h:op=23\/op=27\/op=29) (hl:k.length=2) (hk:k.length=ks.length):ZbA l (op,imm,ks) k=F50 l (op,imm,ks) k:=by
 obtain ⟨a,b,rfl⟩:=Zrl hl;have hks:ks.length=2:=by rw [<-hk];rfl
 obtain ⟨d,e,rfl⟩:=Zrl hks;rcases h with rfl | rfl | rfl
 all_goals
  simp [ZbA,F84,ZvG,ZaY,ZuH,Z6V,ZR9,Z0m,Zte,Zf3,ZhW,ZAN,ZnP,ZtB,ZtC,
   F50,Z6K,ZRq,ZRz,ZRv,ZRs,ZRw,ZRu,Zic,ZfI,Zzz]
  generalize Zfk _ imm=q;cases q<;>by_cases h1:a=2<;>by_cases h2:b=1<;>simp [*,bqF,dqF,ZEk,ZEm,ZEl,ZRv,ZRw,ZRu]
theorem ZrV (l:List Zae) (op imm:Int) (ks k:List Int) (h:op=24) (hl:k.length=1) (hk:k.length=ks.length):ZbA l (op,imm,ks) k=F50 l (op,imm,ks) k:=by
 obtain ⟨a,rfl⟩:=Zwa hl;have hks:ks.length=1:=by rw [<-hk];rfl
 obtain ⟨d,rfl⟩:=Zwa hks;rcases h with rfl
 all_goals
  simp [ZbA,F84,ZvG,ZaY,ZuH,Z6V,ZR9,Z0m,Zte,Zf3,ZhW,ZAN,ZnP,ZtB,ZtC,
   F50,Z6K,ZRq,ZRz,ZRv,ZRs,ZRw,ZRu,Zic,ZfI,Zzz]
  generalize Zfk _ imm=q;cases q<;>by_cases h1:a=2<;>simp [*,bqF,dqF,ZEk,ZEm,ZEl,ZRv,ZRw,ZRu]
theorem ZrW (l:List Zae) (op imm:Int) (ks k:List Int) (h:op=28) (hl:k.length=3) (hk:k.length=ks.length):ZbA l (op,imm,ks) k=F50 l (op,imm,ks) k:=by
 obtain ⟨a,b,c,rfl⟩:=Z01 hl;have hks:ks.length=3:=by rw [<-hk];rfl
 obtain ⟨d,e,f,rfl⟩:=Z01 hks;rcases h with rfl
 all_goals
  simp [ZbA,F84,ZvG,ZaY,ZuH,Z6V,ZR9,Z0m,Zte,Zf3,ZhW,ZAN,ZnP,ZtB,ZtC,
   F50,Z6K,ZRq,ZRz,ZRv,ZRs,ZRw,ZRu,Zic,ZfI,Zzz]
  generalize Zfk _ imm=q;cases q<;>by_cases h1:a=2<;>by_cases h2:b=1<;>by_cases h3:c=1<;>simp [*,bqF,dqF,ZEk,ZEm,ZEl,ZRv,ZRw,ZRu]
theorem ZpP (l:List Zae) (imm:Int) (ks k:List Int) (hl:k.length=1) (hk:k.length=ks.length) (hkid:∀ x∈ks,0<=x/\x < l.length) (hlo:k=[3]->∀ x∈ks,∀ n,l[x.toNat]?=some n->∃ m:Nat,n.2.2.length=2 * m+1/\1<=m/\m<=16):ZbA l (25,imm,ks) k=F50 l (25,imm,ks) k:=by
 obtain ⟨a,rfl⟩:=Zwa hl;have hks:ks.length=1:=by rw [<-hk];rfl
 obtain ⟨d,rfl⟩:=Zwa hks;have hd:=hkid d (by simp);obtain ⟨n,hn,hm⟩:=Zn9 hd.1 hd.2;have hn':l[d.toNat]?=some n:=(ZaI hn).2.2;by_cases ha:a=3
 ·subst ha;obtain ⟨m,e,m1,m2⟩:=hlo rfl d (by simp) n hn';have eq1:tdiv (n.2.2.length:Int) 2=(m:Int):=by
   rw [e,show tdiv ((2 * m+1:Nat):Int) 2=(((2 * m+1) / 2:Nat):Int) from rfl];congr 1;omega
  have eq5:(n.2.2.length:Int) / 2=(m:Int):=by omega
  have w1:wrap .i64 1=1:=by decide
  have w2:wrap .i64 2=2:=by decide
  have m3:(1:Int)<=m:=by omega
  have m4:¬ m=0:=by omega
  have eq2:=ZvA m (by omega);have eq3:wrap .i64 (m:Int)=m:=Zau (by omega) (by omega);have eq4:wrap .i64 ((m:Int) - 1)=m - 1:=Zau (by omega) (by omega);rw [<-e] at eq2;simp [ZbA,F84,ZvG,ZaY,ZuH,Z6V,ZR9,Z0m,Zte,Zf3,F85,ZGU,ZIB,ZAN,ZnP,hn,eq1,eq2,eq3,eq4,
   F50,Z6K,ZRq,ZR3,Zzz,Zfk,eq5,w1,w2]
  by_cases i0:0<=imm
  ·by_cases i1:imm<=(m:Int) - 1
   ·have i2:imm<=15:=by omega
    have i3:¬ (m:Int)<=imm:=by omega
    by_cases i4:imm=0
    ·subst i4;simp [eq3,eq5,w1,w2,m3,m4,i1,i3,ZEk,ZEm,ZEl,ZID,ZR3,Zzz]
    ·simp [eq3,eq5,w1,w2,m3,m4,i0,i1,i2,i3,i4,bqF,ZEk,ZEm,ZEl,ZID,ZR3,Zzz]
   ·have i3:(m:Int)<=imm:=by omega
    by_cases i2:imm<=15
    ·simp [eq3,eq5,w1,w2,m3,m4,i0,i1,i2,i3,ZEk,ZEm,ZEl,ZID,ZR3,Zzz]
    ·simp [eq3,eq5,w1,w2,m3,m4,i0,i1,i2,i3,ZEk,ZEm,ZEl,ZID,ZR3,Zzz]
  ·simp [eq3,eq5,w1,w2,m3,m4,i0,ZEk,ZEm,ZEl,ZID,ZR3,Zzz]
 ·simp [ZbA,F84,ZvG,ZaY,ZuH,Z6V,ZR9,Z0m,Zte,Zf3,ZAN,ZnP,hn,dqF ha,bqF ha,
   F50,Z6K,ZRq,ZR3,Zzz]
  generalize Zfk _ imm=q;cases q<;>simp [ha,bqF,Z1C,ZEk,ZR3]
theorem Zmy (l:List Int):ZfI l=true↔l=replicate l.length 1:=by
 unfold ZfI;rw [all_eq_true,List.eq_replicate_iff];simp
theorem ZpQ (l:List Zae) (imm:Int) (ks k:List Int) (hk:k.length=ks.length) (hl:k.length<=1000):ZbA l (30,imm,ks) k=F50 l (30,imm,ks) k:=by
 have hv:Zao (Zx6 k) 0=some (ZfI (slI k 1 k.length)):=Zic (slI k 1 k.length) (by have:=Zmw k 1 k.length;omega);have hv2:F83 (slI k 1 k.length)=some (ZfI (slI k 1 k.length)):=Zic (slI k 1 k.length) (by have:=Zmw k 1 k.length;omega);by_cases h0:k.length < 1
 ·obtain rfl:k=[]:=List.eq_nil_of_length_eq_zero (by omega);cases hq:Zfk 30 imm<;>simp [ZbA,F84,ZvG,ZaY,ZuH,Z6X,F50,Z6K,ZAN,ZRq,ZRs,ZR6,Zzz,hq,ZEk,ZR6]
 ·by_cases h7:7 < k.length
  ·have e1:¬ (k.length:Int) < 1:=by omega
   have e2:(7:Int) < k.length:=by omega
   have e3:¬ (k.length:Int)<=7:=by omega
   have e4:(1:Int)<=k.length:=by omega
   have e5:¬ k.length<=7:=by omega
   have e6:1<=k.length:=by omega
   cases hq:Zfk 30 imm<;>simp [ZbA,F84,ZvG,ZaY,ZuH,Z6X,F50,Z6K,ZAN,ZRq,ZRs,ZR6,Zzz,e1,e2,e3,e4,e5,e6,h0,h7,hq,ZEk,ZR6]
  ·obtain ⟨x,t,rfl⟩:∃ x t,k=x::t:=by cases k with
    | nil=>simp at h0
    | cons x t=>exact ⟨x,t,rfl⟩
   simp only [length_cons] at h7 hv hv2;have e1:¬ (t.length:Int)+1 < 1:=by omega
   have e2:¬ (7:Int) < (t.length:Int)+1:=by omega
   have e3:(t.length:Int)+1<=7:=by omega
   have e4:(1:Int)<=(t.length:Int)+1:=by omega
   have e5:(0:Int)<=(t.length:Int):=by omega
   have ec:(((t.length+1:Nat)):Int)=(t.length:Int)+1:=by omega
   rw [ec] at hv hv2;by_cases hx:x=2
   ·subst hx;cases hq:Zfk 30 imm<;>cases hv3:ZfI (slI (2::t) 1 ((t.length:Int)+1))<;>rw [hv3] at hv hv2<;>simp [ZbA,F84,ZvG,ZaY,ZuH,Z6X,F50,Z6K,ZAN,ZhW,ZRq,ZRs,ZR6,Zzz,e1,e2,e3,e4,e5,ZnP,hv,hv2,hq,ZEk,ZEl,ZR6]
   cases hq:Zfk 30 imm<;>· simp [ZbA,F84,ZvG,ZaY,ZuH,Z6X,F50,Z6K,ZAN,ZhW,ZRq,ZRs,ZR6,Zzz,e1,e2,e3,e4,e5,ZnP,hv,hv2,hx,Z1C,bqF,hq,hx,Z1C,bqF,ZEk,ZEl,ZR6,Z6X,Zzz]
theorem ZpR (m:Nat) (h:1<=m) (x:Int) (A C:List Int) (b:Int) (hA:A.length=m) (hC:C.length=m - 1):ZfS m=x::(A++b::C)↔x=2/\ZfI A=true/\b=2/\ZfI C=true:=by
 unfold ZfS;rw [Zmy,Zmy,hA,hC];constructor
 ·intro e;obtain ⟨e1,e2⟩:=List.cons.inj e;obtain ⟨e3,e4⟩:=List.append_inj e2 (by simp [hA]);obtain ⟨e5,e6⟩:=List.cons.inj e4;exact ⟨e1.symm,e3.symm,e5.symm,e6.symm⟩
 ·rintro ⟨rfl,e1,rfl,e2⟩;rw [e1,e2]
theorem Zdx (l:List Zae) (imm:Int) (ks k:List Int):F50 l (31,imm,ks) k=ZRq l (31,imm,ks) k (!Zfk 31 imm):=by
 simp [F50,Z6K,ZAN,ZaY]
theorem ZhT (l:List Zae) (imm:Int) (ks k:List Int) (hk:k.length=ks.length) (hl:k.length<=1000) (h:k.length % 2=0\/k.length < 3\/33 < k.length):ZbA l (31,imm,ks) k=some 0/\F50 l (31,imm,ks) k=some 0:=by
 have w0:wrap .i64 0=0:=by decide
 by_cases ho:k.length % 2=1
 ·obtain ⟨m,em⟩:∃ m,k.length=2 * m+1:=⟨k.length / 2,by omega⟩
  have hm:tmod (k.length:Int) 2=1:=by rw [Int.tmod_eq_emod_of_nonneg (by omega)];omega
  have hm2:(k.length:Int) % 2=1:=by omega
  have hd:tdiv (k.length:Int) 2=(m:Int):=by rw [Int.tdiv_eq_ediv_of_nonneg (by omega)];omega
  have hd2:(k.length:Int) / 2=(m:Int):=by omega
  have hq:wrap .i64 (m:Int)=(m:Int):=Zau (by omega) (by omega);have lv:Z0t (k.length:Int)=some (m:Int):=by rw [em];exact ZvA m (by omega)
  by_cases h3:k.length < 3
  ·have e1:¬ (3:Int)<=k.length:=by omega
   have e2:m=0:=by omega
   have e3:¬ 3<=k.length:=by omega
   subst e2;constructor
   ·simp [ZbA,F84,ZvG,ZaY,ZuH,Zx7,ZEk,e1,e3]
   ·rw [Zdx];cases hi:Zfk 31 imm<;>simp [ZRq,ZRs,ZRD,Zzz,hm,hm2,hd,hd2,w0]
  ·have e2:¬ (m:Int)<=16:=by omega
   have e3:(3:Int)<=k.length:=by omega
   have e4:3<=k.length:=by omega
   have e5:(1:Int)<=m:=by omega
   have e6:1<=m:=by omega
   have e7:¬ m<=16:=by omega
   constructor
   ·simp [ZbA,F84,ZvG,ZaY,ZuH,Zx7,ZEk,hm,hm2,lv,e2,e3,e4,e7]
   ·rw [Zdx];cases hi:Zfk 31 imm<;>simp [ZRq,ZRs,ZRD,Zzz,hm,hm2,hd,hd2,hq,e5,e6,e2,e7]
 ·have hm:tmod (k.length:Int) 2=0:=by rw [Int.tmod_eq_emod_of_nonneg (by omega)];omega
  have hm2:(k.length:Int) % 2=0:=by omega
  constructor
  ·by_cases hc:3<=k.length
   ·have hc2:(3:Int)<=k.length:=by omega
    simp [ZbA,F84,ZvG,ZaY,ZuH,Zx7,ZEk,hm,hm2,hc2,hc]
   ·have hc2:¬ (3:Int)<=k.length:=by omega
    simp [ZbA,F84,ZvG,ZaY,ZuH,Zx7,ZEk,hm,hm2,hc2,hc]
  ·rw [Zdx];cases hi:Zfk 31 imm<;>simp [ZRq,ZRs,ZRD,Zzz,hm,hm2]
theorem ZnB (l:List Zae) (imm:Int) (ks k:List Int) (hk:k.length=ks.length) (m:Nat) (h:k.length=2 * m+1) (h1:1<=m) (h2:m<=16):ZbA l (31,imm,ks) k=F50 l (31,imm,ks) k:=by
 obtain ⟨x,A,b,C,rfl,hA,hC⟩:∃ x A b C,k=x::(A++b::C)/\A.length=m/\C.length=m - 1:=by
  cases k with
  | nil=>simp at h
  | cons x t=>
   simp only [length_cons] at h;have ht:t.length=2 * m:=by omega
   refine ⟨x,t.take m,t[m]'(by omega),t.drop (m+1),?_,by simp;omega,by simp;omega⟩;rw [<-List.drop_eq_getElem_cons,List.take_append_drop]
 have hw:=ZpR m h1 x A C b hA hC;have hl1:=ZpN m h1;generalize hk1:x::(A++b::C)=k at *;have hm:tmod (k.length:Int) 2=1:=by rw [Int.tmod_eq_emod_of_nonneg (by omega)];omega
 have hd:tdiv (k.length:Int) 2=(m:Int):=by rw [Int.tdiv_eq_ediv_of_nonneg (by omega)];omega
 have hq:wrap .i64 (m:Int)=(m:Int):=Zau (by omega) (by omega);have hq1:wrap .i64 ((m:Int)+1)=(m:Int)+1:=Zau (by omega) (by omega);have hq2:wrap .i64 ((m:Int)+2)=(m:Int)+2:=Zau (by omega) (by omega);have lv:Z0t (k.length:Int)=some (m:Int):=by rw [h];exact ZvA m (by omega)
 have ls:Z0u (k.length:Int)=some (ZfS m):=by rw [h];exact ZvF m h1 (by omega)
 have mt:ZrP k (ZfS m)=some (decide (ZfS m=k)):=by
  rw [Zf3 _ _ (by omega) (by omega),List.take_of_length_le (by omega)]
 have e1:decide ((k.length:Int)>=3)=true:=by simp;omega
 have e2:decide ((m:Int)<=16)=true:=by simp;omega
 have e3:decide ((m:Int)>=1)=true:=by simp;omega
 have e4:decide ((0:Int)<=1/\(1:Int)<=(m:Int)+1/\(m:Int)+1<=(k.length:Int))=true:=by simp;omega
 have e5:decide ((0:Int)<=(m:Int)+2/\(m:Int)+2<=(k.length:Int)/\(k.length:Int)<=(k.length:Int))=true:=by simp;omega
 have g0:gI k 0=some x:=by rw [<-hk1];rfl
 have g1:gI k ((m:Int)+1)=some b:=by
  rw [<-hk1];unfold gI;rw [if_pos (by omega),show ((m:Int)+1).toNat=m+1 by omega,List.getElem?_cons_succ,getElem?_append_right (by omega),hA];simp
 have s1:slI k 1 ((m:Int)+1)=A:=by
  rw [<-hk1];unfold slI;rw [show ((m:Int)+1).toNat - (1:Int).toNat=m by omega];show (A++b::C).take m=A;rw [<-hA,List.take_left'];rfl
 have s2:slI k ((m:Int)+2) (k.length:Int)=C:=by
  have hkl:k.length=m+2+C.length:=by rw [h,hC];omega
  unfold slI;rw [show ((m:Int)+2).toNat=m+2 by omega,<-hk1];show List.take _ ((A++b::C).drop (m+1))=C;rw [List.drop_append,List.drop_of_length_le (by omega),hA,show m+1 - m=1 by omega];show List.take _ C=C;exact List.take_of_length_le (by rw [hk1];omega)
 have v1:F83 A=some (ZfI A):=Zic A (by omega);have v2:F83 C=some (ZfI C):=Zic C (by omega);have lhs:ZbA l (31,imm,ks) k=some (bif decide (ZfS m=k)&&Zfk 31 imm then 3 else 0):=by
  have a31:F84 (31,imm,ks) k=some (decide (ZfS m=k)):=by
   simp only [F84,ZvG,show ZaY 31=(-1,true) from rfl,bind_some,Bool.not_true,cond_false,show decide ((-1:Int)>=0)=false from rfl,Sum.elim_inl,ZuH,show ((31:Int)==31)=true from rfl,cond_true,e1,hm,show ((1:Int)==1)=true from rfl,lv,e2,ls,mt,Zx7]
  unfold ZbA;rw [a31];cases hi:Zfk 31 imm<;>cases decide (ZfS m=k)<;>simp [ZhW,hi,ZEk]
 have rhs:F50 l (31,imm,ks) k=some (bif ((x==2)&&ZfI A&&(b==2)&&ZfI C)&&Zfk 31 imm then 3 else 0):=by
  rw [Zdx];cases hi:Zfk 31 imm
  ·simp [ZRq]
  ·simp only [ZRq,ZRs,Bool.not_true,cond_false,bind_some,Sum.elim_inl,show ((31:Int)==3)=false from rfl,show ((31:Int)==26)=false from rfl,show ((31:Int)==22)=false from rfl,show ((31:Int)==23)=false from rfl,show ((31:Int)==24)=false from rfl,show ((31:Int)==25)=false from rfl,show ((31:Int)==27)=false from rfl,show ((31:Int)==29)=false from rfl,show ((31:Int)==28)=false from rfl,show ((31:Int)==30)=false from rfl,show ((31:Int)==31)=true from rfl,cond_true,show ((1:Int)==1)=true from rfl,hm,hd,hq,hq1,hq2,e2,e3,e4,e5,g0,g1,s1,s2,v1,v2,Zzz];cases x==2<;>cases ZfI A<;>cases b==2<;>cases ZfI C<;>simp [ZRD]
 rw [lhs,rhs];congr 3;rw [Bool.eq_iff_iff,decide_eq_true_eq,hw];simp [and_assoc]
end Go.Dat
namespace Go.Dat
open Go.Eng
variable {α β:Type}
def Zli (o:Option α) (Q:α->Prop):Prop:=∀ a,o=some a->Q a
theorem ZeT {a:α} {Q:α->Prop}:Zli (some a) Q=Q a:=by
 unfold Zli;apply propext;exact ⟨fun h=>h a rfl,fun h b e=>by cases e;exact h⟩
theorem ZeU {Q:α->Prop}:Zli (none:Option α) Q=True:=by
 unfold Zli;apply propext;exact ⟨fun _=>trivial,fun _ b e=>by cases e⟩
theorem Zkl {o:Option α} {f:α->Option β} {Q:β->Prop}:Zli (o.bind f) Q=Zli o fun a=>Zli (f a) Q:=by
 cases o with
 | none=>simp only [bind_none,ZeU]
 | some a=>simp only [bind_some,ZeT]
theorem Zmz {o:Option α} {f:α->β} {Q:β->Prop}:Zli (o.map f) Q=Zli o fun a=>Q (f a):=by
 cases o with
 | none=>simp only [map_none,ZeU]
 | some a=>simp only [map_some,ZeT]
theorem Zm0 {b:Bool} {x y:Option α} {Q:α->Prop}:Zli (bif b then x else y) Q=((b=true->Zli x Q)/\(b=false->Zli y Q)):=by
 cases b<;>simp
theorem Zvm {l:List α} {i:Int} {Q:α->Prop}:Zli (gI l i) Q=∀ a,gI l i=some a->Q a:=rfl
def Zvn (n:Zae):Prop:=∃ m:Nat,n.2.2.length=2 * m+1/\1<=m/\m<=16
structure Zb3 (n:Zae) (r:Int):Prop where
 rng:r=0\/r=1\/r=2\/r=3
 loop:r=3->Zvn n
theorem Zb3.of {n:Zae} {c:Int} (hc:c=0\/c=1\/c=2):Zb3 n c:=by
 rcases hc with rfl | rfl | rfl<;>exact ⟨by simp,by simp⟩
theorem Zb3.bi {n:Zae} (b:Bool) (c:Int) (hc:c=1\/c=2):Zb3 n (bif b then c else 0):=by
 rcases hc with rfl | rfl<;>cases b<;>exact ⟨by simp,by simp⟩
theorem Zb3.z {n:Zae}:Zb3 n 0:=Zb3.of (.inl rfl)
theorem Zb3.o {n:Zae}:Zb3 n 1:=Zb3.of (.inr (.inl rfl))
theorem Zb3.t {n:Zae}:Zb3 n 2:=Zb3.of (.inr (.inr rfl))
theorem Zb3.l {n:Zae} (h:Zvn n) (b:Bool):Zb3 n (bif b then 3 else 0):=by
 cases b
 ·exact Zb3.z
 ·exact ⟨by simp,fun _=>h⟩
theorem Zkm (l:List Zae) (n:Zae) (k:List Int) (hk:k.length=n.2.2.length) (hl:k.length<=1000) (hs:∀ x∈k,x=1\/x=2\/x=3):Zli (F50 l n k) (Zb3 n):=by
 have hd:tdiv (k.length:Int) 2=((k.length / 2:Nat):Int):=by rw [Int.tdiv_eq_ediv_of_nonneg (by omega)];rfl
 have hm:tmod (k.length:Int) 2=((k.length % 2:Nat):Int):=by rw [Int.tmod_eq_emod_of_nonneg (by omega)];rfl
 have hq:wrap .i64 ((k.length / 2:Nat):Int)=((k.length / 2:Nat):Int):=Zau (by omega) (by omega);have w1:wrap .i64 (0+1)=1:=by decide
 have w2:wrap .i64 (1+1)=2:=by decide
 have z:Zb3 n 0:=Zb3.z;have o:Zb3 n 1:=Zb3.o;have t:Zb3 n 2:=Zb3.t;have J1:∀ b,Zli (ZRq l n k b) (Zb3 n):=by
  intro b;simp only [ZRq,ZRz,ZRv,ZR3,ZRs,ZRw,ZRu,ZR6,ZRD,Zzz,ZeT,ZeU,Zkl,Zmz,Zm0,Zvm,wq,reduceCtorEq,hd,hm,hq,cond_false,z,o,t];refine fun _ _ _=>⟨fun _ y _ _ y1 h1 y2 h2 _ y3 h3 hn3 y4 h4=>?_,fun _=>⟨fun _ y _ _ _ _=>Zb3.bi _ _ (.inl rfl),fun _=>⟨fun _ y _=>Zb3.bi _ _ (.inl rfl),fun _=>⟨fun _ y _ _ z _ z2 _ _=>?_,fun _=>?_⟩⟩⟩⟩
  ·rw [h3] at h4;obtain rfl:=Option.some.inj h4;rcases hs y3 (ZeR h3) with rfl | rfl | h
   ·exact o
   ·exact t
   ·exact absurd h hn3
  ·cases n.2.1==0
   ·rw [cond_false,w1];exact o
   ·rw [cond_true,w2];exact t
  ·repeat' first | apply And.intro | (intro _)
   all_goals first | exact Zb3.bi _ _ (.inl rfl) | exact Zb3.bi _ _ (.inr rfl) | exact Zb3.l ⟨k.length / 2,by omega,by omega,by omega⟩ _
 simp only [F50,Z6K,ZAN,ZeT,ZeU,Zkl,Zmz,Zm0,wq,reduceCtorEq,J1]
def nsM (l:List Zae) (n:Zae) (k:List Int):Int:=(F50 l n k).getD 0
theorem Zza {l:List Zae} {n:Zae} {k:List Int} {Q:Int->Prop} (h:Ret (F50 l n k) Q):F50 l n k=some (nsM l n k):=by
 obtain ⟨a,e,_⟩:=h;unfold nsM;rw [e];rfl
structure Zlj (l:List Zae) (n:Zae) (k:List Int):Prop where
 hk:k.length=n.2.2.length
 hl:k.length<=1000
 hb:∀ x∈l,x.2.2.length<=1000
 hkid:∀ x∈n.2.2,0<=x/\x < l.length
 hs:∀ x∈k,x=1\/x=2\/x=3
 hlo:k=[3]->∀ x∈n.2.2,∀ y,l[x.toNat]?=some y->Zvn y
theorem Zlj.ns {l:List Zae} {n:Zae} {k:List Int} (h:Zlj l n k):F50 l n k=some (nsM l n k):=
 Zza (Z76 l n k h.hk (by have:=h.hl;omega) h.hkid fun x hx=>by have:=h.hb x hx;omega)
theorem Zlj.rng {l:List Zae} {n:Zae} {k:List Int} (h:Zlj l n k):Zb3 n (nsM l n k):=Zkm l n k h.hk h.hl h.hs _ h.ns
theorem ZrX {l:List Zae} {n:Zae} {k:List Int} (h:Zlj l n k):ZbA l n k=some (nsM l n k):=by
 rw [<-h.ns];obtain ⟨op,imm,ks⟩:=n;have hk:=h.hk;have hl:=h.hl;dsimp only at hk;by_cases h0:(ZaY op).2=false\/(0<=(ZaY op).1/\(ZaY op).1≠k.length)
 ·obtain ⟨e1,e2⟩:=ZpO l op imm ks k h0 hk;rw [e1,e2]
 ·have ha:(ZaY op).2=true:=by
   cases hc:(ZaY op).2
   ·exact absurd (.inl hc) h0
   ·rfl
  have hb:0<=(ZaY op).1->(ZaY op).1=k.length:=fun h1=>Decidable.byContradiction fun h2=>h0 (.inr ⟨h1,h2⟩);clear h0;unfold ZaY at ha hb;by_cases c1:op=1\/op=2\/op=3\/op=26
  ·rw [if_pos c1] at hb;exact ZyZ l op imm ks k (by omega) (by have:=hb (by decide);simp at this;omega) hk
  ·rw [if_neg c1] at ha hb;by_cases c2:op=20\/op=21\/op=24\/op=25
   ·rw [if_pos c2] at hb;have h1:k.length=1:=by have:=hb (by decide);simp at this;omega
    rcases c2 with rfl | rfl | rfl | rfl
    ·exact ZtD l _ imm ks k (by omega) h1 hk
    ·exact ZtD l _ imm ks k (by omega) h1 hk
    ·exact ZrV l _ imm ks k (by omega) h1 hk
    ·exact ZpP l imm ks k h1 hk h.hkid h.hlo
   ·rw [if_neg c2] at ha hb;by_cases c3:(4<=op/\op<=19)\/op=23\/op=27\/op=29
    ·rw [if_pos c3] at hb;have h1:k.length=2:=by have:=hb (by decide);simp at this;omega
     rcases c3 with c3 | c3
     ·exact ZyY l op imm ks k (by omega) h1 hk
     ·exact Zvl l op imm ks k (by omega) h1 hk
    ·rw [if_neg c3] at ha hb;by_cases c4:op=22\/op=28
     ·rw [if_pos c4] at hb;have h1:k.length=3:=by have:=hb (by decide);simp at this;omega
      rcases c4 with rfl | rfl
      ·exact ZrU l _ imm ks k (by omega) h1 hk h.hs
      ·exact ZrW l _ imm ks k (by omega) h1 hk
     ·rw [if_neg c4] at ha hb;by_cases c5:op=30\/op=31
      ·rcases c5 with rfl | rfl
       ·exact ZpQ l imm ks k hk hl
       ·by_cases c6:k.length % 2=0\/k.length < 3\/33 < k.length
        ·obtain ⟨e1,e2⟩:=ZhT l imm ks k hk hl c6;rw [e1,e2]
        ·exact ZnB l imm ks k hk (k.length / 2) (by omega) (by omega) (by omega)
      ·rw [if_neg c5] at ha;cases ha
end Go.Dat
namespace Go.Dat
open Go.Eng
def atI (out:List Int) (q:Int):Int:=out[q.toNat]?.getD 0
def okQ (out:List Int) (i:Nat) (q:Int):Bool:=decide (0<=q/\q < i)&&!(atI out q==0)
def okK (out:List Int) (i:Nat) (n:Zae):Bool:=n.2.2.all (okQ out i)
def kS (out:List Int) (n:Zae):List Int:=n.2.2.map (atI out)
def Zbu (l:List Zae) (out:List Int) (i:Nat) (n:Zae):Int:=bif okK out i n then nsM l n (kS out n) else 0
def Zam (l:List Zae):Nat->List Int
 | 0=>[]
 | i+1=>Zam l i++[match l[i]? with | some n=>Zbu l (Zam l i) i n | none=>0]
theorem ZaK (l:List Zae):∀ m,(Zam l m).length=m
 | 0=>rfl
 | m+1=>by simp [Zam,ZaK l m]
theorem Zm1 {p:Int->Bool} {l:List Int} {j:Nat} {x:Int} (h:(l.take j).all p=true) (hx:l[j]?=some x):(l.take (j+1)).all p=p x:=by
 rw [take_add_one,hx,List.all_append,h];simp
theorem ZpS {p:Int->Bool} {l:List Int} {x:Int} (h:x∈l) (hx:p x=false):l.all p=false:=by
 rw [List.all_eq_false];exact ⟨x,h,by simp [hx]⟩
theorem ZhU {l:List Int} {q x:Int} (h:gI l q=some x):atI l q=x:=by
 unfold atI;rw [(ZaI h).2.2];rfl
structure GraphH (l:List Zae):Prop where
 n:l.length<=100000
 k:∀ x∈l,x.2.2.length<=1000
theorem Zgh {l:List Zae} (h:GraphH l) {i:Nat} {n:Zae} (hi:l[i]?=some n) {out:List Int} (hr:∀ (j:Nat) x y,j < i->out[j]?=some x->l[j]?=some y->Zb3 y x) (hlen:i<=out.length) (hok:okK out i n=true):Zlj l n (kS out n):=by
 have hm:=mem_of_getElem? hi;have hb:=h.k n hm;have il:=ZaA hi;have hq:∀ q∈n.2.2,(0<=q/\q < i)/\atI out q≠0:=by
  intro q hq;unfold okK at hok;have:=(all_eq_true.1 hok) q hq;unfold okQ at this;simpa using this
 have hat:∀ q∈n.2.2,∃ y,l[q.toNat]?=some y/\Zb3 y (atI out q):=by
  intro q hq';obtain ⟨⟨a,b⟩,c⟩:=hq q hq';have h1:q.toNat < l.length:=by omega
  have h2:q.toNat < out.length:=by omega
  refine ⟨l[q.toNat],getElem?_eq_getElem h1,?_⟩;refine hr q.toNat _ _ (by omega) ?_ (getElem?_eq_getElem h1);unfold atI;rw [getElem?_eq_getElem h2];rfl
 refine ⟨by simp [kS],by simp [kS];omega,h.k,fun x hx=>by have:=hq x hx;omega,?_,?_⟩
 ·intro x hx;unfold kS at hx;obtain ⟨q,h1,rfl⟩:=List.mem_map.1 hx;obtain ⟨y,_,hy⟩:=hat q h1;have:=(hq q h1).2;rcases hy.rng with h | h | h | h
  ·exact absurd h this
  ·exact .inl h
  ·exact .inr (.inl h)
  ·exact .inr (.inr h)
 ·intro e x hx y hy;obtain ⟨z,hz,hsz⟩:=hat x hx;rw [hy] at hz;obtain rfl:=Option.some.inj hz;refine hsz.loop ?_;have:atI out x∈kS out n:=List.mem_map.2 ⟨x,hx,rfl⟩;rw [e] at this;simpa using this
theorem ZnC {l:List Zae} (h:GraphH l) {i:Nat} {n:Zae} (hi:l[i]?=some n) {out:List Int} (hr:∀ (j:Nat) x y,j < i->out[j]?=some x->l[j]?=some y->Zb3 y x) (hlen:i<=out.length):Zb3 n (Zbu l out i n):=by
 unfold Zbu;cases hok:okK out i n
 ·exact Zb3.z
 ·exact (Zgh h hi hr hlen hok).rng
theorem Zej {l:List Zae} (h:GraphH l):∀ (m:Nat) (j:Nat) x y,(Zam l m)[j]?=some x->l[j]?=some y->Zb3 y x
 | 0,j,x,y,h1,_=>by simp [Zam] at h1
 | m+1,j,x,y,h1,h2=>by
  have hl:=ZaK l m;have ih:=Zej h m;unfold Zam at h1;by_cases hj:j < m
  ·rw [getElem?_append_left (by omega)] at h1;exact ih j x y h1 h2
  ·by_cases hj2:j=m
   ·subst hj2;rw [getElem?_append_right (by omega),hl,h2] at h1;simp at h1;rw [<-h1];exact ZnC h h2 (fun j' x y _ h3 h4=>ih j' x y h3 h4) (by omega)
   ·have:=ZaA h1;simp [hl] at this;omega
theorem ZnD {l:List Zae} {i:Nat} {n:Zae} {out known:List Int} (h:∀ j:Nat,j < i->known[j]?=out[j]?):Zbu l known i n=Zbu l out i n:=by
 have ha:∀ q:Int,0<=q->q < i->atI known q=atI out q:=fun q h0 h1=>by unfold atI;rw [h q.toNat (by omega)]
 have hq:okQ known i=okQ out i:=by
  funext q;unfold okQ;by_cases hq:0<=q/\q < i
  ·rw [ha q hq.1 hq.2]
  ·simp [hq]
 have hk:okK known i n=okK out i n:=by unfold okK;rw [hq]
 unfold Zbu;rw [hk];cases hok:okK out i n
 ·rfl
 ·have:kS known n=kS out n:=by
   unfold kS;refine List.map_congr_left fun q hq'=>?_;unfold okK at hok;have:=(all_eq_true.1 hok) q hq';unfold okQ at this;simp at this;exact ha q this.1.1 this.1.2
  rw [this]
theorem ZS6 (l:List Zae) (h:GraphH l) (i:Nat) (n:Zae) (hn:l[i]?=some n) (out:List Int) (ho:out.length=i)
 {Q:(Bool×List Int×List Int)⊕((List Int)⊕((Int×List Int)⊕(List Int)))->Prop} (h1:okK out i n=true->Q (.inl (true,out,kS out n))) (h2:okK out i n=false->∀ k,Q (.inl (false,out,k))) :
 Ret (Zao (ZSR l (i:Int)) (true,0,out,[])) Q:=by
 have hb:=h.k n (mem_of_getElem? hn);refine Zac (fun q:Bool×Int×List Int×List Int=>q.1=true/\q.2.2.1=out/\∃ j:Nat,q.2.1=j/\j<=n.2.2.length/\q.2.2.2=(n.2.2.take j).map (atI out)/\(n.2.2.take j).all (okQ out i)=true) (fun q=>n.2.2.length - q.2.1.toNat) ?_ _ ⟨rfl,rfl,0,rfl,by omega,rfl,rfl⟩;rintro ⟨ok,j',out',k⟩ ⟨e1,e2,j,e3,hj,e4,hall⟩;dsimp only at e1 e2 e3 e4;subst e1 e2 e3 e4;have hg:gI l (i:Int)=some n:=by rw [Zax,hn]
 simp only [ZSR,wq,reduceCtorEq,Za4 hg];refine ⟨fun hlt=>Zaj (by omega) hlt fun y hy hm=>?_,fun hge=>?_⟩
 ·have hbad:okQ out' i y=false->Q (.inl (false,out',(n.2.2.take j).map (atI out'))):=fun h=>h2 (ZpS hm h) _;rw [Zax] at hy;simp only [ZD2,wq,reduceCtorEq];refine ⟨fun h0=>hbad (by simp [okQ];omega),fun h0=>⟨fun h1=>hbad (by simp [okQ];omega),fun h1=>Zaj h0 (by omega) fun z hz _=>?_⟩⟩;have hz':=ZhU hz;simp only [Za4 hz,wq,reduceCtorEq];refine ⟨fun h3=>hbad (by simp [okQ,hz',h3]),fun h3=>⟨fun _=>?_,fun h=>absurd h (by simp only [length_cons,length_nil,List.length_map,length_take];omega)⟩⟩;have hw:=Zab j (by omega);rw [hw];refine ⟨⟨j+1,rfl,by omega,?_,?_⟩,by omega⟩
  ·rw [take_add_one,hy,List.map_append,<-hz'];rfl
  ·rw [Zm1 hall hy];simp [okQ,hz',h3];omega
 ·have:j=n.2.2.length:=by omega
  subst this;rw [take_length] at hall |-
  exact h1 hall
theorem ZAR (l:List Zae) (h:GraphH l):F31 l=some (Zam l l.length):=by
 refine Ret.eq ?_;unfold F31;refine Zac (fun q:Int×List Int=>∃ m:Nat,q.1=m/\m<=l.length/\q.2=Zam l m) (fun q=>l.length - q.1.toNat) ?_ _ ⟨0,rfl,by omega,rfl⟩;rintro ⟨i',out⟩ ⟨m,e,hm,e2⟩;dsimp only at e e2;subst e;subst e2;have hn:=h.n;have hlen:=ZaK l m;simp only [Z90,wq,reduceCtorEq];refine ⟨fun hlt=>?_,fun hge=>?_⟩
 ·have hml:m < l.length:=by omega
  have hn:l[m]?=some l[m]:=getElem?_eq_getElem hml;have hg:gI l (m:Int)=some l[m]:=by rw [Zax,hn]
  have hw:=Zab m (by omega);have hs:Zam l (m+1)=Zam l m++[Zbu l (Zam l m) m l[m]]:=by conv=>lhs;unfold Zam;rw [hn]
  refine ZS6 l h m l[m] hn _ hlen (fun hok=>?_) (fun hok k=>?_)
  ·have ht:=Zgh h hn (fun j' x y _ h3 h4=>Zej h m j' x y h3 h4) (by omega) hok;simp only [wq,reduceCtorEq,Z9z,Za4 hg,Za4 ht.ns];refine ⟨fun _=>?_,fun h=>absurd h (by simp only [length_cons,length_nil];omega)⟩;simp only [wq,reduceCtorEq,Z5B,hw];refine ⟨⟨m+1,rfl,by omega,?_⟩,by omega⟩;rw [hs];unfold Zbu;rw [hok];rfl
  ·simp only [wq,reduceCtorEq,Z9z];refine ⟨fun _=>?_,fun h=>absurd h (by simp only [length_cons,length_nil];omega)⟩;simp only [wq,reduceCtorEq,Z5B,hw];refine ⟨⟨m+1,rfl,by omega,?_⟩,by omega⟩;rw [hs];unfold Zbu;rw [hok];rfl
 ·have:m=l.length:=by omega
  subst this;rfl
theorem Z7f (l:List Zae) (h:GraphH l) (i:Nat) (hi:i < l.length) (known:List Int) (hlen:i<=known.length) (hr:∀ (j:Nat) x y,j < i->known[j]?=some x->l[j]?=some y->Zb3 y x):F51 l i known=some (Zbu l known i (l[i]'hi)):=by
 have hn:l[i]?=some l[i]:=getElem?_eq_getElem hi;have hg:gI l (i:Int)=some l[i]:=by rw [Zax,hn]
 refine Ret.eq ?_;unfold F51;rw [hg];generalize hnn:l[i]=n at *;have hb:=h.k n (mem_of_getElem? hn);simp only [wq,reduceCtorEq];refine Zac (fun q:Int×List Int=>∃ j:Nat,q.1=j/\j<=n.2.2.length/\q.2=(n.2.2.take j).map (atI known)/\(n.2.2.take j).all (okQ known i)=true) (fun q=>n.2.2.length - q.1.toNat) ?_ _ ⟨0,rfl,by omega,rfl,rfl⟩;rintro ⟨j',k⟩ ⟨j,e3,hj,e4,hall⟩;dsimp only at e3 e4;subst e3 e4;simp only [ZEp,wq,reduceCtorEq];refine ⟨fun hlt=>Zaj (by omega) hlt fun y hy hm=>?_,fun hge=>?_⟩
 ·have hbad:okQ known i y=false->(0:Int)=Zbu l known i n:=fun h=>by unfold Zbu;rw [show okK known i n=false from ZpS hm h];rfl
  rw [Zax] at hy;simp only [ZEq,wq,reduceCtorEq];refine ⟨fun h0=>hbad (by simp [okQ];omega),fun h0=>⟨fun h1=>hbad (by simp [okQ];omega),fun h1=>Zaj h0 (by omega) fun z hz _=>?_⟩⟩;have hz':=ZhU hz;simp only [Za4 hz,wq,reduceCtorEq];refine ⟨fun h3=>hbad (by simp [okQ,hz',h3]),fun h3=>⟨fun _=>?_,fun h=>absurd h (by simp only [length_cons,length_nil,List.length_map,length_take];omega)⟩⟩;have hw:=Zab j (by omega);rw [hw];refine ⟨⟨j+1,rfl,by omega,?_,?_⟩,by omega⟩
  ·rw [take_add_one,hy,List.map_append,<-hz'];rfl
  ·rw [Zm1 hall hy];simp [okQ,hz',h3];omega
 ·have:j=n.2.2.length:=by omega
  subst this;rw [take_length] at hall |-
  have ht:=Zgh h hn hr hlen hall;have ha:=ZrX ht;unfold ZbA at ha;have hk:n.2.2.map (atI known)=kS known n:=rfl;rw [hk];have e:Zbu l known i n=nsM l n (kS known n):=by unfold Zbu;rw [show okK known i n=true from hall];rfl
  rw [e];have ha2:Ret (some (nsM l n (kS known n))) fun a=>a=nsM l n (kS known n):=by rw [ZaH]
  rw [<-ha] at ha2;simpa only [wq,reduceCtorEq] using ha2
theorem ZTw (l:List Zae) (h:GraphH l):F33 l=some (Zam l l.length):=by
 refine Ret.eq ?_;have hn:=h.n;unfold F33;simp only [wq,reduceCtorEq];refine ⟨fun _=>?_,fun h=>absurd h (by omega)⟩;refine Zac (fun q:Int×List Int=>∃ m:Nat,q.1=m/\m<=l.length/\q.2=Zam l m++replicate (l.length - m) 0) (fun q=>l.length - q.1.toNat) ?_ _ ⟨0,rfl,by omega,by simp [Zam]⟩;rintro ⟨i',out⟩ ⟨m,e,hm,e2⟩;dsimp only at e e2;subst e;subst e2;have hlen:=ZaK l m;simp only [ZwP,wq,reduceCtorEq];refine ⟨fun hlt=>?_,fun hge=>?_⟩
 ·have hml:m < l.length:=by omega
  have hn:l[m]?=some l[m]:=getElem?_eq_getElem hml;have hw:=Zab m (by omega);have hpre:∀ j:Nat,j < m->(Zam l m++replicate (l.length - m) 0)[j]?=(Zam l m)[j]?:=fun j hj=>getElem?_append_left (by omega);have hs:Zam l (m+1)=Zam l m++[Zbu l (Zam l m) m l[m]]:=by conv=>lhs;unfold Zam;rw [hn]
  rw [Z7f l h m hml _ (by simp;omega) (fun j x y hj h1 h2=>by rw [hpre j hj] at h1;exact Zej h m j x y h1 h2),ZnD hpre];simp only [wq,reduceCtorEq];refine Zaj (by omega) (by simp;omega) fun y hy _=>?_;simp only [Za4 hy,wq,reduceCtorEq,hw];refine ⟨⟨m+1,rfl,by omega,?_⟩,by omega⟩;rw [hs,Zcf];obtain ⟨d,hd⟩:∃ d,l.length - m=d+1:=⟨l.length - m - 1,by omega⟩
  rw [hd,List.replicate_succ,show l.length - (m+1)=d by omega];rw [List.set_append_right _ _ (by omega),hlen];simp
 ·have:m=l.length:=by omega
  subst this;simp
theorem ZiS {l r:List Zae} {n:Zae} {k:List Int} (h:∀ q∈n.2.2,gI l q=gI r q):F50 l n k=F50 r n k:=by
 have hb:∀ f:Zae->Option (Bool⊕Int),((gI n.2.2 0).bind fun y=>(gI l y).bind f)=((gI n.2.2 0).bind fun y=>(gI r y).bind f):=by
  intro f;cases e:gI n.2.2 0 with
  | none=>rfl
  | some y=>simp only [bind_some];rw [h y (ZeR e)]
 have h1:ZRq l n k=ZRq r n k:=by
  funext b;simp only [ZRq,hb]
 unfold F50;rw [h1]
theorem Zvq {α:Type} (l:List α) (m:Nat) (q:Int) (h:q < m):gI (l.take m) q=gI l q:=by
 unfold gI;split
 ·rw [getElem?_take,if_pos (by omega)]
 ·rfl
theorem Zlk {l:List Zae} (m:Nat) (out:List Int) (i:Nat) (n:Zae) (hi:i<=m):Zbu (l.take m) out i n=Zbu l out i n:=by
 unfold Zbu;cases hok:okK out i n
 ·rfl
 ·simp only [cond_true];unfold nsM;rw [ZiS (r:=l) fun q hq=>Zvq l m q ?_];unfold okK at hok;have:=(all_eq_true.1 hok) q hq;unfold okQ at this;simp at this;omega
theorem ZeA (l:List Zae) (m:Nat):∀ j≤m,Zam (l.take m) j=Zam l j
 | 0,_=>rfl
 | j+1,h=>by
  unfold Zam;rw [ZeA l m j (by omega),getElem?_take,if_pos (by omega)];cases l[j]? with
  | none=>rfl
  | some n=>simp only [Zlk m _ j n (by omega)]
theorem Zek (l:List Zae) (j m:Nat) (h:j < m):(Zam l m)[j]?=(Zam l (j+1))[j]?:=by
 induction m with
 | zero=>omega
 | succ m ih=>
  by_cases e:j=m
  ·rw [e]
  ·conv=>lhs;unfold Zam
   rw [getElem?_append_left (by rw [ZaK];omega)];exact ih (by omega)
theorem GraphH.take {l:List Zae} (h:GraphH l) (m:Nat):GraphH (l.take m):=⟨by have:=h.n;simp;omega,fun x hx=>h.k x (List.mem_of_mem_take hx)⟩
theorem Zdy (l:List Zae) (m j:Nat) (h:j < m):(Zam l m)[j]?=some (atI (Zam l m) j):=by
 unfold atI;have:j < (Zam l m).length:=by rw [ZaK];exact h
 rw [show ((j:Int)).toNat=j from rfl,getElem?_eq_getElem this];rfl
theorem ZJq (l:List Zae) (h:GraphH l) (j:Nat) (hj:j < l.length):F15 l j=some (atI (Zam l l.length) j):=by
 refine Ret.eq ?_;have hn:=h.n;have hw:=Zab j (by omega);simp only [F15,ZS5,wq,reduceCtorEq,hw];refine ⟨fun _=>by omega,fun _=>⟨fun h=>by omega,fun _=>⟨fun _=>?_,fun h=>absurd h (by omega)⟩⟩⟩;have hs:slI l 0 ((j+1:Nat):Int)=l.take (j+1):=rfl;rw [hs,ZTw _ (h.take _),show (l.take (j+1)).length=j+1 by simp;omega,ZeA l _ _ (le_refl _)];simp only [wq,reduceCtorEq,Zax];rw [Zdy _ _ _ (by omega),ZaH];unfold atI;rw [show ((j:Int)).toNat=j from rfl,Zek l j l.length hj]
theorem Zb1 {n:Int} (h1:0<=n) (h2:n < 4294967296):wrap .u32 n=n:=by
 show (let m:=n % (2 ^ 32:Int);if false&&m>=(2 ^ 31:Int) then m - (2 ^ 32:Int) else m)=n;simp only [Bool.false_and,false_eq_true,if_false];omega
theorem Zdz {n:Int} (h1:0<=n) (h2:n < 18446744073709551616):wrap .u64 n=n:=by
 show (let m:=n % (2 ^ 64:Int);if false&&m>=(2 ^ 63:Int) then m - (2 ^ 64:Int) else m)=n;simp only [Bool.false_and,false_eq_true,if_false];omega
theorem ZpU {n:Int} (h1:0<=n) (h2:n < 256):wrap .u8 n=n:=by
 show (let m:=n % (2 ^ 8:Int);if false&&m>=(2 ^ 7:Int) then m - (2 ^ 8:Int) else m)=n;simp only [Bool.false_and,false_eq_true,if_false];omega
theorem Zkn (a b:Nat):tmod (a:Int) (b:Int)=((a % b:Nat):Int):=rfl
theorem ZiT (a b:Nat):tdiv (a:Int) (b:Int)=((a / b:Nat):Int):=rfl
def dig (u j:Nat):Int:=((48+u / 10 ^ j % 10:Nat):Int)
def ZhV (u:Nat):Nat->List Int
 | 0=>[]
 | n+1=>dig u n::ZhV u n
theorem Zm2 (u:Nat):∀ n,(ZhV u n).length=n
 | 0=>rfl
 | n+1=>by simp [ZhV,Zm2 u n]
theorem sm0:∀ v:Fin 100,gB BS1 ((2 * v.val:Nat):Int)=some ((48+v.val / 10:Nat):Int):=by decide +kernel
theorem sm1:∀ v:Fin 100,gB BS1 ((2 * v.val+1:Nat):Int)=some ((48+v.val % 10:Nat):Int):=by decide +kernel
theorem smA (v:Nat) (h:v < 100):gB BS1 (wrap .u32 ((v:Int) * 2))=some ((48+v / 10:Nat):Int):=by
 rw [Zb1 (by omega) (by omega)];have:=sm0 ⟨v,h⟩;rw [show ((v:Int) * 2)=((2 * v:Nat):Int) by omega];exact this
theorem smB (v:Nat) (h:v < 100):gB BS1 (wrap .u32 ((wrap .u32 ((v:Int) * 2))+1))=some ((48+v % 10:Nat):Int):=by
 rw [Zb1 (n:=(v:Int) * 2) (by omega) (by omega),Zb1 (by omega) (by omega)];have:=sm1 ⟨v,h⟩;rw [show ((v:Int) * 2+1)=((2 * v+1:Nat):Int) by omega];exact this
structure Dg (u nd k:Nat) (a:List Int):Prop where
 len:a.length=nd
 kn:k<=nd
 at':a.drop k=ZhV u (nd - k)
theorem Dg.put {u nd k:Nat} {a:List Int} (h:Dg u nd (k+1) a):Dg u nd k (Zaq a ((k:Nat):Int) (dig u (nd - (k+1)))):=by
 obtain ⟨h1,h2,h3⟩:=h;refine ⟨by rw [Zay,h1],by omega,?_⟩;rw [Zcf];have e:nd - k=(nd - (k+1))+1:=by omega
 rw [e,ZhV,List.drop_eq_getElem_cons (by simp;omega)];simp only [List.getElem_set_self];congr 1;rw [<-h3,List.drop_set];simp
theorem Zvs (u m j:Nat):dig (u / 10 ^ m) j=dig u (m+j):=by
 unfold dig;rw [Nat.div_div_eq_div_mul,<-pow_add]
theorem Dg.step {u nd k:Nat} {a:List Int} (h:Dg u nd (k+1) a) {x:Int} (hx:x=dig u (nd - (k+1))) {i:Int} (hi:i=(k:Nat)):Dg u nd k (Zaq a i x):=by subst hx;subst hi;exact h.put
theorem Zvt (u m:Nat) {v:Nat} (h:v=u / 10 ^ m % 10):((48+v:Nat):Int)=dig u m:=by subst h;rfl
theorem Zgi {α:Type} {a:List α} {i:Int} {Q:Prop}:Ret (gI a i) (fun _=>Q)=((0<=i/\i < a.length)/\Q):=by
 apply propext;constructor
 ·rintro ⟨x,h,q⟩;obtain ⟨h0,h1,_⟩:=ZaI h;exact ⟨⟨h0,h1⟩,q⟩
 ·rintro ⟨⟨h0,h1⟩,q⟩;exact Zaj h0 h1 fun _ _ _=>q
theorem wm (k c:Nat) (h:k+c<=1000):wrap .i64 (((k+c:Nat):Int) - (c:Nat))=(k:Int):=by rw [Zau (by omega) (by omega)];omega
theorem d8 (v:Nat):v % 100000000 / 10000 / 100 / 10=v / 10000000 % 10/\v % 100000000 / 10000 / 100 % 10=v / 1000000 % 10/\v % 100000000 / 10000 % 100 / 10=v / 100000 % 10/\v % 100000000 / 10000 % 100 % 10=v / 10000 % 10 /\
 v % 100000000 % 10000 / 100 / 10=v / 1000 % 10/\v % 100000000 % 10000 / 100 % 10=v / 100 % 10/\v % 100000000 % 10000 % 100 / 10=v / 10 % 10/\v % 100000000 % 10000 % 100 % 10=v % 10:=by omega
structure FbI (u nd:Nat) (q:Int×Int×List Int):Prop where
 ex:∃ k v:Nat,q.2.1=(k:Int)/\q.1=(v:Int)/\v=u / 10 ^ (nd - k)/\Dg u nd k q.2.2/\v < 10 ^ k
theorem ZcG (u nd k m:Nat) (v:Nat) (hv:v=u / 10 ^ m) {a:List Int} (c d:Nat) (hd:d=v / 10 ^ c % 10) (hm:nd - (k+1)=m+c) (h:Dg u nd (k+1) a):Dg u nd k (Zaq a (k:Int) ((48+d:Nat):Int)):=by
 refine h.step ?_ rfl;rw [Zvt v c hd,hv,Zvs,hm]
theorem ZRG (u nd k:Nat) (hn:nd<=20) (v:Nat) (hv:v=u / 10 ^ (nd - k)) (hk:k<=1) (hlt:v < 10 ^ k) (a:List Int) (h:Dg u nd k a):Ret (ZSg ((k:Int),(v:Int),a)) fun r=>r=ZhV u nd:=by
 have hkn:=h.kn;have hl:=h.len;simp only [ZSg,wq,reduceCtorEq,Zgi];refine ⟨fun hp=>?_,fun hp=>?_⟩
 ·obtain rfl:k=1:=by omega
  refine ⟨⟨by omega,by omega⟩,⟨by omega,by omega⟩,?_⟩;have h10:v < 10:=by simpa using hlt
  rw [Zb1 (by omega) (by omega),ZpU (by omega) (by omega)];have:=ZcG u nd 0 (nd - 1) v hv 0 v (by simp;omega) (by omega) h;have h4:=this.at';rw [drop_zero,Nat.sub_zero] at h4;rw [show (48+(v:Int))=((48+v:Nat):Int) by omega];exact h4
 ·obtain rfl:k=0:=by omega
  have h4:=h.at';rw [drop_zero,Nat.sub_zero] at h4;exact h4
theorem ZRH (u nd k:Nat) (hn:nd<=20) (v:Nat) (hv:v=u / 10 ^ (nd - k)) (hk:k<=3) (hlt:v < 10 ^ k) (a:List Int) (h:Dg u nd k a):Ret (ZSh ((k:Int),(v:Int),a)) fun r=>r=ZhV u nd:=by
 have hkn:=h.kn;have hl:=h.len;have hv3:v < 10 ^ 3:=Nat.lt_of_lt_of_le hlt (Nat.pow_le_pow_right (by omega) hk);have hc:tmod (v:Int) 100=((v % 100:Nat):Int):=Zkn v 100;have hd:wrap .u32 (tdiv (v:Int) 100)=((v / 100:Nat):Int):=by rw [show tdiv (v:Int) 100=((v / 100:Nat):Int) from ZiT v 100,Zb1 (by omega) (by omega)]
 simp only [ZSh,wq,reduceCtorEq,hc,hd,Za4 (smA (v % 100) (by omega)),Za4 (smB (v % 100) (by omega)),Zgi];refine ⟨fun hp=>?_,fun hp=>?_⟩
 ·obtain ⟨k,rfl⟩:∃ j,k=j+2:=⟨k - 2,by omega⟩
  have w1:wrap .i64 (((k+2:Nat):Int) - 1)=((k+1:Nat):Int):=wm (k+1) 1 (by omega);have w2:wrap .i64 (((k+2:Nat):Int) - 2)=(k:Int):=wm k 2 (by omega);simp only [w1,w2,Zay];refine ⟨⟨by omega,by omega⟩,⟨by omega,by omega⟩,⟨by omega,by omega⟩,⟨by omega,by omega⟩,?_⟩;have h1:=ZcG u nd (k+1) (nd - (k+2)) v hv 0 (v % 100 % 10) (by simp) (by omega) h;have h2:=ZcG u nd k (nd - (k+2)) v hv 1 (v % 100 / 10) (by omega) (by omega) h1;refine ZRG u nd k hn (v / 100) ?_ (by omega) ?_ _ h2
  ·rw [hv,Nat.div_div_eq_div_mul,show (100:Nat)=10 ^ 2 from rfl,<-pow_add];congr 2;omega
  ·have:v < 10 ^ k * 100:=by rw [show (100:Nat)=10 ^ 2 from rfl,<-pow_add];exact hlt
   exact Nat.div_lt_of_lt_mul (by rw [mul_comm];exact this)
 ·exact ZRG u nd k hn v hv (by omega) hlt a h
set_option maxHeartbeats 1000000 in
theorem ZSi (u nd:Nat) (hn:nd<=20) (hu:u < 18446744073709551616) (k v:Nat) (a:List Int) (hv:v=u / 10 ^ (nd - k)) (h:Dg u nd k a) (hlt:v < 10 ^ k) (hp:8<=k):Ret (Ztd ((v:Int),(k:Int),a)) (Zev (FbI u nd) (fun q=>q.2.1.toNat) (fun r=>r=ZhV u nd) ((v:Int),(k:Int),a)):=by
 have hkn:=h.kn;have hl:=h.len;have hvu:v<=u:=by rw [hv];exact Nat.div_le_self _ _
 have hx:wrap .u32 (tmod (v:Int) 100000000)=((v % 100000000:Nat):Int):=by rw [show tmod (v:Int) 100000000=((v % 100000000:Nat):Int) from Zkn v 100000000,Zb1 (by omega) (by omega)]
 have hX:v % 100000000 < 100000000:=Nat.mod_lt _ (by omega);obtain ⟨d7,d6,d5,d4,d3,d2,d1,d0⟩:=d8 v;have hp':((k:Int)>=8):=by omega
 simp only [Ztd,hx,decide_eq_true hp',cond_true,wq,reduceCtorEq];obtain ⟨k,rfl⟩:∃ j,k=j+8:=⟨k - 8,by omega⟩
 generalize hXe:v % 100000000=X at *;have t1:tmod (X:Int) 10000=((X % 10000:Nat):Int):=Zkn X 10000;have t2:tmod ((X % 10000:Nat):Int) 100=((X % 10000 % 100:Nat):Int):=Zkn _ 100;have t3:wrap .u32 (tdiv ((X % 10000:Nat):Int) 100)=((X % 10000 / 100:Nat):Int):=by rw [show tdiv ((X % 10000:Nat):Int) 100=((X % 10000 / 100:Nat):Int) from ZiT _ 100,Zb1 (by omega) (by omega)]
 have t4:wrap .u32 (tdiv (X:Int) 10000)=((X / 10000:Nat):Int):=by rw [show tdiv (X:Int) 10000=((X / 10000:Nat):Int) from ZiT _ 10000,Zb1 (by omega) (by omega)]
 have t5:tmod ((X / 10000:Nat):Int) 100=((X / 10000 % 100:Nat):Int):=Zkn _ 100;have t6:wrap .u32 (tdiv ((X / 10000:Nat):Int) 100)=((X / 10000 / 100:Nat):Int):=by rw [show tdiv ((X / 10000:Nat):Int) 100=((X / 10000 / 100:Nat):Int) from ZiT _ 100,Zb1 (by omega) (by omega)]
 have t7:wrap .u64 (tdiv (v:Int) 100000000)=((v / 100000000:Nat):Int):=by rw [show tdiv (v:Int) 100000000=((v / 100000000:Nat):Int) from ZiT _ 100000000,Zdz (by omega) (by omega)]
 have w1:wrap .i64 (((k+8:Nat):Int) - 1)=((k+7:Nat):Int):=wm (k+7) 1 (by omega);have w2:wrap .i64 (((k+8:Nat):Int) - 2)=((k+6:Nat):Int):=wm (k+6) 2 (by omega);have w3:wrap .i64 (((k+8:Nat):Int) - 3)=((k+5:Nat):Int):=wm (k+5) 3 (by omega);have w4:wrap .i64 (((k+8:Nat):Int) - 4)=((k+4:Nat):Int):=wm (k+4) 4 (by omega);have w5:wrap .i64 (((k+8:Nat):Int) - 5)=((k+3:Nat):Int):=wm (k+3) 5 (by omega);have w6:wrap .i64 (((k+8:Nat):Int) - 6)=((k+2:Nat):Int):=wm (k+2) 6 (by omega);have w7:wrap .i64 (((k+8:Nat):Int) - 7)=((k+1:Nat):Int):=wm (k+1) 7 (by omega);have w8:wrap .i64 (((k+8:Nat):Int) - 8)=(k:Int):=wm k 8 (by omega);have b1:=eq_true (show 0<=((k+1:Nat):Int)/\((k+1:Nat):Int) < (a.length:Int) from ⟨by omega,by omega⟩);have b2:=eq_true (show 0<=((k+2:Nat):Int)/\((k+2:Nat):Int) < (a.length:Int) from ⟨by omega,by omega⟩);have b3:=eq_true (show 0<=((k+3:Nat):Int)/\((k+3:Nat):Int) < (a.length:Int) from ⟨by omega,by omega⟩);have b4:=eq_true (show 0<=((k+4:Nat):Int)/\((k+4:Nat):Int) < (a.length:Int) from ⟨by omega,by omega⟩);have b5:=eq_true (show 0<=((k+5:Nat):Int)/\((k+5:Nat):Int) < (a.length:Int) from ⟨by omega,by omega⟩);have b6:=eq_true (show 0<=((k+6:Nat):Int)/\((k+6:Nat):Int) < (a.length:Int) from ⟨by omega,by omega⟩);have b7:=eq_true (show 0<=((k+7:Nat):Int)/\((k+7:Nat):Int) < (a.length:Int) from ⟨by omega,by omega⟩);have b0:=eq_true (show 0<=(k:Int)/\(k:Int) < (a.length:Int) from ⟨by omega,by omega⟩);simp only [t1,t2,t3,t4,t5,t6,t7,w1,w2,w3,w4,w5,w6,w7,w8,Za4 (smA (X % 10000 % 100) (by omega)),Za4 (smB (X % 10000 % 100) (by omega)),Za4 (smA (X % 10000 / 100) (by omega)),Za4 (smB (X % 10000 / 100) (by omega)),
  Za4 (smA (X / 10000 % 100) (by omega)),Za4 (smB (X / 10000 % 100) (by omega)),Za4 (smA (X / 10000 / 100) (by omega)),Za4 (smB (X / 10000 / 100) (by omega)),Zgi,ZaH,ZgT,Zay,b0,b1,b2,b3,b4,b5,b6,b7,true_and]
 refine ⟨?_,by omega⟩;have p0:=ZcG u nd (k+7) (nd - (k+8)) v hv 0 (X % 10000 % 100 % 10) (by simp only [d0,pow_zero,div_one]) (by omega) h;have p1:=ZcG u nd (k+6) (nd - (k+8)) v hv 1 (X % 10000 % 100 / 10) (by simp only [d1,reducePow]) (by omega) p0;have p2:=ZcG u nd (k+5) (nd - (k+8)) v hv 2 (X % 10000 / 100 % 10) (by simp only [d2,reducePow]) (by omega) p1;have p3:=ZcG u nd (k+4) (nd - (k+8)) v hv 3 (X % 10000 / 100 / 10) (by simp only [d3,reducePow]) (by omega) p2;have p4:=ZcG u nd (k+3) (nd - (k+8)) v hv 4 (X / 10000 % 100 % 10) (by simp only [d4,reducePow]) (by omega) p3;have p5:=ZcG u nd (k+2) (nd - (k+8)) v hv 5 (X / 10000 % 100 / 10) (by simp only [d5,reducePow]) (by omega) p4;have p6:=ZcG u nd (k+1) (nd - (k+8)) v hv 6 (X / 10000 / 100 % 10) (by simp only [d6,reducePow]) (by omega) p5;have p7:=ZcG u nd k (nd - (k+8)) v hv 7 (X / 10000 / 100 / 10) (by simp only [d7,reducePow]) (by omega) p6;refine ⟨k,v / 100000000,rfl,rfl,?_,p7,?_⟩
 ·rw [hv,Nat.div_div_eq_div_mul,show (100000000:Nat)=10 ^ 8 from rfl,<-pow_add];congr 2;omega
 ·have:v < 10 ^ k * 100000000:=by rw [show (100000000:Nat)=10 ^ 8 from rfl,<-pow_add];exact hlt
  exact Nat.div_lt_of_lt_mul (by rw [mul_comm];exact this)
set_option maxHeartbeats 1000000 in
theorem ZSj (u nd:Nat) (hn:nd<=20) (hu:u < 18446744073709551616) (k v:Nat) (a:List Int) (hv:v=u / 10 ^ (nd - k)) (h:Dg u nd k a) (hlt:v < 10 ^ k) (hp:k<=7):Ret (Ztd ((v:Int),(k:Int),a)) (Zev (FbI u nd) (fun q=>q.2.1.toNat) (fun r=>r=ZhV u nd) ((v:Int),(k:Int),a)):=by
 have hkn:=h.kn;have hl:=h.len;have hvu:v<=u:=by rw [hv];exact Nat.div_le_self _ _
 have hx:wrap .u32 (tmod (v:Int) 100000000)=((v % 100000000:Nat):Int):=by rw [show tmod (v:Int) 100000000=((v % 100000000:Nat):Int) from Zkn v 100000000,Zb1 (by omega) (by omega)]
 have hX:v % 100000000 < 100000000:=Nat.mod_lt _ (by omega);obtain ⟨d7,d6,d5,d4,d3,d2,d1,d0⟩:=d8 v;have hp':¬ ((k:Int)>=8):=by omega
 simp only [Ztd,hx,decide_eq_false hp',cond_false,wq,reduceCtorEq];have hk7:k<=7:=by omega
 have hv7:v < 10 ^ 7:=Nat.lt_of_lt_of_le hlt (Nat.pow_le_pow_right (by omega) hk7);have hw:wrap .u32 (v:Int)=(v:Int):=Zb1 (by omega) (by omega);have t1:tmod (v:Int) 10000=((v % 10000:Nat):Int):=Zkn v 10000;have t2:tmod ((v % 10000:Nat):Int) 100=((v % 10000 % 100:Nat):Int):=Zkn _ 100;have t3:wrap .u32 (tdiv ((v % 10000:Nat):Int) 100)=((v % 10000 / 100:Nat):Int):=by rw [show tdiv ((v % 10000:Nat):Int) 100=((v % 10000 / 100:Nat):Int) from ZiT _ 100,Zb1 (by omega) (by omega)]
 have t4:wrap .u32 (tdiv (v:Int) 10000)=((v / 10000:Nat):Int):=by rw [show tdiv (v:Int) 10000=((v / 10000:Nat):Int) from ZiT _ 10000,Zb1 (by omega) (by omega)]
 simp only [hw,t1,t2,t3,t4,Za4 (smA (v % 10000 % 100) (by omega)),Za4 (smB (v % 10000 % 100) (by omega)),Za4 (smA (v % 10000 / 100) (by omega)),Za4 (smB (v % 10000 / 100) (by omega)),Zgi];refine ⟨fun hp=>?_,fun hp=>?_⟩
 ·obtain ⟨k,rfl⟩:∃ j,k=j+4:=⟨k - 4,by omega⟩
  have w1:wrap .i64 (((k+4:Nat):Int) - 1)=((k+3:Nat):Int):=wm (k+3) 1 (by omega);have w2:wrap .i64 (((k+4:Nat):Int) - 2)=((k+2:Nat):Int):=wm (k+2) 2 (by omega);have w3:wrap .i64 (((k+4:Nat):Int) - 3)=((k+1:Nat):Int):=wm (k+1) 3 (by omega);have w4:wrap .i64 (((k+4:Nat):Int) - 4)=(k:Int):=wm k 4 (by omega);simp only [w1,w2,w3,w4,Zay];refine ⟨⟨by omega,by omega⟩,⟨by omega,by omega⟩,⟨by omega,by omega⟩,⟨by omega,by omega⟩,⟨by omega,by omega⟩,⟨by omega,by omega⟩,⟨by omega,by omega⟩,⟨by omega,by omega⟩,?_⟩;have p0:=ZcG u nd (k+3) (nd - (k+4)) v hv 0 (v % 10000 % 100 % 10) (by simp only [pow_zero,div_one];omega) (by omega) h;have p1:=ZcG u nd (k+2) (nd - (k+4)) v hv 1 (v % 10000 % 100 / 10) (by omega) (by omega) p0;have p2:=ZcG u nd (k+1) (nd - (k+4)) v hv 2 (v % 10000 / 100 % 10) (by omega) (by omega) p1;have p3:=ZcG u nd k (nd - (k+4)) v hv 3 (v % 10000 / 100 / 10) (by omega) (by omega) p2;refine ZRH u nd k hn (v / 10000) ?_ (by omega) ?_ _ p3
  ·rw [hv,Nat.div_div_eq_div_mul,show (10000:Nat)=10 ^ 4 from rfl,<-pow_add];congr 2;omega
  ·have:v < 10 ^ k * 10000:=by rw [show (10000:Nat)=10 ^ 4 from rfl,<-pow_add];exact hlt
   exact Nat.div_lt_of_lt_mul (by rw [mul_comm];exact this)
 ·exact ZRH u nd k hn v hv (by omega) hlt a h
theorem ZSk (u nd:Nat) (hn:nd<=20) (hu:u < 18446744073709551616) (q:Int×Int×List Int) (h:FbI u nd q):Ret (Ztd q) (Zev (FbI u nd) (fun q=>q.2.1.toNat) (fun r=>r=ZhV u nd) q):=by
 obtain ⟨u',k',a⟩:=q;obtain ⟨k,v,e1,e2,hv,h,hlt⟩:=h;dsimp only at e1 e2 h;subst e1;subst e2;by_cases hp:8<=k
 ·exact ZSi u nd hn hu k v a hv h hlt hp
 ·exact ZSj u nd hn hu k v a hv h hlt (by omega)
theorem Zvp (u:Nat) (a:List Int) (hn:a.length<=20) (hu:u < 18446744073709551616) (hlt:u < 10 ^ a.length):Z0l (u:Int) a=some (ZhV u a.length):=by
 refine Ret.eq ?_;unfold Z0l;exact Zac (FbI u a.length) (fun q=>q.2.1.toNat) (ZSk u a.length hn hu) _ ⟨a.length,u,rfl,rfl,by simp,⟨rfl,le_refl _,by simp [ZhV]⟩,hlt⟩

def BL (u m : Nat) : Prop := u < 2 ^ m ∧ (0 < u → 2 ^ m ≤ 2 * u)
theorem l8 : ∀ v : Fin 256, ∃ m : Fin 9, gB BS2 ((v.val : Nat) : Int) = some ((m.val : Nat) : Int) ∧ v.val < 2 ^ m.val ∧ (0 < v.val → 2 ^ m.val ≤ 2 * v.val) := by decide +kernel
theorem BL.up {u x m : Nat} (k : Nat) (hx : x = u / 2 ^ k) (h : BL x m) (h0 : 0 < x) : BL u (m + k) := by
  obtain ⟨h1, h2⟩ := h;have hk : 0 < 2 ^ k := Nat.pow_pos (by omega);have e1 : 2 ^ k * (u / 2 ^ k) ≤ u := Nat.mul_div_le u (2 ^ k);have e2 : u < 2 ^ k * (u / 2 ^ k + 1) := Nat.lt_mul_div_succ u hk;rw [← hx] at e1 e2;refine ⟨?_, fun _ => ?_⟩
  · rw [pow_add, mul_comm];exact Nat.lt_of_lt_of_le e2 (Nat.mul_le_mul_left _ h1)
  · rw [pow_add, mul_comm];have := Nat.mul_le_mul_left (2 ^ k) (h2 h0);have e3 : 2 ^ k * (2 * x) = 2 * (2 ^ k * x) := by rw [Nat.mul_left_comm]
    omega
theorem ZpY (a b : Nat) : fdiv (a : Int) (b : Int) = ((a / b : Nat) : Int) := by
  rw [Int.fdiv_eq_ediv_of_nonneg _ (by omega)]; rfl
theorem ZRI (u x n : Nat) (hx : x < 256) (hn : n ≤ 56) {Q : Int → Prop} (hQ : ∀ m : Nat, m ≤ n + 8 → (∃ k, m = k + n ∧ BL x k) → Q (m : Int)) : Ret (ZSf ((x : Int), (n : Int))) Q := by
  obtain ⟨m, h1, h2, h3⟩ := l8 ⟨x, hx⟩;dsimp only at h1 h2 h3;simp only [ZSf, ZpU (n := (x : Int)) (by omega) (by omega), Za4 h1, wq, reduceCtorEq];have hm := m.isLt;rw [Zau (n := ((m.val : Nat) : Int)) (by omega) (by omega), Zau (by omega) (by omega)];have := hQ (n + m.val) (by omega) ⟨m.val, by omega, h2, h3⟩;rw [show (n : Int) + ((m.val : Nat) : Int) = ((n + m.val : Nat) : Int) by omega];exact this
theorem Zko (x n : Nat) (hx : x < 65536) (hn : n ≤ 48) {Q : Int → Prop} (hQ : ∀ m : Nat, m ≤ n + 16 → (∃ k, m = k + n ∧ BL x k) → Q (m : Int)) : Ret (Zp9 ((x : Int), (n : Int))) Q := by
  have e : fdiv (x : Int) (2 ^ (min (toNat 8) (IntKind.bits .u64))) = ((x / 256 : Nat) : Int) := ZpY x 256;simp only [Zp9, e, wq, reduceCtorEq];refine ⟨fun h => ?_, fun h => ?_⟩
  · rw [Zau (n := (n : Int) + 8) (by omega) (by omega), show (n : Int) + 8 = ((n + 8 : Nat) : Int) by omega];refine ZRI x (x / 256) (n + 8) (by omega) (by omega) fun m hm ⟨k, hk, hb⟩ => hQ m (by omega) ⟨k + 8, by omega, hb.up 8 rfl (by omega)⟩
  · exact ZRI x x n (by omega) (by omega) fun m hm hk => hQ m (by omega) hk
theorem Zkp (x n : Nat) (hx : x < 4294967296) (hn : n ≤ 32) {Q : Int → Prop} (hQ : ∀ m : Nat, m ≤ n + 32 → (∃ k, m = k + n ∧ BL x k) → Q (m : Int)) : Ret (ZpA ((x : Int), (n : Int))) Q := by
  have e : fdiv (x : Int) (2 ^ (min (toNat 16) (IntKind.bits .u64))) = ((x / 65536 : Nat) : Int) := ZpY x 65536;simp only [ZpA, e, wq, reduceCtorEq];refine ⟨fun h => ?_, fun h => ?_⟩
  · rw [Zau (n := (n : Int) + 16) (by omega) (by omega), show (n : Int) + 16 = ((n + 16 : Nat) : Int) by omega];refine Zko (x / 65536) (n + 16) (by omega) (by omega) fun m hm ⟨k, hk, hb⟩ => hQ m (by omega) ⟨k + 16, by omega, hb.up 16 rfl (by omega)⟩
  · exact Zko x n (by omega) (by omega) fun m hm hk => hQ m (by omega) hk
theorem ZSX (u : Nat) (hu : u < 18446744073709551616) : Ret (Z0n (u : Int)) fun r => ∃ m : Nat, r = m ∧ m ≤ 64 ∧ BL u m := by
  have e : fdiv (u : Int) (2 ^ (min (toNat 32) (IntKind.bits .u64))) = ((u / 4294967296 : Nat) : Int) := ZpY u 4294967296;simp only [Z0n, e, wq, reduceCtorEq];refine ⟨fun h => ?_, fun h => ?_⟩
  · exact Zkp (u / 4294967296) 32 (by omega) (by omega) fun m hm ⟨k, hk, hb⟩ => ⟨m, rfl, by omega, by rw [hk]; exact hb.up 32 rfl (by omega)⟩
  · exact Zkp u 0 (by omega) (by omega) fun m hm ⟨k, hk, hb⟩ => ⟨m, rfl, by omega, by rw [hk]; exact hb⟩

theorem lg : ∀ n : Fin 65, 1 ≤ n.val → n.val * 78913 / 262144 ≤ 19 ∧ 2 ^ n.val ≤ 10 ^ (n.val * 78913 / 262144 + 1) ∧ (1 ≤ n.val * 78913 / 262144 → 2 * 10 ^ (n.val * 78913 / 262144 - 1) ≤ 2 ^ n.val) := by decide +kernel
theorem p10 : ∀ t : Fin 20, gI GT1 ((t.val : Nat) : Int) = some ((10 ^ t.val : Nat) : Int) := by decide +kernel
theorem ZSY (u : Nat) (h0 : 10 ≤ u) (hu : u < 18446744073709551616) : Ret (Zy2 (u : Int)) fun r => ∃ d : Nat, r = d ∧ d ≤ 20 ∧ 1 ≤ d ∧ 10 ^ (d - 1) ≤ u ∧ u < 10 ^ d := by
  simp only [Zy2, wq, reduceCtorEq];refine Ret.mono (ZSX u hu) fun r _ ⟨n, hr, hn, hb1, hb2⟩ => ?_;subst hr;have e : fdiv (wrap .i64 ((n : Int) * 78913)) (2 ^ (min (toNat 18) (IntKind.bits .i64))) = ((n * 78913 / 262144 : Nat) : Int) := by
    rw [Zau (by omega) (by omega), show (n : Int) * 78913 = ((n * 78913 : Nat) : Int) by omega];exact ZpY (n * 78913) 262144
  simp only [Z0i, e, wq, reduceCtorEq];have hn1 : 4 ≤ n := by
    rcases Nat.lt_or_ge n 4 with h | h
    · have : 2 ^ n ≤ 2 ^ 3 := Nat.pow_le_pow_right (by omega) (by omega);omega
    · exact h
  obtain ⟨g1, g2, g3⟩ := lg ⟨n, by omega⟩ (by show 1 ≤ n; omega);dsimp only at g1 g2 g3;have ht1 : 1 ≤ n * 78913 / 262144 := by omega
  generalize n * 78913 / 262144 = t at *;have hp := p10 ⟨t, by omega⟩;dsimp only at hp;simp only [Za4 hp, ZTC, wq, reduceCtorEq];have hbb := hb2 (by omega);have hg3 := g3 ht1;refine ⟨fun h => ?_, fun h => ?_⟩
  · rw [Zau (by omega) (by omega)];have : 10 ^ t ≤ u := by omega
    exact ⟨t + 1, by omega, by omega, by omega, by rw [Nat.add_sub_cancel]; exact this, by omega⟩
  · rw [Zau (by omega) (by omega)];have : u < 10 ^ t := by omega
    exact ⟨t, by omega, by omega, by omega, by omega, this⟩

def Zm3 (u : Nat) : Nat := if u < 10 then 1 else Zm3 (u / 10) + 1
theorem ZpZ (u : Nat) (h : u < 10) : Zm3 u = 1 := by unfold Zm3; rw [if_pos h]
theorem Zll : ∀ (d u : Nat), 1 ≤ d → (d = 1 ∨ 10 ^ (d - 1) ≤ u) → u < 10 ^ d → Zm3 u = d
  | 0, _, h, _, _ => by omega
  | 1, u, _, _, h => ZpZ u (by simpa using h)
  | d + 2, u, _, h1, h2 => by
    have h1 : 10 ^ (d + 1) ≤ u := by rcases h1 with h | h; · omega
                                     · exact h
    have hp : 0 < 10 ^ d := Nat.pow_pos (by omega);have e1 : 10 ^ (d + 1) = 10 ^ d * 10 := pow_succ ..;have e2 : 10 ^ (d + 2) = 10 ^ (d + 1) * 10 := pow_succ ..;rw [Zm3, if_neg (by omega), Zll (d + 1) (u / 10) (by omega) (.inr (by rw [Nat.add_sub_cancel]; exact (Nat.le_div_iff_mul_le (by omega)).2 (by omega))) (by exact (Nat.div_lt_iff_lt_mul (by omega)).2 (by omega))]
theorem Zqa : ∀ u : Nat, u < 10 ^ Zm3 u ∧ 1 ≤ Zm3 u := fun u => by
  induction u using Nat.strongRecOn with
  | _ u ih =>
    unfold Zm3;split
    · rename_i h; exact ⟨by simpa using h, by omega⟩
    · obtain ⟨h1, h2⟩ := ih (u / 10) (by omega);refine ⟨?_, by omega⟩;rw [pow_succ];exact (Nat.div_lt_iff_lt_mul (by omega)).1 h1
def Zlm (u : Nat) : List Int := ZhV u (Zm3 u)
def ZeB (i : Int) : List Int := if i < 0 then 45 :: Zlm i.natAbs else Zlm i.natAbs
theorem ZiU (u : Nat) (h : u < 100000000000000000000) : (Zlm u).length ≤ 20 := by
  unfold Zlm; rw [Zm2];rcases Nat.lt_or_ge 20 (Zm3 u) with hl | hl
  · exfalso;have : ∀ n v : Nat, v < 10 ^ n → 1 ≤ n → Zm3 v ≤ n := by
      intro n
      induction n with
      | zero => intro v _ h; omega
      | succ n ih =>
        intro v hv _;unfold Zm3;split
        · omega
        · rename_i hge;have h1 : v / 10 < 10 ^ n := by rw [pow_succ] at hv; exact (Nat.div_lt_iff_lt_mul (by omega)).2 hv
          have : 1 ≤ n := by
            rcases n with _ | n
            · simp at hv; omega
            · omega
          have := ih (v / 10) h1 this;omega
    have := this 20 u (by omega) (by omega);omega
  · exact hl

theorem smS : ∀ v : Fin 100, 10 ≤ v.val → toB (slB BS1 ((2 * v.val : Nat) : Int) ((2 * v.val + 2 : Nat) : Int)) = [((48 + v.val / 10 : Nat) : Int), ((48 + v.val % 10 : Nat) : Int)] := by decide +kernel
theorem smD : ∀ v : Fin 10, toB (slB BS0 ((v.val : Nat) : Int) ((v.val + 1 : Nat) : Int)) = [((48 + v.val : Nat) : Int)] := by decide +kernel
theorem ZSZ (v : Nat) (h : v < 100) : Ret (Z2z (v : Int)) fun r => toB r = Zlm v := by
  have s36 : (BS0.size : Int) = 36 := by decide +kernel
  have s200 : (BS1.size : Int) = 200 := by decide +kernel
  have w1 : wrap .i64 ((v : Int) + 1) = ((v + 1 : Nat) : Int) := by rw [Zau (by omega) (by omega)]; omega
  have w2 : wrap .i64 ((v : Int) * 2) = ((2 * v : Nat) : Int) := by rw [Zau (by omega) (by omega)]; omega
  have w3 : wrap .i64 (((2 * v : Nat) : Int) + 2) = ((2 * v + 2 : Nat) : Int) := by rw [Zau (by omega) (by omega)]; omega
  simp only [Z2z, w1, w2, w3, s36, s200, wq, reduceCtorEq];refine ⟨fun hl => ⟨fun _ => ?_, fun h => absurd h (by omega)⟩, fun hl => ⟨fun _ => ?_, fun h => absurd h (by omega)⟩⟩
  · have hv : v < 10 := by omega
    rw [smD ⟨v, hv⟩];unfold Zlm;rw [ZpZ v hv];simp only [ZhV, dig, pow_zero, div_one];rw [mod_eq_of_lt hv]
  · have hv : 10 ≤ v := by omega
    rw [smS ⟨v, h⟩ hv];unfold Zlm;rw [Zll 2 v (by omega) (.inr (by simpa using hv)) (by simpa using h)];simp only [ZhV, dig, pow_zero, div_one, reducePow, Nat.pow_one];rw [mod_eq_of_lt (show v / 10 < 10 by omega)]
theorem ZSl (u : Nat) (hu : u < 18446744073709551616) (d : List Int) (hd : d.length ≤ 900000) : ZvZ (u : Int) 10 d = some (d ++ Zlm u) := by
  refine Ret.eq ?_;have hl := ZiU u (by omega);simp only [ZvZ, wq, reduceCtorEq];refine ⟨fun h => ?_, fun h => ?_⟩
  · rw [Zau (by omega) (by omega)];refine Ret.mono (ZSZ u (by omega)) fun r _ hr => ?_;rw [hr];exact ⟨fun _ => rfl, fun h => absurd h (by omega)⟩
  · refine Ret.mono (ZSY u (by omega) hu) fun r _ ⟨n, hr, hn, h1, h2, h3⟩ => ?_;subst hr;have hsl : (slI (replicate 24 (0 : Int)) 0 (n : Int)).length = n := by unfold slI; simp; omega
    have hdec : Zlm u = ZhV u n := by unfold Zlm; rw [Zll n u h1 (.inr h2) h3]
    refine ⟨fun _ => ?_, fun h => absurd h (by omega)⟩;rw [Zvp u _ (by rw [hsl]; exact hn) hu (by rw [hsl]; exact h3), hsl, ← hdec];simp only [ZaH];exact ⟨fun _ => trivial, fun h => absurd h (by omega)⟩
theorem ZCf (i : Int) (h1 : -9223372036854775808 ≤ i) (h2 : i ≤ 9223372036854775807) (d : List Int) (hd : d.length ≤ 800000) : F52 i 10 d = some (d ++ ZeB i) := by
  refine Ret.eq ?_;simp only [F52, F86, Zu6, wq, reduceCtorEq];refine ⟨fun h => ⟨fun _ => ?_, fun h => absurd h (by simp only [length_cons, length_nil]; omega)⟩, fun h => ?_⟩
  · have e1 : wrap .u64 i = i + 18446744073709551616 := by
      show (let m := i % (2 ^ 64 : Int); if false && m ≥ (2 ^ 63 : Int) then m - (2 ^ 64 : Int) else m) = _;simp only [Bool.false_and, false_eq_true, if_false]; omega
    have e2 : wrap .u64 (0 - (i + 18446744073709551616)) = ((i.natAbs : Nat) : Int) := by
      show (let m := (0 - (i + 18446744073709551616)) % (2 ^ 64 : Int); if false && m ≥ (2 ^ 63 : Int) then m - (2 ^ 64 : Int) else m) = _;simp only [Bool.false_and, false_eq_true, if_false]; omega
    rw [e1, e2, ZSl _ (by omega) _ (by simp; omega)];simp only [ZaH, ZeB, if_pos h, append_assoc, cons_append, List.nil_append]
  · rw [Zdz (by omega) (by omega), show i = ((i.natAbs : Nat) : Int) by omega, ZSl _ (by omega) _ (by omega)];simp only [ZaH, ZeB];rw [if_neg (by omega)];simp
def Z02:List Int->Nat->Nat
 | [],a=>a
 | x::l,a=>Z02 l (a * 10+(x - 48).toNat)
theorem ZgU (u:Nat):∀ n a,Z02 (ZhV u n) a=a * 10 ^ n+u % 10 ^ n
 | 0,a=>by simp [ZhV,Z02,Nat.mod_one]
 | n+1,a=>by
  have e:(dig u n - 48).toNat=u / 10 ^ n % 10:=by unfold dig;omega
  simp only [ZhV,Z02,e,ZgU u n];have h1:u % 10 ^ (n+1)=u % 10 ^ n+10 ^ n * (u / 10 ^ n % 10):=by rw [pow_succ,Nat.mod_mul]
  rw [h1,pow_succ,Nat.add_mul,Nat.mul_assoc,mul_comm 10 (10 ^ n),mul_comm (u / 10 ^ n % 10)];omega
theorem Zm4 {u v:Nat} (h:Zlm u=Zlm v):u=v:=by
 have h1:=ZgU u (Zm3 u) 0;have h2:=ZgU v (Zm3 v) 0;unfold Zlm at h;rw [h,h2] at h1;rw [mod_eq_of_lt (Zqa u).1,mod_eq_of_lt (Zqa v).1] at h1;omega
theorem Zgj {u:Nat} {x:Int}:∀ {n:Nat},x∈ZhV u n->48<=x/\x<=57
 | 0,h=>by cases h
 | n+1,h=>by
  rcases mem_cons.1 h with rfl | h
  ·unfold dig;omega
  ·exact Zgj h
theorem ZgV {i x:Int} (h:x∈ZeB i):x=45\/(48<=x/\x<=57):=by
 unfold ZeB at h;split at h
 ·rcases mem_cons.1 h with rfl | h
  ·exact .inl rfl
  ·exact .inr (Zgj h)
 ·exact .inr (Zgj h)
theorem Zkt {i j:Int} (h:ZeB i=ZeB j):i=j:=by
 have hd:∀ u:Nat,∀ r,Zlm u≠45::r:=by
  intro u r e;have:(45:Int)∈Zlm u:=by rw [e];simp
  have:=Zgj this;omega
 unfold ZeB at h;split at h<;>split at h
 ·have:=Zm4 (List.cons.inj h).2;omega
 ·exact absurd h.symm (hd _ _)
 ·exact absurd h (hd _ _)
 ·have:=Zm4 h;omega
theorem ZdS {i:Int} (h1:-9223372036854775808<=i) (h2:i<=9223372036854775807):(ZeB i).length<=21:=by
 unfold ZeB;split
 ·have:=ZiU i.natAbs (by omega);simp;omega
 ·have:=ZiU i.natAbs (by omega);omega
def ZfT (l:List Int):List Int:=l.flatMap fun k=>32::ZeB k
def ZgW (a:Int) (l:List Int):List Int:=ZeB a++ZfT l
theorem Zqc:∀ {a b r s:List Int},(32:Int)∉a->(32:Int)∉b->a++32::r=b++32::s->a=b/\r=s
 | [],[],r,s,_,_,h=>⟨rfl,(List.cons.inj h).2⟩
 | [],y::b,r,s,_,hb,h=>by
  have:=(List.cons.inj h).1;exact absurd (by rw [this];simp) hb
 | x::a,[],r,s,ha,_,h=>by
  have:=(List.cons.inj h).1;exact absurd (by rw [this];simp) ha
 | x::a,y::b,r,s,ha,hb,h=>by
  obtain ⟨h1,h2⟩:=List.cons.inj h;obtain ⟨e1,e2⟩:=Zqc (fun m=>ha (mem_cons_of_mem _ m)) (fun m=>hb (mem_cons_of_mem _ m)) h2;exact ⟨by rw [h1,e1],e2⟩
theorem Z03 (i:Int):(32:Int)∉ZeB i:=fun h=>by have:=ZgV h;omega
theorem Zm5:∀ {l m:List Int} {a b:Int},ZgW a l=ZgW b m->a=b/\l=m
 | [],[],a,b,h=>by
  simp only [ZgW,ZfT,flatMap_nil,append_nil] at h;exact ⟨Zkt h,rfl⟩
 | [],y::m,a,b,h=>by
  simp only [ZgW,ZfT,flatMap_nil,append_nil,flatMap_cons,cons_append] at h;exact absurd (by rw [h];simp) (Z03 a)
 | x::l,[],a,b,h=>by
  simp only [ZgW,ZfT,flatMap_nil,append_nil,flatMap_cons,cons_append] at h;exact absurd (by rw [<-h];simp) (Z03 b)
 | x::l,y::m,a,b,h=>by
  simp only [ZgW,ZfT,flatMap_cons,cons_append] at h;obtain ⟨h1,h2⟩:=Zqc (Z03 a) (Z03 b) h;obtain ⟨h3,h4⟩:=Zm5 (a:=x) (b:=y) (l:=l) (m:=m) h2;exact ⟨Zkt h1,by rw [h3,h4]⟩
theorem Zqd {l m:List Int} (hl:∀ x∈l,0<=x/\x < 256) (hm:∀ x∈m,0<=x/\x < 256) (h:ofB l=ofB m):l=m:=by
 have h1:(l.map fun n=>UInt8.ofNat n.toNat)=m.map fun n=>UInt8.ofNat n.toNat:=by
  unfold ofB at h;have:=ByteArray.mk.inj h;simpa using congrArg Array.toList this
 have key:∀ (l:List Int),(∀ x∈l,0<=x/\x < 256)->(l.map fun n=>UInt8.ofNat n.toNat).map (fun b=>(b.toNat:Int))=l:=by
  intro l hl
  induction l with
  | nil=>rfl
  | cons x l ih=>
   simp only [List.map_cons];rw [ih (fun y hy=>hl y (mem_cons_of_mem _ hy))];have:=hl x (by simp);congr 1;rw [UInt8.toNat_ofNat'];omega
 rw [<-key l hl,<-key m hm,h1]
theorem Zm6 {a:Int} {l:List Int} {x:Int} (h:x∈ZgW a l):0<=x/\x < 256:=by
 rcases mem_append.1 h with h | h
 ·have:=ZgV h;omega
 ·obtain ⟨k,_,hk⟩:=List.mem_flatMap.1 h;rcases mem_cons.1 hk with rfl | hk
  ·omega
  ·have:=ZgV hk;omega
def Zvy (op imm:Int) (kids:List Int):ByteArray:=ofB (ZgW op (imm::kids))
theorem Zm7 {a b c d:Int} {k l:List Int} (h:Zvy a b k=Zvy c d l):a=c/\b=d/\k=l:=by
 have h1:=Zqd (fun x hx=>Zm6 hx) (fun x hx=>Zm6 hx) h;obtain ⟨h2,h3⟩:=Zm5 h1;exact ⟨h2,(List.cons.inj h3).1,(List.cons.inj h3).2⟩
abbrev I64 (i:Int):Prop:=-9223372036854775808<=i/\i<=9223372036854775807
structure ZiV (n:Zae):Prop where
 op:I64 n.1
 imm:I64 n.2.1
 k:n.2.2.length<=1000
 kid:∀ x∈n.2.2,I64 x
theorem Zm8 {l:List Int} (h:∀ x∈l,I64 x):(ZfT l).length<=22 * l.length:=by
 induction l with
 | nil=>simp [ZfT]
 | cons x l ih=>
  have h1:=ZdS (h x (by simp)).1 (h x (by simp)).2;have h2:=ih (fun y hy=>h y (mem_cons_of_mem _ hy));unfold ZfT at h2 |-
  simp only [flatMap_cons,length_append,length_cons];omega
theorem ZeV (a b:ByteArray):ZaS .str a b=decide (a=b):=by
 have e:ZaS .str a b=(a.data==b.data):=by cases a;cases b;rfl
 rw [e,Bool.eq_iff_iff,beq_iff_eq,decide_eq_true_eq];constructor
 ·intro h;cases a;cases b;simpa using h
 ·rintro rfl;rfl
theorem ZeW {ν:Type} (m:List (ByteArray×ν)) (x y:ByteArray) (v:ν):Zc3 (ZaS .str) (ZfQ (ZaS .str) m x v) y=if y=x then some v else Zc3 (ZaS .str) m y:=by
 induction m with
 | nil=>
  simp only [ZfQ,Zc3,ZeV];by_cases h:y=x<;>simp [h]
 | cons e m ih=>
  obtain ⟨k,w⟩:=e;simp only [ZfQ,ZeV];by_cases h:x=k
  ·subst h;simp only [decide_true,cond_true,Zc3,ZeV];by_cases h2:y=x<;>simp [h2]
  ·simp only [h,decide_false,cond_false,Zc3,ZeV,ih];by_cases h2:y=k
   ·subst h2;simp only [decide_true,cond_true];rw [if_neg (fun e=>h e.symm)]
   ·simp only [h2,decide_false,cond_false]
theorem ZJp (a b:Zae) (ha:a.2.2.length<=100000):F32 a b=some (decide (a=b)):=by
 refine Ret.eq ?_;obtain ⟨a1,a2,a3⟩:=a;obtain ⟨b1,b2,b3⟩:=b;dsimp only at ha;simp only [F32,Z8M,wq,reduceCtorEq];have hne:∀ P:Prop,[Decidable P]->¬ P->false=decide P:=fun P _ h=>by simp [h]
 refine ⟨fun h=>hne _ fun e=>h (by cases e;rfl),fun h1=>⟨fun h=>hne _ fun e=>h (by cases e;rfl),fun h2=>⟨fun h=>hne _ fun e=>h (by cases e;rfl),fun h3=>?_⟩⟩⟩;subst h1;subst h2;refine Zac (fun i:Int=>∃ n:Nat,i=n/\n<=a3.length/\a3.take n=b3.take n) (fun i=>a3.length - i.toNat) ?_ _ ⟨0,rfl,by omega,by simp⟩;rintro _ ⟨n,rfl,hn,ht⟩;simp only [Z99,wq,reduceCtorEq];have hw:=Zab n (by omega);refine ⟨fun hlt=>Zaj (by omega) hlt fun y hy _=>Zaj (by omega) (by omega) fun z hz _=>?_,fun hge=>?_⟩
 ·rw [Zax] at hy hz;simp only [wq,reduceCtorEq,hw];refine ⟨fun h=>hne _ fun e=>h ?_,fun h=>⟨⟨n+1,rfl,by omega,?_⟩,by omega⟩⟩
  ·cases e;rw [hy] at hz;exact Option.some.inj hz
  ·rw [take_add_one,take_add_one,hy,hz,ht,h]
 ·have e1:n=a3.length:=by omega
  have e2:n=b3.length:=by omega
  have:a3=b3:=by
   rw [<-take_length (l:=a3),<-e1,ht,e2,take_length]
  subst this;simp
def Zex (l:List Zae) (m:Nat):Prop:=∀ i < m,atI (Zam l l.length) i≠0/\∀ j < i,l[j]?≠l[i]?
open Classical in
def ZeX (l:List Zae):Bool:=decide (Zex l l.length)
structure ZhX (l:List Zae):Prop extends GraphH l where
 w:∀ x∈l,ZiV x
def ZfU (l:List Int) (i:Int):Int:=if inR l.length i then atI l i else 0
theorem ZaB {l:List Int} {i:Int} (h:inR l.length i):gI l i=some (atI l i):=by
 obtain ⟨x,hx,_⟩:=Zn9 h.1 h.2;rw [hx,ZhU hx]
structure ZcO (s:Za5):Prop where
 n:s.1.length<=2000
 good:Zex s.1 s.1.length
 va:inR s.1.length s.2.2.2.1
 va1:atI (Zam s.1 s.1.length) s.2.2.2.1=1
 st:inR s.1.length s.2.2.2.2.1
 st2:atI (Zam s.1 s.1.length) s.2.2.2.2.1=2
 steps:∀ x∈s.2.1,inR s.1.length x.1/\inR s.1.length x.2.1/\atI (Zam s.1 s.1.length) x.1=atI (Zam s.1 s.1.length) x.2.1
open Classical in
def ZdT (s:Za5):Bool:=decide (ZcO s)
structure ZmA (s:Za5):Prop where
 g:ZhX s.1
 sl:s.2.1.length<=100000
abbrev Zc0:=Int×Int
inductive Clo (l:List Zae) (ps:List Zc0):Int->Int->Prop
 | pair {a b:Int}:(a,b)∈ps->inR l.length a->inR l.length b->Clo l ps a b
 | refl {a:Int}:Clo l ps a a
 | symm {a b:Int}:Clo l ps a b->Clo l ps b a
 | trans {a b c:Int}:Clo l ps a b->Clo l ps b c->Clo l ps a c
 | cong {i j:Int} {x y:Zae}:gI l i=some x->gI l j=some y->x.1=y.1->x.2.1=y.2.1->x.2.2.length=y.2.2.length ->
  (∀ (k:Nat) p q,x.2.2[k]?=some p->y.2.2[k]?=some q->Clo l ps p q) ->
  (∀ p∈x.2.2,inR l.length p)->(∀ q∈y.2.2,inR l.length q)->Clo l ps i j
structure ZbH (n:Nat) (c:List Int) (x y:Zae):Prop where
 op:x.1=y.1
 imm:x.2.1=y.2.1
 len:x.2.2.length=y.2.2.length
 kid:∀ (k:Nat) p q,x.2.2[k]?=some p->y.2.2[k]?=some q->inR n p/\inR n q/\atI c p=atI c q
structure CI (n:Nat) (c:List Int):Prop where
 len:c.length=n
 r0:∀ i,inR n i->0<=atI c i
 r1:∀ i,inR n i->atI c i<=i
 r2:∀ i,inR n i->atI c (atI c i)=atI c i
theorem CI.rng {n:Nat} {c:List Int} (h:CI n c) {i:Int} (hi:inR n i):inR n (atI c i):=⟨h.r0 i hi,by have:=h.r1 i hi;have:=hi.2;omega⟩
theorem CI.get {n:Nat} {c:List Int} (h:CI n c) {i:Int} (hi:inR n i):gI c i=some (atI c i):=ZaB (by rw [h.len];exact hi)
def Zh3 (l:List Zae) (ps:List Zc0) (c:List Int):Prop:=∀ i j,inR l.length i->inR l.length j->atI c i=atI c j->Clo l ps i j
def Zcs (x y z:Int):Int:=if z=max x y then min x y else z
def Zc1 (c:List Int) (a b:Int):List Int:=c.map (Zcs (atI c a) (atI c b))
theorem ZeC {c:List Int} {f:Int->Int} {i:Int} (h:inR c.length i):atI (c.map f) i=f (atI c i):=by
 unfold atI;have:i.toNat < c.length:=by have:=h.1;have:=h.2;omega
 rw [getElem?_map,getElem?_eq_getElem this];rfl
theorem ZiW (x y z:Int):Zcs x y z<=z:=by unfold Zcs;split<;>omega
theorem CI.join {n:Nat} {c:List Int} (h:CI n c) {a b:Int} (ha:inR n a) (hb:inR n b):CI n (Zc1 c a b):=by
 have hm:∀ i,inR n i->atI (Zc1 c a b) i=Zcs (atI c a) (atI c b) (atI c i):=fun i hi=>ZeC (by rw [h.len];exact hi);have a0:=h.r0 a ha;have b0:=h.r0 b hb;have a2:=h.r2 a ha;have b2:=h.r2 b hb;refine ⟨by simp [Zc1,h.len],fun i hi=>?_,fun i hi=>?_,fun i hi=>?_⟩
 ·rw [hm i hi];have:=h.r0 i hi;unfold Zcs;split<;>omega
 ·rw [hm i hi];have:=h.r1 i hi;have:=ZiW (atI c a) (atI c b) (atI c i);omega
 ·have hr:=h.rng hi;have r2:=h.r2 i hi;rw [hm i hi];by_cases e:atI c i=max (atI c a) (atI c b)
  ·have e1:Zcs (atI c a) (atI c b) (atI c i)=min (atI c a) (atI c b):=by unfold Zcs;rw [if_pos e]
   rw [e1];rcases (by omega:min (atI c a) (atI c b)=atI c a\/min (atI c a) (atI c b)=atI c b) with e2 | e2
   ·rw [e2,hm _ (h.rng ha),a2];unfold Zcs;split<;>omega
   ·rw [e2,hm _ (h.rng hb),b2];unfold Zcs;split<;>omega
  ·have e1:Zcs (atI c a) (atI c b) (atI c i)=atI c i:=by unfold Zcs;rw [if_neg e]
   rw [e1,hm _ hr,r2,e1]
theorem Zh3.join {l:List Zae} {ps:List Zc0} {c:List Int} (hc:CI l.length c) (h:Zh3 l ps c) {a b:Int} (ha:inR l.length a) (hb:inR l.length b) (hab:Clo l ps a b):Zh3 l ps (Zc1 c a b):=by
 intro i j hi hj e;have hm:∀ i,inR l.length i->atI (Zc1 c a b) i=Zcs (atI c a) (atI c b) (atI c i):=fun i hi=>ZeC (by rw [hc.len];exact hi);rw [hm i hi,hm j hj] at e;by_cases e0:atI c i=atI c j
 ·exact h i j hi hj e0
 ·have key:∀ i,inR l.length i->(atI c i=max (atI c a) (atI c b)\/atI c i=min (atI c a) (atI c b))->Clo l ps i a:=by
   intro i hi hx;rcases (by omega:atI c i=atI c a\/atI c i=atI c b) with hx | hx
   ·exact h i a hi ha hx
   ·exact (h i b hi hb hx).trans hab.symm
  unfold Zcs at e;refine (key i hi ?_).trans (key j hj ?_).symm
  ·split at e<;>split at e<;>omega
  ·split at e<;>split at e<;>omega
theorem ZhY {n:Nat} {c:List Int} (h:CI n c) {a b p q:Int} (hp:inR n p) (hq:inR n q) (e:atI c p=atI c q):atI (Zc1 c a b) p=atI (Zc1 c a b) q:=by
 unfold Zc1;rw [ZeC (by rw [h.len];exact hp),ZeC (by rw [h.len];exact hq),e]
def idN (n:Nat):List Int:=(List.range n).map fun (i:Nat)=>(i:Int)
theorem ZdU {n:Nat} {i:Int} (h:inR n i):atI (idN n) i=i:=by
 unfold atI idN;have:i.toNat < n:=by have:=h.1;have:=h.2;omega
 rw [getElem?_map,List.getElem?_range this];have:=h.1;show ((i.toNat:Nat):Int)=i;omega
theorem CI.id (n:Nat):CI n (idN n):=
 ⟨by simp [idN],fun i hi=>by rw [ZdU hi];exact hi.1,fun i hi=>by rw [ZdU hi];omega,fun i hi=>by rw [ZdU hi,ZdU hi]⟩
theorem Zh3.id (l:List Zae) (ps:List Zc0):Zh3 l ps (idN l.length):=fun i j hi hj e=>by
 rw [ZdU hi,ZdU hj] at e;subst e;exact .refl

def u64 (x:Int):Nat:=(wrap .u64 x).toNat
structure Zfa (l:List Zae):Prop extends ZhX l where
 r:∀ x∈l,∀ k∈x.2.2,inR l.length k
def ZmF (n:Nat) (ps:List Zc0) (k:Nat) (c:List Int):Prop:=∀ a b,(a,b)∈ps.take k->inR n a->inR n b->atI c a=atI c b
theorem ZmF.join {n:Nat} {ps:List Zc0} {k:Nat} {c:List Int} (hc:CI n c) (h:ZmF n ps k c) (a b:Int):ZmF n ps k (Zc1 c a b):=fun p q hm hp hq=>ZhY hc hp hq (h p q hm hp hq)
section
variable {l:List Zae} {ps:List Zc0} (hl:Zfa l)
include hl
end
open Classical in
def ZfV (n:Nat) (c:List Int) (x y:Zae):Bool:=decide (ZbH n c x y)
theorem ZbH.symm {n:Nat} {c:List Int} {x y:Zae} (h:ZbH n c x y):ZbH n c y x:=
 ⟨h.op.symm,h.imm.symm,h.len.symm,fun k p q hp hq=>by obtain ⟨a,b,e⟩:=h.kid k q p hq hp;exact ⟨b,a,e.symm⟩⟩
section
variable {l:List Zae} {ps:List Zc0} (hl:Zfa l)
include hl
end
theorem ZeD {l:List Zae} (hg:Zex l l.length) {i:Nat} {x:Zae} (hx:l[i]?=some x):∀ k∈x.2.2,0<=k/\k < i:=by
 have hi:=ZaA hx;have h1:=(hg i hi).1;have h2:(Zam l l.length)[i]?=some (Zbu l (Zam l i) i x):=by
  rw [Zek l i l.length hi];have hl:=ZaK l i;show (Zam l i++[match l[i]? with | some n=>Zbu l (Zam l i) i n | none=>0])[i]?=_;rw [getElem?_append_right (by omega),hl,hx];simp
 have h3:atI (Zam l l.length) i=Zbu l (Zam l i) i x:=by unfold atI;rw [Int.toNat_natCast,h2];rfl
 rw [h3] at h1;have h4:okK (Zam l i) i x=true:=by
  cases h:okK (Zam l i) i x
  ·unfold Zbu at h1;rw [h] at h1;exact absurd rfl h1
  ·rfl
 intro k hk;unfold okK at h4;have:=(all_eq_true.1 h4) k hk;unfold okQ at this;simp at this;exact this.1
theorem Zfa.of {l:List Zae} (h:ZhX l) (hg:Zex l l.length):Zfa l:=by
 refine ⟨h,fun x hx k hk=>?_⟩;obtain ⟨i,hi⟩:=List.getElem?_of_mem hx;have:=ZeD hg hi k hk;have:=ZaA hi;constructor<;>omega
theorem ZbH.map {n:Nat} {c:List Int} {x y:Zae} (h:ZbH n c x y):x.2.2.map (atI c)=y.2.2.map (atI c):=by
 apply List.ext_getElem?;intro k;rw [getElem?_map,getElem?_map];by_cases hk:k < x.2.2.length
 ·have hk2:k < y.2.2.length:=by rw [<-h.len];exact hk
  rw [getElem?_eq_getElem hk,getElem?_eq_getElem hk2];simp only [map_some];rw [(h.kid k _ _ (getElem?_eq_getElem hk) (getElem?_eq_getElem hk2)).2.2]
 ·rw [List.getElem?_eq_none (by omega),List.getElem?_eq_none (by rw [<-h.len];omega)]
def Zar (l:List Zae) (j:Int):Zae:=l[j.toNat]?.getD (0,0,[])
section
variable {s:Za5} (h:ZmA s)
include h
variable (hv:ZcO s)
include hv
theorem Zql:Zfa s.1:=Zfa.of h.g hv.good
end
section
variable {s:Za5} (h:ZmA s) (hv:ZcO s)
include h hv
end
theorem Zzt (n raw:Int) (hraw:I64 raw):Ret (F19 n raw) fun r=>I64 r:=by
 simp only [F19,wq,reduceCtorEq];refine Z5k (by omega) (by omega) fun r r0 r1=>⟨fun h=>?_,fun h=>?_⟩
 ·refine Zaj r0 (by simp only [length_cons,length_nil];omega) fun y hy _=>?_;simp only [Za4 hy];have key:∀ y∈([0,1,(-1),2,(-9223372036854775808),9223372036854775807,4294967296,(-2147483648),63,64]:List Int),I64 y:=by decide
  exact key y (ZeR hy)
 ·exact ⟨fun _=>Z5k (by omega) (by omega) fun r r0 r1=>(by rw [Zau (by omega) (by omega)];constructor<;>omega),fun _=>hraw⟩
theorem Z8A (x:Int) (l:List Int):Ret (F29 x l) fun _=>True:=by
 simp only [F29,wq,reduceCtorEq];refine fun h=>Zaj (by omega) (by omega) fun y hy _=>?_;simp only [Za4 hy,wq,reduceCtorEq];exact fun h=>absurd h (by omega)
structure Good (l:List Zae) (m:Nat):Prop where
 len:l.length<=m+3
 k:∀ x∈l,x.2.2.length<=3
 w:∀ x∈l,ZiV x
 h0:l[0]?=some (2,0,[])
 h2:l[2]?=some (26,0,[])
theorem Zsf (op:Int):(ZaY op).1<=3:=by
 unfold ZaY
 repeat' split
 all_goals simp
theorem Good.push {l:List Zae} {m:Nat} (h:Good l m) (n:Zae) (hn:n.2.2.length<=3) (hw:ZiV n):Good (l++[n]) (m+1):=by
 obtain ⟨a,b,w,c,d⟩:=h;have l2:2 < l.length:=(List.getElem?_eq_some_iff.1 d).1;refine ⟨by simp;omega,fun x hx=>?_,fun x hx=>?_,?_,?_⟩
 ·rcases mem_append.1 hx with hx | hx
  ·exact b x hx
  ·rw [mem_singleton.1 hx];exact hn
 ·rcases mem_append.1 hx with hx | hx
  ·exact w x hx
  ·rw [mem_singleton.1 hx];exact hw
 ·rw [getElem?_append_left (by omega)];exact c
 ·rw [getElem?_append_left (by omega)];exact d
theorem Good.up {l:List Zae} {m:Nat} (h:Good l m):Good l (m+1):=⟨by have:=h.len;omega,h.k,h.w,h.h0,h.h2⟩
section
variable (l1:List Int) (i:Nat) (hi:i < l1.length) (hi2:i < 14)
 {Q:((List Zae)⊕((Int×List Zae)⊕(List Zae)))->Prop} {out:List Zae} (hg:Good out i) (hQ:∀ o,Good o (i+1)->Q (.inl o))
include hg hQ hi hi2
end


structure Ctx (s:Za5):Prop where
 h:ZmA s
 v:ZcO s
 n:s.1.length<=900
section
variable {s:Za5} (X:Ctx s)
include X
theorem Ctx.kids:Zfa s.1:=Zql X.h X.v
end
def ZaJ (l:List Bool) (q:Int):Bool:=l[q.toNat]?.getD false
theorem Zbj {l:List Bool} {q:Int} (h:inR l.length q):gI l q=some (ZaJ l q):=by
 obtain ⟨x,hx,_⟩:=Zn9 h.1 h.2;rw [hx];unfold ZaJ;rw [(ZaI hx).2.2];rfl
theorem ZaN {l:List Bool} {i j:Int} {x:Bool} (hi:inR l.length i) (hj:0<=j):ZaJ (Zaq l i x) j=if j=i then x else ZaJ l j:=by
 unfold ZaJ Zaq;have:=hi.1;have:=hi.2
 by_cases e:j=i
 ·subst e;rw [if_pos rfl,List.getElem?_set_self (by omega)];rfl
 ·rw [if_neg e,List.getElem?_set_ne (by omega)]
theorem Zeq (n:Nat) (q:Int):ZaJ (replicate n false) q=false:=by
 unfold ZaJ;cases h:(replicate n false)[q.toNat]? with
 | none=>rfl
 | some r=>exact (List.mem_replicate.1 (mem_of_getElem? h)).2
abbrev GrT:=ByteArray×Int×List Zae×Int×Int
inductive Dp (l:List Zae):Nat->Int->Prop
 | var {i:Nat} {x:Zae}:l[i]?=some x->x.1=3->Dp l i (tdiv x.2.1 16)
 | kid {i k q:Nat} {x:Zae} {j:Int}:l[i]?=some x->x.2.2[k]?=some (q:Int)->Dp l q j->(x.1≠31\/j≠x.2.1\/k < x.2.2.length / 2)->Dp l i j
theorem Dp.inv {l:List Zae} {i:Nat} {x:Zae} {j:Int} (hx:l[i]?=some x) (h:Dp l i j):(x.1=3/\j=tdiv x.2.1 16)\/∃ k q:Nat,x.2.2[k]?=some (q:Int)/\Dp l q j/\(x.1≠31\/j≠x.2.1\/k < x.2.2.length / 2):=by
 cases h with
 | var h1 h2=>rw [hx] at h1;obtain rfl:=Option.some.inj h1;exact .inl ⟨h2,rfl⟩
 | kid h1 h2 h3 h4=>rw [hx] at h1;obtain rfl:=Option.some.inj h1;exact .inr ⟨_,_,h2,h3,h4⟩
structure WfP (g:GrT):Prop where
 good:Zex g.2.2.1 g.2.2.1.length
 va:ZfU (Zam g.2.2.1 g.2.2.1.length) g.2.2.2.1=1
 st:ZfU (Zam g.2.2.1 g.2.2.1.length) g.2.2.2.2=2
 lp:∀ i k:Nat,k < i->∀ x y,g.2.2.1[i]?=some x->g.2.2.1[k]?=some y->x.1=31->y.1=31->y.2.1≠x.2.1
 lv:∀ x∈g.2.2.1,x.1=3->∀ y∈g.2.2.1,y.1=31->y.2.1=tdiv x.2.1 16->tmod x.2.1 16 < ((y.2.2.length / 2:Nat):Int)
 dp:∀ j:Int,0<=j->j < 16->¬ Dp g.2.2.1 g.2.2.2.1.toNat j/\¬ Dp g.2.2.1 g.2.2.2.2.toNat j
open Classical in
def wfB (g:GrT):Bool:=decide (WfP g)
theorem Zhh {l:List Zae} (hG:GraphH l) (hg:Zex l l.length) {i:Nat} {x:Zae} (hx:l[i]?=some x):(x.1=2->0<=x.2.1/\x.2.1 < 6)/\(x.1=3->0<=x.2.1/\x.2.1 < 256)/\(x.1=31->0<=x.2.1/\x.2.1 < 16/\∃ m:Nat,x.2.2.length=2 * m+1/\1<=m/\m<=16):=by
 have hi:=ZaA hx;have h1:=(hg i hi).1;have h2:(Zam l l.length)[i]?=some (Zbu l (Zam l i) i x):=by
  rw [Zek l i l.length hi];have hl:=ZaK l i;show (Zam l i++[match l[i]? with | some n=>Zbu l (Zam l i) i n | none=>0])[i]?=_;rw [getElem?_append_right (by omega),hl,hx];simp
 have h3:atI (Zam l l.length) i=Zbu l (Zam l i) i x:=by unfold atI;rw [Int.toNat_natCast,h2];rfl
 rw [h3] at h1;have h4:okK (Zam l i) i x=true:=by
  cases h:okK (Zam l i) i x
  ·unfold Zbu at h1;rw [h] at h1;exact absurd rfl h1
  ·rfl
 have hT:Zlj l x (kS (Zam l i) x):=Zgh hG hx (fun j a b hj ha hb=>Zej hG i j a b ha hb) (by rw [ZaK];exact le_refl _) h4;have hns:nsM l x (kS (Zam l i) x)≠0:=by unfold Zbu at h1;rw [h4] at h1;exact h1
 have he:=hT.ns;generalize kS (Zam l i) x=k at *;have hk:=hT.hk;have hl:=hT.hl;have himm:Zfk x.1 x.2.1=true:=by
  cases hb:Zfk x.1 x.2.1
  ·have ht:ZRq l x k true=some 0:=rfl;have:F50 l x k=some 0:=by
    have h:Ret (F50 l x k) fun a=>a=0:=by
     simp only [F50,Z6K,ZAN,hb,ht,wq,reduceCtorEq]
     repeat' first | apply And.intro | intro _ | trivial
    exact h.eq
   rw [this] at he;exact absurd (Option.some.inj he).symm hns
  ·rfl
 unfold Zfk at himm;rw [decide_eq_true_eq] at himm;refine ⟨fun e=>?_,fun e=>?_,fun e=>?_⟩
 ·rw [e] at himm;simp at himm;omega
 ·rw [e] at himm;simp at himm;omega
 ·rw [e] at himm;simp at himm;refine ⟨by omega,by omega,?_⟩;obtain ⟨op,imm,ks⟩:=x;dsimp only at e hk;subst e;by_cases c:k.length % 2=0\/k.length < 3\/33 < k.length
  ·have:=(ZhT l imm ks k hk hl c).2;rw [this] at he;exact absurd (Option.some.inj he).symm hns
  ·exact ⟨k.length / 2,by dsimp only;omega,by omega,by omega⟩
theorem Zer {l:List Zae} (hG:GraphH l) (hg:Zex l l.length) {i:Nat} {x:Zae} (hx:l[i]?=some x):(x.1=3->0<=x.2.1/\x.2.1 < 256)/\(x.1=31->0<=x.2.1/\x.2.1 < 16/\∃ m:Nat,x.2.2.length=2 * m+1/\1<=m/\m<=16):=(Zhh hG hg hx).2
theorem ZJr (l:List Zae) (h:GraphH l) (i:Int):F12 l i=some (ZfU (Zam l l.length) i):=by
 refine Ret.eq ?_;have hn:=h.n;have hsl:=ZaK l l.length;simp only [F12,Z7v,wq,reduceCtorEq];refine ⟨fun h=>?_,fun h0=>⟨fun h=>?_,fun h1=>?_⟩⟩
 ·unfold ZfU;rw [if_neg (fun e=>by have:=e.1;omega)]
 ·unfold ZfU;rw [if_neg (fun e=>by have:=e.2;omega)]
 ·have hw:wrap .i64 (i+1)=i+1:=Zau (by omega) (by omega);obtain ⟨j,rfl⟩:∃ j:Nat,i=j:=⟨i.toNat,by omega⟩
  have hs:slI l 0 ((j:Int)+1)=l.take (j+1):=by
   unfold slI;have e1:(((j:Int)+1).toNat - (0:Int).toNat)=j+1:=by omega
   simp only [e1,Int.toNat_zero,drop_zero];simp
  have hlt:(l.take (j+1)).length=j+1:=by rw [length_take];omega
  rw [hw,hs,ZAR _ (h.take _),hlt,ZeA l (j+1) (j+1) (le_refl _)];simp only [wq,reduceCtorEq];have hg:gI (Zam l (j+1)) (j:Int)=some (atI (Zam l l.length) (j:Int)):=by
   rw [Zax,<-Zek l j l.length (by omega),Zdy l l.length j (by omega)]
  refine ⟨fun _=>?_,fun h=>absurd h (by omega)⟩;rw [hg,ZaH];unfold ZfU;rw [if_pos ⟨by omega,by omega⟩]
structure Z1G (l:List Zae) (m:Nat) (out:List (List Bool)):Prop where
 len:out.length=m
 row:∀ (i:Nat) r,out[i]?=some r->r.length=16/\∀ j:Int,0<=j->j < 16->(ZaJ r j=true↔Dp l i j)
def DpK (l:List Zae) (x:Zae) (k:Nat) (b:Int) (j:Int):Prop:=∃ t q:Nat,x.2.2[t]?=some (q:Int)/\Dp l q j/\(x.1≠31\/j≠x.2.1\/t < x.2.2.length / 2)/\(t < k\/t=k/\j < b)
theorem ZAV {l:List Zae} (hG:GraphH l) (hg:Zex l l.length):Ret (F41 l) (Z1G l l.length):=by
 have hn:=hG.n;unfold F41;refine Zac (fun q:Int×List (List Bool)=>∃ m:Nat,q.1=m/\m<=l.length/\Z1G l m q.2) (fun q=>l.length - q.1.toNat) ?_ _ ⟨0,rfl,by omega,rfl,fun i r h=>by simp at h⟩;rintro ⟨_,out⟩ ⟨m,rfl,hm,hD⟩;dsimp only at hD;have hw:=Zab m (by omega);have hD1:=hD.len;simp only [ZuJ,wq,reduceCtorEq];refine ⟨fun hlt=>⟨fun _=>?_,fun h=>absurd h (by omega)⟩,fun hge=>?_⟩
 ·have hml:m < l.length:=by omega
  refine Zaj (by omega) hlt fun x hx hxm=>?_;rw [Zax] at hx;have hkb:=ZeD hg hx;have hkl:=hG.k x hxm;have hd:tdiv (x.2.2.length:Int) 2=((x.2.2.length / 2:Nat):Int):=by rw [Int.tdiv_eq_ediv_of_nonneg (by omega)];rfl
  have hd2:wrap .i64 ((x.2.2.length / 2:Nat):Int)=((x.2.2.length / 2:Nat):Int):=Zau (by omega) (by omega);refine Zac (fun q:Int×List (List Bool)×List Bool=>∃ k:Nat,q.1=k/\k<=x.2.2.length/\q.2.1=out/\q.2.2.length=16/\∀ j:Int,0<=j->j < 16->(ZaJ q.2.2 j=true↔DpK l x k 0 j)) (fun q=>x.2.2.length - q.1.toNat) ?_ _ ⟨0,rfl,by omega,rfl,by simp,fun j h0 h1=>by
   rw [Zeq];refine ⟨fun h=>by (cases h),?_⟩;rintro ⟨t,q,_,_,_,h | h⟩
   ·omega
   ·omega⟩
  rintro ⟨_,out2,h⟩ ⟨k,rfl,hk,eo,hl16,hH⟩;dsimp only at hl16 hH eo;subst out2;have hw2:=Zab k (by omega);simp only [ZxL,ZAl,wq,reduceCtorEq];refine ⟨fun hlt2=>?_,fun hge2=>?_⟩
  ·refine Zac (fun q:Int×List (List Bool)×List Bool=>∃ b:Nat,q.1=b/\b<=16/\q.2.1=out/\q.2.2.length=16/\∀ j:Int,0<=j->j < 16->(ZaJ q.2.2 j=true↔DpK l x k b j)) (fun q=>16 - q.1.toNat) ?_ _ ⟨0,rfl,by omega,rfl,hl16,hH⟩;rintro ⟨_,out2,h⟩ ⟨b,rfl,hb,eo,hl16,hH⟩;dsimp only at hl16 hH eo;subst out2;have hw3:=Zab b (by omega);simp only [ZAn,ZxM,ZxK,wq,reduceCtorEq,hw2,hw3,hd,hd2];refine ⟨fun hlt3=>Zaj (by omega) hlt2 fun y hy hym=>?_,fun hge3=>⟨⟨k+1,rfl,by omega,hl16,fun j h0 h1=>(hH j h0 h1).trans ?_⟩,by omega⟩⟩
   ·obtain ⟨q,rfl⟩:∃ q:Nat,y=q:=⟨y.toNat,by have:=(hkb y hym).1;omega⟩
    have hqm:q < m:=by have:=(hkb _ hym).2;omega
    refine Zaj (by omega) (by omega) fun r hr hrm=>?_;simp only [Za4 hr];rw [Zax] at hy hr;obtain ⟨r16,hrj⟩:=hD.row q r hr;have hbr:inR r.length (b:Int):=⟨by omega,by omega⟩
    have hbh:inR h.length (b:Int):=⟨by omega,by omega⟩
    have hrb:=hrj b (by omega) (by omega);rw [Zbj hbr];have keep:(Dp l q b->¬ (x.1≠31\/(b:Int)≠x.2.1\/k < x.2.2.length / 2))->∃ b':Nat,((b+1:Nat):Int)=b'/\b'<=16/\h.length=16/\∀ j:Int,0<=j->j < 16->(ZaJ h j=true↔DpK l x k b' j):=fun hno=>by
     refine ⟨b+1,rfl,by omega,hl16,fun j h0 h1=>(hH j h0 h1).trans ⟨?_,?_⟩⟩
     ·rintro ⟨t,q',e1,e2,e3,e4⟩;exact ⟨t,q',e1,e2,e3,by omega⟩
     ·rintro ⟨t,q',e1,e2,e3,e4⟩;refine ⟨t,q',e1,e2,e3,?_⟩;by_cases e5:t=k/\j=b
      ·obtain ⟨rfl,rfl⟩:=e5;rw [hy] at e1;have:q=q':=by have:=Option.some.inj e1;omega
       subst this;exact absurd e3 (hno e2)
      ·omega
    have set:Dp l q b->(x.1≠31\/(b:Int)≠x.2.1\/k < x.2.2.length / 2)->∃ b':Nat,((b+1:Nat):Int)=b'/\b'<=16/\(Zaq h (b:Int) true).length=16/\∀ j:Int,0<=j->j < 16->(ZaJ (Zaq h (b:Int) true) j=true↔DpK l x k b' j):=fun h1 h2=>by
     refine ⟨b+1,rfl,by omega,by rw [Zay];exact hl16,fun j h0 h1'=>?_⟩;rw [ZaN hbh h0];split
     ·subst ‹j=_›
      exact ⟨fun _=>⟨k,q,hy,h1,h2,.inr ⟨rfl,by omega⟩⟩,fun _=>rfl⟩
     ·refine (hH j h0 h1').trans ⟨?_,?_⟩
      ·rintro ⟨t,q',e1,e2,e3,e4⟩;exact ⟨t,q',e1,e2,e3,by omega⟩
      ·rintro ⟨t,q',e1,e2,e3,e4⟩;exact ⟨t,q',e1,e2,e3,by omega⟩
    simp only [wq,reduceCtorEq,Zbj hbh];refine ⟨fun e1=>⟨fun e2=>⟨set (hrb.1 e1) (.inl e2),by omega⟩,fun e2=>⟨fun e3=>⟨set (hrb.1 e1) (.inr (.inl e3)),by omega⟩,fun e3=>⟨fun e4=>⟨set (hrb.1 e1) (.inr (.inr (by omega))),by omega⟩,fun e4=>⟨keep fun _=>by omega,by omega⟩⟩⟩⟩,fun e1=>⟨keep fun e=>(by rw [hrb.2 e] at e1;cases e1),by omega⟩⟩
   ·have:b=16:=by omega
    subst this;constructor
    ·rintro ⟨t,q',e1,e2,e3,e4⟩;exact ⟨t,q',e1,e2,e3,by omega⟩
    ·rintro ⟨t,q',e1,e2,e3,e4⟩;exact ⟨t,q',e1,e2,e3,by omega⟩
  ·have hkk:k=x.2.2.length:=by omega
   have hlast:∀ h':List Bool,h'.length=16->(∀ j:Int,0<=j->j < 16->(ZaJ h' j=true↔Dp l m j))->(out.length+([h']:List (List Bool)).length<=1000000->(∃ m':Nat,wrap .i64 ((m:Int)+1)=m'/\m'<=l.length/\Z1G l m' (out++[h']))/\l.length - (wrap .i64 ((m:Int)+1)).toNat < l.length - ((m:Int)).toNat):=fun h' hl' hj' _=>by
    rw [hw];refine ⟨⟨m+1,rfl,by omega,by simp;omega,fun i r hr=>?_⟩,by omega⟩;by_cases e:i < m
    ·rw [getElem?_append_left (by omega)] at hr;exact hD.row i r hr
    ·have:i=m:=by have:=ZaA hr;simp at this;omega
     subst this;rw [getElem?_append_right (by omega),hD1] at hr;simp at hr;rw [<-hr];exact ⟨hl',hj'⟩
   have hdp:∀ j,DpK l x k 0 j↔∃ t q:Nat,x.2.2[t]?=some (q:Int)/\Dp l q j/\(x.1≠31\/j≠x.2.1\/t < x.2.2.length / 2):=fun j=>by
    constructor
    ·rintro ⟨t,q,e1,e2,e3,_⟩;exact ⟨t,q,e1,e2,e3⟩
    ·rintro ⟨t,q,e1,e2,e3⟩;exact ⟨t,q,e1,e2,e3,.inl (by have:=ZaA e1;omega)⟩
   refine ⟨fun e=>?_,fun e=>⟨fun hh=>hlast _ hl16 (fun j h0 h1=>?_) hh,fun h=>absurd h (by simp only [length_cons,length_nil];omega)⟩⟩
   ·obtain ⟨i0,i1⟩:=(Zer hG hg hx).1 e;have hq:tdiv x.2.1 16=((x.2.1.toNat / 16:Nat):Int):=by
     obtain ⟨a,ha⟩:∃ a:Nat,x.2.1=a:=⟨x.2.1.toNat,by omega⟩
     rw [ha,Int.tdiv_eq_ediv_of_nonneg (by omega)];rfl
    have hqb:x.2.1.toNat / 16 < 16:=by omega
    have hwq:wrap .i64 (tdiv x.2.1 16)=tdiv x.2.1 16:=by rw [hq];exact Zau (by omega) (by omega)
    have hbh:inR h.length (tdiv x.2.1 16):=by rw [hl16,hq];exact ⟨by omega,by omega⟩
    simp only [hwq,Zbj hbh,wq,reduceCtorEq];refine ⟨fun hh=>hlast _ (by rw [Zay];exact hl16) (fun j h0 h1=>?_) hh,fun h=>absurd h (by simp only [length_cons,length_nil];omega)⟩;rw [ZaN hbh h0];split
    ·subst ‹j=_›
     exact ⟨fun _=>.var hx e,fun _=>rfl⟩
    ·rename_i hne;rw [hH j h0 h1,hdp];constructor
     ·rintro ⟨t,q,e1,e2,e3⟩;exact .kid hx e1 e2 e3
     ·intro hd;rcases hd.inv hx with ⟨_,h⟩ | h
      ·exact absurd h hne
      ·exact h
   ·rw [hH j h0 h1,hdp];constructor
    ·rintro ⟨t,q,e1,e2,e3⟩;exact .kid hx e1 e2 e3
    ·intro hd;rcases hd.inv hx with ⟨h,_⟩ | h
     ·exact absurd h e
     ·exact h
 ·have:m=l.length:=by omega
  subst this;exact hD
theorem Zfe {l:List Int} {i:Int} (h:ZfU l i≠0):inR l.length i:=by
 unfold ZfU at h;split at h
 ·assumption
 ·exact absurd rfl h
structure Tl (l:List Zae) (τ:List Int):Prop where
 len:τ.length=l.length
 lt:∀ (i:Nat) x,l[i]?=some x->∀ k∈x.2.2,0<=k/\k < i
 ns:∀ (i:Nat) x,l[i]?=some x->F50 l x (kS τ x)=some (atI τ i)
 nz:∀ i:Nat,i < l.length->atI τ i≠0
theorem Tl.nil:Tl [] []:=⟨rfl,fun i x h=>by simp at h,fun i x h=>by simp at h,fun i h=>by simp at h⟩
theorem ZIz (τ:List Int) (i:Nat):atI τ (i:Int)=τ[i]?.getD 0:=rfl
theorem Tl.sorts {l:List Zae} {τ:List Int} (h:Tl l τ):∀ m≤l.length,Zam l m=τ.take m
 | 0,_=>by simp [Zam]
 | m+1,hm=>by
  have hl:=h.len;obtain ⟨x,hx⟩:=ZeS (l:=l) (i:=m) (by omega);have ih:=h.sorts m (by omega);have hns:=h.ns m x hx;have hlt:=h.lt m x hx;have hat:τ[m]?=some (atI τ (m:Int)):=by
   rw [ZIz,getElem?_eq_getElem (by omega)];rfl
  unfold Zam;rw [take_add_one,hat,ih,hx];congr 1;show [Zbu l (τ.take m) m x]=[atI τ (m:Int)]
  rw [ZnD (out:=τ) fun j hj=>by rw [getElem?_take,if_pos hj]];have hok:okK τ m x=true:=by
   unfold okK;rw [all_eq_true];intro k hk;obtain ⟨a,b⟩:=hlt k hk;have hz:=h.nz k.toNat (by omega);rw [show ((k.toNat:Nat):Int)=k by omega] at hz;unfold okQ;simp only [Bool.and_eq_true,decide_eq_true_eq,Bool.not_eq_true',beq_eq_false_iff_ne];exact ⟨⟨a,b⟩,hz⟩
  unfold Zbu nsM;rw [hok,cond_true,hns];rfl
theorem Tl.all {l:List Zae} {τ:List Int} (h:Tl l τ):Zam l l.length=τ:=by
 rw [h.sorts _ (le_refl _),<-h.len,take_length]
theorem Tl.good {l:List Zae} {τ:List Int} (h:Tl l τ) (hd:l.Nodup):Zex l l.length:=by
 intro i hi;refine ⟨by rw [h.all];exact h.nz i hi,fun j hj e=>?_⟩;have:=(List.getElem?_inj (by omega) hd).1 e;omega
theorem ZGV {τ ts:List Int} {v:Int} (h:inR τ.length v):atI (τ++ts) v=atI τ v:=by
 have:=h.1;have:=h.2
 unfold atI;rw [getElem?_append_left (by omega)]
theorem ZH2 {τ ts:List Int} {x:Zae} (h:∀ k∈x.2.2,inR τ.length k):kS (τ++ts) x=kS τ x:=
 List.map_congr_left fun k hk=>ZGV (h k hk)
theorem ZH3 {α:Type} {l r:List α} {q:Int} (h:q < l.length):gI (l++r) q=gI l q:=by
 unfold gI;split
 ·rw [getElem?_append_left (by omega)]
 ·rfl
theorem Tl.push {l:List Zae} {τ:List Int} (h:Tl l τ) {n:Zae} {c:Int} (hk:∀ k∈n.2.2,inR l.length k) (hs:F50 l n (kS τ n)=some c) (hc:c≠0):Tl (l++[n]) (τ++[c]):=by
 have hl:=h.len;have old:∀ (i:Nat) x,i < l.length->(l++[n])[i]?=some x->l[i]?=some x:=fun i x hi hx=>by rwa [getElem?_append_left hi] at hx
 have new:∀ (i:Nat) x,¬ i < l.length->(l++[n])[i]?=some x->i=l.length/\x=n:=fun i x hi hx=>by
  have:i=l.length:=by have:=ZaA hx;simp at this;omega
  subst this;rw [getElem?_append_right (le_refl _)] at hx;simp at hx;exact ⟨rfl,hx.symm⟩
 have nst:∀ (x:Zae) (k:List Int),(∀ q∈x.2.2,inR l.length q)->F50 (l++[n]) x k=F50 l x k:=fun x k hq=>ZiS fun q hq'=>ZH3 (hq q hq').2;refine ⟨by simp [hl],fun i x hx=>?_,fun i x hx=>?_,fun i hi=>?_⟩
 ·by_cases e:i < l.length
  ·exact h.lt i x (old i x e hx)
  ·obtain ⟨rfl,rfl⟩:=new i x e hx;exact fun k hk'=>hk k hk'
 ·by_cases e:i < l.length
  ·have hx:=old i x e hx;have hr:∀ q∈x.2.2,inR l.length q:=fun q hq=>by have:=h.lt i x hx q hq;exact ⟨this.1,by omega⟩
   rw [nst x _ hr,ZH2 (by rw [hl];exact hr),h.ns i x hx,ZGV ⟨by omega,by omega⟩]
  ·obtain ⟨rfl,rfl⟩:=new i x e hx;rw [nst x _ hk,ZH2 (by rw [hl];exact hk),hs];congr 1;unfold atI;rw [getElem?_append_right (by omega),hl];simp
 ·by_cases e:i < l.length
  ·rw [ZGV ⟨by omega,by omega⟩];exact h.nz i e
  ·have:i=l.length:=by simp at hi;omega
   subst this;unfold atI;rw [getElem?_append_right (by omega),hl];simpa using hc
theorem Dp.up {l:List Zae} {i:Nat} {j:Int} (h:Dp l i j) (es:List Zae):Dp (l++es) i j:=by
 have g:∀ {i:Nat} {x:Zae},l[i]?=some x->(l++es)[i]?=some x:=fun {i x} hx=>by rw [getElem?_append_left (ZaA hx)];exact hx
 induction h with
 | var h1 h2=>exact .var (g h1) h2
 | kid h1 h2 _ h4 ih=>exact .kid (g h1) h2 ih h4
theorem Dp.down {l es:List Zae} {τ:List Int} (ht:Tl l τ) {i:Nat} {j:Int} (h:Dp (l++es) i j):i < l.length->Dp l i j:=by
 induction h with
 | var h1 h2=>intro hi;rw [getElem?_append_left hi] at h1;exact .var h1 h2
 | @kid i k q x j h1 h2 _ h4 ih=>
  intro hi;rw [getElem?_append_left hi] at h1;have:=ht.lt i x h1 q (mem_of_getElem? h2);exact .kid h1 h2 (ih (by omega)) h4
structure OkV (O:Int->Prop) (l:List Zae) (τ:List Int) (c v:Int):Prop where
 r:inR l.length v
 s:atI τ v=c
 d:∀ j,Dp l v.toNat j->O j
theorem OkV.ext {O O':Int->Prop} {l es:List Zae} {τ ts:List Int} {c v:Int} (h:OkV O l τ c v) (ht:Tl l τ) (ho:∀ j,O j->O' j):OkV O' (l++es) (τ++ts) c v:=by
 have h1:=h.r.1;have h2:=h.r.2
 have hl:=ht.len;exact ⟨⟨h1,by rw [length_append];omega⟩,by rw [ZGV ⟨h1,by omega⟩];exact h.s,fun j hj=>ho j (h.d j (Dp.down ht hj (by omega)))⟩
structure GS where
 l:List Zae
 τ:List Int
 W:Int->Nat
 lo:Int
structure ZHP (n:Zae):Prop extends ZiV n where
 kl:n.2.2.length<=40
structure GI (O:Int->Prop) (s:GS):Prop where
 t:Tl s.l s.τ
 nd:s.l.Nodup
 w:∀ x∈s.l,ZHP x
 lv:∀ x∈s.l,x.1=3->0<=x.2.1/\tdiv x.2.1 16 < s.lo/\tmod x.2.1 16 < s.W (tdiv x.2.1 16)
 lp:∀ x∈s.l,x.1=31->0<=x.2.1/\x.2.1 < s.lo/\¬ O x.2.1/\x.2.2.length / 2=s.W x.2.1
 lu:∀ x∈s.l,∀ y∈s.l,x.1=31->y.1=31->x.2.1=y.2.1->x=y
 o:∀ j,O j->0<=j/\j < s.lo
 lo0:0<=s.lo
structure Le (s s':GS):Prop where
 ex:∃ es ts,s'.l=s.l++es/\s'.τ=s.τ++ts
 W:∀ j,j < s.lo->s'.W j=s.W j
 lo:s.lo<=s'.lo
theorem Le.refl (s:GS):Le s s:=⟨⟨[],[],by simp,by simp⟩,fun _ _=>rfl,Int.le_refl _⟩
theorem Le.trans {a b c:GS} (h:Le a b) (i:Le b c):Le a c:=by
 obtain ⟨⟨e1,t1,h1,h2⟩,h3,h4⟩:=h;obtain ⟨⟨e2,t2,i1,i2⟩,i3,i4⟩:=i;exact ⟨⟨e1++e2,t1++t2,by rw [i1,h1,append_assoc],by rw [i2,h2,append_assoc]⟩,fun j hj=>by rw [i3 j (by omega),h3 j hj],by omega⟩
theorem Le.len {a b:GS} (h:Le a b):a.l.length<=b.l.length:=by
 obtain ⟨⟨e1,t1,h1,h2⟩,_,_⟩:=h;rw [h1,length_append];omega
abbrev OkG (O:Int->Prop) (s:GS) (c v:Int):Prop:=OkV O s.l s.τ c v
theorem OkV.le {O O':Int->Prop} {s s':GS} {c v:Int} (h:OkG O s c v) (ht:Tl s.l s.τ) (hl:Le s s') (ho:∀ j,O j->O' j):OkG O' s' c v:=by
 obtain ⟨⟨e1,t1,h1,h2⟩,_,_⟩:=hl;unfold OkG;rw [h1,h2];exact h.ext ht ho
def ZHQ (l:List Zae) (n:Zae):List Zae:=if n∈l then l else l++[n]
def ZH4 (l:List Zae) (n:Zae):Int:=if n∈l then ((l.idxOf n:Nat):Int) else (l.length:Int)
theorem ZHl (l:List Zae) (n:Zae):(ZHQ l n).length<=l.length+1:=by unfold ZHQ;split<;>simp
theorem ZGX (l:List Zae) (n:Zae):∃ i:Nat,ZH4 l n=i/\(ZHQ l n)[i]?=some n:=by
 unfold ZH4 ZHQ;split
 ·rename_i h;have hlt:=List.idxOf_lt_length_iff.2 h;exact ⟨_,rfl,by rw [getElem?_eq_getElem hlt,List.getElem_idxOf hlt]⟩
 ·exact ⟨_,rfl,by rw [getElem?_append_right (le_refl _)];simp⟩
theorem GI.wf {s:GS} (h:GI (fun _=>False) s) {v t:Int} (hv:OkG (fun _=>False) s 1 v) (ht:OkG (fun _=>False) s 2 t) (nm:ByteArray) (pr:Int):WfP (nm,pr,s.l,v,t):=by
 have hall:=h.t.all;refine ⟨h.t.good h.nd,?_,?_,?_,?_,?_⟩
 ·show ZfU (Zam s.l s.l.length) v=1;rw [hall];unfold ZfU;rw [if_pos (by rw [h.t.len];exact hv.r)];exact hv.s
 ·show ZfU (Zam s.l s.l.length) t=2;rw [hall];unfold ZfU;rw [if_pos (by rw [h.t.len];exact ht.r)];exact ht.s
 ·intro i k hki x y hx hy ex ey e;have:=h.lu x (mem_of_getElem? hx) y (mem_of_getElem? hy) ex ey e.symm;subst this;have:=(List.getElem?_inj (ZaA hx) h.nd).1 (hx.trans hy.symm);omega
 ·intro x hx e y hy ey hh;obtain ⟨_,_,h3⟩:=h.lv x hx e;obtain ⟨_,_,_,h4⟩:=h.lp y hy ey;rw [hh] at h4;rw [h4];exact h3
 ·exact fun j _ _=>⟨fun hd=>hv.d j hd,fun hd=>ht.d j hd⟩

abbrev nmX:ByteArray:=ByteArray.mk #[120]
abbrev nmY:ByteArray:=ByteArray.mk #[121]
abbrev nmI:ByteArray:=ByteArray.mk #[105]
abbrev nmJ:ByteArray:=ByteArray.mk #[106]
abbrev nmN:ByteArray:=ByteArray.mk #[110]
abbrev nmA:ByteArray:=ByteArray.mk #[97]
abbrev nmB:ByteArray:=ByteArray.mk #[98]
abbrev nmF:ByteArray:=ByteArray.mk #[102]
abbrev nmG:ByteArray:=ByteArray.mk #[103]
def ZGp (f:Int):List ByteArray:=bif f==0 then [nmX,nmY,nmI,nmJ] else [nmN,nmI]
inductive WE (V:List ByteArray):Nat->Nat->ExW->Prop
 | num {d c n}:I64 n->WE V d (c+1) (1,n,empty,0,[])
 | var {d c nm}:nm∈V->WE V d c (2,0,nm,0,[])
 | idx {d c nm e}:nm=nmA\/nm=nmB->WE V d c e->WE V (d+1) (c+1) (3,0,nm,0,[ZGu e])
 | un {d c op e}:op=20\/op=21->WE V d c e->WE V (d+1) (c+1) (4,0,empty,op,[ZGu e])
 | bin {d c1 c2 op e1 e2}:4<=op/\op<=18->WE V d c1 e1->WE V d c2 e2->WE V (d+1) (c1+c2+1) (4,0,empty,op,[ZGu e1,ZGu e2])
 | cnd {d c1 c2 c3 e1 e2 e3}:WE V d c1 e1->WE V d c2 e2->WE V d c3 e3->WE V (d+1) (c1+c2+c3+1) (5,0,empty,0,[ZGu e1,ZGu e2,ZGu e3])
def zE:ExW:=(0,0,empty,0,[])
mutual
inductive WS (V:List ByteArray):Nat->Nat->Nat->SmT->Prop
 | asg {d w c nm e}:nm∈V->WE V 4 c e->WS V (d+1) w (c+1) (SmT.mk 1 nm empty 0 zE e [] [] [])
 | sto {d w c1 c2 nm a e}:nm=nmA\/nm=nmB->WE V 4 c1 a->WE V 4 c2 e->WS V (d+1) w (c1+c2+1) (SmT.mk 2 nm empty 0 a e [] [] [])
 | ite {d w1 w2 c1 c2 c3 e x y}:WE V 4 c1 e->WSL V d w1 c2 x->WSL V d w2 c3 y->WS V (d+1) (w1+w2) (c1+c2+c3+1) (SmT.mk 3 empty empty 0 zE e [] x y)
 | whl {d w c1 c2 e x}:WE V 4 c1 e->WSL V d w c2 x->WS V (d+1) (w+1) (c1+c2+1) (SmT.mk 4 empty empty 0 zE e [] x [])
 | out {d w c e}:WE V 4 c e->WS V (d+1) w (c+1) (SmT.mk 5 empty empty 0 zE e [] [] [])
 | cal1 {d w c nm e}:nm∈V->WE V 4 c e->WS V (d+1) w (c+1) (SmT.mk 6 nm nmG 0 zE zE [ZGu e] [] [])
 | cal2 {d w c1 c2 nm e1 e2}:nm∈V->WE V 4 c1 e1->WE V 4 c2 e2->WS V (d+1) w (c1+c2+1) (SmT.mk 6 nm nmF 0 zE zE [ZGu e1,ZGu e2] [] [])
 | trp {d w c n}:0<=n->n<=1000000->WS V (d+1) w (c+1) (SmT.mk 7 empty empty n zE zE [] [] [])
inductive WSL (V:List ByteArray):Nat->Nat->Nat->List SmT->Prop
 | nil {d w c}:WSL V d w c []
 | cons {d w1 w2 c1 c2 s l}:WS V d w1 c1 s->WSL V d w2 c2 l->WSL V d (w1+w2) (c1+c2) (s::l)
end
theorem WE.mono {V:List ByteArray} {d c:Nat} {e:ExW} (h:WE V d c e):∀ {d' c':Nat},d<=d'->c<=c'->WE V d' c' e:=by
 induction h with
 | @num d c n h=>intro d' c' hd hc;obtain ⟨k,rfl⟩:∃ k,c'=k+1:=⟨c' - 1,by omega⟩;exact .num h
 | var h=>intro d' c' hd hc;exact .var h
 | @idx d c nm e h _ ih=>
  intro d' c' hd hc;obtain ⟨k,rfl⟩:∃ k,c'=k+1:=⟨c' - 1,by omega⟩
  obtain ⟨j,rfl⟩:∃ k,d'=k+1:=⟨d' - 1,by omega⟩
  exact .idx h (ih (by omega) (by omega))
 | @un d c op e h _ ih=>
  intro d' c' hd hc;obtain ⟨k,rfl⟩:∃ k,c'=k+1:=⟨c' - 1,by omega⟩
  obtain ⟨j,rfl⟩:∃ k,d'=k+1:=⟨d' - 1,by omega⟩
  exact .un h (ih (by omega) (by omega))
 | @bin d c1 c2 op e1 e2 h _ _ i1 i2=>
  intro d' c' hd hc;obtain ⟨k,rfl⟩:∃ k,c'=c1+k+1:=⟨c' - c1 - 1,by omega⟩
  obtain ⟨j,rfl⟩:∃ k,d'=k+1:=⟨d' - 1,by omega⟩
  exact .bin h (i1 (by omega) (le_refl _)) (i2 (by omega) (by omega))
 | @cnd d c1 c2 c3 e1 e2 e3 _ _ _ i1 i2 i3=>
  intro d' c' hd hc;obtain ⟨k,rfl⟩:∃ k,c'=c1+c2+k+1:=⟨c' - c1 - c2 - 1,by omega⟩
  obtain ⟨j,rfl⟩:∃ k,d'=k+1:=⟨d' - 1,by omega⟩
  exact .cnd (i1 (by omega) (le_refl _)) (i2 (by omega) (le_refl _)) (i3 (by omega) (by omega))
theorem WSL.step {V:List ByteArray} {d w c:Nat} {l:List SmT} {m:Nat} (h:WSL V d w c (l.drop m)) (hm:m < l.length):∃ s w1 w2 c1 c2,l[m]?=some s/\w=w1+w2/\c=c1+c2/\WS V d w1 c1 s/\WSL V d w2 c2 (l.drop (m+1)):=by
 have e:l.drop m=l[m]::l.drop (m+1):=List.drop_eq_getElem_cons hm;rw [e] at h;cases h with
 | cons h1 h2=>exact ⟨_,_,_,_,_,getElem?_eq_getElem hm,rfl,rfl,h1,h2⟩
theorem WSL.mono {V:List ByteArray}:∀ {l:List SmT} {d w c w' c':Nat},WSL V d w c l->w<=w'->c<=c'->WSL V d w' c' l
 | [],_,_,_,_,_,_,_,_=>.nil
 | s::l,d,w,c,w',c',h,hw,hc=>by
  cases h with
  | @cons _ w1 w2 c1 c2 _ _ h1 h2=>
   obtain ⟨k,rfl⟩:∃ k,c'=c1+k:=⟨c' - c1,by omega⟩
   obtain ⟨j,rfl⟩:∃ k,w'=w1+k:=⟨w' - w1,by omega⟩
   exact .cons h1 (h2.mono (by omega) (by omega))
theorem WSL.snoc {V:List ByteArray} {d w2 c2:Nat} {s:SmT} (hs:WS V d w2 c2 s):∀ {l:List SmT} {w c:Nat},WSL V d w c l->WSL V d (w+w2) (c+c2) (l++[s])
 | [],w,c,_=>by
  have:WSL V d (w2+w) (c2+c) [s]:=.cons hs .nil;rw [Nat.add_comm w2,Nat.add_comm c2] at this;exact this
 | x::l,_,_,h=>by
  cases h with
  | @cons _ w1 w3 c1 c3 _ _ h1 h2=>
   have:=h2.snoc hs;rw [Nat.add_assoc,Nat.add_assoc];exact .cons h1 this
def ZGD (l:List Int):Prop:=∀ x∈l,I64 x
section
variable {V:List ByteArray} (hV:2<=V.length/\V.length<=4)
include hV
end
structure StO (V:List ByteArray) (x:Int) (d:Nat) (l:List Int) (r:Int×List SmT×List Int):Prop where
 i:ZGD r.2.2
 b:r.1<=10
 k:∃ k w:Nat,k+r.2.2.length=l.length/\r.1=x+w/\WSL V d w k r.2.1
section
variable (f:Int) {deep:Nat} {t l:List Int} {x r7:Int} (hx:0<=x/\x<=10) (ht:ZGD t) (hn:l.length<=100) (hle:t.length+1=l.length) (h7:0<=r7/\r7 < 1000) {rec56:Int->Int->Int->Int->List Int->Option (Int×List SmT×List Int)}
 (hrec:deep<=2->∀ (most x:Int) (l:List Int),0<=most/\most<=5->0<=x/\x<=10->ZGD l->l.length<=100->Ret (rec56 f ((deep+1:Nat):Int) most x l) (StO (ZGp f) x (3 - deep) l))
include hx ht hn hle h7 hrec
end

abbrev FnT:=ByteArray×List ByteArray×List ByteArray×List SmT×ExW
abbrev PrT:=List (ByteArray×Int)×List FnT
structure FnP (V:List ByteArray) (w c:Nat) (b:List SmT) (v:ExW):Prop where
 p:∃ d c1 c2,d<=4/\c1+c2<=c/\WSL V d w c1 b/\WE V 4 c2 v
def prF (n1 n2:Int) (b1 b2:List SmT) (v1 v2:ExW):PrT:=([(nmA,n1),(nmB,n2)],[(nmF,[nmX,nmY],[nmI,nmJ],b1,v1),(nmG,[nmN],[nmI],b2,v2)])
def Zbf:List ByteArray:=[nmX,nmY,nmI,nmJ,nmN,nmA,nmB,nmF,nmG]
theorem ZRS:∀ nm∈Zbf,F39 nm=some true:=by
 have h:∀ nm∈Zbf,Zd9 (ZyJ nm) 3 0=some true/\Zd9 (ZyH nm) 11 (0,([(ByteArray.mk #[97,114,114,97,121]),(ByteArray.mk #[102,117,110,99]),(ByteArray.mk #[118,97,114]),(ByteArray.mk #[114,101,116,117,114,110]),(ByteArray.mk #[105,102]),(ByteArray.mk #[101,108,115,101]),(ByteArray.mk #[119,104,105,108,101]),(ByteArray.mk #[111,117,116]),(ByteArray.mk #[116,114,97,112])]:List ByteArray))=some false:=by decide +kernel
 intro nm hn;obtain ⟨a,b⟩:=h nm hn;have a':F57 nm=some true:=ZiQ a;have b':F58 nm=some false:=ZiQ b;unfold F39;rw [a',b'];rfl
theorem WE.kids {V:List ByteArray} {d c:Nat} {e:ExW} (h:WE V d c e):e.2.2.2.2.length<=3/\∀ y∈e.2.2.2.2,∃ d' c',d=d'+1/\WE V d' c' (ZGt y):=by
 cases h with
 | num h=>exact ⟨by simp,fun y hy=>absurd hy (by simp)⟩
 | var h=>exact ⟨by simp,fun y hy=>absurd hy (by simp)⟩
 | idx h h1=>exact ⟨by simp,fun y hy=>by obtain rfl:=mem_singleton.1 hy;exact ⟨_,_,rfl,h1⟩⟩
 | un h h1=>exact ⟨by simp,fun y hy=>by obtain rfl:=mem_singleton.1 hy;exact ⟨_,_,rfl,h1⟩⟩
 | bin h h1 h2=>
  refine ⟨by simp,fun y hy=>?_⟩;rcases mem_cons.1 hy with rfl | hy
  ·exact ⟨_,_,rfl,h1⟩
  ·obtain rfl:=mem_singleton.1 hy;exact ⟨_,_,rfl,h2⟩
 | cnd h1 h2 h3=>
  refine ⟨by simp,fun y hy=>?_⟩;rcases mem_cons.1 hy with rfl | hy
  ·exact ⟨_,_,rfl,h1⟩
  ·rcases mem_cons.1 hy with rfl | hy
   ·exact ⟨_,_,rfl,h2⟩
   ·obtain rfl:=mem_singleton.1 hy;exact ⟨_,_,rfl,h3⟩
section
variable {V:List ByteArray}
abbrev ScT:=List ByteArray×List ByteArray×PrT
end
abbrev ZJI (y:SmT):List SmT:=(ZGo y).2.2.2.2.2.2.2.1
abbrev ZJJ (y:SmT):List SmT:=(ZGo y).2.2.2.2.2.2.2.2
abbrev sAt (y:SmT):ExW:=(ZGo y).2.2.2.2.1
abbrev ZK3 (y:SmT):ExW:=(ZGo y).2.2.2.2.2.1
abbrev ZGK (y:SmT):List ExT:=(ZGo y).2.2.2.2.2.2.1
section
variable {V:List ByteArray}
theorem WS.subs {d w c:Nat} {y:SmT} (h:WS V d w c y):∃ d' w1 w2 c1 c2,d=d'+1/\WSL V d' w1 c1 (ZJI y)/\WSL V d' w2 c2 (ZJJ y)/\w1+w2+(if (ZGo y).1=4 then 1 else 0)<=w/\c1+c2+1<=c:=by
 cases h with
 | @ite d w1 w2 c1 c2 c3 e x y h1 h2 h3=>exact ⟨d,w1,w2,c2,c3,rfl,h2,h3,by simp [ZGo],by omega⟩
 | @whl d w c1 c2 e x h1 h2=>exact ⟨d,w,0,c2,0,rfl,h2,.nil,by simp [ZGo],by omega⟩
 | _=>exact ⟨_,0,0,0,0,rfl,.nil,.nil,by simp [ZGo],by omega⟩
def EZ (V:List ByteArray) (e:ExW):Prop:=e=zE\/∃ c,WE V 4 c e
theorem WS.ex {d w c:Nat} {y:SmT} (h:WS V d w c y):EZ V (sAt y)/\EZ V (ZK3 y)/\(ZGK y).length<=2/\∀ a∈ZGK y,∃ c',WE V 4 c' (ZGt a):=by
 have no:∀ a∈([]:List ExT),∃ c',WE V 4 c' (ZGt a):=fun a h=>absurd h (by simp);cases h with
 | asg h h1=>exact ⟨.inl rfl,.inr ⟨_,h1⟩,le_of_ble_eq_true rfl,no⟩
 | sto h h1 h2=>exact ⟨.inr ⟨_,h1⟩,.inr ⟨_,h2⟩,le_of_ble_eq_true rfl,no⟩
 | ite h1 h2 h3=>exact ⟨.inl rfl,.inr ⟨_,h1⟩,le_of_ble_eq_true rfl,no⟩
 | whl h1 h2=>exact ⟨.inl rfl,.inr ⟨_,h1⟩,le_of_ble_eq_true rfl,no⟩
 | out h1=>exact ⟨.inl rfl,.inr ⟨_,h1⟩,le_of_ble_eq_true rfl,no⟩
 | cal1 h h1=>exact ⟨.inl rfl,.inl rfl,le_of_ble_eq_true rfl,fun a ha=>by obtain rfl:=mem_singleton.1 ha;exact ⟨_,h1⟩⟩
 | cal2 h h1 h2=>
  refine ⟨.inl rfl,.inl rfl,le_of_ble_eq_true rfl,fun a ha=>?_⟩;rcases mem_cons.1 ha with rfl | ha
  ·exact ⟨_,h1⟩
  ·obtain rfl:=mem_singleton.1 ha;exact ⟨_,h2⟩
 | trp h h1=>exact ⟨.inl rfl,.inl rfl,le_of_ble_eq_true rfl,no⟩
theorem WS.pos {d w c:Nat} {y:SmT} (h:WS V d w c y):1<=c:=by
 obtain ⟨_,_,_,_,_,_,_,_,_,h⟩:=h.subs;omega
theorem WSL.len:∀ {l:List SmT} {d w c:Nat},WSL V d w c l->l.length<=c
 | [],_,_,_,_=>by simp
 | s::l,_,_,_,h=>by
  cases h with
  | cons h1 h2=>have:=h1.pos;have:=h2.len;simp;omega
end
section
variable {V:List ByteArray}
end
section
variable {V:List ByteArray} (x1:ScT) (hV:∀ x∈V,x∈x1.1) (hA:x1.2.1=[nmA,nmB]) (h1l:x1.1.length<=10) {n1 n2:Int} {b1 b2:List SmT} {v1 v2:ExW} (hp:x1.2.2=prF n1 n2 b1 b2 v1 v2)
include hV hA h1l hp
end

section
variable {n1 n2:Int} {b1 b2:List SmT} {v1 v2:ExW} {w1 w2 c1 c2:Nat} (h1:1<=n1/\n1<=4) (h2:1<=n2/\n2<=4) (hw:w1+w2<=10) (hc:c1+c2<=60) (f1:FnP (ZGp 0) w1 c1 b1 v1) (f2:FnP (ZGp 1) w2 c2 b2 v2)
include h1 h2 hw hc f1 f2
end
section
variable {O:Int->Prop} {σ:GS} (hg:GI O σ) (hn:σ.l.length<=90000)
include hg hn
end
abbrev ArT:=List (ByteArray×Int)
section
variable {O:Int->Prop} {A:ArT} (hA:A.length=2/\∀ y∈A,I64 y.2) (Fs:List FnT) (lo:Int) {V:List ByteArray} (hV:2<=V.length/\V.length<=4)
include hA
include hV
end

section
variable {A:ArT} (hA:A.length=2/\∀ y∈A,I64 y.2) {Fs:List FnT} {V:List ByteArray} (hV:2<=V.length/\V.length<=4)
include hA hV
end

section
variable {A:ArT} (hA:A.length=2/\∀ y∈A,I64 y.2) {Fs:List FnT} {V:List ByteArray} (hV:2<=V.length/\V.length<=4)
include hA hV
end
abbrev FO:Int->Prop:=fun _=>False
def σ0:GS:=⟨[],[],fun _=>0,0⟩
theorem g0:GI FO σ0:=⟨.nil,List.nodup_nil,fun x h=>absurd h (by simp [σ0]),fun x h=>absurd h (by simp [σ0]),fun x h=>absurd h (by simp [σ0]),fun x h=>absurd h (by simp [σ0]),fun j h=>h.elim,by simp [σ0]⟩
def kk (x:Zae) (k:Nat):Int:=x.2.2[k]?.getD 0
def nA (L:List Zae) (i:Int):Zae:=L[i.toNat]?.getD (0,0,[])
def isC (L:List Zae) (i n:Int):Bool:=(nA L i).1==1&&(nA L i).2.1==n
def Zjl (lens:List Int) (k:Int):Int:=if 0<=k/\k < lens.length then atI lens k else -1
def inB (L:List Zae) (lens:List Int) (c i k:Int):Bool:=decide (0<=Zjl lens k)&&(nA L c).1==19&&kk (nA L c) 0==i&&isC L (kk (nA L c) 1) (Zjl lens k)
def zT (L:List Zae) (i b:Int):Bool:=(nA L i).1==15&&kk (nA L i) 0==b&&isC L (kk (nA L i) 1) 0
def ZLG (L:List Zae) (d:Int):Option (Int×Int):=
 if (nA L d).1=4 then
  if zT L (kk (nA L d) 1) (kk (nA L d) 0)=true then some (kk (nA L d) 0,kk (nA L d) 1)
  else if zT L (kk (nA L d) 0) (kk (nA L d) 1)=true then some (kk (nA L d) 1,kk (nA L d) 0)
  else none
 else none
def ZLh (L:List Zae) (lens:List Int) (a m:Int):Option Zae:=
 if (nA L a).1=7\/(nA L a).1=8 then
  match ZLG L (kk (nA L a) 1) with
  | some (b,e)=>if (nA L m).1=4/\kk (nA L m) 0=e/\isC L (kk (nA L m) 1) (-1)=true then some ((nA L a).1,(nA L a).2.1,[kk (nA L a) 0,b]) else none
  | none=>none
 else if (nA L a).1=23 then
  if (nA L (kk (nA L a) 1)).1=9/\kk (nA L (kk (nA L a) 1)) 1=m/\(nA L m).1=20/\inB L lens (kk (nA L m) 0) (kk (nA L (kk (nA L a) 1)) 0) (nA L a).2.1=true then
   some (23,(nA L a).2.1,[kk (nA L a) 0,kk (nA L (kk (nA L a) 1)) 0])
  else none
 else none
def ZLe (L:List Zae) (n:Zae):Zae:=
 if (nA L (kk n 0)).1=1/\((nA L (kk n 1)).1≠1\/(nA L (kk n 0)).2.1 > (nA L (kk n 1)).2.1) then (4,n.2.1,[kk n 1,kk n 0]) else n
def plM (L:List Zae) (n:Zae):Int×List Zae:=(ZH4 L n,ZHQ L n)
def inM (lens:List Int) (L:List Zae) (n:Zae):Int×List Zae:=
 if n.1=4 then plM L (ZLe L n)
 else if n.1=5/\(nA L (kk n 1)).1=1 then
  let c:=plM L (1,wrap .i64 (-(nA L (kk n 1)).2.1),[])
  plM c.2 (ZLe c.2 (4,0,[kk n 0,c.1]))
 else if n.1=9 then
  match ZLh L lens (kk n 0) (kk n 1) with
  | some x=>plM L x
  | none=>plM L n
 else if n.1=22/\(kk n 1=kk n 2\/(nA L (kk n 1)).1=28/\kk (nA L (kk n 1)) 0=kk n 2/\inB L lens (kk n 0) (kk (nA L (kk n 1)) 1) (nA L (kk n 1)).2.1=true) then (kk n 1,L)
 else plM L n
structure PoolH (L:List Zae):Prop where
 k:∀ (i:Nat) x,L[i]?=some x->∀ q∈x.2.2,0<=q/\q < i
 a:∀ x∈L,∀ m:Nat,ZaY x.1=((m:Int),true)->x.2.2.length=m
theorem PoolH.nil:PoolH []:=⟨fun i x h=>by simp at h,fun x h=>by simp at h⟩
theorem PoolH.plM {L:List Zae} (h:PoolH L) {n:Zae} (hk:∀ q∈n.2.2,inR L.length q) (ha:∀ m:Nat,ZaY n.1=((m:Int),true)->n.2.2.length=m):PoolH (plM L n).2/\inR (plM L n).2.length (plM L n).1/\(plM L n).2.length<=L.length+1/\(∃ es,(plM L n).2=L++es)/\(plM L n).2[(plM L n).1.toNat]?=some n:=by
 obtain ⟨i,ei,hi⟩:=ZGX L n;have hil:=ZaA hi;have e1:(Go.Dat.plM L n).1=(i:Int):=ei;have e2:(Go.Dat.plM L n).2=ZHQ L n:=rfl;rw [e1,e2];refine ⟨?_,⟨by omega,by omega⟩,ZHl L n,?_,hi⟩
 ·unfold ZHQ;split
  ·exact h
  ·refine ⟨fun i x hx q hq=>?_,fun x hx m hm=>?_⟩
   ·by_cases hlt:i < L.length
    ·rw [getElem?_append_left hlt] at hx;exact h.k i x hx q hq
    ·have hi2:i=L.length:=by have:=ZaA hx;simp at this;omega
     subst hi2;rw [getElem?_append_right (le_refl _)] at hx;simp at hx;subst hx;exact hk q hq
   ·rcases mem_append.1 hx with hx | hx
    ·exact h.a x hx m hm
    ·obtain rfl:=mem_singleton.1 hx;exact ha m hm
 ·unfold ZHQ;split
  ·exact ⟨[],by simp⟩
  ·exact ⟨[n],rfl⟩
theorem ZKS {L:List Zae} {i:Int} (h:inR L.length i):L[i.toNat]?=some (nA L i):=by
 have h1:=h.1;have h2:=h.2
 unfold nA;rw [getElem?_eq_getElem (by omega)];rfl
theorem ZKF {L:List Zae} {i:Int} (h:inR L.length i):nA L i∈L:=mem_of_getElem? (ZKS h)
theorem PoolH.kid {L:List Zae} (h:PoolH L) {i:Int} (hi:inR L.length i) {m k:Nat} (ha:ZaY (nA L i).1=((m:Int),true)) (hk:k < m):0<=kk (nA L i) k/\kk (nA L i) k < i:=by
 have hl:=h.a _ (ZKF hi) m ha;have h2:=h.k _ _ (ZKS hi) (kk (nA L i) k) (by
  unfold kk;rw [getElem?_eq_getElem (by omega)];exact getElem_mem _)
 have:=hi.1;omega
theorem PoolH.kidR {L:List Zae} (h:PoolH L) {i:Int} (hi:inR L.length i) {m k:Nat} (ha:ZaY (nA L i).1=((m:Int),true)) (hk:k < m):inR L.length (kk (nA L i) k):=by
 have:=h.kid hi ha hk;exact ⟨this.1,by have:=hi.2;omega⟩
structure InR (L:List Zae) (r:Int×List Zae) (k:Nat):Prop where
 p:PoolH r.2
 i:inR r.2.length r.1
 n:r.2.length<=L.length+k
 e:∃ es,r.2=L++es
theorem ZK6 {n:Zae} {m k:Nat} (h:n.2.2.length=m) (hk:k < m):kk n k∈n.2.2:=by
 unfold kk;rw [getElem?_eq_getElem (by omega)];exact getElem_mem _
theorem ZTx {L:List Zae} {i n:Int} (h:isC L i n=true):(nA L i).1=1/\(nA L i).2.1=n:=by
 unfold isC at h;simpa using h
section
variable {L:List Zae} (h:PoolH L)
include h
theorem ZKT {n:Zae} (hk:∀ q∈n.2.2,inR L.length q) (ha:∀ m:Nat,ZaY n.1=((m:Int),true)->n.2.2.length=m):InR L (plM L n) 1:=by
 obtain ⟨a,b,c,d,_⟩:=h.plM hk ha;exact ⟨a,b,c,d⟩
theorem ZMz {n:Zae} (h4:n.1=4) (hl:n.2.2.length=2) (hk:∀ q∈n.2.2,inR L.length q):InR L (plM L (ZLe L n)) 1:=by
 have a0:=hk _ (ZK6 (k:=0) hl (by omega));have a1:=hk _ (ZK6 (k:=1) hl (by omega));unfold ZLe;split
 ·refine ZKT h (fun q hq=>?_) (fun m hm=>?_)
  ·simp at hq;rcases hq with rfl | rfl
   ·exact a1
   ·exact a0
  ·have:ZaY 4=((m:Int),true):=hm;simp [ZaY] at this;show 2=m;omega
 ·refine ZKT h hk (fun m hm=>?_);rw [h4] at hm;simp [ZaY] at hm;omega
theorem ZND {d b e:Int} (hd:inR L.length d) (hh:ZLG L d=some (b,e)):inR L.length b/\inR L.length e/\b < d/\e < d:=by
 unfold ZLG at hh;split at hh
 ·rename_i h4;have ar:ZaY (nA L d).1=(((2:Nat):Int),true):=by rw [h4];rfl
  have k0:=h.kid hd ar (k:=0) (by omega);have k1:=h.kid hd ar (k:=1) (by omega);have r0:=h.kidR hd ar (k:=0) (by omega);have r1:=h.kidR hd ar (k:=1) (by omega);split at hh
  ·cases hh;exact ⟨r0,r1,k0.2,k1.2⟩
  ·split at hh
   ·cases hh;exact ⟨r1,r0,k1.2,k0.2⟩
   ·cases hh
 ·cases hh
theorem ZKW {lens:List Int} {a m:Int} {x:Zae} (ha:inR L.length a) (hx:ZLh L lens a m=some x):(x.1=7\/x.1=8\/x.1=23)/\x.2.2.length=2/\x.2.1=(nA L a).2.1/\(∀ q∈x.2.2,inR L.length q/\q < a):=by
 unfold ZLh at hx;split at hx
 ·rename_i h78;have ar:ZaY (nA L a).1=(((2:Nat):Int),true):=by rcases h78 with e | e<;>rw [e]<;>rfl
  have k0:=h.kid ha ar (k:=0) (by omega);have k1:=h.kid ha ar (k:=1) (by omega);have r0:=h.kidR ha ar (k:=0) (by omega);have r1:=h.kidR ha ar (k:=1) (by omega);cases hd:ZLG L (kk (nA L a) 1) with
  | none=>rw [hd] at hx;cases hx
  | some be=>
   obtain ⟨b,e⟩:=be;rw [hd] at hx;dsimp only at hx;obtain ⟨b1,b2,b3,b4⟩:=ZND h r1 hd;split at hx
   ·cases hx;refine ⟨by rcases h78 with e | e<;>simp [e],rfl,rfl,fun q hq=>?_⟩;simp at hq;rcases hq with rfl | rfl
    ·exact ⟨r0,k0.2⟩
    ·exact ⟨b1,by omega⟩
   ·cases hx
 ·split at hx
  ·rename_i h23;have ar:ZaY (nA L a).1=(((2:Nat):Int),true):=by rw [h23];rfl
   have k0:=h.kid ha ar (k:=0) (by omega);have k1:=h.kid ha ar (k:=1) (by omega);have r0:=h.kidR ha ar (k:=0) (by omega);have r1:=h.kidR ha ar (k:=1) (by omega);split at hx
   ·rename_i hc;have ar2:ZaY (nA L (kk (nA L a) 1)).1=(((2:Nat):Int),true):=by rw [hc.1];rfl
    have j0:=h.kid r1 ar2 (k:=0) (by omega);have s0:=h.kidR r1 ar2 (k:=0) (by omega);cases hx;refine ⟨.inr (.inr rfl),rfl,rfl,fun q hq=>?_⟩;simp at hq;rcases hq with rfl | rfl
    ·exact ⟨r0,k0.2⟩
    ·exact ⟨s0,by omega⟩
   ·cases hx
  ·cases hx
theorem ZOy (lens:List Int) {n:Zae} (hk:∀ q∈n.2.2,inR L.length q) (ha:∀ m:Nat,ZaY n.1=((m:Int),true)->n.2.2.length=m):InR L (inM lens L n) 2:=by
 have up:∀ {r:Int×List Zae},InR L r 1->InR L r 2:=fun h=>⟨h.p,h.i,by have:=h.n;omega,h.e⟩
 have pl:=up (ZKT h hk ha);unfold inM;split
 ·rename_i h4;exact up (ZMz h h4 (ha 2 (by rw [h4];rfl)) hk)
 ·split
  ·rename_i h4 h5;have hl:n.2.2.length=2:=ha 2 (by rw [h5.1];rfl);have a0:=hk _ (ZK6 (k:=0) hl (by omega));obtain ⟨c1,c2,c3,⟨es,c4⟩⟩:=ZKT h (n:=(1,wrap .i64 (-(nA L (kk n 1)).2.1),[])) (fun q hq=>absurd hq (by simp)) (fun m hm=>by
    have:ZaY 1=((m:Int),true):=hm;simp [ZaY] at this;show 0=m;omega)
   have:=ZMz c1 (n:=(4,0,[kk n 0,(plM L (1,wrap .i64 (-(nA L (kk n 1)).2.1),[])).1])) rfl rfl (fun q hq=>by
    simp at hq;rcases hq with rfl | rfl
    ·exact ⟨a0.1,by rw [c4,length_append];have:=a0.2;omega⟩
    ·exact c2)
   obtain ⟨d1,d2,d3,⟨fs,d4⟩⟩:=this;dsimp only;exact ⟨d1,d2,by omega,⟨es++fs,by rw [d4,c4,append_assoc]⟩⟩
  ·split
   ·rename_i h4 h5 h9;have hl:n.2.2.length=2:=ha 2 (by rw [h9];rfl);have a0:=hk _ (ZK6 (k:=0) hl (by omega));cases hx:ZLh L lens (kk n 0) (kk n 1) with
    | none=>exact pl
    | some x=>
     obtain ⟨x1,x2,x3,x4⟩:=ZKW h a0 hx;refine up (ZKT h (fun q hq=>(x4 q hq).1) (fun m hm=>?_));rcases x1 with e | e | e<;>rw [e] at hm<;>simp [ZaY] at hm<;>omega
   ·split
    ·rename_i h4 h5 h9 h22;have hl:n.2.2.length=3:=ha 3 (by rw [h22.1];rfl);exact ⟨h,hk _ (ZK6 (k:=1) hl (by omega)),by show L.length<=L.length+2;omega,[],by simp⟩
    ·exact pl
end
inductive HB (L:List Zae):Nat->Int->Prop
 | mk {b i}:inR L.length i->(∀ q∈(nA L i).2.2,HB L b q)->HB L (b+1) i
theorem HB.r {L:List Zae} {b:Nat} {i:Int} (h:HB L b i):inR L.length i:=by cases h;assumption
theorem HB.mono {L:List Zae} {b:Nat} {i:Int} (h:HB L b i):∀ {c:Nat},b<=c->HB L c i:=by
 induction h with
 | mk h1 _ ih=>
  intro c hc;obtain ⟨d,rfl⟩:∃ d,c=d+1:=⟨c - 1,by omega⟩
  exact .mk h1 fun q hq=>ih q hq (by omega)
theorem ZKM {L es:List Zae} {i:Int} (h:inR L.length i):nA (L++es) i=nA L i:=by
 have h1:=h.1;have h2:=h.2
 unfold nA;rw [getElem?_append_left (by omega)]
theorem HB.app {L:List Zae} {b:Nat} {i:Int} (h:HB L b i) (es:List Zae):HB (L++es) b i:=by
 induction h with
 | @mk b i h1 _ ih=>
  refine .mk ⟨h1.1,by rw [length_append];have:=h1.2;omega⟩ fun q hq=>?_;rw [ZKM h1] at hq;exact ih q hq
theorem HB.kid {L:List Zae} {b:Nat} {i:Int} (h:HB L b i) {q:Int} (hq:q∈(nA L i).2.2):∃ c,b=c+1/\HB L c q:=by
 cases h with | mk h1 h2=>exact ⟨_,rfl,h2 q hq⟩
section
variable {L:List Zae} (h:PoolH L)
include h
theorem ZL3 {n:Zae} {b:Nat} (hk:∀ q∈n.2.2,HB L b q) (ha:∀ m:Nat,ZaY n.1=((m:Int),true)->n.2.2.length=m):HB (plM L n).2 (b+1) (plM L n).1:=by
 obtain ⟨p1,p2,p3,⟨es,p4⟩,p5⟩:=h.plM (fun q hq=>(hk q hq).r) ha;refine .mk p2 fun q hq=>?_;have e:nA (plM L n).2 (plM L n).1=n:=by unfold nA;rw [p5];rfl
 rw [e] at hq;rw [p4];exact (hk q hq).app es
theorem ZNE {i:Int} {b m k:Nat} (hb:HB L b i) (ha:ZaY (nA L i).1=((m:Int),true)) (hk:k < m):∃ c,b=c+1/\HB L c (kk (nA L i) k):=hb.kid (ZK6 (h.a _ (ZKF hb.r) m ha) hk)
theorem ZM0 {n:Zae} {b:Nat} (h4:n.1=4) (hl:n.2.2.length=2) (hk:∀ q∈n.2.2,HB L b q):HB (plM L (ZLe L n)).2 (b+1) (plM L (ZLe L n)).1:=by
 have a0:=hk _ (ZK6 (k:=0) hl (by omega));have a1:=hk _ (ZK6 (k:=1) hl (by omega));unfold ZLe;split
 ·refine ZL3 h (fun q hq=>?_) (fun m hm=>?_)
  ·simp at hq;rcases hq with rfl | rfl
   ·exact a1
   ·exact a0
  ·have:ZaY 4=((m:Int),true):=hm;simp [ZaY] at this;show 2=m;omega
 ·refine ZL3 h hk (fun m hm=>?_);rw [h4] at hm;simp [ZaY] at hm;omega
theorem ZNF {lens:List Int} {a m:Int} {x:Zae} {b:Nat} (ha:HB L b a) (hx:ZLh L lens a m=some x):∀ q∈x.2.2,HB L b q:=by
 unfold ZLh at hx;split at hx
 ·rename_i h78;have ar:ZaY (nA L a).1=(((2:Nat):Int),true):=by rcases h78 with e | e<;>rw [e]<;>rfl
  obtain ⟨c,rfl,k0⟩:=ZNE h ha ar (k:=0) (by omega);obtain ⟨c',e',k1⟩:=ZNE h ha ar (k:=1) (by omega);obtain rfl:c=c':=by omega
  cases hd:ZLG L (kk (nA L a) 1) with
  | none=>rw [hd] at hx;cases hx
  | some be=>
   obtain ⟨bb,e⟩:=be;rw [hd] at hx;dsimp only at hx;have hbb:HB L (c+1) bb:=by
    unfold ZLG at hd;split at hd
    ·rename_i h4;have ar2:ZaY (nA L (kk (nA L a) 1)).1=(((2:Nat):Int),true):=by rw [h4];rfl
     obtain ⟨d,e1,j0⟩:=ZNE h k1 ar2 (k:=0) (by omega);obtain ⟨d',e2,j1⟩:=ZNE h k1 ar2 (k:=1) (by omega);split at hd
     ·cases hd;exact j0.mono (by omega)
     ·split at hd
      ·cases hd;exact j1.mono (by omega)
      ·cases hd
    ·cases hd
   split at hx
   ·cases hx;intro q hq;simp at hq;rcases hq with rfl | rfl
    ·exact k0.mono (by omega)
    ·exact hbb
   ·cases hx
 ·split at hx
  ·rename_i h23;have ar:ZaY (nA L a).1=(((2:Nat):Int),true):=by rw [h23];rfl
   obtain ⟨c,rfl,k0⟩:=ZNE h ha ar (k:=0) (by omega);obtain ⟨c',e',k1⟩:=ZNE h ha ar (k:=1) (by omega);split at hx
   ·rename_i hc;have ar2:ZaY (nA L (kk (nA L a) 1)).1=(((2:Nat):Int),true):=by rw [hc.1];rfl
    obtain ⟨d,e1,j0⟩:=ZNE h k1 ar2 (k:=0) (by omega);cases hx;intro q hq;simp at hq;rcases hq with rfl | rfl
    ·exact k0.mono (by omega)
    ·exact j0.mono (by omega)
   ·cases hx
  ·cases hx
theorem ZOz (lens:List Int) {n:Zae} {b:Nat} (hk:∀ q∈n.2.2,HB L b q) (ha:∀ m:Nat,ZaY n.1=((m:Int),true)->n.2.2.length=m):HB (inM lens L n).2 (b+1) (inM lens L n).1:=by
 have pl:=ZL3 h hk ha;unfold inM;split
 ·rename_i h4;exact ZM0 h h4 (ha 2 (by rw [h4];rfl)) hk
 ·split
  ·rename_i h4 h5;have hl:n.2.2.length=2:=ha 2 (by rw [h5.1];rfl);have a0:=hk _ (ZK6 (k:=0) hl (by omega));have hb:1<=b:=by cases a0;omega
   have h1:∀ m:Nat,ZaY (1:Int)=((m:Int),true)->([]:List Int).length=m:=fun m hm=>by
    simp [ZaY] at hm;show 0=m;omega
   have c0:=ZL3 h (n:=(1,wrap .i64 (-(nA L (kk n 1)).2.1),[])) (b:=0) (fun q hq=>absurd hq (by simp)) h1;obtain ⟨c1,c2,c3,⟨es,c4⟩⟩:=ZKT h (n:=(1,wrap .i64 (-(nA L (kk n 1)).2.1),[])) (fun q hq=>absurd hq (by simp)) h1;refine ZM0 c1 (n:=(4,0,[kk n 0,(plM L (1,wrap .i64 (-(nA L (kk n 1)).2.1),[])).1])) rfl rfl (fun q hq=>?_);simp at hq;rcases hq with rfl | rfl
   ·rw [c4];exact a0.app es
   ·exact c0.mono (by omega)
  ·split
   ·rename_i h4 h5 h9;have hl:n.2.2.length=2:=ha 2 (by rw [h9];rfl);have a0:=hk _ (ZK6 (k:=0) hl (by omega));cases hx:ZLh L lens (kk n 0) (kk n 1) with
    | none=>exact pl
    | some x=>
     obtain ⟨x1,x2,x3,x4⟩:=ZKW h a0.r hx;refine ZL3 h (ZNF h a0 hx) (fun m hm=>?_);rcases x1 with e | e | e<;>rw [e] at hm<;>simp [ZaY] at hm<;>omega
   ·split
    ·rename_i h4 h5 h9 h22;have hl:n.2.2.length=3:=ha 3 (by rw [h22.1];rfl);exact (hk _ (ZK6 (k:=1) hl (by omega))).mono (by omega)
    ·exact pl
end
def ZNQ (lens:List Int) (L:List Zae) (n:Zae):Prop:=
 (n.1=4/\(nA L (kk n 0)).1=1/\((nA L (kk n 1)).1≠1\/(nA L (kk n 0)).2.1 > (nA L (kk n 1)).2.1)) \/
 (n.1=5/\(nA L (kk n 1)).1=1) \/
 (n.1=9/\∃ x,ZLh L lens (kk n 0) (kk n 1)=some x) \/
 (n.1=22/\(kk n 1=kk n 2\/(nA L (kk n 1)).1=28/\kk (nA L (kk n 1)) 0=kk n 2/\inB L lens (kk n 0) (kk (nA L (kk n 1)) 1) (nA L (kk n 1)).2.1=true))
theorem ZRd {lens:List Int} {L:List Zae} {n:Zae} (h:¬ ZNQ lens L n):inM lens L n=plM L n:=by
 unfold ZNQ at h;unfold inM;split
 ·rename_i h4;unfold ZLe;rw [if_neg (fun e=>h (.inl ⟨h4,e⟩))]
 ·split
  ·rename_i h5;exact absurd (.inr (.inl h5)) h
  ·split
   ·rename_i h9;cases hx:ZLh L lens (kk n 0) (kk n 1) with
    | none=>rfl
    | some x=>exact absurd (.inr (.inr (.inl ⟨h9,x,hx⟩))) h
   ·split
    ·rename_i h22;exact absurd (.inr (.inr (.inr h22))) h
    ·rfl
section
variable {L:List Zae} (h:PoolH L) (es:List Zae)
include h
theorem ZLH {i n:Int} (hi:inR L.length i):isC (L++es) i n=isC L i n:=by unfold isC;rw [ZKM hi]
theorem ZM1 {lens:List Int} {c i k:Int} (hc:inR L.length c):inB (L++es) lens c i k=inB L lens c i k:=by
 unfold inB;rw [ZKM hc];by_cases h19:(nA L c).1=19
 ·have ar:ZaY (nA L c).1=(((2:Nat):Int),true):=by rw [h19];rfl
  rw [ZLH h es (h.kidR hc ar (k:=1) (by omega))]
 ·have:((nA L c).1==19)=false:=by simpa using h19
  rw [this];simp
theorem ZNu {i b:Int} (hi:inR L.length i):zT (L++es) i b=zT L i b:=by
 unfold zT;rw [ZKM hi];by_cases h15:(nA L i).1=15
 ·have ar:ZaY (nA L i).1=(((2:Nat):Int),true):=by rw [h15];rfl
  rw [ZLH h es (h.kidR hi ar (k:=1) (by omega))]
 ·have:((nA L i).1==15)=false:=by simpa using h15
  rw [this];simp
theorem ZMS {d:Int} (hd:inR L.length d):ZLG (L++es) d=ZLG L d:=by
 unfold ZLG;rw [ZKM hd];by_cases h4:(nA L d).1=4
 ·have ar:ZaY (nA L d).1=(((2:Nat):Int),true):=by rw [h4];rfl
  rw [ZNu h es (h.kidR hd ar (k:=1) (by omega)),ZNu h es (h.kidR hd ar (k:=0) (by omega))]
 ·rw [if_neg h4,if_neg h4]
theorem ZMT {lens:List Int} {a m:Int} (ha:inR L.length a) (hm:inR L.length m):ZLh (L++es) lens a m=ZLh L lens a m:=by
 unfold ZLh;rw [ZKM ha,ZKM hm];by_cases h78:(nA L a).1=7\/(nA L a).1=8
 ·have ar:ZaY (nA L a).1=(((2:Nat):Int),true):=by rcases h78 with e | e<;>rw [e]<;>rfl
  rw [if_pos h78,if_pos h78,ZMS h es (h.kidR ha ar (k:=1) (by omega))];by_cases h4:(nA L m).1=4
  ·have ar2:ZaY (nA L m).1=(((2:Nat):Int),true):=by rw [h4];rfl
   rw [ZLH h es (h.kidR hm ar2 (k:=1) (by omega))]
  ·simp [h4]
 ·rw [if_neg h78,if_neg h78];by_cases h23:(nA L a).1=23
  ·have ar:ZaY (nA L a).1=(((2:Nat):Int),true):=by rw [h23];rfl
   rw [if_pos h23,if_pos h23,ZKM (h.kidR ha ar (k:=1) (by omega))];by_cases h20:(nA L m).1=20
   ·have ar2:ZaY (nA L m).1=(((1:Nat):Int),true):=by rw [h20];rfl
    rw [ZM1 h es (h.kidR hm ar2 (k:=0) (by omega))]
   ·simp [h20]
  ·rw [if_neg h23,if_neg h23]
theorem ZLO {lens:List Int} {n:Zae} (hk:∀ q∈n.2.2,inR L.length q) (ha:∀ m:Nat,ZaY n.1=((m:Int),true)->n.2.2.length=m):ZNQ lens (L++es) n↔ZNQ lens L n:=by
 have two:∀ {op:Int},n.1=op->ZaY op=(((2:Nat):Int),true)->inR L.length (kk n 0)/\inR L.length (kk n 1):=fun e ar=>by
  have hl:=ha 2 (by rw [e];exact ar);exact ⟨hk _ (ZK6 hl (by omega)),hk _ (ZK6 hl (by omega))⟩
 unfold ZNQ;refine or_congr ?_ (or_congr ?_ (or_congr ?_ ?_))
 ·refine and_congr_right fun e=>?_;obtain ⟨a0,a1⟩:=two e rfl;rw [ZKM a0,ZKM a1]
 ·refine and_congr_right fun e=>?_;obtain ⟨a0,a1⟩:=two e rfl;rw [ZKM a1]
 ·refine and_congr_right fun e=>?_;obtain ⟨a0,a1⟩:=two e rfl;rw [ZMT h es a0 a1]
 ·refine and_congr_right fun e=>?_;have hl:=ha 3 (by rw [e];rfl);have a0:=hk _ (ZK6 (k:=0) hl (by omega));have a1:=hk _ (ZK6 (k:=1) hl (by omega));rw [ZKM a1,ZM1 h es a0]
end
def ZNR (lens:List Int) (L:List Zae):Prop:=∀ x∈L,¬ ZNQ lens L x
theorem ZKZ {lens:List Int} {L:List Zae} (h:PoolH L) (hi:ZNR lens L) {n:Zae} (hk:∀ q∈n.2.2,inR L.length q) (ha:∀ m:Nat,ZaY n.1=((m:Int),true)->n.2.2.length=m) (hr:¬ ZNQ lens L n):ZNR lens (plM L n).2:=by
 show ZNR lens (ZHQ L n);unfold ZHQ;split
 ·exact hi
 ·intro x hx;rcases mem_append.1 hx with hx | hx
  ·obtain ⟨i,hxi⟩:=List.getElem?_of_mem hx;have hlt:=ZaA hxi;rw [ZLO h [n] (fun q hq=>by have:=h.k i x hxi q hq;exact ⟨this.1,by omega⟩) (fun m hm=>h.a x hx m hm)];exact hi x hx
  ·obtain rfl:=mem_singleton.1 hx;rw [ZLO h _ hk ha];exact hr
theorem ZLP {lens:List Int} {L:List Zae} {n:Zae} (h4:n.1=4):¬ ZNQ lens L (ZLe L n):=by
 unfold ZLe;split
 ·rename_i hc;rintro (⟨_,h1,h2⟩ | ⟨h1,_⟩ | ⟨h1,_⟩ | ⟨h1,_⟩)
  ·have e0:kk ((4,n.2.1,[kk n 1,kk n 0]):Zae) 0=kk n 1:=rfl;have e1:kk ((4,n.2.1,[kk n 1,kk n 0]):Zae) 1=kk n 0:=rfl;rw [e0] at h1 h2;rw [e1] at h2;obtain ⟨c1,c2⟩:=hc;rcases h2 with h2 | h2
   ·exact h2 c1
   ·rcases c2 with c2 | c2
    ·exact c2 h1
    ·omega
  ·cases h1
  ·cases h1
  ·cases h1
 ·rename_i hc;rintro (⟨_,h1⟩ | ⟨h1,_⟩ | ⟨h1,_⟩ | ⟨h1,_⟩)
  ·exact hc h1
  ·omega
  ·omega
  ·omega
theorem ZLk {L:List Zae} {n:Zae} (h4:n.1=4) (hl:n.2.2.length=2) (hk:∀ q∈n.2.2,inR L.length q):(∀ q∈(ZLe L n).2.2,inR L.length q)/\∀ m:Nat,ZaY (ZLe L n).1=((m:Int),true)->(ZLe L n).2.2.length=m:=by
 have a0:=hk _ (ZK6 (k:=0) hl (by omega));have a1:=hk _ (ZK6 (k:=1) hl (by omega));unfold ZLe;split
 ·refine ⟨fun q hq=>?_,fun m hm=>?_⟩
  ·simp at hq;rcases hq with rfl | rfl
   ·exact a1
   ·exact a0
  ·have:ZaY 4=((m:Int),true):=hm;simp [ZaY] at this;show 2=m;omega
 ·refine ⟨hk,fun m hm=>?_⟩;rw [h4] at hm;simp [ZaY] at hm;omega
theorem ZMU {lens:List Int} {L:List Zae} (h:PoolH L) (hi:ZNR lens L) {n:Zae} (hk:∀ q∈n.2.2,inR L.length q) (ha:∀ m:Nat,ZaY n.1=((m:Int),true)->n.2.2.length=m):ZNR lens (inM lens L n).2:=by
 unfold inM;split
 ·rename_i h4;obtain ⟨f1,f2⟩:=ZLk h4 (ha 2 (by rw [h4];rfl)) hk;exact ZKZ h hi f1 f2 (ZLP h4)
 ·split
  ·rename_i h4 h5;have hl:n.2.2.length=2:=ha 2 (by rw [h5.1];rfl);have a0:=hk _ (ZK6 (k:=0) hl (by omega));have h1:∀ m:Nat,ZaY (1:Int)=((m:Int),true)->([]:List Int).length=m:=fun m hm=>by
    simp [ZaY] at hm;show 0=m;omega
   have i1:=ZKZ h hi (n:=(1,wrap .i64 (-(nA L (kk n 1)).2.1),[])) (fun q hq=>absurd hq (by simp)) h1 (by
    rintro (⟨e,_⟩ | ⟨e,_⟩ | ⟨e,_⟩ | ⟨e,_⟩)<;>cases e)
   obtain ⟨c1,c2,c3,⟨es,c4⟩⟩:=ZKT h (n:=(1,wrap .i64 (-(nA L (kk n 1)).2.1),[])) (fun q hq=>absurd hq (by simp)) h1;obtain ⟨f1,f2⟩:=ZLk (L:=(plM L (1,wrap .i64 (-(nA L (kk n 1)).2.1),[])).2) (n:=(4,0,[kk n 0,(plM L (1,wrap .i64 (-(nA L (kk n 1)).2.1),[])).1])) rfl rfl (fun q hq=>by
    simp at hq;rcases hq with rfl | rfl
    ·exact ⟨a0.1,by rw [c4,length_append];have:=a0.2;omega⟩
    ·exact c2)
   exact ZKZ c1 i1 f1 f2 (ZLP rfl)
  ·split
   ·rename_i h4 h5 h9;have hl:n.2.2.length=2:=ha 2 (by rw [h9];rfl);have a0:=hk _ (ZK6 (k:=0) hl (by omega));cases hx:ZLh L lens (kk n 0) (kk n 1) with
    | none=>
     refine ZKZ h hi hk ha ?_;rintro (⟨e,_⟩ | ⟨e,_⟩ | ⟨_,x,e⟩ | ⟨e,_⟩)
     ·omega
     ·omega
     ·rw [hx] at e;cases e
     ·omega
    | some x=>
     obtain ⟨x1,x2,x3,x4⟩:=ZKW h a0 hx;refine ZKZ h hi (fun q hq=>(x4 q hq).1) (fun m hm=>?_) ?_
     ·rcases x1 with e | e | e<;>rw [e] at hm<;>simp [ZaY] at hm<;>omega
     ·rintro (⟨e,_⟩ | ⟨e,_⟩ | ⟨e,_⟩ | ⟨e,_⟩)<;>omega
   ·split
    ·exact hi
    ·rename_i h4 h5 h9 h22;refine ZKZ h hi hk ha ?_;rintro (⟨e,_⟩ | e | ⟨e,_⟩ | e)
     ·exact h4 e
     ·exact h5 e
     ·exact h9 e
     ·exact h22 e
mutual
inductive Z2p (L:List Zae):Int->List Int->List Zae->List Int->List Zae->Prop
 | old {i num out}:0<=atI num i->Z2p L i num out num out
 | new {i num out num' out' ks}:atI num i < 0->ZKG L (nA L i).2.2 num out ks num' out'->Z2p L i num out (Zaq num' i (out'.length:Int)) (out'++[((nA L i).1,(nA L i).2.1,ks)])
inductive ZKG (L:List Zae):List Int->List Int->List Zae->List Int->List Int->List Zae->Prop
 | nil {num out}:ZKG L [] num out [] num out
 | cons {q qs num out num1 out1 ks num2 out2}:Z2p L q num out num1 out1->ZKG L qs num1 out1 ks num2 out2->ZKG L (q::qs) num out (atI num1 q::ks) num2 out2
end
mutual
theorem Z2p.det {L:List Zae} {i:Int} {num:List Int} {out:List Zae} {n1 n2:List Int} {o1 o2:List Zae}:Z2p L i num out n1 o1->Z2p L i num out n2 o2->n1=n2/\o1=o2
 | .old h,h'=>by
  cases h' with
  | old _=>exact ⟨rfl,rfl⟩
  | new g _=>omega
 | .new h k,h'=>by
  cases h' with
  | old g=>omega
  | new _ k'=>obtain ⟨rfl,rfl,rfl⟩:=k.det k';exact ⟨rfl,rfl⟩
theorem ZKG.det {L:List Zae} {qs:List Int} {num:List Int} {out:List Zae} {k1 k2 n1 n2:List Int} {o1 o2:List Zae}:ZKG L qs num out k1 n1 o1->ZKG L qs num out k2 n2 o2->k1=k2/\n1=n2/\o1=o2
 | .nil,h'=>by cases h';exact ⟨rfl,rfl,rfl⟩
 | .cons h k,h'=>by
  cases h' with
  | cons g k'=>obtain ⟨rfl,rfl⟩:=h.det g;obtain ⟨rfl,rfl,rfl⟩:=k.det k';exact ⟨rfl,rfl,rfl⟩
end
theorem ZKG.snoc {L:List Zae} {q:Int} {n1:List Int} {o1:List Zae} {n2:List Int} {o2:List Zae} (hq:Z2p L q n1 o1 n2 o2):∀ {qs:List Int} {num:List Int} {out:List Zae} {ks:List Int},ZKG L qs num out ks n1 o1->ZKG L (qs++[q]) num out (ks++[atI n2 q]) n2 o2
 | [],_,_,_,h=>by cases h;exact .cons hq .nil
 | x::qs,_,_,_,h=>by
  cases h with
  | cons h1 h2=>exact .cons h1 (h2.snoc hq)
theorem ZKL (l:List Int) {i:Int} (hi:inR l.length i) (x j:Int) (hj:0<=j):atI (Zaq l i x) j=if j=i then x else atI l j:=by
 have h1:=hi.1;have h2:=hi.2
 unfold atI Zaq;rw [List.getElem?_set];by_cases e:j=i
 ·subst e;rw [if_pos rfl,if_pos rfl,if_pos (by omega)];rfl
 ·rw [if_neg (by omega),if_neg e]
structure Kp (L:List Zae) (top:Int) (num:List Int) (out:List Zae) (num':List Int) (out':List Zae):Prop where
 len:num'.length=L.length
 above:∀ j,top < j->atI num' j=atI num j
 old:∀ j,0<=j->0<=atI num j->atI num' j=atI num j
 ex:∃ es,out'=out++es
theorem Kp.trans {L:List Zae} {t s u:Int} {n1 n2 n3:List Int} {o1 o2 o3:List Zae} (h:Kp L t n1 o1 n2 o2) (i:Kp L s n2 o2 n3 o3) (ht:t<=u) (hs:s<=u):Kp L u n1 o1 n3 o3:=by
 obtain ⟨es,e1⟩:=h.ex;obtain ⟨fs,e2⟩:=i.ex;exact ⟨i.len,fun j hj=>by rw [i.above j (by omega),h.above j (by omega)],fun j h0 hj=>by rw [i.old j h0 (by rw [h.old j h0 hj];exact hj),h.old j h0 hj],es++fs,by rw [e2,e1,append_assoc]⟩
mutual
theorem Z2p.kp {L:List Zae} (hL:PoolH L):∀ {i:Int} {num:List Int} {out:List Zae} {num':List Int} {out':List Zae},Z2p L i num out num' out'->inR L.length i->num.length=L.length->Kp L i num out num' out'/\0<=atI num' i
 | i,num,out,_,_,.old h,hi,hn=>⟨⟨hn,fun _ _=>rfl,fun _ _ _=>rfl,[],by simp⟩,h⟩
 | i,num,out,_,_,.new (num':=num') (out':=out') (ks:=ks) h k,hi,hn=>by
  have hk:∀ q∈(nA L i).2.2,inR L.length q/\q < i:=fun q hq=>by
   have:=hL.k _ _ (ZKS hi) q hq;have h1:=hi.1;have h2:=hi.2
   exact ⟨⟨this.1,by omega⟩,by omega⟩
  have kp:=ZKG.kp hL (i - 1) k (fun q hq=>⟨(hk q hq).1,by have:=(hk q hq).2;omega⟩) hn;have hi':inR num'.length i:=by rw [kp.len];exact hi
  obtain ⟨es,e⟩:=kp.ex;refine ⟨⟨by rw [Zay,kp.len],fun j hj=>?_,fun j h0 hj=>?_,es++[((nA L i).1,(nA L i).2.1,ks)],by rw [e,append_assoc]⟩,?_⟩
  ·have:=hi.1;rw [ZKL _ hi' _ _ (by omega),if_neg (by omega),kp.above j (by omega)]
  ·rw [ZKL _ hi' _ _ h0,if_neg (fun e=>by subst e;omega),kp.old j h0 hj]
  ·rw [ZKL _ hi' _ _ hi.1,if_pos rfl];omega
theorem ZKG.kp {L:List Zae} (hL:PoolH L) (t:Int):∀ {qs:List Int} {num:List Int} {out:List Zae} {ks:List Int} {num':List Int} {out':List Zae},ZKG L qs num out ks num' out'->(∀ q∈qs,inR L.length q/\q<=t)->num.length=L.length->Kp L t num out num' out'
 | _,num,out,_,_,_,.nil,_,hn=>⟨hn,fun _ _=>rfl,fun _ _ _=>rfl,[],by simp⟩
 | _,num,out,_,_,_,.cons (q:=q) (qs:=qs) h k,hq,hn=>by
  have h1:=(Z2p.kp hL h (hq q (by simp)).1 hn).1;have h2:=ZKG.kp hL t k (fun x hx=>hq x (by simp [hx])) h1.len;exact h1.trans h2 (hq q (by simp)).2 (Int.le_refl _)
end
structure ZLr (L:List Zae) (num:List Int) (out:List Zae):Prop where
 len:num.length=L.length
 at_:∀ j,inR L.length j->0<=atI num j->atI num j < out.length/\out[(atI num j).toNat]?=some ((nA L j).1,(nA L j).2.1,(nA L j).2.2.map (atI num))/\∀ q∈(nA L j).2.2,0<=atI num q/\atI num q < atI num j
 inj:∀ j j',inR L.length j->inR L.length j'->0<=atI num j->atI num j=atI num j'->j=j'
mutual
theorem Z2p.ok {L:List Zae} (hL:PoolH L):∀ {i:Int} {num:List Int} {out:List Zae} {num':List Int} {out':List Zae},Z2p L i num out num' out'->inR L.length i->ZLr L num out->ZLr L num' out'
 | i,num,out,_,_,.old h,hi,hn=>hn
 | i,num,out,_,_,.new (num':=num') (out':=out') (ks:=ks) h k,hi,hn=>by
  have hk:∀ q∈(nA L i).2.2,inR L.length q/\q<=i - 1:=fun q hq=>by
   have:=hL.k _ _ (ZKS hi) q hq;have h1:=hi.1;have h2:=hi.2
   exact ⟨⟨this.1,by omega⟩,by omega⟩
  have kp:=ZKG.kp hL (i - 1) k hk hn.len;obtain ⟨ok,eks,hpos⟩:=ZKG.ok hL k (fun q hq=>(hk q hq).1) hn;have hi':inR num'.length i:=by rw [kp.len];exact hi
  have hneg:atI num' i < 0:=by rw [kp.above i (by omega)];exact h
  have A:∀ j,0<=j->atI (Zaq num' i (out'.length:Int)) j=if j=i then (out'.length:Int) else atI num' j:=fun j hj=>ZKL _ hi' _ _ hj
  have B:∀ j,inR L.length j->0<=atI num' j->j≠i:=fun j _ h e=>by subst e;omega
  have mapE:∀ l:List Int,(∀ q∈l,inR L.length q/\0<=atI num' q)->l.map (atI (Zaq num' i (out'.length:Int)))=l.map (atI num'):=fun l hl=>List.map_congr_left fun q hq=>by
   obtain ⟨a,b⟩:=hl q hq;rw [A q a.1,if_neg (B q a b)]
  have kidsR:∀ j,inR L.length j->∀ q∈(nA L j).2.2,inR L.length q:=fun j hj q hq=>by
   have:=hL.k _ _ (ZKS hj) q hq;have h1:=hj.1;have h2:=hj.2
   exact ⟨this.1,by omega⟩
  refine ⟨by rw [Zay,kp.len],fun j hj h0=>?_,fun j j' hj hj' h0 e=>?_⟩
  ·by_cases e:j=i
   ·subst e;rw [A j hj.1,if_pos rfl];refine ⟨by simp;omega,?_,fun q hq=>?_⟩
    ·rw [Int.toNat_natCast,getElem?_append_right (le_refl _)];simp only [Nat.sub_self,List.getElem?_cons_zero];rw [mapE _ fun q hq=>⟨(hk q hq).1,hpos q hq⟩,eks]
    ·have hq1:=(hk q hq).1;have hq2:=hpos q hq;rw [A q hq1.1,if_neg (B q hq1 hq2)];exact ⟨hq2,(ok.at_ q hq1 hq2).1⟩
   ·rw [A j hj.1,if_neg e] at h0 |-
    obtain ⟨a1,a2,a3⟩:=ok.at_ j hj h0;refine ⟨by simp;omega,?_,fun q hq=>?_⟩
    ·rw [getElem?_append_left (by omega),a2,mapE _ fun q hq=>⟨kidsR j hj q hq,(a3 q hq).1⟩]
    ·have hq1:=kidsR j hj q hq;rw [A q hq1.1,if_neg (B q hq1 (a3 q hq).1)];exact a3 q hq
  ·rw [A j hj.1] at h0 e;rw [A j' hj'.1] at e;by_cases e1:j=i<;>by_cases e2:j'=i
   ·omega
   ·rw [if_pos e1,if_neg e2] at e;rw [if_pos e1] at h0;have:=(ok.at_ j' hj' (by omega)).1;omega
   ·rw [if_neg e1,if_pos e2] at e;rw [if_neg e1] at h0;have:=(ok.at_ j hj h0).1;omega
   ·rw [if_neg e1,if_neg e2] at e;rw [if_neg e1] at h0;exact ok.inj j j' hj hj' h0 e
theorem ZKG.ok {L:List Zae} (hL:PoolH L):∀ {qs:List Int} {num:List Int} {out:List Zae} {ks:List Int} {num':List Int} {out':List Zae},ZKG L qs num out ks num' out'->(∀ q∈qs,inR L.length q)->ZLr L num out->ZLr L num' out'/\ks=qs.map (atI num')/\∀ q∈qs,0<=atI num' q
 | _,num,out,_,_,_,.nil,_,hn=>⟨hn,rfl,fun q h=>absurd h (by simp)⟩
 | _,num,out,_,_,_,.cons (q:=q) (qs:=qs) (num1:=num1) (num2:=num2) h k,hq,hn=>by
  have q0:=hq q (by simp);have ok1:=Z2p.ok hL h q0 hn;have kp1:=Z2p.kp hL h q0 hn.len;obtain ⟨ok2,e2,p2⟩:=ZKG.ok hL k (fun x hx=>hq x (by simp [hx])) ok1;have kp2:=ZKG.kp hL (L.length:Int) k (fun x hx=>⟨hq x (by simp [hx]),by have:=(hq x (by simp [hx])).2;omega⟩) ok1.len;have e:=kp2.old q q0.1 kp1.2;refine ⟨ok2,by rw [List.map_cons,<-e2,e],fun x hx=>?_⟩;rcases mem_cons.1 hx with rfl | hx
  ·rw [e];exact kp1.2
  ·exact p2 x hx
end
end Go.Dat
end
