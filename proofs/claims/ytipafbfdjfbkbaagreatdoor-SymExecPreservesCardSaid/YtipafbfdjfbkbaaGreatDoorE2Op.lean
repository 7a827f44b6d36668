import Derived.Test.YtipafbfdjfbkbaaGreatDoorE2Ty
set_option linter.unusedVariables false
set_option linter.unusedSectionVars false
open Option.some (injEq inj)
open Bool (false_eq_true)
open Nat (le_succ)
namespace Go.Eng
section
variable [Gl] [Mx] {P:Program} {K:ZcY} {E:Zcn} {F:Fr} {a:Nat->AV} {fp:Nat->Nat->Prop} {s s0:S2} {T:Tm} {S S':St} {α:Type} {k:K2 α} {r:α}
def Res (F:Fr) (a:Nat->AV) (fp:Nat->Nat->Prop) (s0:S2) (T:Tm) (S:St) (x:Option (AV×St)) (k:K2 α) (r:α):Prop:=
 ∃ v u s' a' fp' S',x=some (u,S')/\S.next<=S'.next/\Rel F a' fp' s' T S'/\s'.T=s0.T/\VR2 s'.nx a' v u/\k v s'=some r/\s0.nx<=s'.nx/\∀ c,c < s0.nx->a' c=a c/\(s0.H.get c=none->fp' c=fp c)
theorem Res.val (R:Rel F a fp s T S) {x:Option (AV×St)} {v:V2} {u:AV} (hx:x=some (u,S)) (h:VR2 s.nx a v u) (hk:k v s=some r):Res F a fp s T S x k r:=
 ⟨v,u,s,a,fp,S,hx,Nat.le_refl _,R,rfl,h,hk,Nat.le_refl _,fun _ _=>⟨rfl,fun _=>rfl⟩⟩
theorem ZoP {m:Nat} {c:AV} {v:V2} (h:Zwl c=some v):VR2 m a v c:=by
 cases c<;>simp only [Zwl,injEq,reduceCtorEq] at h<;>subst h
 ·exact .dat (.mkbool _)
 ·exact .dat (.mkint _ _)
 ·exact .dat (.mkstr _)
 ·exact .nilp
 ·exact .nils
 ·exact .nilm
 ·exact .nilf
theorem ZoQ {m:Nat}:∀ {c:List AV} {v:List V2},Zwm c=some v->Zbl m a v c
 | [],v,h=>by cases h;exact .nil
 | x::xs,v,h=>by
  simp only [Zwm] at h;cases h1:Zwl x with
  | none=>rw [h1] at h;cases h
  | some y=>
   cases h2:Zwm xs with
   | none=>rw [h1,h2] at h;cases h
   | some ys=>
    rw [h1,h2] at h;cases h;exact .cons (ZoP h1) (ZoQ h2)
theorem Zwt {m:Nat} {c:AV} {v:V2} (h:c2v c=some v):VR2 m a v c:=by
 unfold c2v at h;split at h
 ·split at h
  ·rename_i l hl;cases h;exact .agg (ZoQ hl)
  ·cases h
 ·exact ZoP h
theorem ZlR {k:IntKind}:∀ {l:List AV} {ns:List Int},ZoC k l=some ns->l=List.flatMap (Ty.cells (.int k)) ns
 | [],ns,h=>by cases h;rfl
 | x::l,ns,h=>by
  simp only [ZoC] at h;split at h
  ·rename_i j n;cases hd:decide (j=k)<;>rw [hd] at h
   ·cases h
   ·have h:(ZoC k l).ob (fun ns=>some (n::ns))=some ns:=h;simp only [Zaa,injEq] at h;obtain ⟨ms,h1,rfl⟩:=h;have:=of_decide_eq_true hd;subst this;rw [ZlR h1];rfl
  ·cases h
theorem Zwu {m:Nat} {c:AV} {v:V2} (h:glb c=some v):VR2 m a v c:=by
 unfold glb at h;split at h
 ·split at h
  ·simp only [Zaa,injEq] at h;obtain ⟨ns,h1,rfl⟩:=h;rw [ZlR h1];exact .fpl
  ·cases h
 ·cases h
theorem Zbd (R:Rel F a fp s T S) {x:Operand} {v:V2} (h:ev2 s x=some v):∃ u,ev T x=some u/\VR2 s.nx a v u:=by
 cases x with
 | tmp t=>exact R.slots t v h
 | const c=>
  simp only [ev2,Zaa] at h;obtain ⟨c',h1,h2⟩:=h;exact ⟨c',h1,Zwt h2⟩
 | func f=>cases h;exact ⟨_,rfl,.fn .nil .nil⟩
 | global g=>
  simp only [ev2,Zaa] at h;obtain ⟨c,h1,h2⟩:=h;exact ⟨c,h1,Zwu h2⟩
theorem ZeO (R:Rel F a fp s T S):∀ {xs:List Operand} {vs:List V2},ZoD s xs=some vs->∃ us,evs T xs=some us/\Zbl s.nx a vs us
 | [],vs,h=>by cases h;exact ⟨[],rfl,.nil⟩
 | x::xs,vs,h=>by
  simp only [ZoD,Zaa,injEq] at h;obtain ⟨v,h1,ws,h2,rfl⟩:=h;obtain ⟨u,e1,r1⟩:=Zbd R h1;obtain ⟨us,e2,r2⟩:=ZeO R h2;exact ⟨u::us,by simp only [evs,e1,e2,Zap],.cons r1 r2⟩
inductive VRp (m:Nat) (a:Nat->AV):List (Nat×V2)->List (Nat×AV)->Prop
 | nil:VRp m a [] []
 | cons {i:Nat} {v:V2} {u:AV} {vs:List (Nat×V2)} {us:List (Nat×AV)}:VR2 m a v u->VRp m a vs us->VRp m a ((i,v)::vs) ((i,u)::us)
theorem ZoR (R:Rel F a fp s T S):∀ {xs:List (Nat×Operand)} {vs:List (Nat×V2)},Zwn s xs=some vs->∃ us,evp T xs=some us/\VRp s.nx a vs us
 | [],vs,h=>by cases h;exact ⟨[],rfl,.nil⟩
 | (i,x)::xs,vs,h=>by
  simp only [Zwn,Zaa,injEq] at h;obtain ⟨v,h1,ws,h2,rfl⟩:=h;obtain ⟨u,e1,r1⟩:=Zbd R h1;obtain ⟨us,e2,r2⟩:=ZoR R h2;exact ⟨(i,u)::us,by simp only [evp,e1,e2,Zap],.cons r1 r2⟩
theorem ZoS (R:Rel F a fp s T S) {x:Operand} (h:(ev2 s x).ob (fun v=>k v s)=some r):Res F a fp s T S (opK P K (.move x) T S) k r:=by
 simp only [Zaa] at h;obtain ⟨v,h1,h2⟩:=h;obtain ⟨u,e1,r1⟩:=Zbd R h1;exact Res.val R (by simp only [opK,aOp,e1,Zap]) r1 h2
theorem Zuq (R:Rel F a fp s T S) {c x y:Operand} (h:op2 E (.pick c x y) s k=some r):Res F a fp s T S (opK P K (.pick c x y) T S) k r:=by
 simp only [op2,Zaa] at h;obtain ⟨v,h1,h2⟩:=h;obtain ⟨u,e1,r1⟩:=Zbd R h1;split at h2
 ·rename_i b;cases r1 with
  | dat hd=>
   have:=DR.bool hd;subst this;cases b
   ·simp only [cond_false,Zaa] at h2;obtain ⟨w,h3,h4⟩:=h2;obtain ⟨u,e2,r2⟩:=Zbd R h3;exact Res.val R (by simp only [opK,aOp,e1,e2,Zap]) r2 h4
   ·simp only [cond_true,Zaa] at h2;obtain ⟨w,h3,h4⟩:=h2;obtain ⟨u,e2,r2⟩:=Zbd R h3;exact Res.val R (by simp only [opK,aOp,e1,e2,Zap]) r2 h4
 ·cases h2
theorem ZbI (R:Rel F a fp s T S) {x:Option (AV×St)} {b:Bool} (hx:x=some (.bool b,S)) (hk:k (.dat .bool b) s=some r):Res F a fp s T S x k r:=Res.val R hx (.dat (.mkbool _)) hk
theorem Zbs (R:Rel F a fp s T S) {x:Option (AV×St)} {j:IntKind} {n:Int} (hx:x=some (.int j n,S)) (hk:k (.dat (.int j) n) s=some r):Res F a fp s T S x k r:=Res.val R hx (.dat (.mkint _ _)) hk
theorem Zi7 (R:Rel F a fp s T S) {x:Option (AV×St)} {b:ByteArray} (hx:x=some (.str b,S)) (hk:k (.dat .str b) s=some r):Res F a fp s T S x k r:=Res.val R hx (.dat (.mkstr _)) hk
theorem ZdL {α:Type} {b:Bool} {x:α} {y:Option α} {z:α}:(bif b then none else y)=some z↔b=false/\y=some z:=by cases b<;>simp
theorem Zbm {α:Type} {b:Bool} {x:α} {y:Option α} {z:α}:(bif b then y else none)=some z↔b=true/\y=some z:=by cases b<;>simp
theorem Zak {α:Type} {b:Bool} {y:Option α} {z:α}:bc b y none=some z↔b=true/\y=some z:=by cases b<;>simp [bc]
theorem Zi8 {α:Type} {b:Bool} {y:Option α} {z:α}:bc b none y=some z↔b=false/\y=some z:=by cases b<;>simp [bc]
theorem Zur (R:Rel F a fp s T S) {op:BinOp} {j:IntKind} {m n:Int} (h:Z0D op j m n (fun v=>k v s)=some r):Res F a fp s T S ((Ze4 op j m n).ob fun v=>some (v,S)) k r:=by
 cases op<;>simp only [Z0D] at h
 case quo=>
  rw [ZdL (x:=r)] at h;have hb:¬ n=0:=of_decide_eq_false h.1;exact Zbs R (by simp only [Ze4,if_neg hb,Zap]) h.2
 case rem=>
  rw [ZdL (x:=r)] at h;have hb:¬ n=0:=of_decide_eq_false h.1;exact Zbs R (by simp only [Ze4,if_neg hb,Zap]) h.2
 case shl=>cases h
 case shr=>cases h
 case eql=>exact ZbI R rfl h
 case neq=>exact ZbI R rfl h
 case lss=>exact ZbI R rfl h
 case leq=>exact ZbI R rfl h
 case gtr=>exact ZbI R rfl h
 case geq=>exact ZbI R rfl h
 all_goals exact Zbs R rfl h
theorem Zwv (R:Rel F a fp s T S) {op:BinOp} {j:IntKind} {m n:Int} (h:shB op j m n (fun v=>k v s)=some r):Res F a fp s T S ((Zh5 op j m n).ob fun v=>some (v,S)) k r:=by
 cases op<;>simp only [shB] at h<;>try (cases h;done)
 all_goals
  rw [ZdL (x:=r)] at h;have hb:¬ n < 0:=of_decide_eq_false h.1;exact Zbs R (by simp only [Zh5,if_neg hb,Zap]) h.2
theorem Zus (R:Rel F a fp s T S) {op:BinOp} {x y:ByteArray} (h:Z0E op x y (fun v=>k v s)=some r):Res F a fp s T S ((Zgs op x y).ob fun v=>some (v,S)) k r:=by
 cases op<;>simp only [Z0E] at h<;>try (cases h;done)
 case add=>
  rw [Zbm (x:=r)] at h;exact Zi7 R (by simp only [Zgs,if_pos (of_decide_eq_true h.1),Zap]) h.2
 all_goals exact ZbI R rfl h
theorem Zdu (R:Rel F a fp s T S) {op:BinOp} {t:TypeId} {x y:Operand} {u v:AV} {b:Bool} {e:TE} (he:te P t=some e) (hq:eqA e.und (isConstO x||isConstO y) u v=some b)
 (hi:∀ k m,u≠.int k m) (hs:∀ m,u≠.str m) (h:ZoE op b (fun v=>k v s)=some r):Res F a fp s T S ((ZnK P op t x y u v).ob fun v=>some (v,S)) k r:=by
 have hb:∀ op,(op=.eql\/op=.neq)->ZnK P op t x y u v=match op with
  | .eql=>(te P t).ob fun e=>(eqA e.und (isConstO x||isConstO y) u v).ob fun r=>some (.bool r)
  | .neq=>(te P t).ob fun e=>(eqA e.und (isConstO x||isConstO y) u v).ob fun r=>some (.bool !r)
  | _=>none:=by
  intro op ho;unfold ZnK;split
  ·simp [eqA] at hq
  ·exact absurd rfl (hi _ _)
  ·exact absurd rfl (hs _)
  ·rcases ho with rfl | rfl<;>rfl
 cases op<;>simp only [ZoE] at h<;>try (cases h;done)
 ·exact ZbI R (by rw [hb .eql (.inl rfl)];simp only [he,Zap,hq]) h
 ·exact ZbI R (by rw [hb .neq (.inr rfl)];simp only [he,Zap,hq]) h
theorem Zcx {tt:TypeId->Option Ty} {str:Bool} {w:Ty} {d:TypeDesc} (h:ZcJ tt str (.list w) d=true):∃ el,d=.slice el/\Z0b (tt el) w=true:=by
 cases d<;>simp only [ZcJ,false_eq_true] at h;exact ⟨_,rfl,h⟩
theorem ZoT {tt:TypeId->Option Ty} {str:Bool} {w:Ty} {d:TypeDesc} (h:ZcJ tt str (.ptr w) d=true):∃ el,d=.pointer el:=by
 cases d<;>simp only [ZcJ,false_eq_true] at h;exact ⟨_,rfl⟩
theorem Zrt {tt:TypeId->Option Ty} {str:Bool} {d:TypeDesc} (h:ZcJ tt str .bool d=true):d=.bool:=by
 cases d<;>simp only [ZcJ,false_eq_true] at h;rfl
theorem ZcT {tt:TypeId->Option Ty} {str:Bool} {d:TypeDesc} (h:ZcJ tt str .str d=true):d=.string:=by
 cases d<;>simp only [ZcJ,false_eq_true] at h;rfl
theorem ZdM {tt:TypeId->Option Ty} {str:Bool} {j:IntKind} {d:TypeDesc} (h:ZcJ tt str (.int j) d=true):d=.int j:=by
 cases d<;>simp only [ZcJ,false_eq_true] at h;rw [of_decide_eq_true h]
theorem ZhJ {tt:TypeId->Option Ty} {w:Ty} {d:TypeDesc} (h:ZcJ tt true (.st w) d=true):∃ fs,d=.struct fs/\Zrs tt fs.toList w 0=true:=by
 cases d<;>simp only [ZcJ,false_eq_true,Bool.true_and,Bool.not_true,Bool.false_and] at h;exact ⟨_,rfl,h⟩
theorem ZgG {tt:TypeId->Option Ty} {w:Ty} {d:TypeDesc} (h:ZcJ tt false (.st w) d=true):∃ n el,d=.array n el/\Zi5 (tt el) n w=true:=by
 cases d<;>simp only [ZcJ,false_eq_true,Bool.true_and,Bool.not_false,Bool.false_and] at h;exact ⟨_,_,rfl,h⟩
theorem ZlS {i j:IntKind} {a b:Int} {cs:List AV} (h:NRs [.int i a,.int j b] cs):cs=[.int i a,.int j b]:=by
 cases h with | cons h1 h2=>
 cases h2 with | cons h2 h3=>
 cases h3;have e1:=DR.int (k:=i) (n:=a) (.cons h1 .nil);have e2:=DR.int (k:=j) (n:=b) (.cons h2 .nil);rw [e1,e2]
theorem Zut (H:TyR P E) {t:TypeId} {u u':IntKind} (hs:E.str t=false) (ht:E.ty t=some (.st (.prod (.int u) (.int u')))) (i j:IntKind) (a b c d:Int):ZmX P t [.int i a,.int j b] [.int i c,.int j d]=some (a==c&&b==d):=by
 obtain ⟨e,he,ok⟩:=H.ok _ _ ht;have hu:=ok.und;rw [hs] at hu;obtain ⟨n,el,hd,ho⟩:=ZgG hu
 match n,ho with
 | 0,ho=>cases ho
 | 1,ho=>simp [Zi5,Ty.isProd] at ho
 | 2,ho=>
  simp only [Zi5,Bool.and_eq_true] at ho;have hel:=Zbr ho.1;obtain ⟨g,hg,okg⟩:=H.ok _ _ hel;have hgd:=ZdM okg.und;have hz:g.size=1:=okg.size;unfold ZmX;simp only [he,hd,hg,hgd,hz,ZnT,Zap,decide_true,Bool.and_self];rfl
 | n+3,ho=>simp [Zi5] at ho
theorem Zww (H:TyR P E) (R:Rel F a fp s T S) {op:BinOp} {t u:TypeId} {x y:Operand} (h:op2 E (.binOp op t x y u) s k=some r):Res F a fp s T S (opK P K (.binOp op t x y u) T S) k r:=by
 simp only [op2,Zaa] at h;obtain ⟨v,h1,w,h2,h⟩:=h;obtain ⟨c,e1,r1⟩:=Zbd R h1;obtain ⟨d,e2,r2⟩:=Zbd R h2;have ho:opK P K (.binOp op t x y u) T S=(ZnK P op t x y c d).ob fun v=>some (v,S):=by simp only [opK,aOp,e1,e2,Zap]
 rw [ho];unfold Z1V at h;split at h
 ·cases r1 with | dat d1=>cases r2 with | dat d2=>
  have:=DR.int d1;subst this;have:=DR.int d2;subst this;rename_i j m i n;cases hs:Z1U op
  ·rw [hs] at h;simp only [Zan,Zak] at h;have hj:=of_decide_eq_true h.1;subst hj;have:ZnK P op t x y (.int j m) (.int j n)=Ze4 op j m n:=by cases op<;>first | rfl | (simp only [ZnK,if_true];done) | cases hs
   rw [this];exact Zur R h.2
  ·rw [hs] at h;simp only [Zag] at h;have:ZnK P op t x y (.int j m) (.int i n)=Zh5 op j m n:=by cases op<;>first | rfl | cases hs
   rw [this];exact Zwv R h
 ·cases r1 with | dat d1=>cases r2 with | dat d2=>
  have:=DR.str d1;subst this;have:=DR.str d2;subst this;exact Zus R h
 ·cases r1 with | dat d1=>cases r2 with | dat d2=>
  have:=DR.bool d1;subst this;have:=DR.bool d2;subst this;split at h
  ·rename_i ht;obtain ⟨e,he,ok⟩:=H.ok _ _ ht;exact Zdu R he (by rw [Zrt ok.und];rfl) (fun _ _ h=>by cases h) (fun _ h=>by cases h) h
  ·cases h
 ·cases r1;cases r2;split at h
  ·rename_i ht;obtain ⟨e,he,ok⟩:=H.ok _ _ ht;obtain ⟨el,hu,_⟩:=Zcx ok.und;exact Zdu R he (by rw [hu];rfl) (fun _ _ h=>by cases h) (fun _ h=>by cases h) h
  ·cases h
 ·cases r2;split at h
  ·rename_i i _ _ _ l _ ht hi;obtain ⟨e,he,ok⟩:=H.ok _ _ ht;obtain ⟨el,hu,_⟩:=Zcx ok.und;rw [ZdL (x:=r)] at h;cases r1 with | sl hc ho1=>
   rcases (R.chunks _ _ hi).2 with ⟨hl,hv⟩ | ⟨hw,hv⟩ | ⟨q,o,cap,cs,pre,post,hv,hs⟩
   ·subst hl;simp at h
   ·cases hl:l with
    | nil=>subst hl;simp at h
    | cons z zs=>
     rw [hv,hl];exact Zdu R he (by rw [hu];rfl) (fun _ _ h=>by cases h) (fun _ h=>by cases h) h.2
   ·rw [hv];exact Zdu R he (by rw [hu];rfl) (fun _ _ h=>by cases h) (fun _ h=>by cases h) h.2
  ·cases h
 ·cases r2;split at h
  ·rename_i _ l _ _ ht;obtain ⟨e,he,ok⟩:=H.ok _ _ ht;obtain ⟨el,hu,_⟩:=Zcx ok.und;rw [ZdL (x:=r)] at h;cases r1 with | dat d1=>
   rcases DR.list d1 with hv | ⟨hl,hv⟩
   ·cases hl:l with
    | nil=>subst hl;simp at h
    | cons z zs=>
     rw [hv,hl];exact Zdu R he (by rw [hu];rfl) (fun _ _ h=>by cases h) (fun _ h=>by cases h) h.2
   ·subst hl;simp at h
  ·cases h
 ·cases r2;split at h
  ·rename_i z _ l _ _ ht;obtain ⟨e,he,ok⟩:=H.ok _ _ ht;obtain ⟨el,hu,_⟩:=Zcx ok.und;obtain ⟨i1,i2⟩:=r1.nsl_inv;cases z
   ·obtain ⟨hne,hv⟩:=i2 rfl;obtain ⟨z0,zs,rfl⟩:=List.exists_cons_of_ne_nil hne;rw [hv];exact Zdu R he (by rw [hu];rfl) (fun _ _ h=>by cases h) (fun _ h=>by cases h) h
   ·rw [(i1 rfl).2];exact Zdu R he (by rw [hu];rfl) (fun _ _ h=>by cases h) (fun _ h=>by cases h) h
  ·cases h
 ·cases r1;cases r2;split at h
  ·rename_i ht;obtain ⟨e,he,ok⟩:=H.ok _ _ ht;obtain ⟨el,hu⟩:=ZoT ok.und;exact Zdu R he (by rw [hu];rfl) (fun _ _ h=>by cases h) (fun _ h=>by cases h) h
  ·cases h
 ·cases r2;split at h
  ·rename_i ht;obtain ⟨e,he,ok⟩:=H.ok _ _ ht;obtain ⟨el,hu⟩:=ZoT ok.und;cases r1 with | bx hc hb=>
   exact Zdu R he (by rw [hu];rfl) (fun _ _ h=>by cases h) (fun _ h=>by cases h) h
  ·cases h
 ·cases r1 with | dat d1=>cases r2 with | dat d2=>
  obtain ⟨cs,rfl,n1⟩:=DR.st.1 d1;obtain ⟨ds,rfl,n2⟩:=DR.st.1 d2;have:=ZlS n1;subst this;have:=ZlS n2;subst this;simp only [Zak,Bool.and_eq_true,decide_eq_true_eq] at h;obtain ⟨⟨f1,f2⟩,h⟩:=h;subst f1;subst f2;split at h
  ·rename_i hs ht;have hq:=fun i j a b c d=>Zut H hs ht i j a b c d;cases op<;>simp only [ZoE] at h<;>try (cases h;done)
   ·exact ZbI R (by simp only [ZnK,hq,Zap]) h
   ·exact ZbI R (by simp only [ZnK,hq,Zap]) h
  ·cases h
 ·cases h
theorem Z0J (R:Rel F a fp s T S) {op:UnOp} {t:TypeId} {x:Operand} (h:op2 E (.unOp op t x) s k=some r):Res F a fp s T S (opK P K (.unOp op t x) T S) k r:=by
 simp only [op2,Zaa] at h;obtain ⟨v,h1,h⟩:=h;obtain ⟨c,e1,r1⟩:=Zbd R h1;have ho:opK P K (.unOp op t x) T S=(unA op c).ob fun v=>some (v,S):=by simp only [opK,aOp,e1,Zap]
 rw [ho];unfold un2 at h;split at h
 ·cases r1 with | dat d1=>have:=DR.int d1;subst this;exact Zbs R rfl h
 ·cases r1 with | dat d1=>have:=DR.int d1;subst this;exact Zbs R rfl h
 ·cases r1 with | dat d1=>have:=DR.bool d1;subst this;exact ZbI R rfl h
 ·cases h
theorem ZkY (R:Rel F a fp s T S) {x:Operand} (h:op2 E (.nilCheck x) s k=some r):Res F a fp s T S (opK P K (.nilCheck x) T S) k r:=by
 simp only [op2,Zaa] at h;obtain ⟨v,h1,h⟩:=h;obtain ⟨c,e1,r1⟩:=Zbd R h1;have ho:∀ c,(c≠.nilp)->c≠.nili->c≠.nilf->ev T x=some c->opK P K (.nilCheck x) T S=some (c,S):=by
  intro c g1 g2 g3 e;simp only [opK,aOp,e,Zap]
 split at h
 ·cases r1 with | bx h1 h2=>exact Res.val R (ho _ (by simp) (by simp) (by simp) e1) (.bx h1 h2) h
 ·cases r1 with
  | el h1 h2=>exact Res.val R (ho _ (by simp) (by simp) (by simp) e1) (.el h1 h2) h
  | elf h1 h2=>exact Res.val R (ho _ (by simp) (by simp) (by simp) e1) (.elf h1 h2) h
 ·cases r1 with | fpe=>exact Res.val R (ho _ (by simp) (by simp) (by simp) e1) .fpe h
 ·cases r1 with | dat d=>have:=DR.ptr d;subst this;exact Res.val R (ho _ (by simp) (by simp) (by simp) e1) (.dat d) h
 ·rename_i t x0;obtain ⟨y,hx,h⟩:=Option.bind_eq_some_iff.1 h;cases r1 with | dat d=>
  rcases DR.optr d with ⟨e,_⟩ | ⟨z,e,hv⟩
  ·exact absurd (hx.symm.trans e) (by simp)
  ·have hyz:y=z:=inj (hx.symm.trans e);subst hyz;subst hv;exact Res.val R (ho _ (by simp) (by simp) (by simp) e1) (.dat (t:=.ptr t) (x:=y) (show NRs [.fp (t.cells y)] [.fp (t.cells y)] from .refl _)) h
 ·cases r1 with | fn h1 h2=>exact Res.val R (ho _ (by simp) (by simp) (by simp) e1) (.fn h1 h2) h
 ·cases h
theorem Znz (R:Rel F a fp s T S) {x:Operand} {i:Nat} (h:op2 E (.extract x i) s k=some r):Res F a fp s T S (opK P K (.extract x i) T S) k r:=by
 simp only [op2,Zaa] at h;obtain ⟨v,h1,h⟩:=h;obtain ⟨c,e1,r1⟩:=Zbd R h1;split at h
 ·simp only [Zaa] at h;obtain ⟨w,h2,h⟩:=h;cases r1 with | tup hs=>
  obtain ⟨u,h3,h4⟩:=hs.get h2;exact Res.val R (by simp only [opK,aOp,e1,Zap,h3]) h4 h
 ·cases h
theorem ZkZ (R:Rel F a fp s T S) {fn:Fn} {f c:Array Operand} (h:op2 E (.makeFunc fn f c) s k=some r):Res F a fp s T S (opK P K (.makeFunc fn f c) T S) k r:=by
 simp only [op2] at h;split at h
 ·simp only [Zaa] at h;obtain ⟨x,h1,y,h2,h⟩:=h;obtain ⟨us,e1,r1⟩:=ZeO R h1;obtain ⟨ws,e2,r2⟩:=ZeO R h2;exact Res.val R (by simp only [opK,aOp,e1,e2,Zap]) (.fn r1 r2) h
 ·cases h
theorem Zd5 {t:Ty}:∀ (l:List t.den),(l.flatMap t.cells).length=l.length * t.size
 | []=>by simp
 | x::l=>by rw [List.flatMap_cons,List.length_append,Ty.cells_len,Zd5 l,List.length_cons,Nat.succ_mul];omega
theorem Zru (H:TyR P E) (R:Rel F a fp s T S) {t:TypeId} (h:op2 E (.alloc t) s k=some r):Res F a fp s T S (opK P K (.alloc t) T S) k r:=by
 simp only [op2] at h;cases har:E.ar t with
 | some p=>
  rw [har] at h;simp only [Zaa] at h;obtain ⟨z,hz,h⟩:=h;obtain ⟨hm,e,el,he,hu,hel,hzero⟩:=H.ar t p har;obtain ⟨g,hg,okg⟩:=H.ok _ _ hel;have hzc:=hzero z hz;have hlen:e.zero.cells.length=p.2 * g.size:=by
   rw [hzc,Zd5,List.length_replicate,okg.size]
  have ho:opK P K (.alloc t) T S=some (.pa S.next p.2 g.size,ZcW S (.cells e.zero.cells)):=by
   simp only [opK,aOp,he,hm,cond_true,Zcw,hu,hg,Zap,Zad.2 hlen,Znq]
  rw [ho];obtain ⟨a',fp',ha,hb,hfp,R'⟩:=R.new0 (ck:=.arr p.1 (List.replicate p.2 z)) (b:=.cells e.zero.cells) (v:=.pa S.next p.2 g.size)
   (fun a' ha'=>⟨S.next,e.zero.cells,by rw [List.length_replicate,okg.size],rfl,by rw [Tr.get_put,if_pos rfl],by rw [hzc];exact .refl _⟩)
  exact ⟨_,_,_,a',fp',_,rfl,le_succ _,R',rfl,.ar (Nat.lt_succ_self _) ha,h,le_succ _,fun c hc=>⟨hb c hc,fun _=>hfp c hc⟩⟩
 | none=>
 rw [har] at h;simp only [Zaa] at h;obtain ⟨u,h1,h⟩:=h;obtain ⟨e,he,ok⟩:=H.ok _ _ h1;have ho:opK P K (.alloc t) T S=some (.mp S.next 0,ZcW S (.cells e.zero.cells)):=by simp only [opK,aOp,he,H.ar0 t har,cond_false]
 rw [ho];obtain ⟨a',fp',ha,hb,hfp,R'⟩:=R.new (ck:=.box u.zc true) (b:=.cells e.zero.cells) (v:=.mp S.next 0) rfl
  (fun a' ha'=>⟨S.next,e.zero.cells,rfl,rfl,by rw [Tr.get_put,if_pos rfl];rfl,by rw [ok.zero];exact Ty.zc_zcv u,ZGF.none (ZHI u)⟩)
 exact ⟨_,_,_,a',fp',_,rfl,le_succ _,R',rfl,.bx (Nat.lt_succ_self _) ha,h,le_succ _,fun c hc=>⟨hb c hc,fun _=>hfp c hc⟩⟩
theorem Zwx (H:TyR P E) (R:Rel F a fp s T S) {t:TypeId} {x:Operand} (h:op2 E (.box t x) s k=some r):Res F a fp s T S (opK P K (.box t x) T S) k r:=by
 simp only [op2,Zaa,Zak] at h;obtain ⟨u,h1,v,h2,h3,h⟩:=h;obtain ⟨e,he,ok⟩:=H.ok _ _ h1;obtain ⟨c,e1,r1⟩:=Zbd R h2;have ho:opK P K (.box t x) T S=some (.mp S.next 0,ZcW S (.cells c.cells)):=by simp only [opK,aOp,he,e1,Zap]
 rw [ho];obtain ⟨a',fp',ha,hb,hfp,R'⟩:=R.new (ck:=.box v.fl true) (b:=.cells c.cells) (v:=.mp S.next 0) rfl
  (fun a' ha'=>⟨S.next,c.cells,rfl,rfl,by rw [Tr.get_put,if_pos rfl];rfl,(r1.fl).mono (le_succ _) ha',ZGF.none fun v hv=>ZHZ (List.all_eq_true.1 h3 v hv)⟩)
 exact ⟨_,_,_,a',fp',_,rfl,le_succ _,R',rfl,.bx (Nat.lt_succ_self _) ha,h,le_succ _,fun c hc=>⟨hb c hc,fun _=>hfp c hc⟩⟩
theorem Zi9 {cs:List AV} {n:Nat} {c:AV} (h:cs[n]?=some c):nth cs n=some c:=by rw [Zlx];exact h
theorem Zdv {l c r:List AV} {o n:Nat} (ho:l.length=o) (hn:c.length=n):sub (l++(c++r)) o n=some c:=by
 unfold sub;subst ho;subst hn;simp only [List.drop_left,List.take_left];rw [Zad.2 rfl];rfl
theorem ZcM {t:Ty}:∀ {l:List t.den} {n:Nat} {y:t.den},l[n]?=some y->∃ p q,l.flatMap t.cells=p++(t.cells y++q)/\p.length=n * t.size/\∀ z:t.den,(l.set n z).flatMap t.cells=p++(t.cells z++q)
 | [],n,y,h=>by simp at h
 | x::l,0,y,h=>by
  simp at h;subst h;exact ⟨[],l.flatMap t.cells,by simp,by simp,fun z=>by simp⟩
 | x::l,n+1,y,h=>by
  obtain ⟨p,q,h1,h2,h3⟩:=ZcM (l:=l) (n:=n) (y:=y) (by simpa using h);refine ⟨t.cells x++p,q,by simp [h1],?_,fun z=>by simp [h3]⟩;rw [List.length_append,Ty.cells_len,h2,Nat.succ_mul];omega
theorem ZaI {α:Type} {l:List α} {e:Int} {y:α} (h:gI l e=some y):0<=e/\e.toNat < l.length/\l[e.toNat]?=some y:=by
 unfold gI at h;split at h
 ·rename_i h0;refine ⟨h0,?_,h⟩;rcases Nat.lt_or_ge e.toNat l.length with h1 | h1
  ·exact h1
  ·rw [List.getElem?_eq_none h1] at h;cases h
 ·cases h
theorem Zef {m:Nat} {e:TE} {tt:TypeId->Option Ty} {str:Bool} {u:Ty} (ok:Z0I tt str u e) {z:u.den} {l c r:List AV} {o:Nat} (ho:l.length=o) (hc:NRs (u.cells z) c):∃ v,ZeF e (l++(c++r)) o=some v/\VR2 m a (.dat u z) v:=by
 have hl:=hc.length;rw [Ty.cells_len] at hl;unfold ZeF;rw [ok.agg,ok.size];cases hu:u.agg with
 | true=>
  rw [Zag,Zdv ho hl,Zap];exact ⟨_,rfl,.dat (by unfold DR;rw [hu];exact ⟨c,rfl,hc⟩)⟩
 | false=>
  rw [Zan];have hs:u.size=1:=by
   cases u with
   | prod p q=>
    exfalso
    -- a product is no type of a variable
    have:=ok.und;cases hd:e.und<;>rw [hd] at this<;>simp [ZcJ] at this
   | st=>cases hu
   | tree k=>cases hu
   | _=>rfl
  rw [hs] at hl
  match c,hl with
  | [v],_=>exact ⟨v,Zi9 (by subst ho;simp),.dat ((DR.sc hu).2 hc)⟩
theorem Zh2 {j:IntKind} {e:Int} (h:0<=e):asN (.int j e)=some e.toNat:=by
 obtain ⟨n,rfl⟩:∃ n:Nat,e=n:=⟨e.toNat,by omega⟩
 rfl
theorem Zwy {ρ:Nat->Nat->AV} {m:Nat} {h:Tr AB} {fpc:Nat->Prop} {v:AV} {t:Ty} {l:List t.den} {w:Bool} (ck:Zcr ρ m a h fpc v (.own t l w)) {i:Nat} {y:t.den} (hy:l[i]?=some y) (hm:∀ c n,v≠.fs c n) :
 ∃ q o cap p c r,v=.ms q o l.length cap t.size/\fpc q/\Blk w (h.get q) (p++(c++r))/\p.length=o+i * t.size/\NRs (t.cells y) c:=by
 rcases ck.2 with ⟨rfl,_⟩ | ⟨_,hv⟩ | ⟨q,o,cap,cs,pre,post,hv,hs⟩
 ·simp at hy
 ·exact absurd hv (hm _ _)
 ·obtain ⟨p,x,h1,h2,_⟩:=ZcM hy;have hn:=hs.nr;rw [h1] at hn;obtain ⟨b,d,rfl,hb,hd⟩:=hn.split;obtain ⟨c,f,rfl,hc,hf⟩:=hd.split;refine ⟨q,o,cap,pre++b,c,f++post,hv,hs.fp,?_,?_,hc⟩
  ·have:=hs.blk;simpa [List.append_assoc] using this
  ·rw [List.length_append,hs.off,hb.length,h2]
def Zq9 (a:Nat->AV) (s:S2) (S:St) (x:Option (AV×St)) (k:K2 α) (r:α):Prop:=∃ v u,x=some (u,S)/\VR2 s.nx a v u/\k v s=some r
theorem Zq9.val {x:Option (AV×St)} {v:V2} {u:AV} (hx:x=some (u,S)) (h:VR2 s.nx a v u) (hk:k v s=some r):Zq9 a s S x k r:=⟨v,u,hx,h,hk⟩
theorem ZlT (H:TyR P E) (R:Rel F a fp s T S) {t:TypeId} {x:Operand} (h:((ev2 s x).ob fun p=>Zg9 E s t p k)=some r):Zq9 a s S (opK P K (.load t x) T S) k r:=by
 simp only [Zg9,Zaa] at h;obtain ⟨v,h1,u,h2,h⟩:=h;obtain ⟨e,he,ok⟩:=H.ok _ _ h2;obtain ⟨c,e1,r1⟩:=Zbd R h1;have ho:opK P K (.load t x) T S=(Zd6 e S c).ob fun v=>some (v,S):=by simp only [opK,aOp,he,e1,Zap]
 rw [ho];cases v<;>(try dsimp only at h)<;>try (cases h;done)
 case bx c off=>
  simp only [Zaa] at h;obtain ⟨ck,h3,h⟩:=h;cases ck<;>(try dsimp only at h)<;>try (cases h;done)
  case box l w=>
   cases r1 with | bx hc hb=>
   rename_i n;obtain ⟨n',cs,g1,g2,g3,g4,_⟩:=R.chunks _ _ h3;rw [hb] at g1;cases g1;simp only [Zd6,ZbR,g3.rd,Zap,ZeF,ok.agg,ok.size];cases hu:u.agg<;>rw [hu] at h
   ·simp only [Zan,Zaa] at h |-
    obtain ⟨z,h4,h⟩:=h;obtain ⟨z',h5,h6⟩:=g4.get h4;exact Zq9.val (by rw [Zi9 h5,Zap]) h6 h
   ·simp only [Zag,Zak,Zah] at h |-
    have hlen:((cs.drop off).take u.size).length=u.size:=by have:=g4.length;rw [List.length_take,List.length_drop,this];omega
    exact Zq9.val (by unfold sub;dsimp only;rw [hlen,Zad.2 rfl];rfl) (.agg ((g4.drop off).take u.size)) h.2
 case fpe w y=>
  simp only [Zaa] at h;obtain ⟨z,hy,h⟩:=h;have hcc:=ZgE hy;cases r1 with | fpe=>
  rename_i rr;rw [hcc];obtain ⟨v,hv,hr⟩:=Zef (m:=s.nx) (a:=a) ok (l:=[]) (r:=rr) rfl (NRs.refl _);rw [List.nil_append] at hv;exact Zq9.val (by simp only [Zd6];rw [show (0:Nat)=[].length from rfl,hv,Zap]) hr h
 case dat w y=>
  cases w<;>(try dsimp only at h)<;>try (cases h;done)
  simp only [Zaa] at h;obtain ⟨z,hy,h⟩:=h;obtain ⟨e2,_⟩:=Zal hy;subst e2;have hy:=Zca hy;subst hy;cases r1 with | dat d=>
  have:=DR.ptr d;subst this;obtain ⟨v,hv,hr⟩:=Zef (m:=s.nx) (a:=a) ok (l:=[]) (r:=[]) rfl (NRs.refl _);rw [List.nil_append,List.append_nil] at hv;exact Zq9.val (by simp only [Zd6];rw [show (0:Nat)=[].length from rfl,hv,Zap]) hr h
 case el c i z0 off=>
  simp only [Zaa] at h;obtain ⟨ck,h3,h⟩:=h;cases ck<;>(try dsimp only at h)<;>try (cases h;done)
  case own w l wr=>
   rw [Zak,Zad] at h;obtain ⟨hz0,h⟩:=h;subst hz0;obtain ⟨y,hy,h⟩:=Option.bind_eq_some_iff.1 h;simp only [Zaa] at h;obtain ⟨z,hz,h⟩:=h;obtain ⟨g0,g1,g2⟩:=ZaI hy;obtain ⟨l',r',k6,k7⟩:=Ty.at_cells u hz;cases r1 with
   | el hc hb=>
    obtain ⟨q,o,cap,p,c,rr,k1,k2,k3,k4,k5⟩:=Zwy (R.chunks _ _ h3) g2 (by rw [hb];intro _ _ h;cases h);rw [hb] at k1;cases k1;rw [k6] at k5;obtain ⟨b,d,rfl,q1,q2⟩:=k5.split;obtain ⟨c',f,rfl,q3,q4⟩:=q2.split;obtain ⟨v,hv,hr⟩:=Zef (m:=s.nx) (a:=a) ok (l:=p++b) (r:=f++rr) rfl q3;refine Zq9.val ?_ hr h;simp only [Zd6,ZbR,k3.rd,Zap];have e4:p++((b++(c'++f))++rr)=(p++b)++(c'++(f++rr)):=by simp [List.append_assoc]
    rw [List.length_append,k4,q1.length,k7] at hv;rw [e4,hv,Zap]
   | elf hc hb=>
    obtain ⟨p,x,f1,f2,_⟩:=ZcM g2;rcases (R.chunks _ _ h3).2 with ⟨_,hv⟩ | ⟨_,hv⟩ | ⟨_,_,_,_,_,_,hv,_⟩
    ·rw [hv] at hb;cases hb
    ·rw [hb] at hv;cases hv;rw [k6] at f1;obtain ⟨v,hv,hr⟩:=Zef (m:=s.nx) (a:=a) ok (l:=[]) (r:=r'++x) rfl (NRs.refl (u.cells z));refine Zq9.val ?_ hr h;simp only [Zd6];have e4:(l.flatMap w.cells).drop (i.toNat * w.size+off)=[]++(u.cells z++(r'++x)):=by
      rw [f1];have:p++((l'++(u.cells z++r'))++x)=(p++l')++(u.cells z++(r'++x)):=by simp [List.append_assoc]
      rw [this,<-f2,<-k7,<-List.length_append,List.drop_left];rfl
     rw [e4,show (0:Nat)=[].length from rfl,hv,Zap]
    ·rw [hv] at hb;cases hb
 case ea c i=>
  simp only [Zaa] at h;obtain ⟨ck,h3,h⟩:=h;cases ck<;>(try dsimp only at h)<;>try (cases h;done)
  case arr w l=>
   obtain ⟨y,hy,h⟩:=Option.bind_eq_some_iff.1 h;simp only [Zaa] at h;obtain ⟨z,hz,h⟩:=h;obtain ⟨e9,hz⟩:=Zal hz;subst e9;subst hz;obtain ⟨g0,g1,g2⟩:=ZaI hy;obtain ⟨q,cs,hv,hq,hb,hnr⟩:=R.chunks _ _ h3;cases r1 with | ea hc hac=>
   rw [hac] at hv;cases hv;obtain ⟨p,x,f1,f2,_⟩:=ZcM g2;rw [f1] at hnr;obtain ⟨b,d,rfl,q1,q2⟩:=hnr.split;obtain ⟨c',f,rfl,q3,q4⟩:=q2.split;obtain ⟨v,hv,hr⟩:=Zef (m:=s.nx) (a:=a) ok (l:=b) (r:=f) rfl q3;rw [q1.length,f2] at hv;refine Zq9.val ?_ hr h;simp only [Zd6,ZbR,hb,rdB,Zap,hv]
theorem Zrv (H:TyR P E) (R:Rel F a fp s T S) {t:TypeId} {x:Operand} (h:((ev2 s x).ob fun p=>Zg9 E s t p k)=some r):Res F a fp s T S (opK P K (.load t x) T S) k r:=by
 obtain ⟨v,u,h1,h2,h3⟩:=ZlT (K:=K) H R h;exact Res.val R h1 h2 h3
end
end Go.Eng
