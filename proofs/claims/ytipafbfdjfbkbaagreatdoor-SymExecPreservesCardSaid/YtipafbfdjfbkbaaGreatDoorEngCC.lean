import Derived.Test.YtipafbfdjfbkbaaGreatDoorEngEq
noncomputable section
set_option linter.unusedSectionVars false
open Option.some (injEq)
namespace Go.Eng
abbrev ZcY:=FuncId->List AV->St->Option (AV×St)
inductive Gd where
 | yes | no
 | at (d:Tmp) (w:Bool)
structure CO where
 g:Gd
 op:Op
 dst:Option Tmp
structure PO where
 i:Nat
 hide:List Nat
 lg:Bool
 c:Cls
 g:Gd
 op:Op
 dst:Option Tmp
inductive CC where
 | skip | ret
 | exit (id:Nat)
 | ops (l:List CO)
 | plan (l:List PO)
 | seq (a b:CC)
 | cond (c:Operand) (a b:CC)
 | block (id:Nat) (b:CC)
 | loop (b:CC)
 | keep (ks:List Tmp) (b:CC)
def ZzQ (all:List Oper) (o:Oper):Gd:=match o.guard with
 | none=>.yes
 | some (j,w)=>match (all[j]?).ob (·.dst) with
  | none=>.no
  | some d=>.at d w
def ZzR (all:List Oper) (o:Oper):CO:=⟨ZzQ all o,o.op,o.dst⟩
def Znt (all:List Oper):List PS->Option (List PO)
 | []=>some []
 | p::l=>(all[p.i]?).ob fun o=>(Znt all l).ob fun r=>some (⟨p.i,p.hide,p.lg,p.c,ZzQ all o,o.op,o.dst⟩::r)
def Znu (pl:List Oper->Option (List PS)):Code->Option CC
 | .skip=>some .skip
 | .ret=>some .ret
 | .exit id=>some (.exit id)
 | .region _ ops d=>bif d then (pl ops.toList).ob fun p=>(Znt ops.toList p).ob fun r=>some (.plan r) else some (.ops (ops.toList.map (ZzR ops.toList)))
 | .seq a b=>(Znu pl a).ob fun x=>(Znu pl b).ob fun y=>some (.seq x y)
 | .cond c a b=>(Znu pl a).ob fun x=>(Znu pl b).ob fun y=>some (.cond c x y)
 | .block id b=>(Znu pl b).ob fun x=>some (.block id x)
 | .loop b=>(Znu pl b).ob fun x=>some (.loop x)
 | _=>none
def Zhz:Gd->Tm->Option Bool
 | .yes,_=>some true
 | .no,_=>some false
 | .at d w,T=>(T.get d).ob fun v=>match v with
  | .bool b=>some (b==w)
  | _=>some false
section
variable [Gl] [Mx]
def opK (P:Program) (K:ZcY) (o:Op) (T:Tm) (S:St):Option (AV×St):=
 match o with
 | .call c=>match c.callee with
  | .builtin b=>(evs T c.args.toList).ob fun args=>Zbn P b c.argTypes.toList args S
  | .value f=>(evs T c.args.toList).ob fun args=>(ev T f).ob fun f=>match f with
   | .func g first cap=>(ZFn g S (first++args++cap)).ob fun q=>K g q.1 q.2
   | _=>none
  | .invoke _ _=>none
 | o=>(aOp (fun _=>false) P o).f (fun _ _ _ _=>none) T S
def Zrd (P:Program) (K:ZcY) (nt:Nat):List CO->Tm->St->Option (Tm×St)
 | [],T,S=>some (T,S)
 | o::l,T,S=>(Zhz o.g T).ob fun w=>bc w
  ((opK P K o.op T S).ob fun r=>(chk (Nat.ble S.next r.2.next)).ob fun _=>(ZdI nt T o.dst r.1).ob fun T'=>Zrd P K nt l T' r.2)
  ((ZdI nt T o.dst (.tup [])).ob fun T'=>Zrd P K nt l T' S)
def reK (P:Program) (K:ZcY) (o:Op) (T:Tm) (ns:List Nat) (m:Nat) (v:AV) (h:Tr AB):Bool:=
 match opK P K o T ⟨Zbp h ns,m⟩ with
 | some (u,_)=>same v u
 | none=>false
def Zdt (P:Program) (K:ZcY) (nt:Nat):List PO->List LE->Tm->St->Option (Tm×St)
 | [],_,T,S=>some (T,S)
 | o::l,log,T,S=>(Zhz o.g T).ob fun w=>bc w
  (match o.c with
   | .pure=>(opK P K o.op T S).ob fun r=>(ZdI nt T o.dst r.1).ob fun T'=>Zdt P K nt l log T' S
   | .pcall=>(opK P K o.op T ⟨.lf,S.next⟩).ob fun r=>(chk (r.2.next.beq S.next)).ob fun _=>(ZdI nt T o.dst r.1).ob fun T'=>Zdt P K nt l log T' S
   | .read=>(chk ((Zdg T o.op).all fun n=>!(ZaT log o.hide).contains n)).ob fun _=>
    (opK P K o.op T S).ob fun r=>(ZdI nt T o.dst r.1).ob fun T'=>Zdt P K nt l (ZkF o.lg ⟨o.i,Zdg T o.op,some (reK P (fun _ _ _=>none) o.op T (Zdg T o.op) S.next r.1)⟩ log) T' S
   | .alloc=>(chk (!ZGc o.op&&old log o.hide S.next)).ob fun _=>(opK P K o.op T S).ob fun r=>(ZdI nt T o.dst r.1).ob fun T'=>Zdt P K nt l (ZkF o.lg ⟨o.i,[S.next],none⟩ log) T' r.2
   | .loc=>(chk (old log o.hide S.next&&(ZbP T o.op).all fun n=>!(ZaT log o.hide).contains n)).ob fun _=>
    (opK P K o.op T ⟨Zbp S.heap (ZbP T o.op),S.next⟩).ob fun r=>(chk (Nat.ble S.next r.2.next)).ob fun _=>
    (chk (reads log o.hide (lay r.2.heap (back r.2.heap S.heap (ZbP T o.op)) (names S.next r.2.next)))).ob fun _=>
    (ZdI nt T o.dst r.1).ob fun T'=>Zdt P K nt l (ZkF o.lg ⟨o.i,ZbP T o.op++names S.next r.2.next,none⟩ log) T' ⟨lay r.2.heap (back r.2.heap S.heap (ZbP T o.op)) (names S.next r.2.next),r.2.next⟩
   | .write=>(opK P K o.op T ⟨ZkE S.heap (ZaT log o.hide),S.next⟩).ob fun r=>(chk (Nat.ble S.next r.2.next)).ob fun _=>
    (chk (reads log o.hide (back S.heap r.2.heap (ZaT log o.hide)))).ob fun _=>
    (ZdI nt T o.dst r.1).ob fun T'=>Zdt P K nt l log T' ⟨back S.heap r.2.heap (ZaT log o.hide),r.2.next⟩)
  ((ZdI nt T o.dst (.tup [])).ob fun T'=>Zdt P K nt l log T' S)
def Zug (T:Tm):List Tmp->Tm
 | []=>.lf
 | k::ks=>match T.get k with
  | some v=>(Zug T ks).put k v
  | none=>Zug T ks
section
variable {P:Program} {pol:FuncId->Bool} {pl:List Oper->Option (List PS)} {rec:ZbL}
theorem ZjK (all:List Oper) (o:Oper) (T:Tm):ZdH all T o=Zhz (ZzQ all o) T:=by
 unfold ZdH ZzQ;cases o.guard with
 | none=>rfl
 | some g=>
  obtain ⟨j,w⟩:=g;simp only;cases (all[j]?).ob (·.dst)<;>rfl
theorem Zi2 (o:Op) (T:Tm) (S:St):(aOp pol P o).f rec T S=opK P (Zch pol P rec) o T S:=by
 cases o
 case call c=>
  unfold aOp opK;cases hc:c.callee<;>simp only [hc]<;>rfl
 case alloc t=>simp only [aOp,opK];cases te P t<;>first | rfl | (cases Mx.ar t<;>rfl)
 case box t x=>simp only [aOp,opK];cases te P t<;>rfl
 case load t x=>simp only [aOp,opK];cases te P t<;>rfl
 case store t x y=>simp only [aOp,opK];cases te P t<;>rfl
 all_goals rfl
theorem ZlI (nt:Nat) (all:List Oper):∀ (l:List Oper) (T:Tm) (S:St),(Zhr pol P all l).f rec nt T S=Zrd P (Zch pol P rec) nt (l.map (ZzR all)) T S
 | [],_,_=>rfl
 | o::l,T,S=>by
  have ih:=ZlI nt all l;simp only [List.map_cons,Zrd,ZzR,<-ZjK];unfold Zhr;cases hg:o.guard with
  | none=>
   have hw:ZdH all T o=some true:=by unfold ZdH;rw [hg]
   simp only [hw,Zap,Zag,Zi2,ih]
  | some g=>simp only [Zi2,ih]
theorem Zuh (o:Op) (T:Tm) (ns:List Nat) (m:Nat) (v:AV):ZtU P o T ns m v=reK P (fun _ _ _=>none) o T ns m v:=by
 funext h;unfold ZtU reK;rw [Zi2];have hK:Zch (fun _=>false) P (fun _ _ _ _=>none)=fun _ _ _=>none:=by
  funext f args S;apply Option.eq_none_iff_forall_ne_some.2;intro y hy;have hy:Zd8 P (fun _ _ _ _=>none) f args S=some y:=hy;simp only [Zd8,Zaa] at hy;obtain ⟨_,_,_,_,_,_,_,h,_⟩:=hy;cases h
 rw [hK];rfl
theorem ZjL (nt:Nat) (all:List Oper):∀ (l:List PS) (r:List PO),Znt all l=some r->∀ (log:List LE) (T:Tm) (S:St),(ZbO pol P all l).f rec nt log T S=Zdt P (Zch pol P rec) nt r log T S
 | [],r,h,log,T,S=>by simp only [Znt,injEq] at h;subst h;rfl
 | p::l,r,h,log,T,S=>by
  simp only [Znt,Zaa,injEq] at h;obtain ⟨o,ho,r',hr,rfl⟩:=h;have ih:=ZjL nt all l r' hr;unfold ZbO;simp only [ho,Zdt,<-ZjK];cases hc:p.c<;>simp only [Zi2,ih,Zuh]
end
section
variable (P:Program) (K:ZcY) (nt:Nat)
def Zg7:Nat->CC->Tm->St->Option (X×Tm×St)
 | 0,_,_,_=>none
 | n+1,c,T,S=>match c with
  | .skip=>some (.n,T,S)
  | .ret=>some (.r,T,S)
  | .exit id=>some (.e id,T,S)
  | .ops l=>(Zrd P K nt l T S).ob fun r=>some (.n,r.1,r.2)
  | .plan l=>(Zdt P K nt l [] T S).ob fun r=>some (.n,r.1,r.2)
  | .seq a b=>(Zg7 n a T S).ob fun r=>match r.1 with
   | .n=>Zg7 n b r.2.1 r.2.2
   | x=>some (x,r.2.1,r.2.2)
  | .cond c a b=>(ev T c).ob fun v=>match v with
   | .bool true=>Zg7 n a T S
   | .bool false=>Zg7 n b T S
   | _=>none
  | .block id b=>(Zg7 n b T S).ob fun r=>match r.1 with
   | .e i=>bif i.beq id then some (.n,r.2.1,r.2.2) else some (.e i,r.2.1,r.2.2)
   | x=>some (x,r.2.1,r.2.2)
  | .loop b=>(Zg7 n b T S).ob fun r=>match r.1 with
   | .n=>Zg7 n (.loop b) r.2.1 r.2.2
   | x=>some (x,r.2.1,r.2.2)
  | .keep ks b=>Zg7 n b (Zug T ks) S
theorem ZoA:∀ (n:Nat) (c:CC) (T:Tm) (S:St) (y:X×Tm×St),Zg7 P K nt n c T S=some y->Zg7 P K nt (n+1) c T S=some y
 | 0,_,_,_,_,e=>by cases e
 | n+1,c,T,S,y,e=>by
  have ih:=ZoA n;unfold Zg7 at e |-
  cases c<;>try exact e
  case seq a b=>
   simp only [Zaa] at e |-
   obtain ⟨q,h1,e⟩:=e;refine ⟨q,ih _ _ _ _ h1,?_⟩;split at e
   ·exact ih _ _ _ _ e
   ·exact e
  case cond v a b=>
   simp only [Zaa] at e |-
   obtain ⟨q,h1,e⟩:=e;refine ⟨q,h1,?_⟩;split at e
   ·exact ih _ _ _ _ e
   ·exact ih _ _ _ _ e
   ·cases e
  case block id b=>
   simp only [Zaa] at e |-
   obtain ⟨q,h1,e⟩:=e;exact ⟨q,ih _ _ _ _ h1,e⟩
  case loop b=>
   simp only [Zaa] at e |-
   obtain ⟨q,h1,e⟩:=e;refine ⟨q,ih _ _ _ _ h1,?_⟩;split at e
   ·exact ih _ _ _ _ e
   ·exact e
  case keep ks b=>exact ih _ _ _ _ e
theorem Zec {n m:Nat} (h:n<=m) {c:CC} {T:Tm} {S:St} {y:X×Tm×St} (e:Zg7 P K nt n c T S=some y):Zg7 P K nt m c T S=some y:=by
 obtain ⟨k,rfl⟩:=Nat.le.dest h
 induction k with
 | zero=>exact e
 | succ k ih=>exact ZoA P K nt (n+k) c T S y (ih (Nat.le_add_right _ _))
open Classical in
def Zeu (c:CC) (T:Tm) (S:St):Option (X×Tm×St):=
 if h:∃ n r,Zg7 P K nt n c T S=some r then some h.choose_spec.choose else none
theorem ZaG {c:CC} {T:Tm} {S:St} {x:X×Tm×St}:Zeu P K nt c T S=some x↔∃ n,Zg7 P K nt n c T S=some x:=by
 unfold Zeu;constructor
 ·intro h;split at h
  ·rename_i hx;cases h;exact ⟨_,hx.choose_spec.choose_spec⟩
  ·cases h
 ·rintro ⟨n,hn⟩;have hx:∃ n r,Zg7 P K nt n c T S=some r:=⟨n,x,hn⟩
  rw [dif_pos hx];have h2:=hx.choose_spec.choose_spec;have a:=Zec P K nt (Nat.le_max_left n hx.choose) hn;have b:=Zec P K nt (Nat.le_max_right n hx.choose) h2;rw [a] at b;exact b.symm
theorem ZjM (T:Tm) (S:St):Zeu P K nt .skip T S=some (.n,T,S):=(ZaG P K nt).2 ⟨1,rfl⟩
theorem ZlJ (T:Tm) (S:St):Zeu P K nt .ret T S=some (.r,T,S):=(ZaG P K nt).2 ⟨1,rfl⟩
theorem ZjN (id:Nat) (T:Tm) (S:St):Zeu P K nt (.exit id) T S=some (.e id,T,S):=(ZaG P K nt).2 ⟨1,rfl⟩
theorem ZlK (l:List CO) (T:Tm) (S:St):Zeu P K nt (.ops l) T S=(Zrd P K nt l T S).ob fun r=>some (.n,r.1,r.2):=by
 apply Option.ext;intro y;rw [ZaG];constructor
 ·rintro ⟨n,hn⟩;cases n with
  | zero=>cases hn
  | succ n=>exact hn
 ·intro h;exact ⟨1,h⟩
theorem ZjO (l:List PO) (T:Tm) (S:St):Zeu P K nt (.plan l) T S=(Zdt P K nt l [] T S).ob fun r=>some (.n,r.1,r.2):=by
 apply Option.ext;intro y;rw [ZaG];constructor
 ·rintro ⟨n,hn⟩;cases n with
  | zero=>cases hn
  | succ n=>exact hn
 ·intro h;exact ⟨1,h⟩
theorem ZlL (a b c:CC) (hc:∀ n T S,Zg7 P K nt (n+1) c T S=(Zg7 P K nt n a T S).ob fun r=>match r.1 with
 | .n=>Zg7 P K nt n b r.2.1 r.2.2
 | x=>some (x,r.2.1,r.2.2)) (T:Tm) (S:St):Zeu P K nt c T S=(Zeu P K nt a T S).ob fun r=>match r.1 with
 | .n=>Zeu P K nt b r.2.1 r.2.2
 | x=>some (x,r.2.1,r.2.2):=by
 apply Option.ext;intro y;rw [ZaG];constructor
 ·rintro ⟨n,hn⟩;cases n with
  | zero=>cases hn
  | succ n=>
   rw [hc,Zaa] at hn;obtain ⟨⟨x,T1,S1⟩,h1,e⟩:=hn;refine Zaa.2 ⟨(x,T1,S1),(ZaG P K nt).2 ⟨n,h1⟩,?_⟩;cases x with
   | n=>exact (ZaG P K nt).2 ⟨n,e⟩
   | e id=>exact e
   | r=>exact e
 ·intro h;rw [Zaa] at h;obtain ⟨⟨x,T1,S1⟩,h1,e⟩:=h;obtain ⟨n,hn⟩:=(ZaG P K nt).1 h1;cases x with
  | n=>
   obtain ⟨m,hm⟩:=(ZaG P K nt).1 e;refine ⟨max n m+1,?_⟩;rw [hc];exact Zaa.2 ⟨_,Zec P K nt (Nat.le_max_left n m) hn,Zec P K nt (Nat.le_max_right n m) hm⟩
  | e id=>exact ⟨n+1,by rw [hc];exact Zaa.2 ⟨_,hn,e⟩⟩
  | r=>exact ⟨n+1,by rw [hc];exact Zaa.2 ⟨_,hn,e⟩⟩
theorem Zi3 (a b:CC) (T:Tm) (S:St):Zeu P K nt (.seq a b) T S=(Zeu P K nt a T S).ob fun r=>match r.1 with
 | .n=>Zeu P K nt b r.2.1 r.2.2
 | x=>some (x,r.2.1,r.2.2):=ZlL P K nt a b (.seq a b) (fun _ _ _=>rfl) T S
theorem ZeK (b:CC) (T:Tm) (S:St):Zeu P K nt (.loop b) T S=(Zeu P K nt b T S).ob fun r=>match r.1 with
 | .n=>Zeu P K nt (.loop b) r.2.1 r.2.2
 | x=>some (x,r.2.1,r.2.2):=ZlL P K nt b (.loop b) (.loop b) (fun _ _ _=>rfl) T S
theorem ZjP (c:Operand) (a b:CC) (T:Tm) (S:St):Zeu P K nt (.cond c a b) T S=(ev T c).ob fun v=>match v with
 | .bool true=>Zeu P K nt a T S
 | .bool false=>Zeu P K nt b T S
 | _=>none:=by
 apply Option.ext;intro y;rw [ZaG];constructor
 ·rintro ⟨n,hn⟩;cases n with
  | zero=>cases hn
  | succ n=>
   unfold Zg7 at hn;simp only [Zaa] at hn |-
   obtain ⟨q,h1,e⟩:=hn;refine ⟨q,h1,?_⟩;split at e
   ·exact (ZaG P K nt).2 ⟨n,e⟩
   ·exact (ZaG P K nt).2 ⟨n,e⟩
   ·cases e
 ·intro h;rw [Zaa] at h;obtain ⟨q,h1,e⟩:=h;split at e
  ·obtain ⟨n,hn⟩:=(ZaG P K nt).1 e;exact ⟨n+1,Zaa.2 ⟨_,h1,hn⟩⟩
  ·obtain ⟨n,hn⟩:=(ZaG P K nt).1 e;exact ⟨n+1,Zaa.2 ⟨_,h1,hn⟩⟩
  ·cases e
theorem ZhF (id:Nat) (b:CC) (T:Tm) (S:St):Zeu P K nt (.block id b) T S=(Zeu P K nt b T S).ob fun r=>match r.1 with
 | .e i=>bif i.beq id then some (.n,r.2.1,r.2.2) else some (.e i,r.2.1,r.2.2)
 | x=>some (x,r.2.1,r.2.2):=by
 apply Option.ext;intro y;rw [ZaG];constructor
 ·rintro ⟨n,hn⟩;cases n with
  | zero=>cases hn
  | succ n=>
   unfold Zg7 at hn;simp only [Zaa] at hn |-
   obtain ⟨q,h1,e⟩:=hn;exact ⟨q,(ZaG P K nt).2 ⟨n,h1⟩,e⟩
 ·intro h;rw [Zaa] at h;obtain ⟨q,h1,e⟩:=h;obtain ⟨n,hn⟩:=(ZaG P K nt).1 h1;exact ⟨n+1,Zaa.2 ⟨q,hn,e⟩⟩
end
section
variable {P:Program} {pol:FuncId->Bool} {pl:List Oper->Option (List PS)}
theorem ZlM {nt:Nat}:∀ (c:Code) (cc:CC),Znu pl c=some cc->∀ (T:Tm) (S:St),Zc8 pol pl P nt c T S=Zeu P (Zch pol P (Zc8 pol pl P)) nt cc T S:=by
 intro c;have loop_ok:∀ (b:Code) (x:CC),(∀ (T:Tm) (S:St),Zc8 pol pl P nt b T S=Zeu P (Zch pol P (Zc8 pol pl P)) nt x T S)->∀ (T:Tm) (S:St),Zc8 pol pl P nt (.loop b) T S=Zeu P (Zch pol P (Zc8 pol pl P)) nt (.loop x) T S:=by
  intro b x ih;have one:∀ n T S y,run pol pl P n nt (.loop b) T S=some y->Zeu P (Zch pol P (Zc8 pol pl P)) nt (.loop x) T S=some y:=by
   intro n
   induction n with
   | zero=>intro T S y h;cases h
   | succ n ihn=>
    intro T S y h;rw [Zdr] at h;simp only [Zl1,Zaa] at h;obtain ⟨⟨z,T1,S1⟩,h1,e⟩:=h;rw [ZeK,Zaa];refine ⟨(z,T1,S1),by rw [<-ih];exact ZlG n _ _ _ _ _ h1,?_⟩;cases z with
    | n=>exact ihn _ _ _ e
    | e id=>exact e
    | r=>exact e
  have two:∀ n T S y,Zg7 P (Zch pol P (Zc8 pol pl P)) nt n (.loop x) T S=some y->Zc8 pol pl P nt (.loop b) T S=some y:=by
   intro n
   induction n with
   | zero=>intro T S y h;cases h
   | succ n ihn=>
    intro T S y h;unfold Zg7 at h;simp only [Zaa] at h;obtain ⟨⟨z,T1,S1⟩,h1,e⟩:=h;rw [Zo9,Zaa];refine ⟨(z,T1,S1),by rw [ih];exact (ZaG _ _ _).2 ⟨n,h1⟩,?_⟩;cases z with
    | n=>exact ihn _ _ _ e
    | e id=>exact e
    | r=>exact e
  intro T S;apply Option.ext;intro y;constructor
  ·intro h;obtain ⟨n,hn⟩:=Zbq.1 h;exact one n T S y hn
  ·intro h;obtain ⟨n,hn⟩:=(ZaG _ _ _).1 h;exact two n T S y hn
 induction c with
 | skip=>intro cc h T S;cases h;rw [Zo6,ZjM]
 | ret=>intro cc h T S;cases h;rw [Zrb,ZlJ]
 | exit id=>intro cc h T S;cases h;rw [Zo7,ZjN]
 | region id ops d=>
  intro cc h T S;cases d
  ·cases h;rw [ZkU,ZlK,ZlI]
  ·simp only [Znu,cond_true,Zaa,injEq] at h;obtain ⟨p,hp,r,hr,rfl⟩:=h;rw [Zns hp,ZjO,ZjL nt ops.toList p r hr]
 | seq a b iha ihb=>
  intro cc h T S;simp only [Znu,Zaa,injEq] at h;obtain ⟨x,hx,y,hy,rfl⟩:=h;rw [Zrc,Zi3,iha x hx];congr 1;funext r;obtain ⟨z,T1,S1⟩:=r;cases z with
  | n=>exact ihb y hy _ _
  | e id=>rfl
  | r=>rfl
 | cond c a b iha ihb=>
  intro cc h T S;simp only [Znu,Zaa,injEq] at h;obtain ⟨x,hx,y,hy,rfl⟩:=h;rw [Zo8,ZjP];congr 1;funext v;cases v<;>try rfl
  rename_i b;cases b
  ·exact ihb y hy _ _
  ·exact iha x hx _ _
 | block id b ih=>
  intro cc h T S;simp only [Znu,Zaa,injEq] at h;obtain ⟨x,hx,rfl⟩:=h;rw [Znr,ZhF,ih x hx];rfl
 | loop b ih=>
  intro cc h T S;simp only [Znu,Zaa,injEq] at h;obtain ⟨x,hx,rfl⟩:=h;exact loop_ok b x (ih x hx) T S
 | _=>intro cc h;cases h
end
end
end Go.Eng
end
