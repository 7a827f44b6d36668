/-
 Slim code: what the engine looks at of a function's code, and nothing else. The engine's limit on slim code, with its equations.
-/
import Derived.Test.YthbmchbhbpnojaaDoorEngEq
namespace Go.Eng
set_option linter.unusedSectionVars false

abbrev CallK:=FuncId->List AV->St->Option (AV×St)

inductive Gd where
 | yes | no
 | at (d:Tmp) (w:Bool)

structure CO where
 g:Gd
 op:Op
 dst:Option Tmp

structure PO where
 i:Nat
 hide:List Nat
 lg:Bool
 c:Cls
 g:Gd
 op:Op
 dst:Option Tmp

inductive CC where
 | skip | ret
 | exit (id:Nat)
 | ops (l:List CO)
 | plan (l:List PO)
 | seq (a b:CC)
 | cond (c:Operand) (a b:CC)
 | block (id:Nat) (b:CC)
 | loop (b:CC)
 | keep (ks:List Tmp) (b:CC)

noncomputable def gdOf (all:List Oper) (o:Oper):Gd:=match o.guard with
 | none=>.yes
 | some (j,w)=>match (all[j]?).ob (·.dst) with
  | none=>.no
  | some d=>.at d w

noncomputable def coOf (all:List Oper) (o:Oper):CO:=⟨gdOf all o,o.op,o.dst⟩

noncomputable def posOf (all:List Oper):List PS->Option (List PO)
 | []=>some []
 | p::l=>(all[p.i]?).ob fun o=>(posOf all l).ob fun r=>some (⟨p.i,p.hide,p.lg,p.c,gdOf all o,o.op,o.dst⟩::r)

noncomputable def slim (pl:List Oper->Option (List PS)):Code->Option CC
 | .skip=>some .skip
 | .ret=>some .ret
 | .exit id=>some (.exit id)
 | .region _ ops d=>bif d then (pl ops.toList).ob fun p=>(posOf ops.toList p).ob fun r=>some (.plan r) else some (.ops (ops.toList.map (coOf ops.toList)))
 | .seq a b=>(slim pl a).ob fun x=>(slim pl b).ob fun y=>some (.seq x y)
 | .cond c a b=>(slim pl a).ob fun x=>(slim pl b).ob fun y=>some (.cond c x y)
 | .block id b=>(slim pl b).ob fun x=>some (.block id x)
 | .loop b=>(slim pl b).ob fun x=>some (.loop x)
 | _=>none

noncomputable def wantC:Gd->Tm->Option Bool
 | .yes,_=>some true
 | .no,_=>some false
 | .at d w,T=>(T.get d).ob fun v=>match v with
  | .bool b=>some (b==w)
  | _=>some false

section
variable [Gl] [Mx]

noncomputable def opK (P:Program) (K:CallK) (o:Op) (T:Tm) (S:St):Option (AV×St):=
 match o with
 | .call c=>match c.callee with
  | .builtin b=>(evs T c.args.toList).ob fun args=>builtinA P b c.argTypes.toList args S
  | .value f=>(evs T c.args.toList).ob fun args=>(ev T f).ob fun f=>match f with
   | .func g first cap=>K g (first++args++cap) S
   | _=>none
  | .invoke _ _=>none
 | o=>(aOp (fun _=>false) P o).f (fun _ _ _ _=>none) T S

noncomputable def opsK (P:Program) (K:CallK) (nt:Nat):List CO->Tm->St->Option (Tm×St)
 | [],T,S=>some (T,S)
 | o::l,T,S=>(wantC o.g T).ob fun w=>bc w
  ((opK P K o.op T S).ob fun r=>(chk (Nat.ble S.next r.2.next)).ob fun _=>(putA nt T o.dst r.1).ob fun T'=>opsK P K nt l T' r.2)
  ((putA nt T o.dst (.tup [])).ob fun T'=>opsK P K nt l T' S)

noncomputable def reK (P:Program) (K:CallK) (o:Op) (T:Tm) (ns:List Nat) (m:Nat) (v:AV) (h:Tr AB):Bool:=
 match opK P K o T ⟨restrict h ns,m⟩ with
 | some (u,_)=>same v u
 | none=>false

noncomputable def planK (P:Program) (K:CallK) (nt:Nat):List PO->List LE->Tm->St->Option (Tm×St)
 | [],_,T,S=>some (T,S)
 | o::l,log,T,S=>(wantC o.g T).ob fun w=>bc w
  (match o.c with
   | .pure=>(opK P K o.op T S).ob fun r=>(putA nt T o.dst r.1).ob fun T'=>planK P K nt l log T' S
   | .pcall=>(opK P K o.op T ⟨.lf,S.next⟩).ob fun r=>(chk (r.2.next.beq S.next)).ob fun _=>(putA nt T o.dst r.1).ob fun T'=>planK P K nt l log T' S
   | .read=>(chk ((foot T o.op).all fun n=>!(logged log o.hide).contains n)).ob fun _=>
    (opK P K o.op T S).ob fun r=>(putA nt T o.dst r.1).ob fun T'=>planK P K nt l (note o.lg ⟨o.i,foot T o.op,some (reK P (fun _ _ _=>none) o.op T (foot T o.op) S.next r.1)⟩ log) T' S
   | .alloc=>(chk (old log o.hide S.next)).ob fun _=>(opK P K o.op T S).ob fun r=>(putA nt T o.dst r.1).ob fun T'=>planK P K nt l (note o.lg ⟨o.i,[S.next],none⟩ log) T' r.2
   | .loc=>(chk (old log o.hide S.next&&(footL T o.op).all fun n=>!(logged log o.hide).contains n)).ob fun _=>
    (opK P K o.op T ⟨restrict S.heap (footL T o.op),S.next⟩).ob fun r=>(chk (Nat.ble S.next r.2.next)).ob fun _=>
    (chk (reads log o.hide (lay r.2.heap (back r.2.heap S.heap (footL T o.op)) (names S.next r.2.next)))).ob fun _=>
    (putA nt T o.dst r.1).ob fun T'=>planK P K nt l (note o.lg ⟨o.i,footL T o.op++names S.next r.2.next,none⟩ log) T' ⟨lay r.2.heap (back r.2.heap S.heap (footL T o.op)) (names S.next r.2.next),r.2.next⟩
   | .write=>(opK P K o.op T ⟨dels S.heap (logged log o.hide),S.next⟩).ob fun r=>(chk (Nat.ble S.next r.2.next)).ob fun _=>
    (chk (reads log o.hide (back S.heap r.2.heap (logged log o.hide)))).ob fun _=>
    (putA nt T o.dst r.1).ob fun T'=>planK P K nt l log T' ⟨back S.heap r.2.heap (logged log o.hide),r.2.next⟩)
  ((putA nt T o.dst (.tup [])).ob fun T'=>planK P K nt l log T' S)

noncomputable def keepT (T:Tm):List Tmp->Tm
 | []=>.lf
 | k::ks=>match T.get k with
  | some v=>(keepT T ks).put k v
  | none=>keepT T ks

section
variable {P:Program} {pol:FuncId->Bool} {pl:List Oper->Option (List PS)} {rec:RunT}

theorem want_slim (all:List Oper) (o:Oper) (T:Tm):wantA all T o=wantC (gdOf all o) T:=by
 unfold wantA gdOf
 cases o.guard with
 | none=>rfl
 | some g=>
  obtain ⟨j,w⟩:=g
  simp only
  cases (all[j]?).ob (·.dst)<;>rfl

theorem op_slim (o:Op) (T:Tm) (S:St):(aOp pol P o).f rec T S=opK P (callA pol P rec) o T S:=by
 cases o
 case call c=>
  unfold aOp opK
  cases hc:c.callee<;>simp only [hc]<;>rfl
 case alloc t=>simp only [aOp,opK];cases te P t<;>first | rfl | (cases Mx.ar t<;>rfl)
 case box t x=>simp only [aOp,opK];cases te P t<;>rfl
 case load t x=>simp only [aOp,opK];cases te P t<;>rfl
 case store t x y=>simp only [aOp,opK];cases te P t<;>rfl
 all_goals rfl

theorem ops_slim (nt:Nat) (all:List Oper):∀ (l:List Oper) (T:Tm) (S:St),(opsA pol P all l).f rec nt T S=opsK P (callA pol P rec) nt (l.map (coOf all)) T S
 | [],_,_=>rfl
 | o::l,T,S=>by
  have ih:=ops_slim nt all l
  simp only [List.map_cons,opsK,coOf,<-want_slim]
  unfold opsA
  cases hg:o.guard with
  | none=>
   have hw:wantA all T o=some true:=by unfold wantA;rw [hg]
   simp only [hw,ob_s,bc_true,op_slim,ih]
  | some g=>simp only [op_slim,ih]

theorem re_slim (o:Op) (T:Tm) (ns:List Nat) (m:Nat) (v:AV):reOf P o T ns m v=reK P (fun _ _ _=>none) o T ns m v:=by
 funext h
 unfold reOf reK
 rw [op_slim]
 have hK:callA (fun _=>false) P (fun _ _ _ _=>none)=fun _ _ _=>none:=by
  funext f args S
  apply Option.eq_none_iff_forall_ne_some.2
  intro y hy
  have hy:callN P (fun _ _ _ _=>none) f args S=some y:=hy
  simp only [callN,ob_some] at hy
  obtain ⟨_,_,_,_,_,_,_,h,_⟩:=hy
  cases h
 rw [hK]
 rfl

theorem plan_slim (nt:Nat) (all:List Oper):∀ (l:List PS) (r:List PO),posOf all l=some r->∀ (log:List LE) (T:Tm) (S:St),(planA pol P all l).f rec nt log T S=planK P (callA pol P rec) nt r log T S
 | [],r,h,log,T,S=>by simp only [posOf,Option.some.injEq] at h;subst h;rfl
 | p::l,r,h,log,T,S=>by
  simp only [posOf,ob_some,Option.some.injEq] at h
  obtain ⟨o,ho,r',hr,rfl⟩:=h
  have ih:=plan_slim nt all l r' hr
  unfold planA
  simp only [ho,planK,<-want_slim]
  cases hc:p.c<;>simp only [op_slim,ih,re_slim]
end

section
variable (P:Program) (K:CallK) (nt:Nat)

noncomputable def runK:Nat->CC->Tm->St->Option (X×Tm×St)
 | 0,_,_,_=>none
 | n+1,c,T,S=>match c with
  | .skip=>some (.n,T,S)
  | .ret=>some (.r,T,S)
  | .exit id=>some (.e id,T,S)
  | .ops l=>(opsK P K nt l T S).ob fun r=>some (.n,r.1,r.2)
  | .plan l=>(planK P K nt l [] T S).ob fun r=>some (.n,r.1,r.2)
  | .seq a b=>(runK n a T S).ob fun r=>match r.1 with
   | .n=>runK n b r.2.1 r.2.2
   | x=>some (x,r.2.1,r.2.2)
  | .cond c a b=>(ev T c).ob fun v=>match v with
   | .bool true=>runK n a T S
   | .bool false=>runK n b T S
   | _=>none
  | .block id b=>(runK n b T S).ob fun r=>match r.1 with
   | .e i=>bif i.beq id then some (.n,r.2.1,r.2.2) else some (.e i,r.2.1,r.2.2)
   | x=>some (x,r.2.1,r.2.2)
  | .loop b=>(runK n b T S).ob fun r=>match r.1 with
   | .n=>runK n (.loop b) r.2.1 r.2.2
   | x=>some (x,r.2.1,r.2.2)
  | .keep ks b=>runK n b (keepT T ks) S

theorem runK_le:∀ (n:Nat) (c:CC) (T:Tm) (S:St) (y:X×Tm×St),runK P K nt n c T S=some y->runK P K nt (n+1) c T S=some y
 | 0,_,_,_,_,e=>by cases e
 | n+1,c,T,S,y,e=>by
  have ih:=runK_le n
  unfold runK at e |-
  cases c<;>try exact e
  case seq a b=>
   simp only [ob_some] at e |-
   obtain ⟨q,h1,e⟩:=e
   refine ⟨q,ih _ _ _ _ h1,?_⟩
   split at e
   ·exact ih _ _ _ _ e
   ·exact e
  case cond v a b=>
   simp only [ob_some] at e |-
   obtain ⟨q,h1,e⟩:=e
   refine ⟨q,h1,?_⟩
   split at e
   ·exact ih _ _ _ _ e
   ·exact ih _ _ _ _ e
   ·cases e
  case block id b=>
   simp only [ob_some] at e |-
   obtain ⟨q,h1,e⟩:=e
   exact ⟨q,ih _ _ _ _ h1,e⟩
  case loop b=>
   simp only [ob_some] at e |-
   obtain ⟨q,h1,e⟩:=e
   refine ⟨q,ih _ _ _ _ h1,?_⟩
   split at e
   ·exact ih _ _ _ _ e
   ·exact e
  case keep ks b=>exact ih _ _ _ _ e

theorem runK_le_of {n m:Nat} (h:n<=m) {c:CC} {T:Tm} {S:St} {y:X×Tm×St} (e:runK P K nt n c T S=some y):runK P K nt m c T S=some y:=by
 obtain ⟨k,rfl⟩:=Nat.le.dest h
 induction k with
 | zero=>exact e
 | succ k ih=>exact runK_le P K nt (n+k) c T S y (ih (Nat.le_add_right _ _))

open Classical in
noncomputable def runC (c:CC) (T:Tm) (S:St):Option (X×Tm×St):=
 if h:∃ n r,runK P K nt n c T S=some r then some h.choose_spec.choose else none

theorem runC_some {c:CC} {T:Tm} {S:St} {x:X×Tm×St}:runC P K nt c T S=some x↔∃ n,runK P K nt n c T S=some x:=by
 unfold runC
 constructor
 ·intro h
  split at h
  ·rename_i hx
   cases h
   exact ⟨_,hx.choose_spec.choose_spec⟩
  ·cases h
 ·rintro ⟨n,hn⟩
  have hx:∃ n r,runK P K nt n c T S=some r:=⟨n,x,hn⟩
  rw [dif_pos hx]
  have h2:=hx.choose_spec.choose_spec
  have a:=runK_le_of P K nt (Nat.le_max_left n hx.choose) hn
  have b:=runK_le_of P K nt (Nat.le_max_right n hx.choose) h2
  rw [a] at b
  exact b.symm

theorem runC_skip (T:Tm) (S:St):runC P K nt .skip T S=some (.n,T,S):=(runC_some P K nt).2 ⟨1,rfl⟩
theorem runC_ret (T:Tm) (S:St):runC P K nt .ret T S=some (.r,T,S):=(runC_some P K nt).2 ⟨1,rfl⟩
theorem runC_exit (id:Nat) (T:Tm) (S:St):runC P K nt (.exit id) T S=some (.e id,T,S):=(runC_some P K nt).2 ⟨1,rfl⟩

theorem runC_ops (l:List CO) (T:Tm) (S:St):runC P K nt (.ops l) T S=(opsK P K nt l T S).ob fun r=>some (.n,r.1,r.2):=by
 apply Option.ext
 intro y
 rw [runC_some]
 constructor
 ·rintro ⟨n,hn⟩
  cases n with
  | zero=>cases hn
  | succ n=>exact hn
 ·intro h;exact ⟨1,h⟩

theorem runC_plan (l:List PO) (T:Tm) (S:St):runC P K nt (.plan l) T S=(planK P K nt l [] T S).ob fun r=>some (.n,r.1,r.2):=by
 apply Option.ext
 intro y
 rw [runC_some]
 constructor
 ·rintro ⟨n,hn⟩
  cases n with
  | zero=>cases hn
  | succ n=>exact hn
 ·intro h;exact ⟨1,h⟩

theorem runC_two (a b c:CC) (hc:∀ n T S,runK P K nt (n+1) c T S=(runK P K nt n a T S).ob fun r=>match r.1 with
 | .n=>runK P K nt n b r.2.1 r.2.2
 | x=>some (x,r.2.1,r.2.2)) (T:Tm) (S:St):runC P K nt c T S=(runC P K nt a T S).ob fun r=>match r.1 with
 | .n=>runC P K nt b r.2.1 r.2.2
 | x=>some (x,r.2.1,r.2.2):=by
 apply Option.ext
 intro y
 rw [runC_some]
 constructor
 ·rintro ⟨n,hn⟩
  cases n with
  | zero=>cases hn
  | succ n=>
   rw [hc,ob_some] at hn
   obtain ⟨⟨x,T1,S1⟩,h1,e⟩:=hn
   refine ob_some.2 ⟨(x,T1,S1),(runC_some P K nt).2 ⟨n,h1⟩,?_⟩
   cases x with
   | n=>exact (runC_some P K nt).2 ⟨n,e⟩
   | e id=>exact e
   | r=>exact e
 ·intro h
  rw [ob_some] at h
  obtain ⟨⟨x,T1,S1⟩,h1,e⟩:=h
  obtain ⟨n,hn⟩:=(runC_some P K nt).1 h1
  cases x with
  | n=>
   obtain ⟨m,hm⟩:=(runC_some P K nt).1 e
   refine ⟨max n m+1,?_⟩
   rw [hc]
   exact ob_some.2 ⟨_,runK_le_of P K nt (Nat.le_max_left n m) hn,runK_le_of P K nt (Nat.le_max_right n m) hm⟩
  | e id=>exact ⟨n+1,by rw [hc];exact ob_some.2 ⟨_,hn,e⟩⟩
  | r=>exact ⟨n+1,by rw [hc];exact ob_some.2 ⟨_,hn,e⟩⟩

theorem runC_seq (a b:CC) (T:Tm) (S:St):runC P K nt (.seq a b) T S=(runC P K nt a T S).ob fun r=>match r.1 with
 | .n=>runC P K nt b r.2.1 r.2.2
 | x=>some (x,r.2.1,r.2.2):=runC_two P K nt a b (.seq a b) (fun _ _ _=>rfl) T S

theorem runC_loop (b:CC) (T:Tm) (S:St):runC P K nt (.loop b) T S=(runC P K nt b T S).ob fun r=>match r.1 with
 | .n=>runC P K nt (.loop b) r.2.1 r.2.2
 | x=>some (x,r.2.1,r.2.2):=runC_two P K nt b (.loop b) (.loop b) (fun _ _ _=>rfl) T S

theorem runC_cond (c:Operand) (a b:CC) (T:Tm) (S:St):runC P K nt (.cond c a b) T S=(ev T c).ob fun v=>match v with
 | .bool true=>runC P K nt a T S
 | .bool false=>runC P K nt b T S
 | _=>none:=by
 apply Option.ext
 intro y
 rw [runC_some]
 constructor
 ·rintro ⟨n,hn⟩
  cases n with
  | zero=>cases hn
  | succ n=>
   unfold runK at hn
   simp only [ob_some] at hn |-
   obtain ⟨q,h1,e⟩:=hn
   refine ⟨q,h1,?_⟩
   split at e
   ·exact (runC_some P K nt).2 ⟨n,e⟩
   ·exact (runC_some P K nt).2 ⟨n,e⟩
   ·cases e
 ·intro h
  rw [ob_some] at h
  obtain ⟨q,h1,e⟩:=h
  split at e
  ·obtain ⟨n,hn⟩:=(runC_some P K nt).1 e
   exact ⟨n+1,ob_some.2 ⟨_,h1,hn⟩⟩
  ·obtain ⟨n,hn⟩:=(runC_some P K nt).1 e
   exact ⟨n+1,ob_some.2 ⟨_,h1,hn⟩⟩
  ·cases e

theorem runC_block (id:Nat) (b:CC) (T:Tm) (S:St):runC P K nt (.block id b) T S=(runC P K nt b T S).ob fun r=>match r.1 with
 | .e i=>bif i.beq id then some (.n,r.2.1,r.2.2) else some (.e i,r.2.1,r.2.2)
 | x=>some (x,r.2.1,r.2.2):=by
 apply Option.ext
 intro y
 rw [runC_some]
 constructor
 ·rintro ⟨n,hn⟩
  cases n with
  | zero=>cases hn
  | succ n=>
   unfold runK at hn
   simp only [ob_some] at hn |-
   obtain ⟨q,h1,e⟩:=hn
   exact ⟨q,(runC_some P K nt).2 ⟨n,h1⟩,e⟩
 ·intro h
  rw [ob_some] at h
  obtain ⟨q,h1,e⟩:=h
  obtain ⟨n,hn⟩:=(runC_some P K nt).1 h1
  exact ⟨n+1,ob_some.2 ⟨q,hn,e⟩⟩
end

section
variable {P:Program} {pol:FuncId->Bool} {pl:List Oper->Option (List PS)}

theorem slim_run {nt:Nat}:∀ (c:Code) (cc:CC),slim pl c=some cc->∀ (T:Tm) (S:St),runI pol pl P nt c T S=runC P (callA pol P (runI pol pl P)) nt cc T S:=by
 intro c
 have loop_ok:∀ (b:Code) (x:CC),(∀ (T:Tm) (S:St),runI pol pl P nt b T S=runC P (callA pol P (runI pol pl P)) nt x T S)->∀ (T:Tm) (S:St),runI pol pl P nt (.loop b) T S=runC P (callA pol P (runI pol pl P)) nt (.loop x) T S:=by
  intro b x ih
  have one:∀ n T S y,run pol pl P n nt (.loop b) T S=some y->runC P (callA pol P (runI pol pl P)) nt (.loop x) T S=some y:=by
   intro n
   induction n with
   | zero=>intro T S y h;cases h
   | succ n ihn=>
    intro T S y h
    rw [run_succ] at h
    simp only [runF,ob_some] at h
    obtain ⟨⟨z,T1,S1⟩,h1,e⟩:=h
    rw [runC_loop,ob_some]
    refine ⟨(z,T1,S1),by rw [<-ih];exact run_le_I n _ _ _ _ _ h1,?_⟩
    cases z with
    | n=>exact ihn _ _ _ e
    | e id=>exact e
    | r=>exact e
  have two:∀ n T S y,runK P (callA pol P (runI pol pl P)) nt n (.loop x) T S=some y->runI pol pl P nt (.loop b) T S=some y:=by
   intro n
   induction n with
   | zero=>intro T S y h;cases h
   | succ n ihn=>
    intro T S y h
    unfold runK at h
    simp only [ob_some] at h
    obtain ⟨⟨z,T1,S1⟩,h1,e⟩:=h
    rw [runI_loop,ob_some]
    refine ⟨(z,T1,S1),by rw [ih];exact (runC_some _ _ _).2 ⟨n,h1⟩,?_⟩
    cases z with
    | n=>exact ihn _ _ _ e
    | e id=>exact e
    | r=>exact e
  intro T S
  apply Option.ext
  intro y
  constructor
  ·intro h
   obtain ⟨n,hn⟩:=runI_some.1 h
   exact one n T S y hn
  ·intro h
   obtain ⟨n,hn⟩:=(runC_some _ _ _).1 h
   exact two n T S y hn
 induction c with
 | skip=>intro cc h T S;cases h;rw [runI_skip,runC_skip]
 | ret=>intro cc h T S;cases h;rw [runI_ret,runC_ret]
 | exit id=>intro cc h T S;cases h;rw [runI_exit,runC_exit]
 | region id ops d=>
  intro cc h T S
  cases d
  ·cases h
   rw [runI_region,runC_ops,ops_slim]
  ·simp only [slim,cond_true,ob_some,Option.some.injEq] at h
   obtain ⟨p,hp,r,hr,rfl⟩:=h
   rw [runI_drawn hp,runC_plan,plan_slim nt ops.toList p r hr]
 | seq a b iha ihb=>
  intro cc h T S
  simp only [slim,ob_some,Option.some.injEq] at h
  obtain ⟨x,hx,y,hy,rfl⟩:=h
  rw [runI_seq,runC_seq,iha x hx]
  congr 1
  funext r
  obtain ⟨z,T1,S1⟩:=r
  cases z with
  | n=>exact ihb y hy _ _
  | e id=>rfl
  | r=>rfl
 | cond c a b iha ihb=>
  intro cc h T S
  simp only [slim,ob_some,Option.some.injEq] at h
  obtain ⟨x,hx,y,hy,rfl⟩:=h
  rw [runI_cond,runC_cond]
  congr 1
  funext v
  cases v<;>try rfl
  rename_i b
  cases b
  ·exact ihb y hy _ _
  ·exact iha x hx _ _
 | block id b ih=>
  intro cc h T S
  simp only [slim,ob_some,Option.some.injEq] at h
  obtain ⟨x,hx,rfl⟩:=h
  rw [runI_block,runC_block,ih x hx];rfl
 | loop b ih=>
  intro cc h T S
  simp only [slim,ob_some,Option.some.injEq] at h
  obtain ⟨x,hx,rfl⟩:=h
  exact loop_ok b x (ih x hx) T S
 | _=>intro cc h;cases h
end
end
end Go.Eng
