/-
 The second engine, part two: annotated code, shapes of states, runs.
-/
import Derived.Test.YthbmchbhbpnojaaDoorE2Def
namespace Go.Eng
set_option linter.unusedVariables false

inductive AC where
 | skip | ret
 | exit (id:Nat)
 | ops (l:List CO)
 | plan (l:List PO)
 | seq (a b:AC)
 | jn (sh:Sh) (a b:AC)
 | cond (c:Operand) (a b:AC)
 | block (id:Nat) (b:AC)
 | loop (sh:Sh) (b:AC)
 | keep (ks:List Tmp) (b:AC)
 | lock (t:Tmp) (b:AC)
 | back (q t:Tmp) (b:AC)
noncomputable def AC.er:AC->CC
 | .skip=>.skip
 | .ret=>.ret
 | .exit i=>.exit i
 | .ops l=>.ops l
 | .plan l=>.plan l
 | .seq a b=>.seq a.er b.er
 | .jn _ a b=>.seq a.er b.er
 | .cond c a b=>.cond c a.er b.er
 | .block i b=>.block i b.er
 | .loop _ b=>.loop b.er
 | .keep _ b=>b.er
 | .lock _ b=>b.er
 | .back _ _ b=>b.er

section
variable [Gl] {α:Type}
noncomputable def put2 (nt:Nat) (dst:Option Tmp) (v:V2) (s:S2) (k:S2->Option α):Option α:=
 match dst with
 | none=>k s
 | some d=>bc (Nat.blt d nt) (k ⟨s.T.put d v,s.H,s.nx⟩) none
noncomputable def want2 (g:Gd) (s:S2) (y n:S2->Option α):Option α:=
 match g with
 | .yes=>y s
 | .no=>n s
 | .at d w=>(s.T.get d).ob fun v=>match v with
  | .dat .bool b=>bif b then bc w (y ⟨s.T.put d (.dat .bool true),s.H,s.nx⟩) (n ⟨s.T.put d (.dat .bool true),s.H,s.nx⟩) else bc w (n ⟨s.T.put d (.dat .bool false),s.H,s.nx⟩) (y ⟨s.T.put d (.dat .bool false),s.H,s.nx⟩)
  | .tup _=>n s
  | _=>none
noncomputable def ops2 (E:Env2) (nt:Nat):List CO->S2->(S2->Option α)->Option α
 | [],s,k=>k s
 | o::l,s,k=>want2 o.g s (fun s=>op2 E o.op s fun v s=>put2 nt o.dst v s fun s=>ops2 E nt l s k) (fun s=>put2 nt o.dst (.tup []) s fun s=>ops2 E nt l s k)

def V2.cks:V2->List Nat
 | .sl c=>[c]
 | .bx c _=>[c]
 | .el c _ _ _=>[c]
 | .mp c=>[c]
 | .ea c _=>[c]
 | _=>[]
noncomputable def cksO (s:S2) (x:Operand):List Nat:=match ev2 s x with
 | some v=>v.cks
 | none=>[]
noncomputable def sameOp:Op->Bool
 | .move _ | .assign _ | .pick .. | .build .. | .nilCheck _ | .binOp .. | .unOp .. | .makeFunc .. | .slice .. | .fieldAddr .. | .field .. | .indexAddr .. | .index .. | .extract .. | .load .. | .convert ..=>true
 | .call c=>match c.callee with
  | .builtin .len=>true
  | .builtin .max=>true
  | .builtin .min=>true
  | _=>false
 | _=>false
noncomputable def allocOp:Op->Bool
 | .alloc _ | .box .. | .buildSlice .. | .makeSlice ..=>true
 | _=>false
noncomputable def noArr (E:Env2):Op->Bool
 | .alloc t=>(E.ar t).isNone
 | _=>true
noncomputable def rd2 (s:S2):Op->Option (List Nat)
 | .load _ a=>some (cksO s a)
 | .convert _ _ x=>some (cksO s x)
 | .call c=>match c.callee with
  | .builtin .len=>some []
  | _=>none
 | _=>none
noncomputable def md2 (E:Env2) (s:S2):Op->Option (List Nat)
 | .store _ a _=>some (cksO s a)
 | .call c=>match c.callee with
  | .builtin .append=>match c.args.toList with
   | [x,_]=>some (cksO s x)
   | _=>none
  | .value f=>(evs2 s c.args.toList).ob fun vs=>(ev2 s f).ob fun f=>match f with
   | .fn g first cap=>bc (E.pol g) (some []) ((E.im g (first++vs++cap)).ob fun sp=>(prjR sp.inSh ⟨listT (first++vs++cap) 0,s.H,s.nx⟩).ob fun p=>some (given p.2 sp.cks.length))
   | _=>none
  | _=>none
 | _=>none
abbrev L2:=List (Nat×List Nat×Nat)
noncomputable def hid (log:L2) (hide:List Nat) (kd:Nat):List Nat:=(log.filter fun p=>hide.contains p.1&&p.2.2.beq kd).flatMap (·.2.1)
noncomputable def noStale (log:L2) (hide:List Nat):Bool:=log.all fun p=>!(hide.contains p.1&&p.2.2.beq 2)
noncomputable def apart2 (a b:List Nat):Bool:=a.all fun n=>!b.contains n
noncomputable def note2 (lg:Bool) (e:Nat×List Nat×Nat) (log:L2):L2:=bif lg then e::log else log
noncomputable def liveW (H:Tr C2) (cs:List Nat):Bool:=cs.all fun c=>match H.get c with
 | some ck=>ck.w
 | none=>false
noncomputable def live (H:Tr C2) (cs:List Nat):Bool:=cs.all fun c=>match H.get c with
 | some ck=>!ck.isLnk
 | none=>false
noncomputable def stale (H:Tr C2) (md:List Nat) (log:L2):L2:=log.map fun p=>bif p.2.2.beq 1&&!(live H p.2.1&&apart2 p.2.1 md) then (p.1,p.2.1,2) else p
noncomputable def delC (H:Tr C2):List Nat->Tr C2
 | []=>H
 | c::cs=>(delC H cs).del c
noncomputable def putC (old H:Tr C2):List Nat->Tr C2
 | []=>H
 | c::cs=>match old.get c with
  | some ck=>(putC old H cs).put c ck
  | none=>putC old H cs
noncomputable def plan2 (E:Env2) (nt:Nat):List PO->L2->S2->(S2->Option α)->Option α
 | [],_,s,k=>k s
 | o::l,log,s,k=>want2 o.g s
  (fun s=>match o.c with
   | .pure=>bc (sameOp o.op) (op2 E o.op s fun v s'=>put2 nt o.dst v s' fun s''=>plan2 E nt l log s'' k) none
   | .pcall=>match o.op with
    | .call c=>match c.callee with
     | .value (.func g)=>(evs2 s c.args.toList).ob fun args=>bc (E.pol g) (pcall2 E ⟨s.T,.lf,s.nx⟩ g args fun v _=>put2 nt o.dst v s fun s''=>plan2 E nt l log s'' k) none
     | _=>none
    | _=>none
   | .read=>(rd2 s o.op).ob fun rd=>bc (sameOp o.op&&liveW s.H (hid log o.hide 0)&&apart2 rd (hid log o.hide 0)&&live s.H rd) (op2 E o.op s fun v s'=>put2 nt o.dst v s' fun s''=>plan2 E nt l (note2 o.lg (o.i,rd,1) log) s'' k) none
   | .alloc=>bc (allocOp o.op&&noArr E o.op) (op2 E o.op s fun v s'=>bc (!o.lg||((match v with | .bx c _=>c.beq s.nx | .sl c=>c.beq s.nx | _=>false)&&live s'.H [s.nx])) (put2 nt o.dst v s' fun s''=>plan2 E nt l (note2 o.lg (o.i,[s.nx],0) log) s'' k) none) none
   | .write=>(md2 E ⟨s.T,delC s.H (hid log o.hide 0),s.nx⟩ o.op).ob fun md=>
    bc (liveW s.H (hid log o.hide 0)&&noStale log o.hide&&live s.H (hid log o.hide 1)&&apart2 (hid log o.hide 1) md)
     (op2 E o.op ⟨s.T,delC s.H (hid log o.hide 0),s.nx⟩ fun v s'=>put2 nt o.dst v ⟨s'.T,putC s.H s'.H (hid log o.hide 0),s'.nx⟩ fun s''=>plan2 E nt l (stale s.H md log) s'' k) none
   | .loc=>match o.op with
    | .call c=>(evs2 s c.args.toList).ob fun vs=>bc (!o.lg&&noStale log o.hide&&vs.all fun v=>v.cks.isEmpty)
     (op2 E o.op ⟨s.T,.lf,s.nx⟩ fun v s'=>(s'.H.get s.nx).ob fun ck=>put2 nt o.dst v ⟨s.T,s.H.put s.nx ck,s'.nx⟩ fun s''=>plan2 E nt l log s'' k) none
    | _=>none)
  (fun s=>put2 nt o.dst (.tup []) s fun s=>plan2 E nt l log s k)
noncomputable def keep2 (T:Tr V2):List Tmp->Tr V2
 | []=>.lf
 | k::ks=>match T.get k with
  | some v=>(keep2 T ks).put k v
  | none=>keep2 T ks
noncomputable def lock2 (s:S2) (t:Tmp):S2:=match s.T.get t with
 | some (.bx c _)=>match s.H.get c with
  | some (.box l _)=>⟨s.T,s.H.put c (.box l false),s.nx⟩
  | _=>s
 | _=>s
noncomputable def back2 (s:S2) (q t:Tmp):S2:=match s.T.get q,s.T.get t with
 | some (.el c _ _ _),some (.sl d)=>match s.H.get c,s.H.get d with
  | some (.own2 w l (some e)),some (.own w' m true)=>match Ty.eq? w' w with
   | some ⟨h⟩=>bc (d.beq e.2&&!d.beq c) ⟨s.T,(s.H.del d).put c (.own2 w (setI l e.1 (h▸m)) none),s.nx⟩ s
   | none=>s
  | _,_=>s
 | _,_=>s
noncomputable def know (s:S2) (c:Operand) (b:Bool):S2:=match c with
 | .tmp t=>⟨s.T.put t (.dat .bool b),s.H,s.nx⟩
 | _=>s
end

variable [Gl]
noncomputable def run2 (E:Env2) (nt:Nat):AC->{α:Type}->S2->(X->S2->Option α)->Option α
 | .skip,_,s,k=>k .n s
 | .ret,_,s,k=>k .r s
 | .exit i,_,s,k=>k (.e i) s
 | .ops l,_,s,k=>ops2 E nt l s (k .n)
 | .plan l,_,s,k=>plan2 E nt l [] s (k .n)
 | .seq a b,_,s,k=>run2 E nt a s fun y s'=>match y with
  | .n=>run2 E nt b s' k
  | .e i=>k (.e i) s'
  | .r=>k .r s'
 | .jn sh a b,α,s,k=>(run2 E nt a (α:=sh.den⊕α) s fun y s'=>match y with
  | .n=>(prj sh s').map .inl
  | .e i=>(k (.e i) s').map .inr
  | .r=>(k .r s').map .inr).bind (Sum.elim (fun x=>run2 E nt b (emb sh s x) k) some)
 | .cond c a b,_,s,k=>(ev2 s c).ob fun v=>match v with
  | .dat .bool x=>bif x then run2 E nt a (know s c true) k else run2 E nt b (know s c false) k
  | _=>none
 | .block id b,_,s,k=>run2 E nt b s fun y s'=>match y with
  | .n=>k .n s'
  | .e i=>bif i.beq id then k .n s' else k (.e i) s'
  | .r=>k .r s'
 | .keep ks b,_,s,k=>run2 E nt b ⟨keep2 s.T ks,s.H,s.nx⟩ k
 | .lock t b,_,s,k=>run2 E nt b (lock2 s t) k
 | .back q t b,_,s,k=>run2 E nt b s fun y s'=>k y (back2 s' q t)
 | .loop sh b,α,s,k=>(prj sh s).ob fun x0=>loopL (fun x=>run2 E nt b (α:=sh.den⊕α) (emb sh s x) fun y s'=>match y with
  | .n=>(prj sh s').map .inl
  | .e i=>(k (.e i) s').map .inr
  | .r=>(k .r s').map .inr) x0

noncomputable def asgO (l:List (Option Tmp)) (t:Tmp):Bool:=l.any fun d=>match d with | some x=>x.beq t | none=>false
noncomputable def AC.asg (t:Tmp):AC->Bool
 | .skip | .ret | .exit _=>false
 | .ops l=>asgO (l.map (·.dst)) t
 | .plan l=>asgO (l.map (·.dst)) t
 | .seq a b=>a.asg t||b.asg t
 | .jn _ a b=>a.asg t||b.asg t
 | .cond _ a b=>a.asg t||b.asg t
 | .block _ b=>b.asg t
 | .loop _ b=>b.asg t
 | .keep _ b=>b.asg t
 | .lock _ b=>b.asg t
 | .back _ _ b=>b.asg t
noncomputable def AC.ok:AC->Bool
 | .seq a b=>a.ok&&b.ok
 | .jn sh a b=>sh.ok&&(sh.fixed.all fun t=>!a.asg t)&&a.ok&&b.ok
 | .cond _ a b=>a.ok&&b.ok
 | .block _ b=>b.ok
 | .loop sh b=>sh.ok&&(sh.fixed.all fun t=>!b.asg t)&&b.ok
 | .keep _ b=>b.ok
 | .lock _ b=>b.ok
 | .back _ _ b=>b.ok
 | _=>true

noncomputable def args2:(ts:List Ty)->denL ts->Nat->Tr V2
 | [],_,_=>.lf
 | [t],x,i=>Tr.put .lf i (.dat t x)
 | t::u::ts,x,i=>(args2 (u::ts) x.2 (i+1)).put i (.dat t x.1)
noncomputable def res2 (E:Env2) (s:S2):ResultVar->Option V2
 | .tmp t=>s.T.get t
 | .cell a t=>(s.T.get a).ob fun p=>load2 E s t p fun v _=>some v
noncomputable def ress2 (E:Env2) (s:S2):List ResultVar->Option (List V2)
 | []=>some []
 | r::rs=>(res2 E s r).ob fun v=>(ress2 E s rs).ob fun vs=>some (v::vs)
def fuelOf:List Ty->Nat
 | [_]=>1000
 | _=>999
noncomputable def ret2 (E:Env2) (cod:List Ty) (rs:List ResultVar) (y:X) (s:S2):Option (denL cod):=match y with
 | .e _=>none
 | _=>(ress2 E s rs).ob fun vs=>(fzL (fzV (fuelOf cod)) cod vs s.H).ob fun p=>some p.1
structure FA where
 nt:Nat
 c:AC
 rs:List ResultVar
noncomputable def fun2 (E:Env2) (d:FA) (dom cod:List Ty) (x:denL dom):Option (denL cod):=
 run2 E d.nt d.c ⟨args2 dom x 0,.lf,0⟩ (ret2 E cod d.rs)
noncomputable def anc2 (T:Tr V2):List (Nat×SV)->Option (List V2)
 | []=>some []
 | q::qs=>(T.get q.1).ob fun v=>(anc2 T qs).ob fun vs=>some (v::vs)
noncomputable def iret2 (E:Env2) (sh:Sh) (anc:List (Nat×SV)) (rs:List ResultVar) (y:X) (s:S2):Option sh.den:=match y with
 | .e _=>none
 | _=>(ress2 E s rs).ob fun vs=>(anc2 s.T anc).ob fun ws=>prj sh ⟨listT (vs++ws) 0,s.H,s.nx⟩
noncomputable def ifun2 (E:Env2) (d:FA) (ins:List SV) (cks:List CS) (outs:List SV) (anc:List (Nat×SV)) (couts:List CS) (x:denL (slotTys (listSh ins 0)++chunkTys cks)):Option (denL (slotTys (listSh (outs++anc.map (·.2)) 0)++chunkTys couts)):=
 run2 E d.nt d.c (emb ⟨[],listSh ins 0,cks⟩ ⟨.lf,.lf,0⟩ x) (iret2 E ⟨[],listSh (outs++anc.map (·.2)) 0,couts⟩ anc d.rs)
def fnFit:List SV->List V2->Bool
 | .fn g _ _::is,.fn h _ _::vs=>g.beq h&&fnFit is vs
 | _::is,_::vs=>fnFit is vs
 | _,_=>true
def imL:List (FuncId×ISpec)->FuncId->List V2->Option ISpec
 | [],_,_=>none
 | p::l,f,vs=>bif p.1.beq f&&fnFit p.2.ins vs then some p.2 else imL l f vs
def tyL:List (TypeId×Ty)->TypeId->Option Ty
 | [],_=>none
 | p::l,t=>bif p.1.beq t then some p.2 else tyL l t
def spL:List (FuncId×FSp)->FuncId->Option FSp
 | [],_=>none
 | p::l,f=>bif p.1.beq f then some p.2 else spL l f
def memN:List Nat->Nat->Bool
 | [],_=>false
 | x::l,n=>bif x.beq n then true else memN l n
def stL (l:List (Nat×Nat×Nat)) (t:TypeId) (a x:Operand):Bool:=match a with
 | .tmp p=>match x with
  | .tmp q=>l.any fun e=>e.1.beq t&&(e.2.1.beq p&&e.2.2.beq q)
  | _=>false
 | _=>false
end Go.Eng
