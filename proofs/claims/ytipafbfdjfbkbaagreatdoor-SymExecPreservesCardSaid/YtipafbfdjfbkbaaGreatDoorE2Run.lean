import Derived.Test.YtipafbfdjfbkbaaGreatDoorE2Def
noncomputable section
set_option linter.unusedVariables false
namespace Go.Eng
inductive AC where
 | skip | ret
 | exit (id:Nat)
 | ops (l:List CO)
 | plan (l:List PO)
 | seq (a b:AC)
 | jn (sh:Sh) (a b:AC)
 | cond (c:Operand) (a b:AC)
 | block (id:Nat) (b:AC)
 | loop (sh:Sh) (b:AC)
 | keep (ks:List Tmp) (b:AC)
 | lock (t:Tmp) (b:AC)
 | back (q t:Tmp) (b:AC)
 | nn (q:Tmp) (o:Nat) (b:AC)
def AC.er:AC->CC
 | .skip=>.skip
 | .ret=>.ret
 | .exit i=>.exit i
 | .ops l=>.ops l
 | .plan l=>.plan l
 | .seq a b=>.seq a.er b.er
 | .jn _ a b=>.seq a.er b.er
 | .cond c a b=>.cond c a.er b.er
 | .block i b=>.block i b.er
 | .loop _ b=>.loop b.er
 | .keep _ b=>b.er
 | .lock _ b=>b.er
 | .back _ _ b=>b.er
 | .nn _ _ b=>b.er
section
variable [Gl] {α:Type}
def ZoJ (nt:Nat) (dst:Option Tmp) (v:V2) (s:S2) (k:S2->Option α):Option α:=
 match dst with
 | none=>k s
 | some d=>bc (Nat.blt d nt) (k ⟨s.T.put d v,s.H,s.nx⟩) none
def ZjW (g:Gd) (s:S2) (y n:S2->Option α):Option α:=
 match g with
 | .yes=>y s
 | .no=>n s
 | .at d w=>(s.T.get d).ob fun v=>match v with
  | .dat .bool b=>bif b then bc w (y ⟨s.T.put d (.dat .bool true),s.H,s.nx⟩) (n ⟨s.T.put d (.dat .bool true),s.H,s.nx⟩) else bc w (n ⟨s.T.put d (.dat .bool false),s.H,s.nx⟩) (y ⟨s.T.put d (.dat .bool false),s.H,s.nx⟩)
  | .tup _=>n s
  | _=>none
def Zwo (E:Zcn) (nt:Nat):List CO->S2->(S2->Option α)->Option α
 | [],s,k=>k s
 | o::l,s,k=>ZjW o.g s (fun s=>op2 E o.op s fun v s=>ZoJ nt o.dst v s fun s=>Zwo E nt l s k) (fun s=>ZoJ nt o.dst (.tup []) s fun s=>Zwo E nt l s k)
def V2.cks:V2->List Nat
 | .sl c=>[c]
 | .bx c _=>[c]
 | .el c _ _ _=>[c]
 | .mp c=>[c]
 | .ea c _=>[c]
 | _=>[]
def ZnO (s:S2) (x:Operand):List Nat:=match ev2 s x with
 | some v=>v.cks
 | none=>[]
def ZlQ:Op->Bool
 | .move _ | .assign _ | .pick .. | .build .. | .nilCheck _ | .binOp .. | .unOp .. | .makeFunc .. | .slice .. | .fieldAddr .. | .field .. | .indexAddr .. | .index .. | .extract .. | .load .. | .convert ..=>true
 | .call c=>match c.callee with
  | .builtin .len=>true
  | .builtin .max=>true
  | .builtin .min=>true
  | _=>false
 | _=>false
def ZoK:Op->Bool
 | .alloc _ | .box .. | .buildSlice .. | .makeSlice ..=>true
 | _=>false
def Zul (E:Zcn):Op->Bool
 | .alloc t=>(E.ar t).isNone
 | .buildSlice t _ _=>!E.bt t
 | _=>true
def rd2 (s:S2):Op->Option (List Nat)
 | .load _ a=>some (ZnO s a)
 | .convert _ _ x=>some (ZnO s x)
 | .call c=>match c.callee with
  | .builtin .len=>some []
  | _=>none
 | _=>none
def ZJL (E:Zcn) (s:S2) (g:FuncId) (args:List V2):Option S2:=match E.pn g with
 | []=>some s
 | os=>match args with
  | .bx c 0::_=>(s.H.get c).ob fun ck=>match ck with
   | .box l true=>(ZI8 os l).ob fun l'=>some ⟨s.T,s.H.put c (.box l' true),s.nx⟩
   | _=>none
  | _=>none
def ZG1 (E:Zcn) (s:S2) (o:Op):List (Nat×Nat):=match o with
 | .call c=>match c.callee with
  | .value f=>match ZoD s c.args.toList,ev2 s f with
   | some args,some (.fn g first cap)=>bc (E.pol g) [] (match first++args++cap with
    | .bx c 0::_=>(E.pn g).map fun o=>(c,o)
    | _=>[])
   | _,_=>[]
  | _=>[]
 | _=>[]
def ZHa (E:Zcn) (s:S2) (o:Op):Option (Nat×Nat):=match o with
 | .load t x=>match ev2 s x,E.ty t with
  | some (.bx c off),some u=>bc u.agg none (some (c,off))
  | _,_=>none
 | _=>none
def md2 (E:Zcn) (s:S2):Op->Option (List Nat)
 | .store _ a _=>some (ZnO s a)
 | .buildSlice _ _ _=>some []
 | .call c=>match c.callee with
  | .builtin .append=>match c.args.toList with
   | [x,_]=>some (ZnO s x)
   | _=>none
  | .value f=>(ZoD s c.args.toList).ob fun vs=>(ev2 s f).ob fun f=>match f with
   | .fn g first cap=>bc (E.pol g) (some []) <| bc (E.fz g).isSome none ((ZJL E s g (first++vs++cap)).ob fun s'=>(E.im g (first++vs++cap)).ob fun sp=>(ZvT sp.inSh ⟨Zg8 (first++vs++cap) 0,s'.H,s'.nx⟩).ob fun p=>some (Zfy p.2 sp.cks.length))
   | _=>none
  | _=>none
 | _=>none
def ZNa:Op->Bool
 | .lookup ..=>true
 | _=>false
def ZNS:Op->Bool
 | .mapUpdate ..=>true
 | _=>false
abbrev L2:=List (Nat×List Nat×Nat)
def hid (log:L2) (hide:List Nat) (kd:Nat):List Nat:=(log.filter fun p=>hide.contains p.1&&p.2.2.beq kd).flatMap (·.2.1)
def ZgA (log:L2) (hide:List Nat):Bool:=log.all fun p=>!(hide.contains p.1&&p.2.2.beq 2)
def ZfG (a b:List Nat):Bool:=a.all fun n=>!b.contains n
def Zro (lg:Bool) (e:Nat×List Nat×Nat) (log:L2):L2:=bif lg then e::log else log
def ZoL (H:Tr C2) (cs:List Nat):Bool:=cs.all fun c=>match H.get c with
 | some ck=>ck.w
 | none=>false
def ZoM (H:Tr C2) (cs:List Nat):Bool:=cs.all fun c=>match H.get c with
 | some ck=>!ck.isLnk
 | none=>false
def cellOk (H:Tr C2) (md:List Nat) (pins:List (Nat×Nat)) (p:Nat×List Nat×Nat):Bool:=Nat.blt p.2.2 3||(ZoM H p.2.1&&(ZfG p.2.1 md||p.2.1.all fun c=>pins.contains (c,p.2.2 - 3)))
def Zwp (H:Tr C2) (md:List Nat) (pins:List (Nat×Nat)) (log:L2):L2:=log.map fun p=>bif (p.2.2.beq 1&&!(ZoM H p.2.1&&ZfG p.2.1 md))||!(cellOk H md pins p) then (p.1,p.2.1,2) else p
def Zrp (H:Tr C2):List Nat->Tr C2
 | []=>H
 | c::cs=>(Zrp H cs).del c
def ZsF (old H:Tr C2):List Nat->Tr C2
 | []=>H
 | c::cs=>match old.get c with
  | some ck=>(ZsF old H cs).put c ck
  | none=>ZsF old H cs
def Zh1 (E:Zcn) (nt:Nat):List PO->L2->S2->(S2->Option α)->Option α
 | [],_,s,k=>k s
 | o::l,log,s,k=>ZjW o.g s
  (fun s=>match o.c with
   | .pure=>bc (ZlQ o.op) (op2 E o.op s fun v s'=>ZoJ nt o.dst v s' fun s''=>Zh1 E nt l log s'' k) none
   | .pcall=>match o.op with
    | .call c=>match c.callee with
     | .value (.func g)=>(ZoD s c.args.toList).ob fun args=>bc (E.pol g) (ZjU E ⟨s.T,.lf,s.nx⟩ g args fun v _=>ZoJ nt o.dst v s fun s''=>Zh1 E nt l log s'' k) none
     | _=>none
    | _=>none
   | .read=>bc (List.isEmpty log&&!o.lg&&ZNa o.op) (op2 E o.op s fun v s'=>ZoJ nt o.dst v s' fun s''=>Zh1 E nt l log s'' k) ((rd2 s o.op).ob fun rd=>bc (ZlQ o.op&&ZoL s.H (hid log o.hide 0)&&ZfG rd (hid log o.hide 0)&&ZoM s.H rd) (op2 E o.op s fun v s'=>ZoJ nt o.dst v s' fun s''=>Zh1 E nt l (Zro o.lg (match ZHa E s o.op with | some c=>(o.i,[c.1],3+c.2) | none=>(o.i,rd,1)) log) s'' k) none)
   | .alloc=>bc (ZoK o.op&&Zul E o.op) (op2 E o.op s fun v s'=>bc (!o.lg||((match v with | .bx c _=>c.beq s.nx | .sl c=>c.beq s.nx | _=>false)&&ZoM s'.H [s.nx])) (ZoJ nt o.dst v s' fun s''=>Zh1 E nt l (Zro o.lg (o.i,[s.nx],0) log) s'' k) none) none
   | .write=>bc (List.isEmpty log&&ZNS o.op) (op2 E o.op s fun v s'=>ZoJ nt o.dst v s' fun s''=>Zh1 E nt l log s'' k) ((md2 E ⟨s.T,Zrp s.H (hid log o.hide 0),s.nx⟩ o.op).ob fun md=>
    bc (ZoL s.H (hid log o.hide 0)&&ZgA log o.hide&&ZoM s.H (hid log o.hide 1)&&ZfG (hid log o.hide 1) md&&log.all fun p=>!(o.hide.contains p.1)||cellOk s.H md (ZG1 E s o.op) p)
     (op2 E o.op ⟨s.T,Zrp s.H (hid log o.hide 0),s.nx⟩ fun v s'=>ZoJ nt o.dst v ⟨s'.T,ZsF s.H s'.H (hid log o.hide 0),s'.nx⟩ fun s''=>Zh1 E nt l (Zwp s.H md (ZG1 E s o.op) log) s'' k) none)
   | .loc=>match o.op with
    | .call c=>(ZoD s c.args.toList).ob fun vs=>bc (!o.lg&&ZgA log o.hide&&vs.all fun v=>v.cks.isEmpty&&!isPin v)
     (op2 E o.op ⟨s.T,.lf,s.nx⟩ fun v s'=>(s'.H.get s.nx).ob fun ck=>ZoJ nt o.dst v ⟨s.T,s.H.put s.nx ck,s'.nx⟩ fun s''=>Zh1 E nt l log s'' k) none
    | _=>none)
  (fun s=>ZoJ nt o.dst (.tup []) s fun s=>Zh1 E nt l log s k)
def Znw (T:Tr V2):List Tmp->Tr V2
 | []=>.lf
 | k::ks=>match T.get k with
  | some v=>(Znw T ks).put k v
  | none=>Znw T ks
def Zum (s:S2) (t:Tmp):S2:=match s.T.get t with
 | some (.bx c _)=>match s.H.get c with
  | some (.box l _)=>⟨s.T,s.H.put c (.box l false),s.nx⟩
  | _=>s
 | _=>s
def Zrq (s:S2) (q t:Tmp):S2:=match s.T.get q,s.T.get t with
 | some (.el c _ _ _),some (.sl d)=>match s.H.get c,s.H.get d with
  | some (.own2 w l (some e)),some (.own w' m true)=>match Ty.eq? w' w with
   | some ⟨h⟩=>bc (d.beq e.2&&!d.beq c) ⟨s.T,(s.H.del d).put c (.own2 w (Zaq l e.1 (h▸m)) none),s.nx⟩ s
   | none=>s
  | _,_=>s
 | _,_=>s
def nn2 {α:Type} (s:S2) (q:Tmp) (o:Nat) (k:S2->Option α):Option α:=match s.T.get q with
 | some (.bx c _)=>match s.H.get c with
  | some (.box l w)=>match l[o]? with
   | some (.dat (.list t) x)=>bif List.isEmpty x then none else k ⟨s.T,s.H.put c (.box (l.set o (.nsl false t x)) w),s.nx⟩
   | _=>k s
  | _=>k s
 | _=>k s
def ZzZ (s:S2) (c:Operand) (b:Bool):S2:=match c with
 | .tmp t=>⟨s.T.put t (.dat .bool b),s.H,s.nx⟩
 | _=>s
end
variable [Gl]
def Zgc (E:Zcn) (nt:Nat):AC->{α:Type}->S2->(X->S2->Option α)->Option α
 | .skip,_,s,k=>k .n s
 | .ret,_,s,k=>k .r s
 | .exit i,_,s,k=>k (.e i) s
 | .ops l,_,s,k=>Zwo E nt l s (k .n)
 | .plan l,_,s,k=>Zh1 E nt l [] s (k .n)
 | .seq a b,_,s,k=>Zgc E nt a s fun y s'=>match y with
  | .n=>Zgc E nt b s' k
  | .e i=>k (.e i) s'
  | .r=>k .r s'
 | .jn sh a b,α,s,k=>(Zgc E nt a (α:=sh.den⊕α) s fun y s'=>match y with
  | .n=>(prj sh s').map .inl
  | .e i=>(k (.e i) s').map .inr
  | .r=>(k .r s').map .inr).bind (Sum.elim (fun x=>Zgc E nt b (emb sh s x) k) some)
 | .cond c a b,_,s,k=>(ev2 s c).ob fun v=>match v with
  | .dat .bool x=>bif x then Zgc E nt a (ZzZ s c true) k else Zgc E nt b (ZzZ s c false) k
  | _=>none
 | .block id b,_,s,k=>Zgc E nt b s fun y s'=>match y with
  | .n=>k .n s'
  | .e i=>bif i.beq id then k .n s' else k (.e i) s'
  | .r=>k .r s'
 | .keep ks b,_,s,k=>Zgc E nt b ⟨Znw s.T ks,s.H,s.nx⟩ k
 | .lock t b,_,s,k=>Zgc E nt b (Zum s t) k
 | .back q t b,_,s,k=>Zgc E nt b s fun y s'=>k y (Zrq s' q t)
 | .nn q o b,_,s,k=>nn2 s q o fun s'=>Zgc E nt b s' k
 | .loop sh b,α,s,k=>(prj sh s).ob fun x0=>Zao (fun x=>Zgc E nt b (α:=sh.den⊕α) (emb sh s x) fun y s'=>match y with
  | .n=>(prj sh s').map .inl
  | .e i=>(k (.e i) s').map .inr
  | .r=>(k .r s').map .inr) x0
def Zun (l:List (Option Tmp)) (t:Tmp):Bool:=l.any fun d=>match d with | some x=>x.beq t | none=>false
def AC.asg (t:Tmp):AC->Bool
 | .skip | .ret | .exit _=>false
 | .ops l=>Zun (l.map (·.dst)) t
 | .plan l=>Zun (l.map (·.dst)) t
 | .seq a b=>a.asg t||b.asg t
 | .jn _ a b=>a.asg t||b.asg t
 | .cond _ a b=>a.asg t||b.asg t
 | .block _ b=>b.asg t
 | .loop _ b=>b.asg t
 | .keep _ b=>b.asg t
 | .lock _ b=>b.asg t
 | .back _ _ b=>b.asg t
 | .nn _ _ b=>b.asg t
def AC.ok:AC->Bool
 | .seq a b=>a.ok&&b.ok
 | .jn sh a b=>sh.ok&&(sh.fixed.all fun t=>!a.asg t)&&a.ok&&b.ok
 | .cond _ a b=>a.ok&&b.ok
 | .block _ b=>b.ok
 | .loop sh b=>sh.ok&&(sh.fixed.all fun t=>!b.asg t)&&b.ok
 | .keep _ b=>b.ok
 | .lock _ b=>b.ok
 | .back _ _ b=>b.ok
 | .nn _ _ b=>b.ok
 | _=>true
def ZkV:(ts:List Ty)->Zfj ts->Nat->Tr V2
 | [],_,_=>.lf
 | [t],x,i=>Tr.put .lf i (.dat t x)
 | t::u::ts,x,i=>(ZkV (u::ts) x.2 (i+1)).put i (.dat t x.1)
def Z1X (E:Zcn) (s:S2):ResultVar->Option V2
 | .tmp t=>s.T.get t
 | .cell a t=>(s.T.get a).ob fun p=>Zg9 E s t p fun v _=>some v
def ZkW (E:Zcn) (s:S2):List ResultVar->Option (List V2)
 | []=>some []
 | r::rs=>(Z1X E s r).ob fun v=>(ZkW E s rs).ob fun vs=>some (v::vs)
def ZoN:List Ty->Nat
 | [_]=>1000
 | _=>999
def Z2u (E:Zcn) (cod:List Ty) (rs:List ResultVar) (y:X) (s:S2):Option (Zfj cod):=match y with
 | .e _=>none
 | _=>(ZkW E s rs).ob fun vs=>(fzL (fzV (ZoN cod)) cod vs s.H).ob fun p=>some p.1
structure FA where
 nt:Nat
 c:AC
 rs:List ResultVar
def Z0G (E:Zcn) (d:FA) (dom cod:List Ty) (x:Zfj dom):Option (Zfj cod):=
 Zgc E d.nt d.c ⟨ZkV dom x 0,.lf,0⟩ (Z2u E cod d.rs)
def Zwq (T:Tr V2):List (Nat×SV)->Option (List V2)
 | []=>some []
 | q::qs=>(T.get q.1).ob fun v=>(Zwq T qs).ob fun vs=>some (v::vs)
def Z0H (E:Zcn) (sh:Sh) (anc:List (Nat×SV)) (rs:List ResultVar) (y:X) (s:S2):Option sh.den:=match y with
 | .e _=>none
 | _=>(ZkW E s rs).ob fun vs=>(Zwq s.T anc).ob fun ws=>prj sh ⟨Zg8 (vs++ws) 0,s.H,s.nx⟩
def Zwr (E:Zcn) (d:FA) (ins:List SV) (cks:List CS) (outs:List SV) (anc:List (Nat×SV)) (couts:List CS) (x:Zfj (Zfx (Zcm ins 0)++Zed cks)):Option (Zfj (Zfx (Zcm (outs++anc.map (·.2)) 0)++Zed couts)):=
 Zgc E d.nt d.c (emb ⟨[],Zcm ins 0,cks⟩ ⟨.lf,.lf,0⟩ x) (Z0H E ⟨[],Zcm (outs++anc.map (·.2)) 0,couts⟩ anc d.rs)
def Zrr:List SV->List V2->Bool
 | .fn g _ _::is,.fn h _ _::vs=>g.beq h&&Zrr is vs
 | _::is,_::vs=>Zrr is vs
 | _,_=>true
def imL:List (FuncId×Zbc)->FuncId->List V2->Option Zbc
 | [],_,_=>none
 | p::l,f,vs=>bif p.1.beq f&&Zrr p.2.ins vs then some p.2 else imL l f vs
def tyL:List (TypeId×Ty)->TypeId->Option Ty
 | [],_=>none
 | p::l,t=>bif p.1.beq t then some p.2 else tyL l t
def spL:List (FuncId×FSp)->FuncId->Option FSp
 | [],_=>none
 | p::l,f=>bif p.1.beq f then some p.2 else spL l f
def Z0a:List Nat->Nat->Bool
 | [],_=>false
 | x::l,n=>bif x.beq n then true else Z0a l n
def pnL:List (FuncId×List Nat)->FuncId->List Nat
 | [],_=>[]
 | p::l,g=>bif p.1.beq g then p.2 else pnL l g
def stL (l:List (Nat×Nat×Nat)) (t:TypeId) (a x:Operand):Bool:=match a with
 | .tmp p=>match x with
  | .tmp q=>l.any fun e=>e.1.beq t&&(e.2.1.beq p&&e.2.2.beq q)
  | _=>false
 | _=>false
end Go.Eng
end
