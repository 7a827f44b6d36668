import Derived.Test.YtipafbfdjfbkbaaGreatDoorEngDef
import Derived.Orders
noncomputable section
namespace Go.Eng
def ZnU:TypeDesc->AV->AV->Option Bool
 | .int _,.int j a,.int j' b=>if j=j' then some (a==b) else none
 | .string,.str a,.str b=>some (a==b)
 | _,_,_=>none
def ZkC:TypeDesc->AV->Bool
 | .int _,.int _ _=>true
 | .string,.str _=>true
 | _,_=>false
def Zd7 (d:TypeDesc) (k:AV):List ME->Nat->Option (Option (Nat×AV))
 | [],_=>some none
 | e::es,i=>(ZnU d k e.key).ob fun b=>bif b then some (some (i,e.val)) else Zd7 d k es (i+1)
def Zdk (P:Program) (S:St) (t:TypeId) (x k:AV) (ok:Bool):Option AV:=
 (te P t).ob fun e=>(Zjr e.und).ob fun ke=>(te P ke.1).ob fun kt=>(te P ke.2).ob fun et=>(chk (ZkC kt.und k)).ob fun _=>
  (match x with
   | .nilm=>some []
   | .map n=>(ZaO S n).ob fun c=>some c.1
   | _=>none:Option (List ME)).ob fun es=>
  (Zd7 kt.und k es 0).ob fun r=>match r with
   | some (_,v)=>some (bif ok then .tup [v,.bool true] else v)
   | none=>some (bif ok then .tup [et.zero,.bool false] else et.zero)
def ZdG (P:Program) (S:St) (t:TypeId) (x k v:AV):Option St:=
 (te P t).ob fun e=>(Zjr e.und).ob fun ke=>(te P ke.1).ob fun kt=>(chk (ZkC kt.und k)).ob fun _=>
  match x with
  | .map n=>(ZaO S n).ob fun c=>(Zd7 kt.und k c.1 0).ob fun r=>match r with
   | some (i,_)=>some { S with heap:=S.heap.put n (.map (c.1.modify i fun e=>{ e with key:=k,val:=v }) c.2) }
   | none=>some { S with heap:=S.heap.put n (.map (c.1++[⟨k,v,c.2⟩]) (c.2+1)) }
  | _=>none
def ZkD (P:Program) (S:St) (t:TypeId) (x k:AV):Option (AV×St):=
 (te P t).ob fun e=>(Zjr e.und).ob fun ke=>(te P ke.1).ob fun kt=>(te P ke.2).ob fun et=>(chk (ZkC kt.und k)).ob fun _=>
  match x with
  | .map n=>(ZaO S n).ob fun c=>(Zd7 kt.und k c.1 0).ob fun r=>match r with
   | some (i,v)=>some (.tup [v,.int .i64 (((c.1[i]?).map (·.born)).getD 0)],{ S with heap:=S.heap.put n (.map (c.1.modify i fun e=>{ e with key:=k }) c.2) })
   | none=>some (.tup [et.zero,.int .i64 c.2],{ S with heap:=S.heap.put n (.map (c.1++[⟨k,et.zero,c.2⟩]) (c.2+1)) })
  | _=>none
def ZnV (S:St) (x st v:AV):Option St:=
 match x,st with
 | .map n,.int _ b=>(ZaO S n).ob fun c=>(c.1.findIdx? fun e=>(e.born:Int)==b).ob fun i=>
  some { S with heap:=S.heap.put n (.map (c.1.modify i fun e=>{ e with val:=v }) c.2) }
 | _,_=>none
def ZtS (k:IntKind) (x:Int):List AV->Option AV
 | []=>some (.int k x)
 | .int _ y::r=>ZtS k (if y > x then y else x) r
 | _=>none
def ZtT (k:IntKind) (x:Int):List AV->Option AV
 | []=>some (.int k x)
 | .int _ y::r=>ZtT k (if y < x then y else x) r
 | _=>none
def Z06:List AV->Option AV
 | .int k x::r=>ZtS k x r
 | _=>none
def Z07:List AV->Option AV
 | .int k x::r=>ZtT k x r
 | _=>none
def ZbN (g:St->AV->Option (AV×St)):St->List AV->Option (List AV×St)
 | S,[]=>some ([],S)
 | S,x::xs=>(g S x).ob fun r=>(ZbN g r.2 xs).ob fun q=>some (r.1::q.1,q.2)
def frz:Nat->St->AV->Option (AV×St)
 | 0,_,_=>none
 | f+1,S,v=>match v with
  | .ms n off len _ z=>(S.heap.get n).ob fun b=>match b with
   | .cells c=>(sub c off (len * z)).ob fun r=>(ZbN (frz f) { S with heap:=S.heap.put n (.ice c) } r).ob fun q=>some (.fs q.1 len,q.2)
   | .ice c=>(sub c off (len * z)).ob fun r=>(ZbN (frz f) S r).ob fun q=>some (.fs q.1 len,q.2)
   | .map _ _=>none
  | .mp n off=>(S.heap.get n).ob fun b=>match b with
   | .cells c=>(ZbN (frz f) { S with heap:=S.heap.put n (.ice c) } (c.drop off)).ob fun q=>some (.fp q.1,q.2)
   | .ice c=>(ZbN (frz f) S (c.drop off)).ob fun q=>some (.fp q.1,q.2)
   | .map _ _=>none
  | .agg cs=>(ZbN (frz f) S cs).ob fun q=>some (.agg q.1,q.2)
  | .tup cs=>(ZbN (frz f) S cs).ob fun q=>some (.tup q.1,q.2)
  | .func g a c=>(ZbN (frz f) S a).ob fun q=>(ZbN (frz f) q.2 c).ob fun r=>some (.func g q.1 r.1,r.2)
  | .iface t x=>(frz f S x).ob fun q=>some (.iface t q.1,q.2)
  | .nils=>some (.fs [] 0,S)
  | .map _=>none
  | .pa _ _ _=>none
  | v=>some (v,S)
def ZbW:Nat:=1000
def Zwe (S:St) (v:AV):Option (AV×St):=some (v,S)
def ZvR (b:Bool) (S:St) (v:AV):Option (AV×St):=bif b then frz ZbW S v else Zwe S v
def ZFY (S:St):List (Nat×AV)->Option (List (Nat×AV)×St)
 | []=>some ([],S)
 | p::l=>(frz ZbW S p.2).ob fun r=>(ZFY r.2 l).ob fun q=>some ((p.1,r.1)::q.1,q.2)
def ZFV (m:Nat->Bool):Nat->St->List AV->Option (List AV×St)
 | _,S,[]=>some ([],S)
 | i,S,x::xs=>(ZvR (m i) S x).ob fun r=>(ZFV m (i+1) r.2 xs).ob fun q=>some (r.1::q.1,q.2)
def ZFn [Mx] (g:FuncId) (S:St) (args:List AV):Option (List AV×St):=match Mx.fz g with
 | none=>some (args,S)
 | some m=>ZFV m 0 S args
def ZGc [Mx]:Op->Bool
 | .buildSlice t _ _=>Mx.bt t
 | _=>false
def Ze5 (P:Program) (S:St) (t:TypeId) (x y:AV):Option (AV×St):=
 (te P t).ob fun e=>(Zcq e.und).ob fun elem=>(te P elem).ob fun g=>(chk (g.zero.cells.length.beq g.size&&!g.size.beq 0)).ob fun _=>
  (Zl0 S g.size y).ob fun new=>(ZdE y).ob fun m=>(ZbN (frz ZbW) S new).ob fun q=>(chk (q.1.all AV.one)).ob fun _=>Zfn q.2 g q.1 m x
inductive X where
 | n | e (id:Nat) | r
abbrev ZbL:=Nat->Code->Tm->St->Option (X×Tm×St)
def ZcP:List AV->Nat->Tm
 | [],_=>.lf
 | v::vs,i=>(ZcP vs (i+1)).put i v
def ZzK (P:Program) (T:Tm) (S:St):ResultVar->Option AV
 | .tmp t=>T.get t
 | .cell a t=>(te P t).ob fun e=>(T.get a).ob fun p=>Zd6 e S p
def Zhq (P:Program) (T:Tm) (S:St):List ResultVar->Option (List AV)
 | []=>some []
 | r::rs=>(ZzK P T S r).ob fun v=>(Zhq P T S rs).ob fun vs=>some (v::vs)
def ZqE:List AV->AV
 | [v]=>v
 | vs=>.tup vs
def X.back:X->Bool
 | .e _=>false
 | _=>true
def Zd8 (P:Program) (rec:ZbL) (f:FuncId) (args:List AV) (S:St):Option (AV×St):=
 (P.funcs[f]?).ob fun fn=>fn.body.ob fun c=>(chk (Nat.ble args.length fn.ntmps)).ob fun _=>
  (rec fn.ntmps c (ZcP args 0) S).ob fun r=>(chk r.1.back).ob fun _=>
  (Zhq P r.2.1 r.2.2 fn.results.toList).ob fun vs=>some (ZqE vs,r.2.2)
def ZeH [Mx] (P:Program) (rec:ZbL) (f:FuncId) (args:List AV):Option AV:=
 match Mx.x f args with
 | some q=>some q
 | none=>(Zd8 P rec f args ⟨.lf,0⟩).ob fun r=>(frz ZbW r.2 r.1).ob fun q=>some q.1
def Zwf:AV->Bool
 | .bool _ | .int _ _ | .str _=>true
 | _=>false
def ZF7:AV->Bool
 | .tup l=>l.all Zwf
 | _=>false
def ZfN [Mx] (P:Program) (rec:ZbL) (f:FuncId) (args:List AV) (S:St):Option (AV×St):=
 (ZbN (frz ZbW) S args).ob fun a=>(ZeH P rec f a.1).ob fun q=>some (q,bif Zwf q||(Mx.ln f&&ZF7 q) then S else a.2)
def Zch [Mx] (pol:FuncId->Bool) (P:Program) (rec:ZbL) (f:FuncId) (args:List AV) (S:St):Option (AV×St):=
 bif pol f then ZfN P rec f args S else Zd8 P rec f args S
def Zbn (P:Program) (b:Builtin) (ts:List TypeId) (args:List AV) (S:St):Option (AV×St):=
 match b,args,ts with
 | .len,[x],t::_=>(Zjl P S t x).ob fun v=>some (v,S)
 | .append,[x,y],[t,u]=>(te P u).ob fun ue=>match ue.und with
  | .int _=>none
  | _=>Ze5 P S t x y
 | .max,l,_=>(Z06 l).ob fun v=>some (v,S)
 | .min,l,_=>(Z07 l).ob fun v=>some (v,S)
 | _,_,_=>none
def Zcw (P:Program) (e:TE) (S:St):Option (AV×St):=match e.und with
 | .array m el=>(te P el).ob fun g=>(chk (e.zero.cells.length.beq (m * g.size))).ob fun _=>some (.pa S.next m g.size,ZcW S (.cells e.zero.cells))
 | _=>none
structure OpF where
 f:ZbL->Tm->St->Option (AV×St)
def aOp [Gl] [Mx] (pol:FuncId->Bool) (P:Program) (o:Op):OpF:=
 match o with
 | .move x=>⟨fun _ T S=>(ev T x).ob fun v=>some (v,S)⟩
 | .assign x=>⟨fun _ T S=>(ev T x).ob fun v=>some (v,S)⟩
 | .pick c a b=>⟨fun _ T S=>(ev T c).ob fun c=>match c with
  | .bool true=>(ev T a).ob fun v=>some (v,S)
  | .bool false=>(ev T b).ob fun v=>some (v,S)
  | _=>none⟩
 | .alloc t=>match te P t with
  | some e=>bif Mx.ar t then ⟨fun _ _ S=>Zcw P e S⟩ else ⟨fun _ _ S=>some (.mp S.next 0,ZcW S (.cells e.zero.cells))⟩
  | none=>⟨fun _ _ _=>none⟩
 | .box t x=>match te P t with
  | some _=>⟨fun _ T S=>(ev T x).ob fun v=>some (.mp S.next 0,ZcW S (.cells v.cells))⟩
  | none=>⟨fun _ _ _=>none⟩
 | .build t ps=>⟨fun _ T S=>(evp T ps.toList).ob fun vs=>(Zly P t vs).ob fun v=>some (v,S)⟩
 | .buildSlice t n ps=>⟨fun _ T S=>(evp T ps.toList).ob fun vs=>bc (Mx.bt t) ((ZFY S vs).ob fun q=>Zb4 P q.2 t n q.1) (Zb4 P S t n vs)⟩
 | .load t a=>match te P t with
  | some e=>⟨fun _ T S=>(ev T a).ob fun p=>(Zd6 e S p).ob fun v=>some (v,S)⟩
  | none=>⟨fun _ _ _=>none⟩
 | .store t a x=>match te P t with
  | some e=>⟨fun _ T S=>(ev T a).ob fun p=>(ev T x).ob fun v=>(ZvR (Mx.st t a x) S v).ob fun q=>(Zc6 e q.2 p q.1).ob fun S'=>some (.tup [],S')⟩
  | none=>⟨fun _ _ _=>none⟩
 | .nilCheck x=>⟨fun _ T S=>(ev T x).ob fun v=>match v with
  | .nilp | .nili | .nilf=>none
  | v=>some (v,S)⟩
 | .binOp op t x y _=>⟨fun _ T S=>(ev T x).ob fun a=>(ev T y).ob fun b=>(ZnK P op t x y a b).ob fun v=>some (v,S)⟩
 | .unOp op _ x=>⟨fun _ T S=>(ev T x).ob fun a=>(unA op a).ob fun v=>some (v,S)⟩
 | .convert s d x=>⟨fun _ T S=>(ev T x).ob fun a=>(Zfm P S s d a).ob fun v=>some (v,S)⟩
 | .makeInterface t x=>⟨fun _ T S=>(te P t).ob fun e=>(ev T x).ob fun v=>match e.und with
  | .interface _=>none
  | _=>some (.iface t v,S)⟩
 | .makeFunc fn f c=>⟨fun _ T S=>match fn with
  | .func g=>(evs T f.toList).ob fun f=>(evs T c.toList).ob fun c=>some (.func g f c,S)
  | _=>none⟩
 | .makeMap _ r=>⟨fun _ _ S=>(chk r.isNone).ob fun _=>some (.map S.next,ZcW S (.map [] 0))⟩
 | .makeSlice t l c=>⟨fun _ T S=>(ev T l).ob fun l=>(ev T c).ob fun c=>Zb8 P S t l c⟩
 | .slice t x lo hi mx=>⟨fun _ T S=>(ev T x).ob fun a=>(Zcu P T t a lo hi mx).ob fun v=>some (v,S)⟩
 | .fieldAddr s x f=>⟨fun _ T S=>(ev T x).ob fun a=>(ZdZ P s a f).ob fun v=>some (v,S)⟩
 | .field s x f=>⟨fun _ T S=>(ev T x).ob fun a=>(Zjs P s a f).ob fun v=>some (v,S)⟩
 | .indexAddr t x i=>⟨fun _ T S=>(ev T x).ob fun a=>(ev T i).ob fun i=>(Zb2 P t a i).ob fun v=>some (v,S)⟩
 | .index t x i=>⟨fun _ T S=>(ev T x).ob fun a=>(ev T i).ob fun i=>(Zlz P t a i).ob fun v=>some (v,S)⟩
 | .lookup t x i ok=>⟨fun _ T S=>(ev T x).ob fun a=>(ev T i).ob fun i=>(Zdk P S t a i ok).ob fun v=>some (v,S)⟩
 | .mapUpdate t m k x=>⟨fun _ T S=>(ev T m).ob fun m=>(ev T k).ob fun k=>(ev T x).ob fun v=>(ZdG P S t m k v).ob fun S'=>some (.tup [],S')⟩
 | .mapEntry t m k=>⟨fun _ T S=>(ev T m).ob fun m=>(ev T k).ob fun k=>ZkD P S t m k⟩
 | .entryStore _ m s x=>⟨fun _ T S=>(ev T m).ob fun m=>(ev T s).ob fun s=>(ev T x).ob fun v=>(ZnV S m s v).ob fun S'=>some (.tup [],S')⟩
 | .extract t i=>⟨fun _ T S=>(ev T t).ob fun t=>match t with
  | .tup vs=>(vs[i]?).ob fun v=>some (v,S)
  | _=>none⟩
 | .call c=>match c.callee with
  | .builtin b=>⟨fun _ T S=>(evs T c.args.toList).ob fun args=>Zbn P b c.argTypes.toList args S⟩
  | .value f=>⟨fun rec T S=>(evs T c.args.toList).ob fun args=>(ev T f).ob fun f=>match f with
   | .func g first cap=>(ZFn g S (first++args++cap)).ob fun q=>Zch pol P rec g q.1 q.2
   | _=>none⟩
  | .invoke _ _=>⟨fun _ _ _=>none⟩
 | _=>⟨fun _ _ _=>none⟩
def ZdH (ops:List Oper) (T:Tm) (o:Oper):Option Bool:=
 match o.guard with
 | none=>some true
 | some (j,w)=>match (ops[j]?).ob (·.dst) with
  | none=>some false
  | some d=>(T.get d).ob fun v=>match v with
   | .bool b=>some (b==w)
   | _=>some false
def ZdI (nt:Nat) (T:Tm) (dst:Option Tmp) (v:AV):Option Tm:=
 match dst with
 | none=>some T
 | some d=>(chk (Nat.blt d nt)).ob fun _=>some (T.put d v)
structure Z08 where
 f:ZbL->Nat->Tm->St->Option (Tm×St)
def Zhr [Gl] [Mx] (pol:FuncId->Bool) (P:Program) (all:List Oper):List Oper->Z08
 | []=>⟨fun _ _ T S=>some (T,S)⟩
 | o::l=>match o.guard with
  | none=>⟨fun rec nt T S=>((aOp pol P o.op).f rec T S).ob fun r=>(chk (Nat.ble S.next r.2.next)).ob fun _=>(ZdI nt T o.dst r.1).ob fun T'=>(Zhr pol P all l).f rec nt T' r.2⟩
  | some _=>⟨fun rec nt T S=>(ZdH all T o).ob fun w=>
   bc w (((aOp pol P o.op).f rec T S).ob fun r=>(chk (Nat.ble S.next r.2.next)).ob fun _=>(ZdI nt T o.dst r.1).ob fun T'=>(Zhr pol P all l).f rec nt T' r.2)
   ((ZdI nt T o.dst (.tup [])).ob fun T'=>(Zhr pol P all l).f rec nt T' S)⟩
inductive Cls where
 | pure | pcall | read | alloc | loc | write
def ZvS (pol:FuncId->Bool):Operand->Bool
 | .func f=>pol f
 | _=>false
def cls (pol:FuncId->Bool):Op->Cls
 | .move _ | .assign _ | .pick .. | .build .. | .nilCheck _ | .binOp .. | .unOp .. | .makeInterface .. | .makeFunc .. | .slice .. | .fieldAddr .. | .field ..
 | .indexAddr .. | .index .. | .extract ..=>.pure
 | .load .. | .lookup .. | .convert ..=>.read
 | .alloc _ | .box .. | .buildSlice .. | .makeSlice .. | .makeMap ..=>.alloc
 | .call c=>match c.callee with
  | .builtin .len=>.read
  | .builtin .max | .builtin .min=>.pure
  | .builtin .append=>.loc
  | .value f=>bif ZvS pol f then .pcall else .write
  | _=>.write
 | _=>.write
def Za8:AV->List Nat
 | .mp n _=>[n]
 | .ms n _ _ _ _=>[n]
 | .map n=>[n]
 | _=>[]
def Zdg [Gl] (T:Tm):Op->List Nat
 | .load _ a=>match ev T a with | some v=>Za8 v | none=>[]
 | .lookup _ x _ _=>match ev T x with | some v=>Za8 v | none=>[]
 | .convert _ _ x=>match ev T x with | some v=>Za8 v | none=>[]
 | .call c=>match c.args.toList with
  | [x]=>match ev T x with | some (.map n)=>[n] | _=>[]
  | _=>[]
 | _=>[]
def ZbP [Gl] (T:Tm):Op->List Nat
 | .call c=>match evs T c.args.toList with | some vs=>vs.flatMap Za8 | none=>[]
 | _=>[]
structure PS where
 i:Nat
 hide:List Nat
 lg:Bool
 c:Cls
def Zbp (h:Tr AB):List Nat->Tr AB
 | []=>.lf
 | n::ns=>match h.get n with
  | some b=>(Zbp h ns).put n b
  | none=>Zbp h ns
def ZkE (h:Tr AB):List Nat->Tr AB
 | []=>h
 | n::ns=>(ZkE h ns).del n
def back (old h:Tr AB):List Nat->Tr AB
 | []=>h
 | n::ns=>(back old h ns).setP (old.get n) (Zf6 n)
def lay (old h:Tr AB):List Nat->Tr AB
 | []=>h
 | n::ns=>match old.get n with
  | some b=>(lay old h ns).put n b
  | none=>lay old h ns
mutual
def same:AV->AV->Bool
 | .bool a,.bool b=>a==b
 | .int k a,.int k' b=>decide (k=k')&&decide (a=b)
 | .str a,.str b=>decide (a=b)
 | .nilp,.nilp=>true
 | .mp n o,.mp n' o'=>n.beq n'&&o.beq o'
 | .pa n l z,.pa n' l' z'=>n.beq n'&&l.beq l'&&z.beq z'
 | .fp a,.fp b=>Zdl a b
 | .nils,.nils=>true
 | .ms n o l c z,.ms n' o' l' c' z'=>n.beq n'&&o.beq o'&&l.beq l'&&decide (c=c')&&z.beq z'
 | .fs a l,.fs b m=>l.beq m&&Zdl a b
 | .nilm,.nilm=>true
 | .map n,.map m=>n.beq m
 | .nilf,.nilf=>true
 | .func f a c,.func g b d=>f.beq g&&Zdl a b&&Zdl c d
 | .nili,.nili=>true
 | .iface t x,.iface u y=>t.beq u&&same x y
 | .agg a,.agg b=>Zdl a b
 | .tup a,.tup b=>Zdl a b
 | _,_=>false
def Zdl:List AV->List AV->Bool
 | [],[]=>true
 | x::xs,y::ys=>same x y&&Zdl xs ys
 | _,_=>false
end
structure LE where
 i:Nat
 ns:List Nat
 re:Option (Tr AB->Bool)
def ZaT (log:List LE) (hide:List Nat):List Nat:=
 (log.filter fun p=>hide.contains p.i&&p.re.isNone).flatMap (·.ns)
def reads (log:List LE) (hide:List Nat) (h:Tr AB):Bool:=
 log.all fun p=>match p.re with
  | some r=>!hide.contains p.i||r h
  | none=>true
def ZtU [Gl] [Mx] (P:Program) (o:Op) (T:Tm) (ns:List Nat) (m:Nat) (v:AV) (h:Tr AB):Bool:=
 match (aOp (fun _=>false) P o).f (fun _ _ _ _=>none) T ⟨Zbp h ns,m⟩ with
 | some (u,_)=>same v u
 | none=>false
def old (log:List LE) (hide:List Nat) (m:Nat):Bool:=log.all fun q=>!hide.contains q.i||q.ns.all fun n=>Nat.blt n m
def ZkF (lg:Bool) (e:LE) (log:List LE):List LE:=bif lg then e::log else log
def names (x y:Nat):List Nat:=List.range' x (y - x)
structure Z09 where
 f:ZbL->Nat->List LE->Tm->St->Option (Tm×St)
def ZbO [Gl] [Mx] (pol:FuncId->Bool) (P:Program) (all:List Oper):List PS->Z09
 | []=>⟨fun _ _ _ T S=>some (T,S)⟩
 | p::l=>match all[p.i]? with
  | none=>⟨fun _ _ _ _ _=>none⟩
  | some o=>match p.c with
   | .pure=>⟨fun rec nt log T S=>(ZdH all T o).ob fun w=>bc w
    (((aOp pol P o.op).f rec T S).ob fun r=>(ZdI nt T o.dst r.1).ob fun T'=>(ZbO pol P all l).f rec nt log T' S)
    ((ZdI nt T o.dst (.tup [])).ob fun T'=>(ZbO pol P all l).f rec nt log T' S)⟩
   | .pcall=>⟨fun rec nt log T S=>(ZdH all T o).ob fun w=>bc w
    (((aOp pol P o.op).f rec T ⟨.lf,S.next⟩).ob fun r=>(chk (r.2.next.beq S.next)).ob fun _=>(ZdI nt T o.dst r.1).ob fun T'=>(ZbO pol P all l).f rec nt log T' S)
    ((ZdI nt T o.dst (.tup [])).ob fun T'=>(ZbO pol P all l).f rec nt log T' S)⟩
   | .read=>⟨fun rec nt log T S=>(ZdH all T o).ob fun w=>bc w
    ((chk ((Zdg T o.op).all fun n=>!(ZaT log p.hide).contains n)).ob fun _=>
    ((aOp pol P o.op).f rec T S).ob fun r=>
    (ZdI nt T o.dst r.1).ob fun T'=>(ZbO pol P all l).f rec nt (ZkF p.lg ⟨p.i,Zdg T o.op,some (ZtU P o.op T (Zdg T o.op) S.next r.1)⟩ log) T' S)
    ((ZdI nt T o.dst (.tup [])).ob fun T'=>(ZbO pol P all l).f rec nt log T' S)⟩
   | .alloc=>⟨fun rec nt log T S=>(ZdH all T o).ob fun w=>bc w
    ((chk (!ZGc o.op&&old log p.hide S.next)).ob fun _=>((aOp pol P o.op).f rec T S).ob fun r=>
    (ZdI nt T o.dst r.1).ob fun T'=>(ZbO pol P all l).f rec nt (ZkF p.lg ⟨p.i,[S.next],none⟩ log) T' r.2)
    ((ZdI nt T o.dst (.tup [])).ob fun T'=>(ZbO pol P all l).f rec nt log T' S)⟩
   | .loc=>⟨fun rec nt log T S=>(ZdH all T o).ob fun w=>bc w
    ((chk (old log p.hide S.next&&(ZbP T o.op).all fun n=>!(ZaT log p.hide).contains n)).ob fun _=>
    ((aOp pol P o.op).f rec T ⟨Zbp S.heap (ZbP T o.op),S.next⟩).ob fun r=>(chk (Nat.ble S.next r.2.next)).ob fun _=>
    (chk (reads log p.hide (lay r.2.heap (back r.2.heap S.heap (ZbP T o.op)) (names S.next r.2.next)))).ob fun _=>
    (ZdI nt T o.dst r.1).ob fun T'=>(ZbO pol P all l).f rec nt (ZkF p.lg ⟨p.i,ZbP T o.op++names S.next r.2.next,none⟩ log) T' ⟨lay r.2.heap (back r.2.heap S.heap (ZbP T o.op)) (names S.next r.2.next),r.2.next⟩)
    ((ZdI nt T o.dst (.tup [])).ob fun T'=>(ZbO pol P all l).f rec nt log T' S)⟩
   | .write=>⟨fun rec nt log T S=>(ZdH all T o).ob fun w=>bc w
    (((aOp pol P o.op).f rec T ⟨ZkE S.heap (ZaT log p.hide),S.next⟩).ob fun r=>(chk (Nat.ble S.next r.2.next)).ob fun _=>
    (chk (reads log p.hide (back S.heap r.2.heap (ZaT log p.hide)))).ob fun _=>
    (ZdI nt T o.dst r.1).ob fun T'=>(ZbO pol P all l).f rec nt log T' ⟨back S.heap r.2.heap (ZaT log p.hide),r.2.next⟩)
    ((ZdI nt T o.dst (.tup [])).ob fun T'=>(ZbO pol P all l).f rec nt log T' S)⟩
structure Z0A where
 f:ZbL->Nat->Tm->St->Option (X×Tm×St)
def Zl1 [Gl] [Mx] (pol:FuncId->Bool) (pl:List Oper->Option (List PS)) (P:Program) (c:Code):Z0A:=
 match c with
 | .skip=>⟨fun _ _ T S=>some (.n,T,S)⟩
 | .region _ ops d=>
  bif d then match pl ops.toList with
   | some p=>⟨fun rec nt T S=>((ZbO pol P ops.toList p).f rec nt [] T S).ob fun r=>some (.n,r.1,r.2)⟩
   | none=>⟨fun _ _ _ _=>none⟩
  else ⟨fun rec nt T S=>((Zhr pol P ops.toList ops.toList).f rec nt T S).ob fun r=>some (.n,r.1,r.2)⟩
 | .seq a b=>⟨fun rec nt T S=>(rec nt a T S).ob fun r=>match r.1 with
  | .n=>rec nt b r.2.1 r.2.2
  | x=>some (x,r.2.1,r.2.2)⟩
 | .cond c a b=>⟨fun rec nt T S=>(ev T c).ob fun v=>match v with
  | .bool true=>rec nt a T S
  | .bool false=>rec nt b T S
  | _=>none⟩
 | .block id b=>⟨fun rec nt T S=>(rec nt b T S).ob fun r=>match r.1 with
  | .e i=>bif i.beq id then some (.n,r.2.1,r.2.2) else some (.e i,r.2.1,r.2.2)
  | x=>some (x,r.2.1,r.2.2)⟩
 | .loop b=>⟨fun rec nt T S=>(rec nt b T S).ob fun r=>match r.1 with
  | .n=>rec nt (.loop b) r.2.1 r.2.2
  | x=>some (x,r.2.1,r.2.2)⟩
 | .exit id=>⟨fun _ _ T S=>some (.e id,T,S)⟩
 | .ret=>⟨fun _ _ T S=>some (.r,T,S)⟩
 | _=>⟨fun _ _ _ _=>none⟩
def run [Gl] [Mx] (pol:FuncId->Bool) (pl:List Oper->Option (List PS)) (P:Program) (n:Nat):ZbL:=
 Nat.rec (motive:=fun _=>ZbL) (fun _ _ _ _=>none) (fun _ ih nt c T S=>(Zl1 pol pl P c).f ih nt T S) n
def Zgt (e:Edge):Bool:=match e.ground with
 | .textOnly _ | .gcOnly _=>false
 | _=>true
def ZbJ:List Oper->List Nat->List Nat
 | [],acc=>acc
 | o::l,acc=>ZbJ l (acc++[o.after.toList.foldl (fun s e=>bif Zgt e then s ||| (1 <<< e.on) ||| (acc.getD e.on 0) else s) 0])
def ZqF:Cls->Cls->Option Bool
 | .pure,_ | .pcall,_ | _,.pure | _,.pcall=>some false
 | .read,.read=>some false
 | .read,.alloc | .read,.loc | .read,.write=>some true
 | .alloc,.read | .loc,.read=>some true
 | .alloc,.alloc=>some false
 | .loc,.alloc | .alloc,.loc | .alloc,.write | .loc,.loc | .loc,.write=>some true
 | .write,_=>none
def ZIk (all:List (Nat×Oper)):Op->Bool
 | .buildSlice _ _ ps=>ps.toList.any fun p=>match p.2 with
  | .tmp t=>all.any fun q=>(match q.2.dst with | some d=>d.beq t | none=>false)&&(match q.2.op with | .call _=>true | _=>false)
  | _=>false
 | _=>false
def ZnW (pol:FuncId->Bool) (bs:List Nat) (all:List (Nat×Oper)) (i:Nat) (o:Oper):Cls:=
 match cls pol o.op with
 | .pcall | .loc=>bif all.all (fun q=>q.1.beq i||(bs.getD i 0).testBit q.1||(bs.getD q.1 0).testBit i||(match cls pol q.2.op with | .pure=>true | .read=>true | .alloc=>true | _=>false)) then .write else cls pol o.op
 | .alloc=>bif ZIk all o.op&&(all.all (fun q=>q.1.beq i||(bs.getD i 0).testBit q.1||(bs.getD q.1 0).testBit i||(match cls pol q.2.op with | .pure=>true | .read=>true | .alloc=>true | _=>false))) then .write else .alloc
 | c=>c
def Z1Q:Cls->Nat
 | .loc=>1
 | .write=>2
 | _=>0
def Zwg (bs:List Nat) (done:List (Nat×Cls)) (i:Nat) (c:Cls):List Nat:=
 (done.filter fun p=>!(bs.getD i 0).testBit p.1&&(ZqF p.2 c==some true)).map (·.1)
def ZqG (bs:List Nat) (done left:List (Nat×Cls)):Option (Nat×Cls):=
 let mask:=done.foldl (fun s p=>s ||| (1 <<< p.1)) 0
 let ready:=left.filter fun p=>((bs.getD p.1 0) &&& mask)==bs.getD p.1 0
 match ready.find? fun p=>(Z1Q p.2).beq 0 with
 | some p=>some p
 | none=>match ready.find? fun p=>(Z1Q p.2).beq 1 with
  | some p=>some p
  | none=>ready.head?
def ZfY (bs:List Nat):Nat->List (Nat×Cls)->List (Nat×Cls)->List PS
 | 0,_,_=>[]
 | f+1,done,left=>match ZqG bs done left with
  | none=>[]
  | some p=>⟨p.1,Zwg bs done p.1 p.2,false,p.2⟩::ZfY bs f (done++[p]) (left.filter fun q=>!q.1.beq p.1)
def Zim:List PS->List PS
 | []=>[]
 | p::l=>{ p with lg:=l.any fun q=>q.hide.contains p.i }::Zim l
def Zh6 (all:List Oper) (bs:List Nat) (c p:PS):Bool:=
 (bs.getD p.i 0).testBit c.i ||
 match all[c.i]?,all[p.i]? with
 | some oc,some oi=>Oper.apart all.toArray oc oi&&(match ZqF c.c p.c with
  | none=>false
  | some b=>!b||(p.hide.contains c.i&&c.lg))
 | _,_=>false
def ZnX:Cls->Cls->Bool
 | _,.write=>true
 | .pure,.pure | .pcall,.pcall | .read,.read | .alloc,.alloc | .loc,.loc=>true
 | _,_=>false
def Zdm (pol:FuncId->Bool) (all:List Oper) (bs:List Nat):List PS->List PS->Bool
 | done,[]=>done.length.beq all.length&&(List.range all.length).all fun i=>(done.map (·.i)).contains i
 | done,p::l=>Nat.blt p.i all.length&&!(done.map (·.i)).contains p.i &&
  (match all[p.i]? with
   | some o=>ZnX (cls pol o.op) p.c&&o.after.toList.all fun e=>!Zgt e||(done.map (·.i)).contains e.on
   | none=>false) &&
  done.all (fun c=>Zh6 all bs c p)&&Zdm pol all bs (p::done) l
def Zaf (pol:FuncId->Bool) (l:List Oper):Option (List PS):=
 let bs:=ZbJ l []
 let all:=l.zipIdx.map fun p=>(p.2,p.1)
 let p:=Zim (ZfY bs l.length [] (all.map fun q=>(q.1,ZnW pol bs all q.1 q.2)))
 bif Zdm pol l bs [] p then some p else none
end Go.Eng
end
