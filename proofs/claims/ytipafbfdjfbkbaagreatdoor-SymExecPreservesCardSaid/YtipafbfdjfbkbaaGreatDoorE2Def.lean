import Derived.Test.YtipafbfdjfbkbaaGreatDoorEngCC
noncomputable section
set_option linter.unusedVariables false
open BitVec (ofInt)
open ByteArray (empty)
namespace Go.Eng
inductive Zbb where
 | mk (k c:Int) (l:List Zbb)
inductive ExT where
 | mk (k n:Int) (s:ByteArray) (o:Int) (l:List ExT)
abbrev ExW:=Int×Int×ByteArray×Int×List ExT
inductive SmT where
 | mk (k:Int) (s t:ByteArray) (n:Int) (a v:ExW) (g:List ExT) (x y:List SmT)
abbrev SmW:=Int×ByteArray×ByteArray×Int×ExW×ExW×List ExT×List SmT×List SmT
inductive PaT where
 | mk (v o m w:Int) (l:List PaT)
abbrev PaW:=Int×Int×Int×Int×List PaT
abbrev ReS:=List (List Int)×List Int×Int×Int×Int×Int
inductive ReT where
 | mk (n:Int) (s:ReS) (v:List ReT)
abbrev ReW:=Int×ReS×List ReT
inductive TK where
 | sea | exp | stm | pat | res
@[reducible] def TK.den:TK->Type
 | .sea=>Zbb
 | .exp=>ExT
 | .stm=>SmT
 | .pat=>PaT
 | .res=>ReT
def ZKd:(a b:TK)->Option (PLift (a=b))
 | .sea,.sea=>some ⟨rfl⟩
 | .exp,.exp=>some ⟨rfl⟩
 | .stm,.stm=>some ⟨rfl⟩
 | .pat,.pat=>some ⟨rfl⟩
 | .res,.res=>some ⟨rfl⟩
 | _,_=>none
inductive Ty where
 | int (k:IntKind) | bool | str
 | tree (k:TK)
 | list (t:Ty)
 | prod (a b:Ty)
 | st (t:Ty)
 | ptr (t:Ty)
 | optr (t:Ty)
 | opq (z:Nat)
@[reducible] def Ty.den:Ty->Type
 | .int _=>Int
 | .bool=>Bool
 | .str=>ByteArray
 | .tree k=>k.den
 | .list t=>List t.den
 | .prod a b=>a.den×b.den
 | .st t=>t.den
 | .ptr t=>t.den
 | .optr t=>Option t.den
 | .opq _=>Empty
def kEq:(j k:IntKind)->Option (PLift (j=k)):=fun j k=>if h:j=k then some ⟨h⟩ else none
def Ty.eq?:(a b:Ty)->Option (PLift (a=b))
 | .int j,.int k=>match kEq j k with | some ⟨h⟩=>some ⟨by rw [h]⟩ | none=>none
 | .bool,.bool=>some ⟨rfl⟩
 | .str,.str=>some ⟨rfl⟩
 | .tree j,.tree k=>match ZKd j k with | some ⟨h⟩=>some ⟨by rw [h]⟩ | none=>none
 | .list a,.list b=>match Ty.eq? a b with | some ⟨h⟩=>some ⟨by rw [h]⟩ | none=>none
 | .st a,.st b=>match Ty.eq? a b with | some ⟨h⟩=>some ⟨by rw [h]⟩ | none=>none
 | .ptr a,.ptr b=>match Ty.eq? a b with | some ⟨h⟩=>some ⟨by rw [h]⟩ | none=>none
 | .optr a,.optr b=>match Ty.eq? a b with | some ⟨h⟩=>some ⟨by rw [h]⟩ | none=>none
 | .prod a b,.prod c d=>match Ty.eq? a c,Ty.eq? b d with | some ⟨h⟩,some ⟨i⟩=>some ⟨by rw [h,i]⟩ | _,_=>none
 | .opq a,.opq b=>if h:a=b then some ⟨by rw [h]⟩ else none
 | _,_=>none
def Za7 (a b:Ty) (x:a.den):Option b.den:=(Ty.eq? a b).ob fun h=>some (h.down▸x)
def Ty.isProd:Ty->Bool
 | .prod ..=>true
 | _=>false
def TK.size:TK->Nat
 | .sea=>3
 | .exp=>5
 | .stm=>17
 | .pat=>5
 | .res=>8
def Ty.size:Ty->Nat
 | .prod a b=>a.size+b.size
 | .st t=>t.size
 | .tree k=>k.size
 | _=>1
def Ty.agg:Ty->Bool
 | .st _=>true
 | .tree _=>true
 | _=>false
mutual
def Zbb.cells:Zbb->List AV
 | .mk k c l=>[.int .i64 k,.int .i64 c,.fs (Zbb.cellsL l) (List.length l)]
def Zbb.cellsL:List Zbb->List AV
 | []=>[]
 | t::l=>Zbb.cells t++Zbb.cellsL l
end
mutual
def ExT.cells:ExT->List AV
 | .mk k n s o l=>[.int .i64 k,.int .i64 n,.str s,.int .i64 o,.fs (ExT.cellsL l) (List.length l)]
def ExT.cellsL:List ExT->List AV
 | []=>[]
 | t::l=>ExT.cells t++ExT.cellsL l
end
def ExW.cells (x:ExW):List AV:=[.int .i64 x.1,.int .i64 x.2.1,.str x.2.2.1,.int .i64 x.2.2.2.1,.fs (ExT.cellsL x.2.2.2.2) (List.length x.2.2.2.2)]
mutual
def SmT.cells:SmT->List AV
 | .mk k s t n a v g x y=>.int .i64 k::.str s::.str t::.int .i64 n::(ExW.cells a++(ExW.cells v++[.fs (ExT.cellsL g) (List.length g),.fs (SmT.cellsL x) (List.length x),.fs (SmT.cellsL y) (List.length y)]))
def SmT.cellsL:List SmT->List AV
 | []=>[]
 | t::l=>SmT.cells t++SmT.cellsL l
end
mutual
def PaT.cells:PaT->List AV
 | .mk v o m w l=>[.int .i64 v,.int .i64 o,.int .i64 m,.int .i64 w,.fs (PaT.cellsL l) (List.length l)]
def PaT.cellsL:List PaT->List AV
 | []=>[]
 | t::l=>PaT.cells t++PaT.cellsL l
end
def ReS.cells (x:ReS):List AV:=[.fs (List.flatMap (fun l:List Int=>[AV.fs (List.flatMap (fun n:Int=>[AV.int .i64 n]) l) (List.length l)]) x.1) (List.length x.1),.fs (List.flatMap (fun n:Int=>[AV.int .i64 n]) x.2.1) (List.length x.2.1),.int .i64 x.2.2.1,.int .i64 x.2.2.2.1,.int .i64 x.2.2.2.2.1,.int .i64 x.2.2.2.2.2]
mutual
def ReT.cells:ReT->List AV
 | .mk n s l=>.int .i64 n::(ReS.cells s++[.fs (ReT.cellsL l) (List.length l)])
def ReT.cellsL:List ReT->List AV
 | []=>[]
 | t::l=>ReT.cells t++ReT.cellsL l
end
@[reducible] def TW:Ty:=.st (.prod (.int .i64) (.prod (.int .i64) (.list (.tree .sea))))
@[reducible] def EW:Ty:=.st (.prod (.int .i64) (.prod (.int .i64) (.prod .str (.prod (.int .i64) (.list (.tree .exp))))))
@[reducible] def SW:Ty:=.st (.prod (.int .i64) (.prod .str (.prod .str (.prod (.int .i64) (.prod EW (.prod EW (.prod (.list (.tree .exp)) (.prod (.list (.tree .stm)) (.list (.tree .stm))))))))))
@[reducible] def PW:Ty:=.st (.prod (.int .i64) (.prod (.int .i64) (.prod (.int .i64) (.prod (.int .i64) (.list (.tree .pat))))))
@[reducible] def RSW:Ty:=.st (.prod (.list (.list (.int .i64))) (.prod (.list (.int .i64)) (.prod (.int .i64) (.prod (.int .i64) (.prod (.int .i64) (.int .i64))))))
@[reducible] def RW:Ty:=.st (.prod (.int .i64) (.prod RSW (.list (.tree .res))))
@[reducible] def TK.W:TK->Ty
 | .sea=>TW
 | .exp=>EW
 | .stm=>SW
 | .pat=>PW
 | .res=>RW
def ZfP:Zbb->Int×Int×List Zbb
 | .mk k c l=>(k,c,l)
def Zre (x:Int×Int×List Zbb):Zbb:=.mk x.1 x.2.1 x.2.2
def ZGt:ExT->ExW
 | .mk k n s o l=>(k,n,s,o,l)
def ZGu (x:ExW):ExT:=.mk x.1 x.2.1 x.2.2.1 x.2.2.2.1 x.2.2.2.2
def ZGo:SmT->SmW
 | .mk k s t n a v g x y=>(k,s,t,n,a,v,g,x,y)
def ZJ9 (x:SmW):SmT:=.mk x.1 x.2.1 x.2.2.1 x.2.2.2.1 x.2.2.2.2.1 x.2.2.2.2.2.1 x.2.2.2.2.2.2.1 x.2.2.2.2.2.2.2.1 x.2.2.2.2.2.2.2.2
def ZKe:PaT->PaW
 | .mk v o m w l=>(v,o,m,w,l)
def ZJA (x:PaW):PaT:=.mk x.1 x.2.1 x.2.2.1 x.2.2.2.1 x.2.2.2.2
def ZR8:ReT->ReW
 | .mk n s l=>(n,s,l)
def ZTl (x:ReW):ReT:=.mk x.1 x.2.1 x.2.2
def TK.unf:(k:TK)->k.den->k.W.den
 | .sea=>ZfP
 | .exp=>ZGt
 | .stm=>ZGo
 | .pat=>ZKe
 | .res=>ZR8
def TK.fold:(k:TK)->k.W.den->k.den
 | .sea=>Zre
 | .exp=>ZGu
 | .stm=>ZJ9
 | .pat=>ZJA
 | .res=>ZTl
def TK.cells:(k:TK)->k.den->List AV
 | .sea=>Zbb.cells
 | .exp=>ExT.cells
 | .stm=>SmT.cells
 | .pat=>PaT.cells
 | .res=>ReT.cells
def Zrf:(a b:Ty)->a.den->Option b.den
 | .tree k,b,x=>Za7 k.W b (k.unf x)
 | a,b,x=>Za7 a b x
def Zrg:(a b:Ty)->a.den->Option b.den
 | a,.tree k,x=>(Za7 a k.W x).ob fun y=>some (k.fold y)
 | a,b,x=>Za7 a b x
def Ty.cells:(t:Ty)->t.den->List AV
 | .int k,n=>[.int k n]
 | .bool,b=>[.bool b]
 | .str,s=>[.str s]
 | .tree k,x=>k.cells x
 | .list t,l=>[.fs (List.flatMap (Ty.cells t) l) (List.length l)]
 | .prod a b,x=>Ty.cells a x.1++Ty.cells b x.2
 | .st t,x=>Ty.cells t x
 | .ptr t,x=>[.fp (Ty.cells t x)]
 | .optr t,x=>match x with
  | none=>[.nilp]
  | some y=>[.fp (Ty.cells t y)]
 | .opq _,x=>nomatch x
def Ty.enc (t:Ty) (x:t.den):AV:=match t.agg with
 | true=>.agg (t.cells x)
 | false=>(t.cells x).headD .nilp
abbrev D:=(t:Ty)×t.den
@[reducible] def Zfj:List Ty->Type
 | []=>Unit
 | [t]=>t.den
 | t::u::ts=>t.den×Zfj (u::ts)
def Zrh:(ts:List Ty)->List D->Option (Zfj ts)
 | [],[]=>some ()
 | [t],[d]=>Za7 d.1 t d.2
 | t::u::ts,d::ds=>(Za7 d.1 t d.2).ob fun x=>(Zrh (u::ts) ds).ob fun y=>some (x,y)
 | _,_=>none
def Zc9:(ts:List Ty)->Zfj ts->List D
 | [],_=>[]
 | [t],x=>[⟨t,x⟩]
 | t::u::ts,x=>⟨t,x.1⟩::Zc9 (u::ts) x.2
inductive V2 where
 | dat (t:Ty) (x:t.den)
 | fpe (t:Ty) (x:t.den)
 | nils | nilp | nilm | nilf | pin
 | sl (c:Nat)
 | bx (c off:Nat)
 | el (c:Nat) (i:Int) (z off:Nat)
 | mp (c:Nat)
 | agg (l:List V2)
 | tup (l:List V2)
 | fn (g:FuncId) (first cap:List V2)
 | fpl (t:Ty) (l:List t.den)
 | ar (c:Nat)
 | ea (c:Nat) (i:Int)
 | nsl (z:Bool) (t:Ty) (x:List t.den)
inductive C2 where
 | box (l:List V2) (w:Bool)
 | own (t:Ty) (l:List t.den) (w:Bool)
 | lit (t:Ty) (n:Nat) (l:List V2) (w:Bool)
 | map (k v:Ty) (m:List (k.den×v.den))
 | own2 (t:Ty) (l:List (List t.den)) (e:Option (Int×Nat))
 | arr (t:Ty) (l:List t.den)
 | mix (t:Ty) (l:List (List t.den)) (e:Int×Nat)
 | lnk (d:Nat) (h:Int) (n z:Nat)
def C2.w:C2->Bool
 | .box _ w=>w
 | .own _ _ w=>w
 | .lit _ _ _ w=>w
 | .map ..=>true
 | .own2 ..=>true
 | .arr ..=>true
 | .mix ..=>true
 | .lnk ..=>false
def C2.isLnk:C2->Bool
 | .lnk ..=>true
 | _=>false
structure S2 where
 T:Tr V2
 H:Tr C2
 nx:Nat
def Ty.cells0:(t:Ty)->t.den->List V2
 | .prod a b,x=>Ty.cells0 a x.1++Ty.cells0 b x.2
 | .st t,x=>Ty.cells0 t x
 | t,x=>[.dat t x]
def Ty.cells2:(t:Ty)->t.den->List V2
 | .prod a b,x=>Ty.cells2 a x.1++Ty.cells2 b x.2
 | .st t,x=>Ty.cells2 t x
 | .tree k,x=>k.W.cells0 (k.unf x)
 | t,x=>[.dat t x]
def V2.fl:V2->List V2
 | .dat t x=>t.cells2 x
 | .agg l=>l
 | v=>[v]
def V2.one:V2->Bool
 | .dat t _=>!t.agg
 | .agg _=>false
 | .tup _=>false
 | .pin=>false
 | _=>true
def V2.isD:V2->Bool
 | .dat ..=>true
 | .fpe ..=>true
 | .nils=>true
 | .nilp=>true
 | _=>false
def zI:V2:=.dat (.int .i64) (0:Int)
def zS:V2:=.dat .str empty
def TK.zc:TK->List V2
 | .sea=>[zI,zI,.nils]
 | .exp=>[zI,zI,zS,zI,.nils]
 | .stm=>[zI,zS,zS,zI,zI,zI,zS,zI,.nils,zI,zI,zS,zI,.nils,.nils,.nils,.nils]
 | .pat=>[zI,zI,zI,zI,.nils]
 | .res=>[zI,.nils,.nils,zI,zI,zI,zI,.nils]
def Ty.zc:Ty->List V2
 | .int k=>[.dat (.int k) (0:Int)]
 | .bool=>[.dat .bool false]
 | .str=>[.dat .str empty]
 | .tree k=>k.zc
 | .list _=>[.nils]
 | .prod a b=>a.zc++b.zc
 | .st t=>t.zc
 | .ptr _=>[.nilp]
 | .optr _=>[.nilp]
 | .opq 0=>[.nilf]
 | .opq 1=>[.nilm]
 | .opq _=>[.nilp]
def TK.zd:(k:TK)->Option k.den
 | .res=>some (.mk 0 ([],[],0,0,0,0) [])
 | _=>none
def Ty.zden:(t:Ty)->Option t.den
 | .tree k=>k.zd
 | .int _=>some (0:Int)
 | .bool=>some false
 | .str=>some empty
 | .list _=>some []
 | .prod a b=>match a.zden,b.zden with
  | some x,some y=>some (x,y)
  | _,_=>none
 | .st t=>t.zden
 | .optr _=>some none
 | _=>none
def Ty.fld:Ty->Nat->Option (Ty×Nat)
 | .prod a _,0=>some (a,0)
 | .prod a b,f+1=>match b.fld f with
  | some (t,o)=>some (t,a.size+o)
  | none=>none
 | t,0=>some (t,0)
 | _,_+1=>none
def Ty.proj:(u:Ty)->Nat->u.den->Option D
 | .prod a _,0,x=>some ⟨a,x.1⟩
 | .prod _ b,f+1,x=>b.proj f x.2
 | t,0,x=>some ⟨t,x⟩
 | _,_+1,_=>none
def Ty.at (t:Ty):(u:Ty)->Nat->u.den->Option t.den
 | .prod a b,o,x=>(Za7 (.prod a b) t x).rec (motive:=fun _=>Option t.den) (bc (Nat.blt o a.size) (Ty.at t a o x.1) (Ty.at t b (o - a.size) x.2)) (fun y=>bc (o.beq 0) (some y) none)
 | .st u,o,x=>(Za7 (.st u) t x).rec (motive:=fun _=>Option t.den) (Ty.at t u o x) (fun y=>bc (o.beq 0) (some y) none)
 | u,o,x=>bc (o.beq 0) (Zrf u t x) none
def Ty.upd (t:Ty) (y:t.den):(u:Ty)->Nat->u.den->Option u.den
 | .prod a b,o,x=>(Za7 t (.prod a b) y).rec (motive:=fun _=>Option (Ty.prod a b).den) (bc (Nat.blt o a.size) ((Ty.upd t y a o x.1).ob fun z=>some (z,x.2)) ((Ty.upd t y b (o - a.size) x.2).ob fun z=>some (x.1,z))) (fun z=>bc (o.beq 0) (some z) none)
 | .st u,o,x=>(Za7 t (.st u) y).rec (motive:=fun _=>Option (Ty.st u).den) (Ty.upd t y u o x) (fun z=>bc (o.beq 0) (some z) none)
 | u,o,x=>bc (o.beq 0) (Zrg t u y) none
def ZI6:(t:Ty)->List V2->Option t.den
 | .prod a b,l=>(ZI6 a (l.take a.size)).ob fun x=>(ZI6 b (l.drop a.size)).ob fun y=>some (x,y)
 | .st t,l=>ZI6 t l
 | .tree _,_=>none
 | .list t,l=>match l with
  | [.nils]=>some []
  | [.dat u x]=>Za7 u (.list t) x
  | _=>none
 | .optr t,l=>match l with
  | [.nilp]=>some none
  | [.dat u x]=>Za7 u (.optr t) x
  | _=>none
 | t,l=>match l with
  | [.dat u x]=>Za7 u t x
  | _=>none
def asm:(t:Ty)->List V2->Option t.den
 | .prod a b,l=>(asm a (l.take a.size)).ob fun x=>(asm b (l.drop a.size)).ob fun y=>some (x,y)
 | .st t,l=>asm t l
 | .tree k,l=>(ZI6 k.W l).ob fun y=>some (k.fold y)
 | .list t,l=>match l with
  | [.nils]=>some []
  | [.dat u x]=>Za7 u (.list t) x
  | _=>none
 | .optr t,l=>match l with
  | [.nilp]=>some none
  | [.dat u x]=>Za7 u (.optr t) x
  | _=>none
 | t,l=>match l with
  | [.dat u x]=>Za7 u t x
  | _=>none
def Zaq {α:Type} (l:List α) (e:Int) (x:α):List α:=l.set e.toNat x
abbrev FzT:=(t:Ty)->V2->Tr C2->Option (t.den×Tr C2)
def ZI7 (g:FzT):(t:Ty)->List V2->Tr C2->Option (t.den×Tr C2)
 | .prod a b,l,H=>(ZI7 g a (l.take a.size) H).ob fun p=>(ZI7 g b (l.drop a.size) p.2).ob fun q=>some ((p.1,q.1),q.2)
 | .st t,l,H=>ZI7 g t l H
 | .tree _,_,_=>none
 | t,l,H=>match l with
  | [v]=>g t v H
  | _=>none
def fzC (g:FzT):(t:Ty)->List V2->Tr C2->Option (t.den×Tr C2)
 | .prod a b,l,H=>(fzC g a (l.take a.size) H).ob fun p=>(fzC g b (l.drop a.size) p.2).ob fun q=>some ((p.1,q.1),q.2)
 | .st t,l,H=>fzC g t l H
 | .tree k,l,H=>(ZI7 g k.W l H).ob fun p=>some (k.fold p.1,p.2)
 | t,l,H=>match l with
  | [v]=>g t v H
  | _=>none
def fzN (g:FzT) (t:Ty):Nat->List V2->Tr C2->Option (List t.den×Tr C2)
 | 0,l,H=>match l with
  | []=>some ([],H)
  | _=>none
 | n+1,l,H=>(fzC g t (l.take t.size) H).ob fun p=>(fzN g t n (l.drop t.size) p.2).ob fun q=>some (p.1::q.1,q.2)
def fzV:Nat->FzT
 | 0=>fun _ _ _=>none
 | n+1=>fun t v H=>match v with
  | .dat u x=>bc (Nat.ble 1 n) ((Za7 u t x).ob fun y=>some (y,H)) none
  | .nils=>match t with
   | .list _=>some ([],H)
   | _=>none
  | .nilp=>match t with
   | .optr _=>some (none,H)
   | _=>none
  | .sl c=>match t with
   | .list u=>(H.get c).ob fun ck=>match ck with
    | .own u' l _=>bc (Nat.ble 1 n) ((Za7 (.list u') (.list u) l).ob fun y=>some (y,H.put c (.own u' l false))) none
    | .own2 u' l h=>bc (Nat.ble 2 n&&h.isNone) ((Za7 (.list (.list u')) (.list u) l).ob fun y=>some (y,H.del c)) none
    | .mix u' l e=>bc (Nat.ble 2 n&&!(e.2.beq c)) ((H.get e.2).ob fun dk=>match dk with
     | .own w m true=>(Za7 (.list w) (.list u') m).ob fun m=>(Za7 (.list (.list u')) (.list u) (Zaq l e.1 m)).ob fun y=>some (y,(H.del c).del e.2)
     | _=>none) none
    | .lit u' m cs _=>bc (Nat.ble 1 n) ((fzN (fzV n) u' m cs (H.put c (.lit u' m cs false))).ob fun p=>(Za7 (.list u') (.list u) p.1).ob fun y=>some (y,p.2)) none
    | _=>none
   | _=>none
  | .bx c off=>match t with
   | .ptr u=>bc (off.beq 0) ((H.get c).ob fun ck=>match ck with
    | .box cs _=>(fzC (fzV n) u cs (H.put c (.box cs false))).ob fun p=>some (p.1,p.2)
    | _=>none) none
   | .optr u=>bc (off.beq 0) ((H.get c).ob fun ck=>match ck with
    | .box cs _=>(fzC (fzV n) u cs (H.put c (.box cs false))).ob fun p=>some (some p.1,p.2)
    | _=>none) none
   | _=>none
  | .agg cs=>match t with
   | .st u=>fzC (fzV n) u cs H
   | _=>none
  | .nsl _ u x=>match t with
   | .list w=>(Za7 (.list u) (.list w) x).ob fun y=>some (y,H)
   | _=>none
  | _=>none
def fzL (g:FzT):(ts:List Ty)->List V2->Tr C2->Option (Zfj ts×Tr C2)
 | [],[],H=>some ((),H)
 | [t],[v],H=>g t v H
 | t::u::ts,v::vs,H=>(g t v H).ob fun p=>(fzL g (u::ts) vs p.2).ob fun q=>some ((p.1,q.1),q.2)
 | _,_,_=>none
def Zd9 {σ β:Type} (F:σ->Option (σ⊕β)):Nat->σ->Option β
 | 0,_=>none
 | n+1,s=>(F s).bind fun r=>match r with
  | .inl s'=>Zd9 F n s'
  | .inr b=>some b
open Classical in
def Zao {σ β:Type} (F:σ->Option (σ⊕β)) (s:σ):Option β:=
 if h:∃ b,∃ n,Zd9 F n s=some b then some h.choose else none
inductive SV where
 | dat (t:Ty)
 | fpe (t:Ty)
 | nils | nilp | nilm | nilf | pin
 | sl (c:Nat)
 | bx (c off:Nat)
 | mp (c:Nat)
 | ar (c:Nat)
 | agg (l:List SV)
 | tup (l:List SV)
 | fn (g:FuncId) (first cap:List SV)
 | nsl (t:Ty)
inductive CS where
 | box (l:List SV) (w:Bool)
 | own (t:Ty) (w:Bool)
 | map (k v:Ty)
 | own2 (t:Ty)
 | arr (t:Ty)
structure Sh where
 fixed:List Tmp
 slots:List (Tmp×SV)
 chunks:List CS
mutual
def SV.tys:SV->List Ty
 | .dat t=>[t]
 | .fpe t=>[t]
 | .nsl t=>[.bool,.list t]
 | .agg l=>SV.tysL l
 | .tup l=>SV.tysL l
 | .fn _ a b=>SV.tysL a++SV.tysL b
 | _=>[]
def SV.tysL:List SV->List Ty
 | []=>[]
 | x::xs=>x.tys++SV.tysL xs
end
def CS.tys:CS->List Ty
 | .box l _=>SV.tysL l
 | .own t _=>[.list t]
 | .map k v=>[.list (.prod k v)]
 | .own2 t=>[.list (.list t)]
 | .arr t=>[.list t]
def Zfx:List (Tmp×SV)->List Ty
 | []=>[]
 | x::xs=>x.2.tys++Zfx xs
def Zed:List CS->List Ty
 | []=>[]
 | x::xs=>x.tys++Zed xs
def Sh.tys (sh:Sh):List Ty:=Zfx sh.slots++Zed sh.chunks
@[reducible] def Sh.den (sh:Sh):Type:=Zfj sh.tys
inductive CR where
 | ck (d:Nat)
 | nil
 | dl (t:Ty) (l:List t.den)
abbrev Rn:=Tr CR
def Rn.ck (r:Rn) (c d:Nat):Option Rn:=match r.get c with
 | none=>some (r.put c (.ck d))
 | some (.ck e)=>bc (e.beq d) (some r) none
 | _=>none
mutual
def ZjQ:SV->V2->Rn->Option (List D×Rn)
 | .dat t,v,r=>match v with
  | .dat u x=>(Za7 u t x).ob fun y=>some ([⟨t,y⟩],r)
  | .nils=>match t with
   | .list u=>some ([⟨.list u,[]⟩],r)
   | _=>none
  | .nilp=>match t with
   | .optr u=>some ([⟨.optr u,none⟩],r)
   | _=>none
  | .agg l=>match t with
   | .st u=>(asm u l).ob fun y=>some ([⟨.st u,y⟩],r)
   | _=>none
  | .nsl _ u x=>match t with
   | .list w=>(Za7 (.list u) (.list w) x).ob fun y=>some ([⟨.list w,y⟩],r)
   | _=>none
  | _=>none
 | .nsl t,v,r=>match v with
  | .nils=>some ([⟨.bool,true⟩,⟨.list t,[]⟩],r)
  | .nsl z u x=>(Za7 (.list u) (.list t) x).ob fun y=>some ([⟨.bool,z⟩,⟨.list t,y⟩],r)
  | _=>none
 | .fpe t,v,r=>match v with
  | .fpe u x=>(Za7 u t x).ob fun y=>some ([⟨t,y⟩],r)
  | .dat (.ptr u) x=>(Za7 u t x).ob fun y=>some ([⟨t,y⟩],r)
  | _=>none
 | .nils,v,r=>match v with
  | .nils=>some ([],r)
  | _=>none
 | .nilp,v,r=>match v with
  | .nilp=>some ([],r)
  | _=>none
 | .nilm,v,r=>match v with
  | .nilm=>some ([],r)
  | _=>none
 | .nilf,v,r=>match v with
  | .nilf=>some ([],r)
  | _=>none
 | .pin,v,r=>match v with
  | .pin=>some ([],r)
  | _=>none
 | .sl c,v,r=>match v with
  | .sl d=>(r.ck c d).ob fun r=>some ([],r)
  | .nils=>(match r.get c with
   | none=>some (r.put c .nil)
   | some .nil=>some r
   | _=>none:Option Rn).ob fun r=>some ([],r)
  | .dat (.list u) l=>(match r.get c with
   | none=>some (r.put c (.dl u l))
   | _=>none:Option Rn).ob fun r=>some ([],r)
  | _=>none
 | .bx c off,v,r=>match v with
  | .bx d o=>bc (o.beq off) ((r.ck c d).ob fun r=>some ([],r)) none
  | _=>none
 | .mp c,v,r=>match v with
  | .mp d=>(r.ck c d).ob fun r=>some ([],r)
  | _=>none
 | .ar c,v,r=>match v with
  | .ar d=>(r.ck c d).ob fun r=>some ([],r)
  | _=>none
 | .agg l,v,r=>match v with
  | .agg l'=>Zq7 l l' r
  | .dat (.st u) x=>Zq7 l (u.cells2 x) r
  | _=>none
 | .tup l,v,r=>match v with
  | .tup l'=>Zq7 l l' r
  | _=>none
 | .fn g a b,v,r=>match v with
  | .fn g' a' b'=>bc (g.beq g') ((Zq7 a a' r).ob fun p=>(Zq7 b b' p.2).ob fun q=>some (p.1++q.1,q.2)) none
  | _=>none
def Zq7:List SV->List V2->Rn->Option (List D×Rn)
 | [],l,r=>match l with
  | []=>some ([],r)
  | _=>none
 | x::xs,l,r=>match l with
  | v::vs=>(ZjQ x v r).ob fun p=>(Zq7 xs vs p.2).ob fun q=>some (p.1++q.1,q.2)
  | []=>none
end
def ZzT (T:Tr V2):List (Tmp×SV)->Rn->Option (List D×Rn)
 | [],r=>some ([],r)
 | x::xs,r=>(T.get x.1).ob fun v=>(ZjQ x.2 v r).ob fun p=>(ZzT T xs p.2).ob fun q=>some (p.1++q.1,q.2)
def ZzU (H:Tr C2):List CS->Nat->Rn->Option (List D×Rn)
 | [],_,r=>some ([],r)
 | x::xs,i,r=>(r.get i).ob fun cr=>
  (match x with
   | .own t w=>match cr with
    | .ck d=>(H.get d).ob fun ck=>match ck with
     | .own u l w'=>bc (!w||w') ((Za7 (.list u) (.list t) l).ob fun y=>some ([⟨.list t,y⟩],r)) none
     | _=>none
    | .nil=>some ([⟨.list t,[]⟩],r)
    | .dl u l=>bc w none ((Za7 (.list u) (.list t) l).ob fun y=>some ([⟨.list t,y⟩],r))
   | .box l w=>match cr with
    | .ck d=>(H.get d).ob fun ck=>match ck with
     | .box l' w'=>bc (!w||w') (Zq7 l l' r) none
     | _=>none
    | _=>none
   | .map k v=>match cr with
    | .ck d=>(H.get d).ob fun ck=>match ck with
     | .map k' v' m=>(Za7 (.list (.prod k' v')) (.list (.prod k v)) m).ob fun y=>some ([⟨.list (.prod k v),y⟩],r)
     | _=>none
    | _=>none
   | .own2 t=>match cr with
    | .ck d=>(H.get d).ob fun ck=>match ck with
     | .own2 t' l h=>bc h.isNone ((Za7 (.list (.list t')) (.list (.list t)) l).ob fun y=>some ([⟨.list (.list t),y⟩],r)) none
     | _=>none
    | _=>none
   | .arr t=>match cr with
    | .ck d=>(H.get d).ob fun ck=>match ck with
     | .arr u l=>(Za7 (.list u) (.list t) l).ob fun y=>some ([⟨.list t,y⟩],r)
     | _=>none
    | _=>none:Option (List D×Rn)).ob fun p=>(ZzU H xs (i+1) p.2).ob fun q=>some (p.1++q.1,q.2)
def CS.w:CS->Bool
 | .box _ w=>w
 | .own _ w=>w
 | .map ..=>true
 | .own2 ..=>true
 | .arr ..=>true
def ZeL (r:Rn):List CS->Nat->List (Nat×Bool)->Bool
 | [],_,_=>true
 | x::xs,i,acc=>
  match r.get i with
  | some (.ck d)=>acc.all (fun p=>!(p.1.beq d)||(!p.2&&!x.w))&&ZeL r xs (i+1) ((d,x.w)::acc)
  | _=>ZeL r xs (i+1) acc
def ZvT (sh:Sh) (s:S2):Option (sh.den×Rn):=
 (ZzT s.T sh.slots .lf).ob fun p=>(ZzU s.H sh.chunks 0 p.2).ob fun q=>bc (ZeL q.2 sh.chunks 0 []) ((Zrh sh.tys (p.1++q.1)).ob fun x=>some (x,q.2)) none
def prj (sh:Sh) (s:S2):Option sh.den:=(ZvT sh s).ob fun p=>some p.1
mutual
def Zh0 (b:Nat->Nat):SV->List D->V2×List D
 | .dat t,ds=>match ds with
  | d::ds=>(.dat d.1 d.2,ds)
  | []=>(.nilp,[])
 | .fpe t,ds=>match ds with
  | d::ds=>(.fpe d.1 d.2,ds)
  | []=>(.nilp,[])
 | .nsl t,ds=>match ds with
  | ⟨.bool,z⟩::⟨.list u,x⟩::ds=>(.nsl z u x,ds)
  | _=>(.nilp,[])
 | .nils,ds=>(.nils,ds)
 | .nilp,ds=>(.nilp,ds)
 | .nilm,ds=>(.nilm,ds)
 | .nilf,ds=>(.nilf,ds)
 | .pin,ds=>(.pin,ds)
 | .sl c,ds=>(.sl (b c),ds)
 | .bx c o,ds=>(.bx (b c) o,ds)
 | .mp c,ds=>(.mp (b c),ds)
 | .ar c,ds=>(.ar (b c),ds)
 | .agg l,ds=>let p:=ZbE b l ds;(.agg p.1,p.2)
 | .tup l,ds=>let p:=ZbE b l ds;(.tup p.1,p.2)
 | .fn g x y,ds=>let p:=ZbE b x ds;let q:=ZbE b y p.2;(.fn g p.1 q.1,q.2)
def ZbE (b:Nat->Nat):List SV->List D->List V2×List D
 | [],ds=>([],ds)
 | x::xs,ds=>let p:=Zh0 b x ds;let q:=ZbE b xs p.2;(p.1::q.1,q.2)
end
def ZnM (b:Nat->Nat):List (Tmp×SV)->List D->Tr V2->Tr V2×List D
 | [],ds,T=>(T,ds)
 | x::xs,ds,T=>let p:=Zh0 b x.2 ds;ZnM b xs p.2 (T.put x.1 p.1)
def Ze7 (b:Nat->Nat):List CS->Nat->List D->Tr C2->Tr C2×List D
 | [],_,ds,H=>(H,ds)
 | x::xs,i,ds,H=>match x with
  | .own t w=>match ds with
   | ⟨.list u,l⟩::ds=>Ze7 b xs (i+1) ds (H.put (b i) (.own u l w))
   | _=>(H,ds)
  | .box l w=>let p:=ZbE b l ds;Ze7 b xs (i+1) p.2 (H.put (b i) (.box p.1 w))
  | .map k v=>match ds with
   | ⟨.list (.prod k' v'),m⟩::ds=>Ze7 b xs (i+1) ds (H.put (b i) (.map k' v' m))
   | _=>(H,ds)
  | .own2 t=>match ds with
   | ⟨.list (.list t'),l⟩::ds=>Ze7 b xs (i+1) ds (H.put (b i) (.own2 t' l none))
   | _=>(H,ds)
  | .arr t=>match ds with
   | ⟨.list u,l⟩::ds=>Ze7 b xs (i+1) ds (H.put (b i) (.arr u l))
   | _=>(H,ds)
def Zri (H:Tr C2) (v:V2):Bool:=match v with
 | .bx c _=>match H.get c with
  | some (.box l false)=>l.all V2.isD
  | _=>false
 | v=>v.isD
def ZlN (s:S2):List Tmp->Tr V2
 | []=>.lf
 | k::ks=>match s.T.get k with
  | some v=>match Zri s.H v with
   | true=>(ZlN s ks).put k v
   | false=>ZlN s ks
  | none=>ZlN s ks
def ZjR (s:S2):List Tmp->Tr C2
 | []=>.lf
 | k::ks=>match s.T.get k with
  | some (.bx c _)=>match s.H.get c with
   | some (.box l false)=>match l.all V2.isD with
    | true=>(ZjR s ks).put c (.box l false)
    | false=>ZjR s ks
   | _=>ZjR s ks
  | _=>ZjR s ks
def emb (sh:Sh) (s:S2) (x:sh.den):S2:=
 let p:=ZnM (fun c=>s.nx+c) sh.slots (Zc9 sh.tys x) (ZlN s sh.fixed)
 let q:=Ze7 (fun c=>s.nx+c) sh.chunks 0 p.2 (ZjR s sh.fixed)
 ⟨p.1,q.1,s.nx+sh.chunks.length⟩
mutual
def SV.lts (n:Nat):SV->Bool
 | .sl c=>Nat.blt c n
 | .bx c _=>Nat.blt c n
 | .mp c=>Nat.blt c n
 | .ar c=>Nat.blt c n
 | .agg l=>SV.ltsL n l
 | .tup l=>SV.ltsL n l
 | .fn _ x y=>SV.ltsL n x&&SV.ltsL n y
 | _=>true
def SV.ltsL (n:Nat):List SV->Bool
 | []=>true
 | x::xs=>x.lts n&&SV.ltsL n xs
end
def Sh.ok (sh:Sh):Bool:=(sh.slots.all fun p=>p.2.lts sh.chunks.length)&&(sh.chunks.all fun c=>match c with | .box l _=>SV.ltsL sh.chunks.length l | _=>true)
structure FSp where
 dom:List Ty
 cod:List Ty
 f:Zfj dom->Option (Zfj cod)
def Zg8:List V2->Nat->Tr V2
 | [],_=>.lf
 | v::vs,i=>(Zg8 vs (i+1)).put i v
def Zcm:List SV->Nat->List (Tmp×SV)
 | [],_=>[]
 | x::xs,i=>(i,x)::Zcm xs (i+1)
structure Zbc where
 ins:List SV
 cks:List CS
 own:Nat
 outs:List SV
 anc:List (Nat×SV)
 couts:List CS
 f:Zfj (Zfx (Zcm ins 0)++Zed cks)->Option (Zfj (Zfx (Zcm (outs++anc.map (·.2)) 0)++Zed couts))
def ZoB (l:List SV):Bool:=l.all fun v=>match v with
 | .bx ..=>true
 | _=>false
def Zwk (sp:Zbc) (j:Nat):Bool:=(List.range sp.anc.length).any fun i=>match sp.anc[i]? with
 | some q=>match q.2,sp.ins[q.1]? with
  | .sl i,some (.sl i')=>i.beq j&&i'.beq j
  | .bx i _,some (.bx i' _)=>i.beq j&&i'.beq j
  | .fn _ [] x,some (.fn _ [] x')=>ZoB x&&ZoB x'&&(List.range x.length).any fun p=>match x[p]?,x'[p]? with
   | some (.bx i _),some (.bx i' _)=>i.beq j&&i'.beq j
   | _,_=>false
  | _,_=>false
 | none=>false
def Zbc.inSh (sp:Zbc):Sh:=⟨[],Zcm sp.ins 0,sp.cks⟩
def Zbc.outSh (sp:Zbc):Sh:=⟨[],Zcm (sp.outs++sp.anc.map (·.2)) 0,sp.couts⟩
def Zbc.ok (sp:Zbc):Bool:=Nat.ble sp.own sp.couts.length&&Nat.ble sp.own sp.cks.length&&(List.range sp.own).all (Zwk sp)&&(sp.anc.all fun q=>Nat.blt q.1 sp.ins.length)
structure Zcn where
 ty:TypeId->Option Ty
 str:TypeId->Bool
 pol:FuncId->Bool
 sp:FuncId->Option FSp
 im:FuncId->List V2->Option Zbc
 sf:TypeId->Operand->Operand->Bool
 o2:TypeId->Bool
 mt:TypeId->Option (Ty×Ty)
 ar:TypeId->Option (Ty×Nat)
 bt:TypeId->Bool
 fz:FuncId->Option (Nat->Option Ty)
 ln:FuncId->Bool
 pn:FuncId->List Nat
def gI {α:Type} (l:List α) (e:Int):Option α:=if 0<=e then l[e.toNat]? else none
def slI {α:Type} (l:List α) (a b:Int):List α:=(l.drop a.toNat).take (b.toNat - a.toNat)
def gB (s:ByteArray) (e:Int):Option Int:=if 0<=e then (s[e.toNat]?).map fun b=>(b.toNat:Int) else none
def slB (s:ByteArray) (a b:Int):ByteArray:=s.extract a.toNat b.toNat
def ofB (l:List Int):ByteArray:=⟨(l.map fun n=>UInt8.ofNat n.toNat).toArray⟩
def toB (b:ByteArray):List Int:=b.data.toList.map fun n=>(n.toNat:Int)
def ZeM (k:IntKind) (r:BitVec k.bits):Int:=k.wrap r.toNat
def ZoC (k:IntKind):List AV->Option (List Int)
 | []=>some []
 | x::l=>match x with
  | .int j n=>bc (decide (j=k)) ((ZoC k l).ob fun ns=>some (n::ns)) none
  | _=>none
def glb:AV->Option V2
 | .fp cs=>match cs with
  | .int k n::l=>(ZoC k (.int k n::l)).ob fun ns=>some (.fpl (.int k) ns)
  | _=>none
 | _=>none
section
variable [Gl] {α:Type}
def Zwl:AV->Option V2
 | .bool b=>some (.dat .bool b)
 | .int k n=>some (.dat (.int k) n)
 | .str s=>some (.dat .str s)
 | .nilp=>some .nilp
 | .nils=>some .nils
 | .nilm=>some .nilm
 | .nilf=>some .nilf
 | _=>none
def Zwm:List AV->Option (List V2)
 | []=>some []
 | x::xs=>match Zwl x,Zwm xs with
  | some y,some ys=>some (y::ys)
  | _,_=>none
def c2v:AV->Option V2
 | .agg cs=>match Zwm cs with
  | some l=>some (.agg l)
  | none=>none
 | v=>Zwl v
def ev2 (s:S2):Operand->Option V2
 | .tmp t=>s.T.get t
 | .const v=>(cv v).ob c2v
 | .func f=>some (.fn f [] [])
 | .global g=>(Gl.g g).ob glb
def ZoD (s:S2):List Operand->Option (List V2)
 | []=>some []
 | x::xs=>(ev2 s x).ob fun v=>(ZoD s xs).ob fun vs=>some (v::vs)
def Zwn (s:S2):List (Nat×Operand)->Option (List (Nat×V2))
 | []=>some []
 | (i,x)::xs=>(ev2 s x).ob fun v=>(Zwn s xs).ob fun vs=>some ((i,v)::vs)
def Z0D (op:BinOp) (k:IntKind) (a b:Int) (c:V2->Option α):Option α:=
 match op with
 | .add=>c (.dat (.int k) (k.wrap (a+b)))
 | .sub=>c (.dat (.int k) (k.wrap (a - b)))
 | .mul=>c (.dat (.int k) (k.wrap (a * b)))
 | .quo=>bif decide (b=0) then none else c (.dat (.int k) (k.wrap (a.tdiv b)))
 | .rem=>bif decide (b=0) then none else c (.dat (.int k) (a.tmod b))
 | .and=>c (.dat (.int k) (ZeM k (ofInt k.bits a &&& ofInt k.bits b)))
 | .or=>c (.dat (.int k) (ZeM k (ofInt k.bits a ||| ofInt k.bits b)))
 | .xor=>c (.dat (.int k) (ZeM k (ofInt k.bits a ^^^ ofInt k.bits b)))
 | .andNot=>c (.dat (.int k) (ZeM k (ofInt k.bits a &&& ~~~ ofInt k.bits b)))
 | .eql=>c (.dat .bool (a==b))
 | .neq=>c (.dat .bool (a != b))
 | .lss=>c (.dat .bool (decide (a < b)))
 | .leq=>c (.dat .bool (decide (a<=b)))
 | .gtr=>c (.dat .bool (decide (a > b)))
 | .geq=>c (.dat .bool (decide (a>=b)))
 | .shl=>none
 | .shr=>none
def shB (op:BinOp) (k:IntKind) (a b:Int) (c:V2->Option α):Option α:=
 match op with
 | .shl=>bif decide (b < 0) then none else c (.dat (.int k) (k.wrap (a * 2 ^ (min b.toNat k.bits))))
 | .shr=>bif decide (b < 0) then none else c (.dat (.int k) (a.fdiv (2 ^ (min b.toNat k.bits))))
 | _=>none
def Z1U:BinOp->Bool
 | .shl=>true
 | .shr=>true
 | _=>false
def Z0E (op:BinOp) (x y:ByteArray) (c:V2->Option α):Option α:=
 match op with
 | .add=>bif decide (x.size+y.size<=big) then c (.dat .str (x++y)) else none
 | .eql=>c (.dat .bool (x.toList==y.toList))
 | .neq=>c (.dat .bool (!(x.toList==y.toList)))
 | .lss=>c (.dat .bool (Op.bytesLess x.toList y.toList))
 | .leq=>c (.dat .bool (Op.bytesLess x.toList y.toList||x.toList==y.toList))
 | .gtr=>c (.dat .bool (!(Op.bytesLess x.toList y.toList||x.toList==y.toList)))
 | .geq=>c (.dat .bool (!(Op.bytesLess x.toList y.toList)))
 | _=>none
def ZoE (op:BinOp) (r:Bool) (c:V2->Option α):Option α:=
 match op with
 | .eql=>c (.dat .bool r)
 | .neq=>c (.dat .bool (!r))
 | _=>none
def Z1V (E:Zcn) (s:S2) (op:BinOp) (t:TypeId) (a b:V2) (c:V2->Option α):Option α:=
 match a,b with
 | .dat (.int k) m,.dat (.int j) n=>bc (Z1U op) (shB op k m n c) (bc (decide (k=j)) (Z0D op k m n c) none)
 | .dat .str x,.dat .str y=>Z0E op x y c
 | .dat .bool x,.dat .bool y=>match E.ty t with
  | some .bool=>ZoE op (x==y) c
  | _=>none
 | .nils,.nils=>match E.ty t with
  | some (.list _)=>ZoE op true c
  | _=>none
 | .sl i,.nils=>match E.ty t,s.H.get i with
  | some (.list _),some (.own u l w)=>bif List.isEmpty l then none else ZoE op false c
  | _,_=>none
 | .dat (.list u) l,.nils=>match E.ty t with
  | some (.list _)=>bif List.isEmpty l then none else ZoE op false c
  | _=>none
 | .nsl z u l,.nils=>match E.ty t with
  | some (.list _)=>ZoE op z c
  | _=>none
 | .nilp,.nilp=>match E.ty t with
  | some (.ptr _)=>ZoE op true c
  | _=>none
 | .bx ..,.nilp=>match E.ty t with
  | some (.ptr _)=>ZoE op false c
  | _=>none
 | .dat (.st (.prod (.int i) (.int i'))) m,.dat (.st (.prod (.int j) (.int j'))) n=>bc (decide (i=j)&&decide (i'=j')) (match E.str t,E.ty t with
  | false,some (.st (.prod (.int _) (.int _)))=>ZoE op (m.1==n.1&&m.2==n.2) c
  | _,_=>none) none
 | _,_=>none
def un2 (op:UnOp) (a:V2) (c:V2->Option α):Option α:=
 match op,a with
 | .neg,.dat (.int k) n=>c (.dat (.int k) (k.wrap (0 - n)))
 | .xor,.dat (.int k) n=>c (.dat (.int k) (ZeM k (ofInt k.bits (if k.signed then -1 else k.max) ^^^ ofInt k.bits n)))
 | .not,.dat .bool b=>c (.dat .bool (!b))
 | _,_=>none
abbrev K2 (α:Type):=V2->S2->Option α
def Zrj (s:S2) (ck:C2) (v:V2) (k:K2 α):Option α:=k v ⟨s.T,s.H.put s.nx ck,s.nx+1⟩
def Zs8 (s:S2) (c:Nat) (ck:C2):S2:=⟨s.T,s.H.put c ck,s.nx⟩
def ZjS (l:List V2) (off:Nat) (xs:List V2):List V2:=l.take off++(xs++l.drop (off+xs.length))
def ZoF (place:Nat->Option (Nat×Nat)) (cells:List V2):List (Nat×V2)->Option (List V2)
 | []=>some cells
 | (i,v)::r=>(place i).ob fun p=>bc (v.fl.length.beq p.2&&Nat.ble (p.1+p.2) cells.length) (ZoF place (ZjS cells p.1 v.fl) r) none
def plc (u:Ty) (i:Nat):Option (Nat×Nat):=(u.fld i).ob fun p=>some (p.2,p.1.size)
def ZzV (z:Nat):Nat->List V2->List (List V2)
 | 0,_=>[]
 | n+1,l=>l.take z::ZzV z n (l.drop z)
def ZzW (t:Ty):List (List V2)->Option (List t.den)
 | []=>some []
 | x::xs=>(asm t x).ob fun y=>(ZzW t xs).ob fun ys=>some (y::ys)
def Znv (z:List V2):Nat->List V2
 | 0=>[]
 | n+1=>z++Znv z n
def Zg9 (E:Zcn) (s:S2) (t:TypeId) (p:V2) (k:K2 α):Option α:=
 (E.ty t).ob fun u=>match p with
  | .bx c off=>(s.H.get c).ob fun ck=>match ck with
   | .box l _=>bc u.agg (bc (Nat.ble (off+u.size) l.length) (k (.agg ((l.drop off).take u.size)) s) none) ((l[off]?).ob fun v=>k v s)
   | _=>none
  | .fpe w x=>(Zrf w u x).ob fun y=>k (.dat u y) s
  | .dat (.ptr w) x=>(Za7 w u x).ob fun y=>k (.dat u y) s
  | .el c i z off=>(s.H.get c).ob fun ck=>match ck with
   | .own w l _=>bc (w.size.beq z) ((gI l i).bind fun y=>(Ty.at u w off y).ob fun z=>k (.dat u z) s) none
   | _=>none
  | .ea c i=>(s.H.get c).ob fun ck=>match ck with
   | .arr w l=>(gI l i).bind fun y=>(Za7 w u y).ob fun z=>k (.dat u z) s
   | _=>none
  | _=>none
def Zrk (E:Zcn) (s:S2) (t:TypeId) (w:Ty) (l:List (List w.den)) (h:Option (Int×Nat)) (c:Nat) (i:Int) (z off:Nat) (k:K2 α):Option α:=
 (E.ty t).ob fun u=>bc (z.beq 1&&off.beq 0&&h.isNone) ((gI l i).bind fun y=>(Za7 (.list w) u y).ob fun _=>k (.sl s.nx) ⟨s.T,(s.H.put c (.own2 w l (some (i,s.nx)))).put s.nx (.own w y true),s.nx+1⟩) none
def ZjT (E:Zcn) (s:S2) (t:TypeId) (w:Ty) (l:List (List w.den)) (h:Option (Int×Nat)) (c:Nat) (i:Int) (z off:Nat) (x:V2) (k:K2 α):Option α:=
 (E.ty t).ob fun u=>match h,x with
  | some e,.sl d=>bc (z.beq 1&&off.beq 0&&!(d.beq c)) ((gI l i).bind fun _=>(s.H.get d).ob fun dk=>match dk with
   | .own w' m true=>(Za7 (.list w') (.list w) m).ob fun m=>(Za7 (.list w) u m).ob fun _=>bif decide (i=e.1) then k (.tup []) ⟨s.T,(s.H.del d).put c (.own2 w (Zaq l i m) none),s.nx⟩ else none
   | _=>none) none
  | _,_=>none
def ZRF (E:Zcn) (s:S2) (t:TypeId) (w:Ty) (l:List (List w.den)) (c:Nat) (i:Int) (z off d:Nat) (k:K2 α):Option α:=
 (E.ty t).ob fun u=>bc (z.beq 1&&off.beq 0&&!(d.beq c)) ((gI l i).bind fun _=>(s.H.get d).ob fun dk=>match dk with
  | .own w' m true=>(Za7 (.list w') (.list w) m).ob fun m=>(Za7 (.list w) u m).ob fun _=>k (.tup []) (Zs8 s c (.mix w l (i,d)))
  | _=>none) none
def ZSz (E:Zcn) (s:S2) (t:TypeId) (w:Ty) (l:List (List w.den)) (e:Int×Nat) (i:Int) (z off:Nat) (k:K2 α):Option α:=
 (E.ty t).ob fun u=>bc (z.beq 1&&off.beq 0) ((gI l i).bind fun y=>(Za7 (.list w) u y).ob fun _=>bif decide (i=e.1) then k (.sl e.2) s else none) none
def ZcZ (E:Zcn) (s:S2) (t:TypeId) (p x:V2) (k:K2 α):Option α:=
 (E.ty t).ob fun u=>match p with
  | .bx c off=>(s.H.get c).ob fun ck=>match ck with
   | .box l w=>bc (w&&x.fl.length.beq u.size&&x.fl.all V2.one&&Nat.ble (off+u.size) l.length) (k (.tup []) (Zs8 s c (.box (ZjS l off x.fl) w))) none
   | _=>none
  | .el c i z off=>(s.H.get c).ob fun ck=>match ck with
   | .own w l wr=>bc (wr&&w.size.beq z) ((asm u x.fl).ob fun z=>(gI l i).bind fun y=>(Ty.upd u z w off y).ob fun y'=>k (.tup []) (Zs8 s c (.own w (Zaq l i y') wr))) none
   | _=>none
  | .ea c i=>(s.H.get c).ob fun ck=>match ck with
   | .arr w l=>(asm u x.fl).ob fun z=>(gI l i).bind fun _=>(Za7 u w z).ob fun z=>k (.tup []) (Zs8 s c (.arr w (Zaq l i z)))
   | _=>none
  | _=>none
def ZhG (E:Zcn) (s:S2) (t:TypeId) (f:Nat) (p:V2) (k:K2 α):Option α:=
 bc (E.str t) ((E.ty t).ob fun u=>match u with
  | .st u=>match p with
   | .bx c off=>(u.fld f).ob fun q=>k (.bx c (off+q.2)) s
   | .el c i z off=>(u.fld f).ob fun q=>k (.el c i z (off+q.2)) s
   | .fpe w x=>(Zrf w (.st u) x).ob fun y=>(u.proj f y).ob fun d=>k (.fpe d.1 d.2) s
   | .dat (.ptr w) x=>(Za7 w (.st u) x).ob fun y=>(u.proj f y).ob fun d=>k (.fpe d.1 d.2) s
   | _=>none
  | _=>none) none
def Zs9 (E:Zcn) (s:S2) (t:TypeId) (f:Nat) (x:V2) (k:K2 α):Option α:=
 bc (E.str t) ((E.ty t).ob fun u=>match u with
  | .st u=>match x with
   | .agg l=>(u.fld f).ob fun q=>bc q.1.agg (bc (Nat.ble (q.2+q.1.size) l.length) (k (.agg ((l.drop q.2).take q.1.size)) s) none) ((l[q.2]?).ob fun v=>k v s)
   | .dat w x=>(Za7 w (.st u) x).ob fun y=>(u.proj f y).ob fun d=>k (.dat d.1 d.2) s
   | _=>none
  | _=>none) none
def Zee (E:Zcn) (s:S2) (t:TypeId) (x i:V2) (k:K2 α):Option α:=
 (E.ty t).ob fun u=>match u,i with
  | .st u,.dat (.int _) e=>bc (!E.str t&&decide (0<=e)) (match x with
   | .bx c off=>(u.fld e.toNat).ob fun q=>k (.bx c (off+q.2)) s
   | .el c i z off=>(u.fld e.toNat).ob fun q=>k (.el c i z (off+q.2)) s
   | .fpe w x=>(Za7 w (.st u) x).ob fun y=>(u.proj e.toNat y).ob fun d=>k (.fpe d.1 d.2) s
   | .dat (.ptr w) x=>(Za7 w (.st u) x).ob fun y=>(u.proj e.toNat y).ob fun d=>k (.fpe d.1 d.2) s
   | _=>none) none
  | .list u,.dat (.int _) e=>match x with
   | .dat (.list w) l=>(Za7 (.list w) (.list u) l).ob fun l=>(gI l e).bind fun y=>k (.fpe u y) s
   | .sl c=>(s.H.get c).ob fun ck=>match ck with
    | .own w l _=>(Za7 (.list w) (.list u) l).ob fun l=>(gI l e).bind fun _=>k (.el c e u.size 0) s
    | .own2 w l _=>(Za7 (.list (.list w)) (.list u) l).ob fun _=>(gI l e).bind fun _=>k (.el c e 1 0) s
    | .mix w l _=>(Za7 (.list (.list w)) (.list u) l).ob fun _=>(gI l e).bind fun _=>k (.el c e 1 0) s
    | _=>none
   | _=>none
  | _,_=>none
def ZhH (E:Zcn) (s:S2) (t:TypeId) (x i:V2) (k:K2 α):Option α:=
 match x with
 | .fpl w l=>(E.ar t).ob fun p=>(Za7 (.list w) (.list p.1) l).ob fun l=>bc ((List.length l).beq p.2) (match i with
  | .dat (.int _) e=>(gI l e).bind fun y=>k (.fpe p.1 y) s
  | _=>none) none
 | .ar c=>(E.ar t).ob fun p=>(s.H.get c).ob fun ck=>match ck with
  | .arr w l=>(Za7 (.list w) (.list p.1) l).ob fun l=>match i with
   | .dat (.int _) e=>(gI l e).bind fun _=>bif decide (e < (p.2:Int)) then k (.ea c e) s else none
   | _=>none
  | _=>none
 | x=>Zee E s t x i k
def ZsA (E:Zcn) (s:S2) (t:TypeId) (x i:V2) (k:K2 α):Option α:=
 (E.ty t).ob fun u=>match u,x,i with
  | .str,.dat .str b,.dat (.int _) e=>(gB b e).bind fun n=>k (.dat (.int .u8) n) s
  | _,_,_=>none
def ZnN (s:S2) (x:Option Operand) (d:Int):Option Int:=
 match x with
 | none=>some d
 | some o=>(ev2 s o).ob fun v=>match v with
  | .dat (.int _) n=>some n
  | _=>none
def Zui (E:Zcn) (s:S2) (t:TypeId) (c:Nat) (hi:Option Operand) (k:K2 α):Option α:=
 (E.ar t).ob fun p=>(s.H.get c).ob fun ck=>match ck with
  | .arr w l=>(Za7 (.list w) (.list p.1) l).ob fun l=>bc ((List.length l).beq p.2) ((ZnN s hi p.2).ob fun h=>bif decide (0<=h/\h<=(p.2:Int)) then
   k (.sl s.nx) ⟨s.T,(s.H.put c (.lnk s.nx h p.2 p.1.size)).put s.nx (.own p.1 (slI l 0 h) true),s.nx+1⟩ else none) none
  | .lnk d h' n z=>bc (n.beq p.2&&z.beq p.1.size) ((ZnN s hi p.2).ob fun h=>bif decide (h=h') then k (.sl d) s else none) none
  | _=>none
def ZoG (E:Zcn) (s:S2) (t:TypeId) (x:V2) (lo hi mx:Option Operand) (k:K2 α):Option α:=
 bc mx.isNone ((E.ty t).ob fun u=>match u with
  | .str=>match x with
   | .dat .str b=>(ZnN s lo 0).ob fun l=>(ZnN s hi b.size).ob fun h=>bif decide (0<=l/\l<=h/\h<=(b.size:Int)) then k (.dat .str (slB b l h)) s else none
   | _=>none
  | .list u=>match x with
   | .dat (.list w) a=>(Za7 (.list w) (.list u) a).ob fun a=>(ZnN s lo 0).ob fun l=>(ZnN s hi (List.length a)).ob fun h=>bif decide (0<=l/\l<=h/\h<=(List.length a:Int)) then k (.dat (.list u) (slI a l h)) s else none
   | .sl c=>(s.H.get c).ob fun ck=>match ck with
    | .own w a wr=>(Za7 (.list w) (.list u) a).ob fun a=>(ZnN s lo 0).ob fun l=>(ZnN s hi (List.length a)).ob fun h=>bif decide (0<=l/\l<=h/\h<=(List.length a:Int)) then
     bc (lo.isNone&&wr) (k (.sl s.nx) ⟨s.T,(s.H.del c).put s.nx (.own u (slI a l h) wr),s.nx+1⟩)
      (k (.sl s.nx) ⟨s.T,(s.H.put c (.own u a false)).put s.nx (.own u (slI a l h) false),s.nx+1⟩) else none
    | _=>none
   | _=>none
  | _=>none) none
def ZsB (E:Zcn) (s:S2) (t:TypeId) (x:V2) (lo hi mx:Option Operand) (k:K2 α):Option α:=
 match x with
 | .ar c=>bc (lo.isNone&&mx.isNone) (Zui E s t c hi k) none
 | x=>ZoG E s t x lo hi mx k
def ZhI (E:Zcn) (s:S2) (t:TypeId) (l c:V2) (k:K2 α):Option α:=
 (E.ty t).ob fun u=>match u,l,c with
  | .list u,.dat (.int _) n,.dat (.int _) m=>bc (E.o2 t) (match u with
   | .list w=>bif decide (0<=n/\n=m/\m<=1000000) then Zrj s (.own2 w (List.replicate n.toNat []) none) (.sl s.nx) k else none
   | _=>none) <| u.zden.ob fun z=>bif decide (0<=n/\n=m/\m<=1000000) then Zrj s (.own u (List.replicate n.toNat z) true) (.sl s.nx) k else none
  | _,_,_=>none
def ZsC (s:S2) (u:Ty) (y:V2):Option (List u.den):=
 match y with
 | .nils=>some []
 | .dat w x=>Za7 w (.list u) x
 | .sl c=>(s.H.get c).ob fun ck=>match ck with
  | .own w l _=>Za7 (.list w) (.list u) l
  | _=>none
 | _=>none
def Zuj (s:S2) (u:Ty) (y:V2):Option (List u.den×S2):=
 match y with
 | .sl c=>(s.H.get c).ob fun ck=>match ck with
  | .lit w n l _=>(fzN (fzV 1000) w n l s.H).ob fun p=>(Za7 (.list w) (.list u) p.1).ob fun l=>some (l,⟨s.T,p.2,s.nx⟩)
  | _=>(ZsC s u y).ob fun l=>some (l,s)
 | .dat .str b=>(Za7 (.list (.int .u8)) (.list u) (toB b)).ob fun l=>some (l,s)
 | _=>(ZsC s u y).ob fun l=>some (l,s)
def Zi4 (E:Zcn) (s:S2) (t:TypeId) (x y:V2) (k:K2 α):Option α:=
 (E.ty t).ob fun u=>match u with
  | .list u=>(Zuj s u y).ob fun p=>match x with
   | .nils=>bif decide (List.length p.1<=1000000) then Zrj p.2 (.own u p.1 true) (.sl p.2.nx) k else none
   | .sl c=>(p.2.H.get c).ob fun ck=>match ck with
    | .own w l true=>(Za7 (.list w) (.list u) l).ob fun l=>bif decide (List.length l+List.length p.1<=1000000) then
     k (.sl p.2.nx) ⟨p.2.T,(p.2.H.del c).put p.2.nx (.own u (l++p.1) true),p.2.nx+1⟩ else none
    | _=>none
   | _=>none
  | _=>none
def Zrl (E:Zcn) (s:S2) (u:Ty) (x:V2) (k:K2 α):Option α:=
 match u,x with
 | .list _,.nils=>k (.dat (.int .i64) (0:Int)) s
 | .list _,.dat (.list _) l=>k (.dat (.int .i64) (List.length l:Int)) s
 | .str,.dat .str b=>k (.dat (.int .i64) (b.size:Int)) s
 | .list _,.sl c=>(s.H.get c).ob fun ck=>match ck with
  | .own _ l _=>k (.dat (.int .i64) (List.length l:Int)) s
  | .own2 _ l _=>k (.dat (.int .i64) (List.length l:Int)) s
  | .lit _ n _ _=>k (.dat (.int .i64) (n:Int)) s
  | _=>none
 | _,_=>none
def ZlO:List Ty->Bool
 | [.int _]=>true
 | [.bool]=>true
 | [.str]=>true
 | _=>false
def ZFS:List Ty->Bool
 | [_]=>false
 | ts=>ts.all fun t=>ZlO [t]
def Z1W:(ts:List Ty)->Zfj ts->V2
 | [t],x=>.dat t x
 | ts,x=>.tup ((Zc9 ts x).map fun d=>.dat d.1 d.2)
def ZjU (E:Zcn) (s:S2) (g:FuncId) (args:List V2) (k:K2 α):Option α:=
 (E.sp g).ob fun sp=>bc (sp.cod.all fun t=>!t.isProd) ((fzL (fzV 1000) sp.dom args s.H).ob fun p=>(sp.f p.1).bind fun r=>k (Z1W sp.cod r) (bc (ZlO sp.cod||(E.ln g&&ZFS sp.cod)) s ⟨s.T,p.2,s.nx⟩)) none
def Zfy (r:Rn):Nat->List Nat
 | 0=>[]
 | n+1=>match r.get n with
  | some (.ck d)=>d::Zfy r n
  | _=>Zfy r n
def Zrm (r:Rn) (n:Nat):Bool:=match n with
 | 0=>true
 | n+1=>match r.get n with
  | some (.ck d)=>!(Zfy r n).contains d&&Zrm r n
  | _=>false
def ZsD (H:Tr C2):List Nat->Tr C2
 | []=>H
 | c::cs=>(ZsD H cs).del c
def nuI (s:S2) (r:Rn) (own:Nat) (c:Nat):Nat:=bc (Nat.blt c own) (match r.get c with | some (.ck d)=>d | _=>0) (s.nx+(c - own))
def Z0F:List V2->V2
 | [v]=>v
 | vs=>.tup vs
def ZlP (E:Zcn) (s:S2) (g:FuncId) (args:List V2) (k:K2 α):Option α:=
 (E.im g args).ob fun sp=>(ZvT sp.inSh ⟨Zg8 args 0,s.H,s.nx⟩).ob fun p=>bc (Zrm p.2 sp.own&&args.length.beq sp.ins.length&&(Zfy p.2 sp.cks.length).all fun c=>(s.H.get c).isSome)
  ((sp.f p.1).bind fun y=>
   let ds:=Zc9 _ y
   let o:=ZbE (nuI s p.2 sp.own) sp.outs ds
   let q:=ZbE (nuI s p.2 sp.own) (sp.anc.map (·.2)) o.2
   let H:=Ze7 (nuI s p.2 sp.own) sp.couts 0 q.2 (ZsD s.H (Zfy p.2 sp.cks.length))
   k (Z0F o.1) ⟨s.T,H.1,s.nx+(sp.couts.length - sp.own)⟩) none
def ZGd (m:Nat->Option Ty):Nat->List V2->Tr C2->Option (List V2×Tr C2)
 | _,[],H=>some ([],H)
 | i,v::vs,H=>match m i with
  | none=>(ZGd m (i+1) vs H).ob fun q=>some (v::q.1,q.2)
  | some t=>bc (!t.isProd) ((fzV 1000 t v H).ob fun r=>(ZGd m (i+1) vs r.2).ob fun q=>some (.dat t r.1::q.1,q.2)) none
def ZFE (E:Zcn) (s:S2) (g:FuncId) (args:List V2) (k:K2 α):Option α:=match E.fz g with
 | none=>ZlP E s g args k
 | some m=>(ZGd m 0 args s.H).ob fun q=>ZlP E ⟨s.T,q.2,s.nx⟩ g q.1 k
def isPin:V2->Bool
 | .pin=>true
 | _=>false
def ZI8:List Nat->List V2->Option (List V2)
 | [],l=>some l
 | o::os,l=>(l[o]?).ob fun v=>bc (v.one||isPin v) (ZI8 os (l.set o .pin)) none
def ZHq:List V2->List V2->Bool
 | v::l,x::m=>(!isPin x||isPin v)&&ZHq l m
 | [],m=>m.all fun x=>!isPin x
 | _,[]=>true
def ZG6:List Nat->List V2->List V2->Option (List V2)
 | [],l,m=>bc (ZHq l m) (some m) none
 | o::os,l,m=>(l[o]?).ob fun v=>(m[o]?).ob fun x=>bc (isPin x) (ZG6 os l (m.set o v)) none
def ZGE (E:Zcn) (s:S2) (g:FuncId) (args:List V2) (k:K2 α):Option α:=match E.pn g with
 | []=>ZFE E s g args k
 | os=>match args with
  | .bx c 0::_=>(s.H.get c).ob fun ck=>match ck with
   | .box l true=>(ZI8 os l).ob fun l'=>ZFE E ⟨s.T,s.H.put c (.box l' true),s.nx⟩ g args fun v s'=>(s'.H.get c).ob fun ck'=>match ck' with
    | .box m true=>(ZG6 os l m).ob fun m'=>k v ⟨s'.T,s'.H.put c (.box m' true),s'.nx⟩
    | _=>none
   | _=>none
  | _=>none
def Ty.wt:Ty->Ty
 | .tree k=>k.W
 | t=>t
def ZGj (t:Ty):List (Nat×V2)->Tr C2->Option (List (Nat×V2)×Tr C2)
 | [],H=>some ([],H)
 | p::l,H=>(fzV 1000 t p.2 H).ob fun r=>(ZGj t l r.2).ob fun q=>some ((p.1,.dat t r.1)::q.1,q.2)
def ZGk (s:S2) (u:Ty) (n:Nat) (vs:List (Nat×V2)) (k:K2 α):Option α:=
 bc ((vs.all fun p=>p.2.fl.all V2.one)&&Nat.ble (n * u.size) 16777216) ((ZoF (fun i=>some (i * u.size,u.size)) (Znv u.zc n) vs).ob fun l=>
  match ZzW u (ZzV u.size n l) with
  | some xs=>Zrj s (.own u xs true) (.sl s.nx) k
  | none=>Zrj s (.lit u n l true) (.sl s.nx) k) none
def ZzX (x:Int):List V2->Option Int
 | []=>some x
 | .dat (.int _) y::r=>ZzX (if y > x then y else x) r
 | _=>none
def ZzY (x:Int):List V2->Option Int
 | []=>some x
 | .dat (.int _) y::r=>ZzY (if y < x then y else x) r
 | _=>none
def Zrn (E:Zcn) (s:S2) (a b:TypeId) (x:V2) (k:K2 α):Option α:=
 (E.ty a).ob fun u=>(E.ty b).ob fun w=>match u,w,x with
  | .int _,.int j,.dat (.int _) n=>k (.dat (.int j) (j.wrap n)) s
  | .str,.str,.dat .str b=>k (.dat .str b) s
  | .list (.int .u8),.str,y=>(ZsC s (.int .u8) y).ob fun l=>k (.dat .str (ofB l)) s
  | _,_,_=>none
def ZsE:Ty->Bool
 | .int _=>true
 | _=>false
def ZaS:(t:Ty)->t.den->t.den->Bool
 | .int _,a,b=>(show Int from a)==b
 | .str,a,b=>(show ByteArray from a)==b
 | _,_,_=>false
def ZjV:Ty->Bool
 | .int _=>true
 | .str=>true
 | _=>false
def Zuk:Ty->Bool
 | .int _=>true
 | .bool=>true
 | .str=>true
 | _=>false
def zSc:(t:Ty)->Option t.den
 | .int _=>some (0:Int)
 | .bool=>some false
 | .str=>some empty
 | _=>none
def Zc3 {κ ν:Type} (eq:κ->κ->Bool):List (κ×ν)->κ->Option ν
 | [],_=>none
 | e::m,x=>bif eq x e.1 then some e.2 else Zc3 eq m x
def ZfQ {κ ν:Type} (eq:κ->κ->Bool):List (κ×ν)->κ->ν->List (κ×ν)
 | [],x,v=>[(x,v)]
 | e::m,x,v=>bif eq x e.1 then (x,v)::m else e::ZfQ eq m x v
def ZoH (E:Zcn) (s:S2) (t:TypeId) (x i:V2) (ok:Bool) (k:K2 α):Option α:=
 (E.mt t).ob fun kv=>bc (ZjV kv.1&&Zuk kv.2) (match i with
  | .dat j a=>(Za7 j kv.1 a).ob fun key=>(zSc kv.2).ob fun z=>match x with
   | .mp c=>match s.H.get c with
    | some (.map k' v' m)=>(Za7 (.list (.prod k' v')) (.list (.prod kv.1 kv.2)) m).ob fun m=>
     bc ok (k (.tup [.dat kv.2 ((Zc3 (ZaS kv.1) m key).getD z),.dat .bool (Zc3 (ZaS kv.1) m key).isSome]) s) (k (.dat kv.2 ((Zc3 (ZaS kv.1) m key).getD z)) s)
    | _=>none
   | .nilm=>bc ok (k (.tup [.dat kv.2 z,.dat .bool false]) s) (k (.dat kv.2 z) s)
   | _=>none
  | _=>none) none
def ZoI (E:Zcn) (s:S2) (t:TypeId) (x i y:V2) (k:K2 α):Option α:=
 (E.mt t).ob fun kv=>bc (ZjV kv.1&&Zuk kv.2) (match x,i,y with
  | .mp c,.dat j a,.dat j' b=>(Za7 j kv.1 a).ob fun key=>(Za7 j' kv.2 b).ob fun val=>match s.H.get c with
   | some (.map k' v' m)=>(Za7 (.list (.prod k' v')) (.list (.prod kv.1 kv.2)) m).ob fun m=>k (.tup []) (Zs8 s c (.map kv.1 kv.2 (ZfQ (ZaS kv.1) m key val)))
   | _=>none
  | _,_,_=>none) none
def op2 (E:Zcn) (o:Op) (s:S2) (k:K2 α):Option α:=
 match o with
 | .move x=>(ev2 s x).ob fun v=>k v s
 | .assign x=>(ev2 s x).ob fun v=>k v s
 | .pick c a b=>(ev2 s c).ob fun c=>match c with
  | .dat .bool b'=>bif b' then (ev2 s a).ob fun v=>k v s else (ev2 s b).ob fun v=>k v s
  | _=>none
 | .alloc t=>match E.ar t with
  | some p=>p.1.zden.ob fun z=>Zrj s (.arr p.1 (List.replicate p.2 z)) (.ar s.nx) k
  | none=>(E.ty t).ob fun u=>Zrj s (.box u.zc true) (.bx s.nx 0) k
 | .box t x=>(E.ty t).ob fun u=>(ev2 s x).ob fun v=>bc (v.fl.all V2.one) (Zrj s (.box v.fl true) (.bx s.nx 0) k) none
 | .build t ps=>(E.ty t).ob fun u=>match u with
  | .st u=>(Zwn s ps.toList).ob fun vs=>bc (vs.all fun p=>p.2.fl.all V2.one) ((ZoF (plc u) u.zc vs).ob fun l=>k (.agg l) s) none
  | _=>none
 | .buildSlice t n ps=>(E.ty t).ob fun u=>match u with
  | .list u=>(Zwn s ps.toList).ob fun vs=>bc (E.bt t&&!u.wt.isProd) ((ZGj u.wt vs s.H).ob fun q=>ZGk ⟨s.T,q.2,s.nx⟩ u n q.1 k) (bc (E.bt t) none (ZGk s u n vs k))
  | _=>none
 | .load t a=>(ev2 s a).ob fun p=>match p with
  | .el c i z off=>match s.H.get c with
   | some (.own2 w l h)=>Zrk E s t w l h c i z off k
   | some (.mix w l e)=>ZSz E s t w l e i z off k
   | _=>Zg9 E s t p k
  | _=>Zg9 E s t p k
 | .store t a x=>(ev2 s a).ob fun p=>(ev2 s x).ob fun v=>bc (E.sf t a x) ((E.ty t).ob fun u=>bc (!u.isProd) ((fzV 1000 u v s.H).ob fun q=>ZcZ E ⟨s.T,q.2,s.nx⟩ t p (.dat u q.1) k) none) (match p with
  | .el c i z off=>match s.H.get c with
   | some (.own2 w l h)=>ZjT E s t w l h c i z off v k
   | some (.own (.list w) l true)=>match v with
    | .sl d=>ZRF E s t w l c i z off d k
    | v=>ZcZ E s t p v k
   | _=>ZcZ E s t p v k
  | _=>ZcZ E s t p v k)
 | .nilCheck x=>(ev2 s x).ob fun v=>match v with
  | .bx ..=>k v s
  | .el ..=>k v s
  | .fpe ..=>k v s
  | .dat (.ptr _) _=>k v s
  | .dat (.optr t) x=>(show Option t.den from x).bind fun y=>k (.dat (.ptr t) y) s
  | .fn ..=>k v s
  | _=>none
 | .binOp op t x y _=>(ev2 s x).ob fun a=>(ev2 s y).ob fun b=>Z1V E s op t a b fun v=>k v s
 | .unOp op _ x=>(ev2 s x).ob fun a=>un2 op a fun v=>k v s
 | .convert a b x=>(ev2 s x).ob fun v=>Zrn E s a b v k
 | .makeFunc fn f c=>match fn with
  | .func g=>(ZoD s f.toList).ob fun f=>(ZoD s c.toList).ob fun c=>k (.fn g f c) s
  | _=>none
 | .makeMap t n=>bc n.isNone ((E.mt t).ob fun kv=>Zrj s (.map kv.1 kv.2 []) (.mp s.nx) k) none
 | .lookup t x i ok=>(ev2 s x).ob fun x=>(ev2 s i).ob fun i=>ZoH E s t x i ok k
 | .mapUpdate t m i x=>(ev2 s m).ob fun m=>(ev2 s i).ob fun i=>(ev2 s x).ob fun x=>ZoI E s t m i x k
 | .makeSlice t l c=>(ev2 s l).ob fun l=>(ev2 s c).ob fun c=>ZhI E s t l c k
 | .slice t x lo hi mx=>(ev2 s x).ob fun v=>ZsB E s t v lo hi mx k
 | .fieldAddr t x f=>(ev2 s x).ob fun p=>ZhG E s t f p k
 | .field t x f=>(ev2 s x).ob fun v=>Zs9 E s t f v k
 | .indexAddr t x i=>(ev2 s x).ob fun a=>(ev2 s i).ob fun i=>ZhH E s t a i k
 | .index t x i=>(ev2 s x).ob fun a=>(ev2 s i).ob fun i=>ZsA E s t a i k
 | .extract t i=>(ev2 s t).ob fun v=>match v with
  | .tup vs=>(vs[i]?).ob fun v=>k v s
  | _=>none
 | .call c=>match c.callee with
  | .builtin .len=>match c.args.toList with
   | [x]=>match c.argTypes.toList with
    | [t]=>(E.ty t).ob fun u=>(ev2 s x).ob fun v=>Zrl E s u v k
    | _=>none
   | _=>none
  | .builtin .append=>match c.args.toList with
   | [x,y]=>match c.argTypes.toList with
    | [t,u]=>(E.ty u).ob fun w=>bc (ZsE w) none ((ev2 s x).ob fun x=>(ev2 s y).ob fun y=>Zi4 E s t x y k)
    | _=>none
   | _=>none
  | .builtin .max=>(ZoD s c.args.toList).ob fun l=>match l with
   | .dat (.int j) x::r=>(ZzX x r).ob fun n=>k (.dat (.int j) n) s
   | _=>none
  | .builtin .min=>(ZoD s c.args.toList).ob fun l=>match l with
   | .dat (.int j) x::r=>(ZzY x r).ob fun n=>k (.dat (.int j) n) s
   | _=>none
  | .value f=>(ZoD s c.args.toList).ob fun args=>(ev2 s f).ob fun f=>match f with
   | .fn g first cap=>bc (E.pol g) (ZjU E s g (first++args++cap) k) (ZGE E s g (first++args++cap) k)
   | _=>none
  | _=>none
 | _=>none
end
end Go.Eng
end
