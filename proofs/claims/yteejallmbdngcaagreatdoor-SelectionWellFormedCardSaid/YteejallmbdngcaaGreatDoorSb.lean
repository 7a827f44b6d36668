/-
  The program's tables. Printed by program.
-/
import Derived.Test.YteejallmbdngcaaGreatDoorE2Ann
import Derived.Test.YteejallmbdngcaaGreatDoorRows
import Derived.KernelRfl
set_option linter.unusedSimpArgs false
set_option linter.unusedVariables false
namespace Go.Proofs.YteejallmbdngcaaGreatDoor
open Go.Eng
def ZwE:AV:=.fp [.int .u8 0,.int .u8 1,.int .u8 28,.int .u8 2,.int .u8 29,.int .u8 14,.int .u8 24,.int .u8 3,.int .u8 30,.int .u8 22,.int .u8 20,.int .u8 15,.int .u8 25,.int .u8 17,.int .u8 4,.int .u8 8,.int .u8 31,.int .u8 27,.int .u8 13,.int .u8 23,.int .u8 21,.int .u8 19,.int .u8 16,.int .u8 7,.int .u8 26,.int .u8 12,.int .u8 18,.int .u8 6,.int .u8 11,.int .u8 5,.int .u8 10,.int .u8 9]
def ZvW:AV:=.fp [.int .u8 0,.int .u8 1,.int .u8 56,.int .u8 2,.int .u8 57,.int .u8 49,.int .u8 28,.int .u8 3,.int .u8 61,.int .u8 58,.int .u8 42,.int .u8 50,.int .u8 38,.int .u8 29,.int .u8 17,.int .u8 4,.int .u8 62,.int .u8 47,.int .u8 59,.int .u8 36,.int .u8 45,.int .u8 43,.int .u8 51,.int .u8 22,.int .u8 53,.int .u8 39,.int .u8 33,.int .u8 30,.int .u8 24,.int .u8 18,.int .u8 12,.int .u8 5,.int .u8 63,.int .u8 55,.int .u8 48,.int .u8 27,.int .u8 60,.int .u8 41,.int .u8 37,.int .u8 16,.int .u8 46,.int .u8 35,.int .u8 44,.int .u8 21,.int .u8 52,.int .u8 32,.int .u8 23,.int .u8 11,.int .u8 54,.int .u8 26,.int .u8 40,.int .u8 15,.int .u8 34,.int .u8 20,.int .u8 31,.int .u8 10,.int .u8 25,.int .u8 14,.int .u8 19,.int .u8 9,.int .u8 13,.int .u8 8,.int .u8 7,.int .u8 6]
def Z0e:AV:=.fp [.int .u64 1,.int .u64 10,.int .u64 100,.int .u64 1000,.int .u64 10000,.int .u64 100000,.int .u64 1000000,.int .u64 10000000,.int .u64 100000000,.int .u64 1000000000,.int .u64 10000000000,.int .u64 100000000000,.int .u64 1000000000000,.int .u64 10000000000000,.int .u64 100000000000000,.int .u64 1000000000000000,.int .u64 10000000000000000,.int .u64 100000000000000000,.int .u64 1000000000000000000,.int .u64 10000000000000000000]
noncomputable instance gl:Gl:=⟨fun g=>bif g.beq 0 then some Z0e else bif g.beq 1 then some ZwE else bif g.beq 2 then some ZvW else none⟩
def arT:List (TypeId×Ty×Nat):=[(46,(.int .i64),16),(161,(.int .u8),24),(167,(.int .u64),20)]
def stT:TypeId->Operand->Operand->Bool:=stL [(48,109,108),(72,41,39),(72,53,51),(75,47,45),(75,59,57)]
def btT:TypeId->Bool:=Z0a [39,73]
def lnT:FuncId->Bool:=Z0a []
def fzT:List (FuncId×List (Option Ty)):=[(33,[some ((.st (.prod (.int .i64) (.prod (.int .i64) (.list (.int .i64))))))])]
noncomputable instance mx:Mx:=⟨fun f args=>bif f.beq 9 then (match args with | []=>some (.bool true) | _=>none) else none,stT,fun t=>(arL arT t).isSome,btT,fun g=>(ZGe fzT g).map fun m i=>(m i).isSome,lnT⟩
noncomputable abbrev P:Program:=Tryz.prog
def Z0N:List (TypeId×Ty):=[(2,(.int .i64)),(3,(.int .i64)),(4,.bool),(5,(.int .u8)),(9,.str),(22,(.list (.int .i64))),(23,(.list (.st (.prod .str (.int .i64))))),(24,(.list (.st (.prod .str (.prod (.int .i64) (.prod (.list (.st (.prod (.int .i64) (.prod (.int .i64) (.list (.int .i64)))))) (.prod (.int .i64) (.int .i64)))))))),(26,(.st (.prod (.list (.st (.prod .str (.int .i64)))) (.list (.st (.prod .str (.prod (.int .i64) (.prod (.list (.st (.prod (.int .i64) (.prod (.int .i64) (.list (.int .i64)))))) (.prod (.int .i64) (.int .i64)))))))))),(28,(.list (.st (.prod (.int .i64) (.prod (.int .i64) (.list (.int .i64))))))),(30,(.st (.prod .str (.prod (.int .i64) (.prod (.list (.st (.prod (.int .i64) (.prod (.int .i64) (.list (.int .i64)))))) (.prod (.int .i64) (.int .i64))))))),(36,(.int .i64)),(39,(.list (.st (.prod .str (.prod (.list .str) (.prod (.list .str) (.prod (.list (.tree .stm)) (.st (.prod (.int .i64) (.prod (.int .i64) (.prod .str (.prod (.int .i64) (.list (.tree .exp)))))))))))))),(41,(.st (.prod (.list (.st (.prod .str (.int .i64)))) (.list (.st (.prod .str (.prod (.list .str) (.prod (.list .str) (.prod (.list (.tree .stm)) (.st (.prod (.int .i64) (.prod (.int .i64) (.prod .str (.prod (.int .i64) (.list (.tree .exp)))))))))))))))),(48,(.st (.prod (.int .i64) (.prod (.int .i64) (.list (.int .i64)))))),(49,(.list (.int .u32))),(51,(.int .u32)),(55,(.list (.list .bool))),(57,(.list .bool)),(58,(.list (.st (.prod (.int .i64) (.prod (.int .i64) (.prod (.int .i64) (.prod (.list (.int .i64)) (.list (.int .i64))))))))),(59,(.list (.st (.prod (.int .i64) (.st (.prod (.int .i64) (.int .i64))))))),(61,(.st (.prod (.list (.st (.prod (.int .i64) (.prod (.int .i64) (.list (.int .i64)))))) (.prod (.list (.st (.prod (.int .i64) (.prod (.int .i64) (.prod (.int .i64) (.prod (.list (.int .i64)) (.list (.int .i64)))))))) (.prod (.list (.st (.prod (.int .i64) (.st (.prod (.int .i64) (.int .i64)))))) (.prod (.int .i64) (.prod (.int .i64) (.prod (.int .i64) (.int .i64))))))))),(71,(.list .str)),(72,(.list (.tree .stm))),(73,(.list (.tree .exp))),(75,(.st (.prod (.int .i64) (.prod (.int .i64) (.prod .str (.prod (.int .i64) (.list (.tree .exp)))))))),(77,(.st (.prod .str (.prod (.list .str) (.prod (.list .str) (.prod (.list (.tree .stm)) (.st (.prod (.int .i64) (.prod (.int .i64) (.prod .str (.prod (.int .i64) (.list (.tree .exp))))))))))))),(80,(.st (.prod (.st (.prod (.list (.st (.prod .str (.int .i64)))) (.list (.st (.prod .str (.prod (.list .str) (.prod (.list .str) (.prod (.list (.tree .stm)) (.st (.prod (.int .i64) (.prod (.int .i64) (.prod .str (.prod (.int .i64) (.list (.tree .exp))))))))))))))) (.prod (.list (.st (.prod (.int .i64) (.prod (.int .i64) (.list (.int .i64)))))) (.prod (.list .str) (.prod (.list (.int .i64)) (.prod (.int .i64) (.int .i64)))))))),(86,(.st (.prod (.list (.int .i64)) (.int .i64)))),(89,(.st (.prod .str (.int .i64)))),(95,(.int .u64)),(98,(.list (.int .i64))),(100,(.st (.prod (.int .i64) (.prod (.int .i64) (.prod (.int .i64) (.prod (.list (.int .i64)) (.list (.int .i64)))))))),(101,(.optr (.st (.prod (.st (.prod (.list (.st (.prod (.int .i64) (.prod (.int .i64) (.list (.int .i64)))))) (.prod (.list (.st (.prod (.int .i64) (.prod (.int .i64) (.prod (.int .i64) (.prod (.list (.int .i64)) (.list (.int .i64)))))))) (.prod (.list (.st (.prod (.int .i64) (.st (.prod (.int .i64) (.int .i64)))))) (.prod (.int .i64) (.prod (.int .i64) (.prod (.int .i64) (.int .i64)))))))) (.prod (.list (.int .i64)) (.prod (.list (.int .i64)) (.list (.list (.int .i64))))))))),(106,(.list (.list (.int .i64)))),(108,(.st (.prod (.st (.prod (.list (.st (.prod (.int .i64) (.prod (.int .i64) (.list (.int .i64)))))) (.prod (.list (.st (.prod (.int .i64) (.prod (.int .i64) (.prod (.int .i64) (.prod (.list (.int .i64)) (.list (.int .i64)))))))) (.prod (.list (.st (.prod (.int .i64) (.st (.prod (.int .i64) (.int .i64)))))) (.prod (.int .i64) (.prod (.int .i64) (.prod (.int .i64) (.int .i64)))))))) (.prod (.list (.int .i64)) (.prod (.list (.int .i64)) (.list (.list (.int .i64)))))))),(112,(.st (.prod (.list .str) (.prod (.list .str) (.st (.prod (.list (.st (.prod .str (.int .i64)))) (.list (.st (.prod .str (.prod (.list .str) (.prod (.list .str) (.prod (.list (.tree .stm)) (.st (.prod (.int .i64) (.prod (.int .i64) (.prod .str (.prod (.int .i64) (.list (.tree .exp))))))))))))))))))),(117,(.st (.prod (.int .i64) (.prod .str (.prod .str (.prod (.int .i64) (.prod (.st (.prod (.int .i64) (.prod (.int .i64) (.prod .str (.prod (.int .i64) (.list (.tree .exp))))))) (.prod (.st (.prod (.int .i64) (.prod (.int .i64) (.prod .str (.prod (.int .i64) (.list (.tree .exp))))))) (.prod (.list (.tree .exp)) (.prod (.list (.tree .stm)) (.list (.tree .stm)))))))))))),(124,(.list (.int .u8))),(128,(.list (.st (.prod (.int .i64) (.int .i64))))),(129,(.st (.prod (.int .i64) (.int .i64)))),(145,(.list (.int .i64))),(150,(.opq 0)),(155,(.int .u64)),(188,(.st (.prod (.int .i64) (.int .i64)))),(190,(.st (.prod (.int .i64) (.st (.prod (.int .i64) (.int .i64))))))]
def Z2x:TypeId->Bool:=Z0a [26,30,41,48,61,75,77,80,86,89,100,108,112,117,188,190]
def pol:FuncId->Bool:=Z0a [3,4,5,6,7,8,9,10,11,12,13,14,15,16,17,18,19,20,21,22,23,24,25,32,34,35,36,37,38,39,40,41,42,43,44,45,52,53,54,56,57,58,60,61,62,63,64,65,66,67,68,69,70,72,74,75,76,77,81,83,84,85,86,88,89,91,93,94,95,96,97,98,99,100,101,102,103,106,107,108,109]
def o2T:TypeId->Bool:=Z0a [106]
def mtT:List (TypeId×Ty×Ty):=[(92,.str,.bool),(147,.str,(.int .i64))]
def pnT:FuncId->List Nat:=pnL [(26,[0,1,3,4,5,6]),(47,[0,1,2,4,5,6]),(48,[1,2,3,4,5,6]),(50,[0,1,3,4,5,6])]
def env (l:List (FuncId×FSp)) (m:List (FuncId×Zbc)):Zcn:=⟨tyL Z0N,Z2x,pol,spL l,imL m,stT,o2T,mtL mtT,arL arT,btT,ZGe fzT,lnT,pnT⟩
theorem Z1Z (l:List (FuncId×FSp)) (m:List (FuncId×Zbc)):TyR P (env l m):=ZwB rfl rfl rfl rfl rfl (fun _=>rfl) rfl (fun _=>rfl) (ZF0 (by kernel_rfl)) (by kernel_rfl) (by kernel_rfl) (by kernel_rfl)
theorem imN:∀ p∈([]:List (FuncId×Zbc)),ZdA pol P p.1 p.2:=fun p h=>by cases h
theorem imC {g:FuncId} {sp:Zbc} {l:List (FuncId×Zbc)} (h:ZdA pol P g sp) (t:∀ p∈l,ZdA pol P p.1 p.2):∀ p∈(g,sp)::l,ZdA pol P p.1 p.2:=fun p hp=>by
  rcases List.mem_cons.1 hp with rfl | h'
  · exact h
  · exact t p h'
theorem Zbf:∀ p∈([]:List (FuncId×FSp)),Zbk pol P p.1 p.2:=fun p h=>by cases h
theorem ZaM {g:FuncId} {sp:FSp} {l:List (FuncId×FSp)} (h:Zbk pol P g sp) (t:∀ p∈l,Zbk pol P p.1 p.2):∀ p∈(g,sp)::l,Zbk pol P p.1 p.2:=fun p hp=>by
  rcases List.mem_cons.1 hp with rfl | h'
  · exact h
  · exact t p h'
noncomputable def sp9:FSp:=⟨[],[.bool],fun _=>some true⟩
theorem s9:Zbk pol P 9 sp9:=fun x r h=>by cases h;rfl
theorem ino {g:FuncId} {sp:Zbc} (h1:sp.ok=true) (h2:sp.inSh.ok=true) (h3:sp.outSh.ok=true) (h:∀ x,sp.f x=none):ZdA pol P g sp:=⟨h1,h2,h3,fun F a fp us S x y R hul hy=>by rw [h x] at hy;cases hy⟩
theorem sOf {n np:Nat} {a:FA} {l:List (FuncId×FSp)} {m:List (FuncId×Zbc)} {sp:FSp} (hf:ZqA P pol (Zaf pol) n np a) (hx:∀ args,Mx.x n args=none) (hok:a.c.ok=true) (hd:(sp.dom.all fun t=>!t.isProd)=true) (hn:sp.dom.length=np)
    (hl:∀ p∈l,Zbk pol P p.1 p.2) (hm:∀ p∈m,ZdA pol P p.1 p.2) (r:∀ x,Z0G (env l m) a sp.dom sp.cod x=sp.f x):Zbk pol P n sp:=fun x y h=>ZwD hf hx (Z1Z l m) (kOk rfl rfl rfl rfl hl hm) hok hd hn ((r x).trans h)
theorem mOf {n np:Nat} {a:FA} {l:List (FuncId×FSp)} {m:List (FuncId×Zbc)} {sp:Zbc} (hf:ZqA P pol (Zaf pol) n np a) (hpol:pol n=false) (hok:a.c.ok=true) (hs:sp.ok=true) (hin:sp.inSh.ok=true) (hout:sp.outSh.ok=true) (hn:sp.ins.length=np) (hr:a.rs.length=sp.outs.length)
    (ha:(sp.anc.all fun q=>!a.c.asg q.1)=true) (hl:∀ p∈l,Zbk pol P p.1 p.2) (hm:∀ p∈m,ZdA pol P p.1 p.2) (h:∀ x,Zwr (env l m) a sp.ins sp.cks sp.outs sp.anc sp.couts x=sp.f x):ZdA pol P n sp:=Zu1 hf hpol (Z1Z l m) (kOk rfl rfl rfl rfl hl hm) hok hs hin hout hn hr ha h
theorem sO {n np:Nat} {a:FA} {l:List (FuncId×FSp)} {m:List (FuncId×Zbc)} {sp:FSp} {fn:_} {c:_} (h:P.funcs[n]?=some fn) (hl:∀ p∈l,Zbk pol P p.1 p.2) (hm:∀ p∈m,ZdA pol P p.1 p.2)
    (hn:sp.dom.length=np:=by exact rfl) (b1:fn.body=some c:=by exact rfl) (b2:fn.ntmps=a.nt:=by exact rfl) (b3:fn.results.toList=a.rs:=by exact rfl) (b4:Znu (Zaf pol) c=some a.c.er:=by kernel_rfl) (b5:np<=a.nt:=by decide)
    (hx:∀ args,Mx.x n args=none:=by exact fun _=>rfl) (hok:a.c.ok=true:=by kernel_rfl) (hd:(sp.dom.all fun t=>!t.isProd)=true:=by exact rfl) (r:∀ x,Z0G (env l m) a sp.dom sp.cod x=sp.f x:=by intro x;kernel_rfl):Zbk pol P n sp:=sOf ⟨⟨fn,c,h,b1,b2,b3,b4⟩,b5⟩ hx hok hd hn hl hm r
theorem mO {n np:Nat} {a:FA} {l:List (FuncId×FSp)} {m:List (FuncId×Zbc)} {sp:Zbc} {fn:_} {c:_} (h:P.funcs[n]?=some fn) (hl:∀ p∈l,Zbk pol P p.1 p.2) (hm:∀ p∈m,ZdA pol P p.1 p.2)
    (hn:sp.ins.length=np:=by exact rfl) (b1:fn.body=some c:=by exact rfl) (b2:fn.ntmps=a.nt:=by exact rfl) (b3:fn.results.toList=a.rs:=by exact rfl) (b4:Znu (Zaf pol) c=some a.c.er:=by kernel_rfl) (b5:np<=a.nt:=by decide)
    (hpol:pol n=false:=by exact rfl) (hok:a.c.ok=true:=by kernel_rfl) (hs:sp.ok=true:=by kernel_rfl) (hin:sp.inSh.ok=true:=by kernel_rfl) (hout:sp.outSh.ok=true:=by kernel_rfl) (hr:a.rs.length=sp.outs.length:=by exact rfl) (ha:(sp.anc.all fun q=>!a.c.asg q.1)=true:=by kernel_rfl)
    (r:∀ x,Zwr (env l m) a sp.ins sp.cks sp.outs sp.anc sp.couts x=sp.f x:=by intro x;kernel_rfl):ZdA pol P n sp:=mOf ⟨⟨fn,c,h,b1,b2,b3,b4⟩,b5⟩ hpol hok hs hin hout hn hr ha hl hm r
abbrev tI:Ty:=.int .i64
abbrev tL:Ty:=.list tI
abbrev tn:Ty:=.st (.prod tI (.prod tI tL))
abbrev ts:Ty:=.st (.prod tI (.prod tI (.prod tI (.prod tL tL))))
abbrev dI:SV:=.dat tI
abbrev dB:SV:=.dat .bool
abbrev p0:AN:=.s .o .o
abbrev p1:AN:=.s p0 .o
end Go.Proofs.YteejallmbdngcaaGreatDoor
