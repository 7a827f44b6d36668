/-
  The program's tables. Printed by program.
-/
import Derived.Test.YthbmchbhbpnojaaDoorE2Ann
import Derived.Test.YthbmchbhbpnojaaDoorRows
import Derived.KernelRfl
namespace Go.Proofs.YthbmchbhbpnojaaDoor
open Go.Eng
def tab1:AV:=.fp [.int .u8 0,.int .u8 1,.int .u8 28,.int .u8 2,.int .u8 29,.int .u8 14,.int .u8 24,.int .u8 3,.int .u8 30,.int .u8 22,.int .u8 20,.int .u8 15,.int .u8 25,.int .u8 17,.int .u8 4,.int .u8 8,.int .u8 31,.int .u8 27,.int .u8 13,.int .u8 23,.int .u8 21,.int .u8 19,.int .u8 16,.int .u8 7,.int .u8 26,.int .u8 12,.int .u8 18,.int .u8 6,.int .u8 11,.int .u8 5,.int .u8 10,.int .u8 9]
def tab2:AV:=.fp [.int .u8 0,.int .u8 1,.int .u8 56,.int .u8 2,.int .u8 57,.int .u8 49,.int .u8 28,.int .u8 3,.int .u8 61,.int .u8 58,.int .u8 42,.int .u8 50,.int .u8 38,.int .u8 29,.int .u8 17,.int .u8 4,.int .u8 62,.int .u8 47,.int .u8 59,.int .u8 36,.int .u8 45,.int .u8 43,.int .u8 51,.int .u8 22,.int .u8 53,.int .u8 39,.int .u8 33,.int .u8 30,.int .u8 24,.int .u8 18,.int .u8 12,.int .u8 5,.int .u8 63,.int .u8 55,.int .u8 48,.int .u8 27,.int .u8 60,.int .u8 41,.int .u8 37,.int .u8 16,.int .u8 46,.int .u8 35,.int .u8 44,.int .u8 21,.int .u8 52,.int .u8 32,.int .u8 23,.int .u8 11,.int .u8 54,.int .u8 26,.int .u8 40,.int .u8 15,.int .u8 34,.int .u8 20,.int .u8 31,.int .u8 10,.int .u8 25,.int .u8 14,.int .u8 19,.int .u8 9,.int .u8 13,.int .u8 8,.int .u8 7,.int .u8 6]
def tab0:AV:=.fp [.int .u64 1,.int .u64 10,.int .u64 100,.int .u64 1000,.int .u64 10000,.int .u64 100000,.int .u64 1000000,.int .u64 10000000,.int .u64 100000000,.int .u64 1000000000,.int .u64 10000000000,.int .u64 100000000000,.int .u64 1000000000000,.int .u64 10000000000000,.int .u64 100000000000000,.int .u64 1000000000000000,.int .u64 10000000000000000,.int .u64 100000000000000000,.int .u64 1000000000000000000,.int .u64 10000000000000000000]
noncomputable instance gl:Gl:=⟨fun g=>bif g.beq 0 then some tab0 else bif g.beq 1 then some tab1 else bif g.beq 2 then some tab2 else none⟩
def arT:List (TypeId×Ty×Nat):=[(132,(.int .i64),16),(148,(.int .u8),24),(154,(.int .u64),20)]
def stT:TypeId->Operand->Operand->Bool:=stL [(66,109,108)]
noncomputable instance mx:Mx:=⟨fun f args=>bif f.beq 26 then (match args with | []=>some (.bool true) | _=>none) else none,stT,fun t=>(arL arT t).isSome⟩
noncomputable abbrev P:Program:=Tryd.prog
def tyTab:List (TypeId×Ty):=[(2,(.int .i64)),(3,(.int .i64)),(4,.bool),(5,(.int .u8)),(9,.str),(22,(.list (.int .i64))),(23,(.list (.st (.prod (.int .i64) (.prod (.int .i64) (.list (.int .i64))))))),(24,(.list (.st (.prod (.int .i64) (.prod (.int .i64) (.prod (.int .i64) (.prod (.list (.int .i64)) (.list (.int .i64))))))))),(25,(.list (.st (.prod (.int .i64) (.st (.prod (.int .i64) (.int .i64))))))),(27,(.st (.prod (.list (.st (.prod (.int .i64) (.prod (.int .i64) (.list (.int .i64)))))) (.prod (.list (.st (.prod (.int .i64) (.prod (.int .i64) (.prod (.int .i64) (.prod (.list (.int .i64)) (.list (.int .i64)))))))) (.prod (.list (.st (.prod (.int .i64) (.st (.prod (.int .i64) (.int .i64)))))) (.prod (.int .i64) (.prod (.int .i64) (.prod (.int .i64) (.int .i64))))))))),(30,(.list (.st (.prod (.list (.st (.prod (.int .i64) (.prod (.int .i64) (.list (.int .i64)))))) (.prod (.list (.st (.prod (.int .i64) (.prod (.int .i64) (.prod (.int .i64) (.prod (.list (.int .i64)) (.list (.int .i64)))))))) (.prod (.list (.st (.prod (.int .i64) (.st (.prod (.int .i64) (.int .i64)))))) (.prod (.int .i64) (.prod (.int .i64) (.prod (.int .i64) (.int .i64)))))))))),(38,(.st (.prod .str (.prod (.int .i64) (.prod (.list (.st (.prod (.int .i64) (.prod (.int .i64) (.list (.int .i64)))))) (.prod (.int .i64) (.int .i64))))))),(47,(.list (.list (.int .i64)))),(58,(.st (.int .i64))),(60,(.list (.int .i64))),(62,(.st (.prod (.int .i64) (.prod (.int .i64) (.prod (.int .i64) (.prod (.list (.int .i64)) (.list (.int .i64)))))))),(66,(.st (.prod (.int .i64) (.prod (.int .i64) (.list (.int .i64)))))),(74,(.optr (.st (.prod (.st (.prod (.list (.st (.prod (.int .i64) (.prod (.int .i64) (.list (.int .i64)))))) (.prod (.list (.st (.prod (.int .i64) (.prod (.int .i64) (.prod (.int .i64) (.prod (.list (.int .i64)) (.list (.int .i64)))))))) (.prod (.list (.st (.prod (.int .i64) (.st (.prod (.int .i64) (.int .i64)))))) (.prod (.int .i64) (.prod (.int .i64) (.prod (.int .i64) (.int .i64)))))))) (.prod (.list (.int .i64)) (.prod (.list (.int .i64)) (.list (.list (.int .i64))))))))),(78,(.st (.prod (.st (.prod (.list (.st (.prod (.int .i64) (.prod (.int .i64) (.list (.int .i64)))))) (.prod (.list (.st (.prod (.int .i64) (.prod (.int .i64) (.prod (.int .i64) (.prod (.list (.int .i64)) (.list (.int .i64)))))))) (.prod (.list (.st (.prod (.int .i64) (.st (.prod (.int .i64) (.int .i64)))))) (.prod (.int .i64) (.prod (.int .i64) (.prod (.int .i64) (.int .i64)))))))) (.prod (.list (.int .i64)) (.prod (.list (.int .i64)) (.list (.list (.int .i64)))))))),(79,(.list (.st (.prod (.int .i64) (.int .i64))))),(80,(.st (.prod (.int .i64) (.int .i64)))),(84,(.st (.prod (.st (.prod (.list (.st (.prod (.int .i64) (.prod (.int .i64) (.list (.int .i64)))))) (.prod (.list (.st (.prod (.int .i64) (.prod (.int .i64) (.prod (.int .i64) (.prod (.list (.int .i64)) (.list (.int .i64)))))))) (.prod (.list (.st (.prod (.int .i64) (.st (.prod (.int .i64) (.int .i64)))))) (.prod (.int .i64) (.prod (.int .i64) (.prod (.int .i64) (.int .i64)))))))) (.prod (.list (.int .i64)) (.list (.list (.int .i64))))))),(90,(.list (.list .bool))),(92,(.list .bool)),(95,(.int .u64)),(98,(.st (.prod (.list (.int .i64)) (.prod (.list (.int .i64)) (.prod (.int .i64) .bool))))),(103,(.st (.prod (.list (.int .i64)) (.int .i64)))),(117,(.opq 0)),(123,(.list (.int .u8))),(127,(.list (.int .i64))),(133,(.list (.int .u32))),(135,(.int .u32)),(140,(.st (.prod (.st (.prod (.st (.prod (.list (.st (.prod (.int .i64) (.prod (.int .i64) (.list (.int .i64)))))) (.prod (.list (.st (.prod (.int .i64) (.prod (.int .i64) (.prod (.int .i64) (.prod (.list (.int .i64)) (.list (.int .i64)))))))) (.prod (.list (.st (.prod (.int .i64) (.st (.prod (.int .i64) (.int .i64)))))) (.prod (.int .i64) (.prod (.int .i64) (.prod (.int .i64) (.int .i64)))))))) (.prod (.list (.int .i64)) (.list (.list (.int .i64)))))) (.prod (.list (.int .i64)) (.prod (.list (.int .i64)) (.prod (.st (.prod .str (.prod (.int .i64) (.prod (.list (.st (.prod (.int .i64) (.prod (.int .i64) (.list (.int .i64)))))) (.prod (.int .i64) (.int .i64)))))) .bool)))))),(144,(.int .u64)),(176,(.st (.prod (.int .i64) (.int .i64)))),(178,(.st (.prod (.int .i64) (.st (.prod (.int .i64) (.int .i64))))))]
def strT:TypeId->Bool:=memN [27,38,58,62,66,78,84,98,103,140,176,178]
def pol:FuncId->Bool:=memN [3,4,5,6,7,8,9,10,11,12,13,14,15,16,17,18,19,20,21,22,23,24,25,26,27,28,29,30,32,33,34,35,36,37,38,39,40,41,42,43,44,45,46,47,48,49,51,52,53,54,55,56,57,58,59,60,61,63,64,66,67,68,69,72,73,74,75,76,78,79,80,81,82,83,84,85,86,88,89,90,95,97,99,101,103,104,106,107,108,109,110,111,112,115,116,117,118]
def o2T:TypeId->Bool:=memN [47]
def mtT:List (TypeId×Ty×Ty):=[(109,.str,.bool),(129,.str,(.int .i64)),(136,(.int .i64),(.int .i64)),(137,(.int .i64),.bool)]
def env (l:List (FuncId×FSp)) (m:List (FuncId×ISpec)):Env2:=⟨tyL tyTab,strT,pol,spL l,imL m,stT,o2T,mtL mtT,arL arT⟩
theorem tyOk (l:List (FuncId×FSp)) (m:List (FuncId×ISpec)):TyR P (env l m):=tyR_of rfl rfl rfl rfl rfl (fun _=>rfl) (by kernel_rfl) (by kernel_rfl) (by kernel_rfl)
theorem imN:∀ p∈([]:List (FuncId×ISpec)),ImOk pol P p.1 p.2:=fun p h=>by cases h
theorem imC {g:FuncId} {sp:ISpec} {l:List (FuncId×ISpec)} (h:ImOk pol P g sp) (t:∀ p∈l,ImOk pol P p.1 p.2):∀ p∈(g,sp)::l,ImOk pol P p.1 p.2:=fun p hp=>by
  rcases List.mem_cons.1 hp with rfl | h'
  · exact h
  · exact t p h'
theorem allN:∀ p∈([]:List (FuncId×FSp)),SpOk pol P p.1 p.2:=fun p h=>by cases h
theorem allC {g:FuncId} {sp:FSp} {l:List (FuncId×FSp)} (h:SpOk pol P g sp) (t:∀ p∈l,SpOk pol P p.1 p.2):∀ p∈(g,sp)::l,SpOk pol P p.1 p.2:=fun p hp=>by
  rcases List.mem_cons.1 hp with rfl | h'
  · exact h
  · exact t p h'
noncomputable def sp26:FSp:=⟨[],[.bool],fun _=>some true⟩
theorem s26:SpOk pol P 26 sp26:=fun x r h=>by cases h;rfl
theorem ino {g:FuncId} {sp:ISpec} (h1:sp.ok=true) (h2:sp.inSh.ok=true) (h3:sp.outSh.ok=true) (h:∀ x,sp.f x=none):ImOk pol P g sp:=⟨h1,h2,h3,fun F a fp us S x y R hul hy=>by rw [h x] at hy;cases hy⟩
theorem sOf {n np:Nat} {a:FA} {l:List (FuncId×FSp)} {m:List (FuncId×ISpec)} {sp:FSp} (hf:IsFA P pol (planOf pol) n np a) (hx:∀ args,Mx.x n args=none) (hok:a.c.ok=true) (hd:(sp.dom.all fun t=>!t.isProd)=true) (hn:sp.dom.length=np)
    (hl:∀ p∈l,SpOk pol P p.1 p.2) (hm:∀ p∈m,ImOk pol P p.1 p.2) (r:∀ x,fun2 (env l m) a sp.dom sp.cod x=sp.f x):SpOk pol P n sp:=fun x y h=>fun_ok hf hx (tyOk l m) (kOk rfl rfl rfl hl hm) hok hd hn ((r x).trans h)
theorem mOf {n np:Nat} {a:FA} {l:List (FuncId×FSp)} {m:List (FuncId×ISpec)} {sp:ISpec} (hf:IsFA P pol (planOf pol) n np a) (hpol:pol n=false) (hok:a.c.ok=true) (hs:sp.ok=true) (hin:sp.inSh.ok=true) (hout:sp.outSh.ok=true) (hn:sp.ins.length=np) (hr:a.rs.length=sp.outs.length)
    (ha:(sp.anc.all fun q=>!a.c.asg q.1)=true) (hl:∀ p∈l,SpOk pol P p.1 p.2) (hm:∀ p∈m,ImOk pol P p.1 p.2) (h:∀ x,ifun2 (env l m) a sp.ins sp.cks sp.outs sp.anc sp.couts x=sp.f x):ImOk pol P n sp:=ifun_ok hf hpol (tyOk l m) (kOk rfl rfl rfl hl hm) hok hs hin hout hn hr ha h
abbrev tI:Ty:=.int .i64
abbrev tL:Ty:=.list tI
abbrev tn:Ty:=.st (.prod tI (.prod tI tL))
abbrev ts:Ty:=.st (.prod tI (.prod tI (.prod tI (.prod tL tL))))
abbrev dI:SV:=.dat tI
abbrev dB:SV:=.dat .bool
abbrev p0:AN:=.s .o .o
abbrev p1:AN:=.s p0 .o
end Go.Proofs.YthbmchbhbpnojaaDoor
