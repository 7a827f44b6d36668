import Derived.Test.YtipafbfdjfbkbaaGreatDoorE2Ann
import Derived.Test.YtipafbfdjfbkbaaGreatDoorRows
import Derived.KernelRfl
noncomputable section
set_option linter.unusedSimpArgs false
set_option linter.unusedVariables false
namespace Go.Proofs.YtipafbfdjfbkbaaGreatDoor
open Go.Eng
def ZvW:AV:=.fp [.int .u8 0,.int .u8 1,.int .u8 28,.int .u8 2,.int .u8 29,.int .u8 14,.int .u8 24,.int .u8 3,.int .u8 30,.int .u8 22,.int .u8 20,.int .u8 15,.int .u8 25,.int .u8 17,.int .u8 4,.int .u8 8,.int .u8 31,.int .u8 27,.int .u8 13,.int .u8 23,.int .u8 21,.int .u8 19,.int .u8 16,.int .u8 7,.int .u8 26,.int .u8 12,.int .u8 18,.int .u8 6,.int .u8 11,.int .u8 5,.int .u8 10,.int .u8 9]
def ZNy:AV:=.fp [.int .u8 0,.int .u8 1,.int .u8 56,.int .u8 2,.int .u8 57,.int .u8 49,.int .u8 28,.int .u8 3,.int .u8 61,.int .u8 58,.int .u8 42,.int .u8 50,.int .u8 38,.int .u8 29,.int .u8 17,.int .u8 4,.int .u8 62,.int .u8 47,.int .u8 59,.int .u8 36,.int .u8 45,.int .u8 43,.int .u8 51,.int .u8 22,.int .u8 53,.int .u8 39,.int .u8 33,.int .u8 30,.int .u8 24,.int .u8 18,.int .u8 12,.int .u8 5,.int .u8 63,.int .u8 55,.int .u8 48,.int .u8 27,.int .u8 60,.int .u8 41,.int .u8 37,.int .u8 16,.int .u8 46,.int .u8 35,.int .u8 44,.int .u8 21,.int .u8 52,.int .u8 32,.int .u8 23,.int .u8 11,.int .u8 54,.int .u8 26,.int .u8 40,.int .u8 15,.int .u8 34,.int .u8 20,.int .u8 31,.int .u8 10,.int .u8 25,.int .u8 14,.int .u8 19,.int .u8 9,.int .u8 13,.int .u8 8,.int .u8 7,.int .u8 6]
def ZwE:AV:=.fp [.int .u64 1,.int .u64 10,.int .u64 100,.int .u64 1000,.int .u64 10000,.int .u64 100000,.int .u64 1000000,.int .u64 10000000,.int .u64 100000000,.int .u64 1000000000,.int .u64 10000000000,.int .u64 100000000000,.int .u64 1000000000000,.int .u64 10000000000000,.int .u64 100000000000000,.int .u64 1000000000000000,.int .u64 10000000000000000,.int .u64 100000000000000000,.int .u64 1000000000000000000,.int .u64 10000000000000000000]
def Z0e:AV:=.fp [.fs [.str ⟨#[110,111,112]⟩,.int .i64 1,.bool false,.bool false,.bool false,.bool false,.int .i64 1,.str ⟨#[114,101,116]⟩,.int .i64 1,.bool false,.bool false,.bool false,.bool false,.int .i64 1,.str ⟨#[116,105,99,107]⟩,.int .i64 1,.bool false,.bool false,.bool false,.bool false,.int .i64 1,.str ⟨#[116,114,97,112]⟩,.int .i64 8,.bool false,.bool false,.bool false,.bool true,.int .i64 1,.str ⟨#[106,109,112]⟩,.int .i64 8,.bool false,.bool false,.bool false,.bool false,.int .i64 1,.str ⟨#[99,97,108,108]⟩,.int .i64 5,.bool false,.bool false,.bool false,.bool false,.int .i64 1,.str ⟨#[106,122]⟩,.int .i64 5,.bool true,.bool false,.bool false,.bool false,.int .i64 1,.str ⟨#[106,110,122]⟩,.int .i64 5,.bool true,.bool false,.bool false,.bool false,.int .i64 1,.str ⟨#[111,117,116]⟩,.int .i64 2,.bool true,.bool false,.bool false,.bool false,.int .i64 1,.str ⟨#[109,111,118]⟩,.int .i64 3,.bool false,.bool true,.bool true,.bool false,.int .i64 1,.str ⟨#[99,109,111,118,122]⟩,.int .i64 4,.bool true,.bool true,.bool true,.bool false,.int .i64 1,.str ⟨#[99,109,111,118,110,122]⟩,.int .i64 4,.bool true,.bool true,.bool true,.bool false,.int .i64 1,.str ⟨#[108,100,105]⟩,.int .i64 5,.bool false,.bool true,.bool false,.bool false,.int .i64 1,.str ⟨#[108,100,99]⟩,.int .i64 6,.bool false,.bool true,.bool false,.bool false,.int .i64 3,.str ⟨#[110,101,103]⟩,.int .i64 2,.bool true,.bool true,.bool false,.bool false,.int .i64 1,.str ⟨#[110,111,116]⟩,.int .i64 2,.bool true,.bool true,.bool false,.bool false,.int .i64 1,.str ⟨#[97,100,100]⟩,.int .i64 3,.bool true,.bool true,.bool true,.bool false,.int .i64 1,.str ⟨#[115,117,98]⟩,.int .i64 3,.bool true,.bool true,.bool true,.bool false,.int .i64 1,.str ⟨#[109,117,108]⟩,.int .i64 3,.bool true,.bool true,.bool true,.bool false,.int .i64 1,.str ⟨#[100,105,118]⟩,.int .i64 3,.bool true,.bool true,.bool true,.bool true,.int .i64 1,.str ⟨#[114,101,109]⟩,.int .i64 3,.bool true,.bool true,.bool true,.bool true,.int .i64 1,.str ⟨#[97,110,100]⟩,.int .i64 3,.bool true,.bool true,.bool true,.bool false,.int .i64 1,.str ⟨#[111,114]⟩,.int .i64 3,.bool true,.bool true,.bool true,.bool false,.int .i64 1,.str ⟨#[120,111,114]⟩,.int .i64 3,.bool true,.bool true,.bool true,.bool false,.int .i64 1,.str ⟨#[115,104,108]⟩,.int .i64 3,.bool true,.bool true,.bool true,.bool false,.int .i64 1,.str ⟨#[115,104,114]⟩,.int .i64 3,.bool true,.bool true,.bool true,.bool false,.int .i64 1,.str ⟨#[115,97,114]⟩,.int .i64 3,.bool true,.bool true,.bool true,.bool false,.int .i64 1,.str ⟨#[101,113]⟩,.int .i64 3,.bool true,.bool true,.bool true,.bool false,.int .i64 1,.str ⟨#[110,101]⟩,.int .i64 3,.bool true,.bool true,.bool true,.bool false,.int .i64 1,.str ⟨#[108,116]⟩,.int .i64 3,.bool true,.bool true,.bool true,.bool false,.int .i64 1,.str ⟨#[108,101]⟩,.int .i64 3,.bool true,.bool true,.bool true,.bool false,.int .i64 1,.str ⟨#[108,116,117]⟩,.int .i64 3,.bool true,.bool true,.bool true,.bool false,.int .i64 1,.str ⟨#[97,100,100,105]⟩,.int .i64 5,.bool true,.bool true,.bool false,.bool false,.int .i64 1,.str ⟨#[108,100]⟩,.int .i64 7,.bool false,.bool true,.bool true,.bool true,.int .i64 1,.str ⟨#[115,116]⟩,.int .i64 7,.bool true,.bool false,.bool true,.bool true,.int .i64 1,.str ⟨#[108,100,115]⟩,.int .i64 5,.bool false,.bool true,.bool false,.bool false,.int .i64 1,.str ⟨#[115,116,115]⟩,.int .i64 5,.bool true,.bool false,.bool false,.bool false,.int .i64 1] 37]
instance gl:Gl:=⟨fun g=>bif g.beq 0 then some Z0e else bif g.beq 1 then some ZwE else bif g.beq 2 then some ZvW else bif g.beq 3 then some ZNy else none⟩
def arT:List (TypeId×Ty×Nat):=[(163,(.int .i64),16),(199,(.int .u8),24),(206,(.int .u64),20)]
def stT:TypeId->Operand->Operand->Bool:=stL [(63,23,22)]
def btT:TypeId->Bool:=Z0a []
def lnT:FuncId->Bool:=Z0a []
def fzT:List (FuncId×List (Option Ty)):=[(107,[some ((.st (.prod (.int .i64) (.prod (.int .i64) (.list (.int .i64))))))])]
instance mx:Mx:=⟨fun f args=>bif f.beq 10 then (match args with | []=>some (.bool true) | _=>none) else none,stT,fun t=>(arL arT t).isSome,btT,fun g=>(ZGe fzT g).map fun m i=>(m i).isSome,lnT⟩
abbrev P:Program:=Tryz.prog
abbrev tI:Ty:=.int .i64
abbrev tL:Ty:=.list tI
abbrev tn:Ty:=.st (.prod tI (.prod tI tL))
abbrev ts:Ty:=.st (.prod tI (.prod tI (.prod tI (.prod tL tL))))
abbrev tA:Ty:=.st (.prod .str (.prod tI (.prod (.list tn) (.prod tI tI))))
abbrev tB:Ty:=.st (.prod (.list tL) (.prod tL (.prod tI (.prod tI (.prod tI tI)))))
abbrev tC:Ty:=.list (.st (.prod .str tI))
abbrev tD:Ty:=.list (.tree .res)
abbrev tE:Ty:=.list tn
abbrev tF:Ty:=.list (.list .bool)
abbrev tG:Ty:=.list tA
abbrev tH:Ty:=.st (.prod tI (.prod tI (.prod tL tI)))
abbrev tJ:Ty:=.st (.prod .str (.prod tI (.prod .bool (.prod .bool (.prod .bool (.prod .bool tI))))))
abbrev tK:Ty:=.list .bool
abbrev tM:Ty:=.st (.prod tC tG)
abbrev tN:Ty:=.st (.prod tE (.prod (.opq 1) tL))
abbrev tO:Ty:=.st (.prod (.list (.int .u32)) (.prod tL (.prod tL (.prod tL tL))))
abbrev tP:Ty:=.st (.prod .bool tI)
abbrev tQ:Ty:=.st (.prod tI (.prod tI (.prod tI (.prod tI tI))))
abbrev tR:Ty:=.st (.prod tI (.prod tI (.list tP)))
abbrev tS:Ty:=.list tL
def Z0N:List (TypeId×Ty):=[(2,tI),(3,tI),(4,.bool),(5,(.int .u8)),(9,.str),(22,tL),(23,tE),(27,tA),(30,(.st (.prod .str tI))),(31,tC),(32,tL),(36,tH),(38,tG),(40,tM),(48,tn),(49,(.ptr tN)),(56,tS),(58,tB),(61,tD),(63,(.st (.prod tI (.prod tB tD)))),(65,tF),(66,tK),(67,(.list tD)),(69,(.st (.prod tM (.prod tA (.prod tF (.prod tL (.prod tB (.prod tK (.prod tD (.list tD)))))))))),(70,(.list (.int .u32))),(71,tI),(75,tQ),(76,(.list tQ)),(80,tO),(84,(.st (.prod tL tI))),(92,(.opq 1)),(94,tN),(98,(.opq 0)),(103,(.int .u64)),(107,(.int .u32)),(108,(.int .u64)),(109,(.list tR)),(110,(.list (.st (.prod tI tI)))),(112,(.ptr (.st (.prod (.ptr tN) (.prod tO (.prod (.opq 1) (.opq 1))))))),(117,(.list tP)),(119,tR),(122,(.st (.prod tI tI))),(123,(.ptr (.st (.prod tL (.prod tI (.opq 1)))))),(132,(.list (.int .u8))),(169,(.list .str)),(178,tJ),(194,tP),(195,(.list tJ))]
def Z2x:TypeId->Bool:=Z0a [27,30,36,40,48,58,63,69,75,80,84,94,119,122,178,194]
def pol:FuncId->Bool:=Z0a [3,4,5,6,7,8,9,10,11,12,13,14,15,19,20,23,24,25,26,27,28,30,31,32,33,39,40,41,43,44,45,46,47,48,49,50,51,57,58,59,60,61,64,65,66,67,68,69,70,71,72,73,74,75,76,77,78,79,80,81,82,83,84,85,87,88,89,90,92,93,94,95,96,97,98,99,100,101,102,103,104,105,106,108,109,110,111,112,113,114,116,117,118,119,120,121,125,126,127,128]
def o2T:TypeId->Bool:=Z0a []
def mtT:List (TypeId×Ty×Ty):=[(92,.str,(.int .i64)),(185,.str,.bool)]
def pnT:FuncId->List Nat:=pnL []
def env (l:List (FuncId×FSp)) (m:List (FuncId×Zbc)):Zcn:=⟨tyL Z0N,Z2x,pol,spL l,imL m,stT,o2T,mtL mtT,arL arT,btT,ZGe fzT,lnT,pnT⟩
theorem Z1Z (l:List (FuncId×FSp)) (m:List (FuncId×Zbc)):TyR P (env l m):=ZwB rfl rfl rfl rfl rfl (fun _=>rfl) rfl (fun _=>rfl) (ZF0 (by kernel_rfl)) (by kernel_rfl) (by kernel_rfl) (by kernel_rfl)
theorem imN:∀ p∈([]:List (FuncId×Zbc)),ZdA pol P p.1 p.2:=fun p h=>by cases h
theorem imC {g:FuncId} {sp:Zbc} {l:List (FuncId×Zbc)} (h:ZdA pol P g sp) (t:∀ p∈l,ZdA pol P p.1 p.2):∀ p∈(g,sp)::l,ZdA pol P p.1 p.2:=fun p hp=>by
  rcases List.mem_cons.1 hp with rfl | h'
  · exact h
  · exact t p h'
theorem Zbf:∀ p∈([]:List (FuncId×FSp)),Zbk pol P p.1 p.2:=fun p h=>by cases h
theorem ZaM {g:FuncId} {sp:FSp} {l:List (FuncId×FSp)} (h:Zbk pol P g sp) (t:∀ p∈l,Zbk pol P p.1 p.2):∀ p∈(g,sp)::l,Zbk pol P p.1 p.2:=fun p hp=>by
  rcases List.mem_cons.1 hp with rfl | h'
  · exact h
  · exact t p h'
def ZBY:FSp:=⟨[],[.bool],fun _=>some true⟩
theorem s10:Zbk pol P 10 ZBY:=fun x r h=>by cases h;rfl
theorem ino {g:FuncId} {sp:Zbc} (h1:sp.ok=true) (h2:sp.inSh.ok=true) (h3:sp.outSh.ok=true) (h:∀ x,sp.f x=none):ZdA pol P g sp:=⟨h1,h2,h3,fun F a fp us S x y R hul hy=>by rw [h x] at hy;cases hy⟩
theorem sOf {n np:Nat} {a:FA} {l:List (FuncId×FSp)} {m:List (FuncId×Zbc)} {sp:FSp} (hf:ZqA P pol (Zaf pol) n np a) (hx:∀ args,Mx.x n args=none) (hok:a.c.ok=true) (hd:(sp.dom.all fun t=>!t.isProd)=true) (hn:sp.dom.length=np)
    (hl:∀ p∈l,Zbk pol P p.1 p.2) (hm:∀ p∈m,ZdA pol P p.1 p.2) (r:∀ x,Z0G (env l m) a sp.dom sp.cod x=sp.f x):Zbk pol P n sp:=fun x y h=>ZwD hf hx (Z1Z l m) (kOk rfl rfl rfl rfl hl hm) hok hd hn ((r x).trans h)
theorem mOf {n np:Nat} {a:FA} {l:List (FuncId×FSp)} {m:List (FuncId×Zbc)} {sp:Zbc} (hf:ZqA P pol (Zaf pol) n np a) (hpol:pol n=false) (hok:a.c.ok=true) (hs:sp.ok=true) (hin:sp.inSh.ok=true) (hout:sp.outSh.ok=true) (hn:sp.ins.length=np) (hr:a.rs.length=sp.outs.length)
    (ha:(sp.anc.all fun q=>!a.c.asg q.1)=true) (hl:∀ p∈l,Zbk pol P p.1 p.2) (hm:∀ p∈m,ZdA pol P p.1 p.2) (h:∀ x,Zwr (env l m) a sp.ins sp.cks sp.outs sp.anc sp.couts x=sp.f x):ZdA pol P n sp:=Zu1 hf hpol (Z1Z l m) (kOk rfl rfl rfl rfl hl hm) hok hs hin hout hn hr ha h
theorem sO {n np:Nat} {a:FA} {l:List (FuncId×FSp)} {m:List (FuncId×Zbc)} {sp:FSp} {fn:_} {c:_} (h:P.funcs[n]?=some fn) (hl:∀ p∈l,Zbk pol P p.1 p.2) (hm:∀ p∈m,ZdA pol P p.1 p.2)
    (hn:sp.dom.length=np:=by exact rfl) (b1:fn.body=some c:=by exact rfl) (b2:fn.ntmps=a.nt:=by exact rfl) (b3:fn.results.toList=a.rs:=by exact rfl) (b4:Znu (Zaf pol) c=some a.c.er:=by kernel_rfl) (b5:np<=a.nt:=by decide)
    (hx:∀ args,Mx.x n args=none:=by exact fun _=>rfl) (hok:a.c.ok=true:=by kernel_rfl) (hd:(sp.dom.all fun t=>!t.isProd)=true:=by exact rfl) (r:∀ x,Z0G (env l m) a sp.dom sp.cod x=sp.f x:=by intro x;kernel_rfl):Zbk pol P n sp:=sOf ⟨⟨fn,c,h,b1,b2,b3,b4⟩,b5⟩ hx hok hd hn hl hm r
theorem mO {n np:Nat} {a:FA} {l:List (FuncId×FSp)} {m:List (FuncId×Zbc)} {sp:Zbc} {fn:_} {c:_} (h:P.funcs[n]?=some fn) (hl:∀ p∈l,Zbk pol P p.1 p.2) (hm:∀ p∈m,ZdA pol P p.1 p.2)
    (hn:sp.ins.length=np:=by exact rfl) (b1:fn.body=some c:=by exact rfl) (b2:fn.ntmps=a.nt:=by exact rfl) (b3:fn.results.toList=a.rs:=by exact rfl) (b4:Znu (Zaf pol) c=some a.c.er:=by kernel_rfl) (b5:np<=a.nt:=by decide)
    (hpol:pol n=false:=by exact rfl) (hok:a.c.ok=true:=by kernel_rfl) (hs:sp.ok=true:=by kernel_rfl) (hin:sp.inSh.ok=true:=by kernel_rfl) (hout:sp.outSh.ok=true:=by kernel_rfl) (hr:a.rs.length=sp.outs.length:=by exact rfl) (ha:(sp.anc.all fun q=>!a.c.asg q.1)=true:=by kernel_rfl)
    (r:∀ x,Zwr (env l m) a sp.ins sp.cks sp.outs sp.anc sp.couts x=sp.f x:=by intro x;kernel_rfl):ZdA pol P n sp:=mOf ⟨⟨fn,c,h,b1,b2,b3,b4⟩,b5⟩ hpol hok hs hin hout hn hr ha hl hm r
abbrev dI:SV:=.dat tI
abbrev dB:SV:=.dat .bool
abbrev p0:AN:=.s .o .o
abbrev p1:AN:=.s p0 .o
end Go.Proofs.YtipafbfdjfbkbaaGreatDoor
end
