/-
  The program's functions, annotated, and that they compute the plain functions. Printed by program.
-/
import Derived.Test.YteejallmbdngcaaGreatDoorSb
import Derived.Test.YteejallmbdngcaaGreatDoorFd
import Derived.Test.YteejallmbdngcaaGreatDoorPl0
namespace Go.Proofs.YteejallmbdngcaaGreatDoor
open Go.Eng Go.Dat
set_option linter.unusedVariables false
noncomputable def a62:FA:=Zbe (Zaf pol) Tryz.f62 78 (.s .o (.s .o (.s (.s .o (.b (.l ⟨[0,1],[(7,dI),(8,dI),(9,dI),(10,dI)],[]⟩ (.k [0,1,7,8,9,10] (.s (.s .o (.k [0,1,7,8,9,10,20] p0)) (.k [0,1,7,8,9,10] (.s (.b (.s .o (.s .o (.k [0,1,7,8,9,10] (.j ⟨[0,1,7,9,10],[(8,dI)],[]⟩ (.s .o (.k [0,1,7,8,9,10,33] p0)) (.k [0,1,7,8,9,10] (.s .o (.k [0,1,7,8,9,10,11,12,13] (.s .o (.k [0,1,7,8,9,10,11,12,13,14,15,16] .o)))))))))) (.k [0,1,7,8,9,10] .o)))))))) (.k [7,8,9] p0)))) [.tmp 4,.tmp 5,.tmp 6]
theorem ZBZ:ZqA P pol (Zaf pol) 62 2 a62:=⟨⟨_,_,Tryz.func62,rfl,rfl,rfl,by kernel_rfl⟩,by decide⟩
theorem ZCa:a62.c.ok=true:=by kernel_rfl
noncomputable def Z9c (n:Nat):FSp:=⟨[(.list (.tree .stm)),tI],[tI,tI,tI],fun x=>N62 n x.1 x.2⟩
noncomputable def Z6f:FSp:=Z9c 1000
theorem ZBC:∀ n,Zbk pol P 62 (Z9c n)
 | 0=>fun x r h=>by cases h
 | n+1=>sOf (a:=a62) (sp:=Z9c (n+1)) ZBZ (fun _=>rfl) ZCa rfl rfl (ZaM (ZBC n) Zbf) imN (fun x=>by kernel_rfl)
theorem s62:Zbk pol P 62 Z6f:=ZBC 1000
noncomputable def a64:FA:=Zbe (Zaf pol) Tryz.f64 22 (.s .o (.c 1 (.s .o (.s (.s .o (.b (.l ⟨[1],[(3,dI),(4,dI)],[]⟩ (.k [1,3,4] (.s (.s .o (.k [1,3,4,9] p0)) (.k [1,3,4] (.s (.b .o) (.k [1,3,4] .o)))))))) (.k [3] p0))))) [.tmp 2]
theorem Z6l:ZqA P pol (Zaf pol) 64 1 a64:=⟨⟨_,_,Tryz.func64,rfl,rfl,rfl,by kernel_rfl⟩,by decide⟩
theorem Z6m:a64.c.ok=true:=by kernel_rfl
noncomputable def Z5q (n:Nat):FSp:=⟨[(.st (.prod tI (.prod tI (.prod .str (.prod tI (.list (.tree .exp)))))))],[tI],fun x=>N64 n x⟩
noncomputable def Z6n:FSp:=Z5q 1000
theorem Z5U:∀ n,Zbk pol P 64 (Z5q n)
 | 0=>fun x r h=>by cases h
 | n+1=>sOf (a:=a64) (sp:=Z5q (n+1)) Z6l (fun _=>rfl) Z6m rfl rfl (ZaM (Z5U n) Zbf) imN (fun x=>by kernel_rfl)
theorem s64:Zbk pol P 64 Z6n:=Z5U 1000
noncomputable def a63:FA:=Zbe (Zaf pol) Tryz.f63 50 (.s .o (.s (.s .o (.b (.l ⟨[0],[(3,dI)],[]⟩ (.k [0,3] (.s (.s .o (.k [0,3,9] p0)) (.k [0,3] (.s (.b (.s .o (.c 4 (.k [0,3,4] (.s (.j ⟨[0,3,4],[(35,dB)],[]⟩ .o (.k [0,3,4,35] p1)) (.k [0,3,4] (.s .o (.b (.l ⟨[0,3,4],[(5,dI)],[]⟩ (.k [0,3,4,5] (.s (.s .o (.k [0,3,4,5,40] p0)) (.k [0,3,4,5] (.s (.b (.s .o (.k [0,3,4,5,49] p1))) (.k [0,3,4,5] .o)))))))))))))) (.k [0,3] .o)))))))) (.k [] p0))) [.tmp 2]
theorem Z6h:ZqA P pol (Zaf pol) 63 1 a63:=⟨⟨_,_,Tryz.func63,rfl,rfl,rfl,by kernel_rfl⟩,by decide⟩
theorem Z6i:a63.c.ok=true:=by kernel_rfl
noncomputable def Z5p (n:Nat):FSp:=⟨[(.list (.tree .stm))],[.bool],fun x=>N63 n x⟩
noncomputable def Z6j:FSp:=Z5p 1000
theorem Z5T:∀ n,Zbk pol P 63 (Z5p n)
 | 0=>fun x r h=>by cases h
 | n+1=>sOf (a:=a63) (sp:=Z5p (n+1)) Z6h (fun _=>rfl) Z6i rfl rfl (ZaM (Z5T n) (ZaM s64 Zbf)) imN (fun x=>by kernel_rfl)
theorem s63:Zbk pol P 63 Z6j:=Z5T 1000
noncomputable def a41:FA:=Zbe (Zaf pol) Tryz.f41 94 (.s .o (.c 1 (.s (.j ⟨[1],[(18,dB)],[]⟩ .o (.k [1,18] p1)) (.k [1] (.s (.s .o (.b (.l ⟨[1],[(3,dI)],[]⟩ (.k [1,3] (.s (.s .o (.k [1,3,23] p0)) (.k [1,3] (.s (.b (.j ⟨[1,3],[(41,dB)],[]⟩ .o (.k [1,3,41] p1))) (.k [1,3] .o)))))))) (.k [1] (.s (.s .o (.b (.l ⟨[1],[(4,dI)],[]⟩ (.k [1,4] (.s (.s .o (.k [1,4,46] p0)) (.k [1,4] (.s (.b (.s .o (.c 5 (.k [1,4,5] (.s .o (.k [1,4,5,6,7,8] (.j ⟨[1,4],[(93,dB)],[]⟩ .o (.k [1,4,93] p1)))))))) (.k [1,4] .o)))))))) (.k [] p0)))))))) [.tmp 2]
noncomputable def Z4d:FSp:=⟨[(.st (.prod (.list (.st (.prod .str tI))) (.list (.st (.prod .str (.prod (.list .str) (.prod (.list .str) (.prod (.list (.tree .stm)) (.st (.prod tI (.prod tI (.prod .str (.prod tI (.list (.tree .exp)))))))))))))))],[.bool],fun x=>F41 x⟩
theorem s41:Zbk pol P 41 Z4d:=sO (a:=a41) Tryz.func41 (ZaM s62 (ZaM s63 (ZaM s64 Zbf))) imN
noncomputable def a93:FA:=Zbe (Zaf pol) Tryz.f93 21 (.s .o (.j ⟨[],[(2,dB)],[]⟩ .o .o)) [.tmp 2]
noncomputable def Z2B:FSp:=⟨[(.int .u8)],[.bool],fun x=>F93 x⟩
theorem s93:Zbk pol P 93 Z2B:=sO (a:=a93) Tryz.func93 Zbf imN
noncomputable def a94:FA:=Zbe (Zaf pol) Tryz.f94 9 (.s .o (.j ⟨[],[(2,dB)],[]⟩ .o .o)) [.tmp 2]
noncomputable def Z3Z:FSp:=⟨[(.int .u8)],[.bool],fun x=>F94 x⟩
theorem s94:Zbk pol P 94 Z3Z:=sO (a:=a94) Tryz.func94 Zbf imN
noncomputable def a83:FA:=Zbe (Zaf pol) Tryz.f83 34 (.s .o (.s (.s .o (.b (.l ⟨[0],[(3,dI)],[]⟩ (.k [0,3] (.s (.s .o (.k [0,3,7] p0)) (.k [0,3] (.s (.b (.j ⟨[0,3],[(25,dB)],[]⟩ .o (.k [0,3,25] p1))) (.k [0,3] .o)))))))) (.k [0] (.j ⟨[],[(2,dB)],[]⟩ .o .o)))) [.tmp 2]
noncomputable def Z3H:FSp:=⟨[.str],[.bool],fun x=>F83 x⟩
theorem s83:Zbk pol P 83 Z3H:=sO (a:=a83) Tryz.func83 (ZaM s93 (ZaM s94 Zbf)) imN
noncomputable def a84:FA:=Zbe (Zaf pol) Tryz.f84 18 (.s .o (.s .o (.s (.s .o (.b (.l ⟨[0],[(3,.sl 0),(4,dI)],[.own .str true]⟩ (.k [0,3,4] (.s (.s .o (.k [0,3,4,9] p0)) (.k [0,3,4] (.s (.b (.s .o (.k [0,3,4,17] p1))) (.k [0,3,4] .o)))))))) (.k [] p0)))) [.tmp 2]
noncomputable def Z3A:FSp:=⟨[.str],[.bool],fun x=>F84 x⟩
theorem s84:Zbk pol P 84 Z3A:=sO (a:=a84) Tryz.func84 Zbf imN
noncomputable def a65:FA:=Zbe (Zaf pol) Tryz.f65 10 (.s .o (.j ⟨[],[(2,dB)],[]⟩ .o .o)) [.tmp 2]
noncomputable def Z20:FSp:=⟨[.str],[.bool],fun x=>F65 x⟩
theorem s65:Zbk pol P 65 Z20:=sO (a:=a65) Tryz.func65 (ZaM s83 (ZaM s84 Zbf)) imN
noncomputable def a86:FA:=Zbe (Zaf pol) Tryz.f86 9 (.s .o (.j ⟨[],[(2,dB)],[]⟩ .o .o)) [.tmp 2]
noncomputable def Z2D:FSp:=⟨[tI],[.bool],fun x=>F86 x⟩
theorem s86:Zbk pol P 86 Z2D:=sO (a:=a86) Tryz.func86 Zbf imN
noncomputable def a67:FA:=Zbe (Zaf pol) Tryz.f67 128 (.s .o (.c 1 (.s (.s .o (.b (.l ⟨[1],[(3,dI)],[]⟩ (.k [1,3] (.s (.s .o (.k [1,3,9] p0)) (.k [1,3] (.s (.b (.s .o (.k [1,3,18] p1))) (.k [1,3] .o)))))))) (.k [1] (.s .o (.k [1,4] (.s (.s .o (.b (.s .o (.s (.j ⟨[],[(2,dB)],[]⟩ .o .o) (.s .o (.s (.j ⟨[],[(2,dB)],[]⟩ .o .o) (.s .o (.s (.j ⟨[],[(2,dB)],[]⟩ .o .o) (.s .o (.s (.j ⟨[],[(2,dB)],[]⟩ .o .o) (.s .o (.s (.j ⟨[],[(2,dB)],[]⟩ .o .o) .o)))))))))))) (.k [] p0)))))))) [.tmp 2]
theorem ZKf:ZqA P pol (Zaf pol) 67 1 a67:=⟨⟨_,_,Tryz.func67,rfl,rfl,rfl,by kernel_rfl⟩,by decide⟩
theorem ZKg:a67.c.ok=true:=by kernel_rfl
noncomputable def ZIq (n:Nat):FSp:=⟨[(.st (.prod tI (.prod tI (.prod .str (.prod tI (.list (.tree .exp)))))))],[.bool],fun x=>N67 n x⟩
noncomputable def Z2A:FSp:=ZIq 1000
theorem ZJV:∀ n,Zbk pol P 67 (ZIq n)
 | 0=>fun x r h=>by cases h
 | n+1=>sOf (a:=a67) (sp:=ZIq (n+1)) ZKf (fun _=>rfl) ZKg rfl rfl (ZaM (ZJV n) (ZaM s65 (ZaM s86 Zbf))) imN (fun x=>by kernel_rfl)
theorem s67:Zbk pol P 67 Z2A:=ZJV 1000
noncomputable def a95:FA:=Zbe (Zaf pol) Tryz.f95 27 (.s .o (.c 1 (.j ⟨[],[(2,dB)],[]⟩ .o .o))) [.tmp 2]
noncomputable def Z3Y:FSp:=⟨[(.st (.prod tI (.prod tI (.prod .str (.prod tI (.list (.tree .exp)))))))],[.bool],fun x=>F95 x⟩
theorem s95:Zbk pol P 95 Z3Y:=sO (a:=a95) Tryz.func95 Zbf imN
noncomputable def a96:FA:=Zbe (Zaf pol) Tryz.f96 27 (.s .o (.c 1 (.j ⟨[],[(2,dB)],[]⟩ .o .o))) [.tmp 2]
noncomputable def Z3v:FSp:=⟨[(.st (.prod tI (.prod .str (.prod .str (.prod tI (.prod (.st (.prod tI (.prod tI (.prod .str (.prod tI (.list (.tree .exp))))))) (.prod (.st (.prod tI (.prod tI (.prod .str (.prod tI (.list (.tree .exp))))))) (.prod (.list (.tree .exp)) (.prod (.list (.tree .stm)) (.list (.tree .stm)))))))))))],[.bool],fun x=>F96 x⟩
theorem s96:Zbk pol P 96 Z3v:=sO (a:=a96) Tryz.func96 (ZaM s95 Zbf) imN
noncomputable def a85:FA:=Zbe (Zaf pol) Tryz.f85 202 (.s .o (.c 1 (.s (.s .o (.b (.l ⟨[1],[(3,dI)],[]⟩ (.k [1,3] (.s (.s .o (.k [1,3,9] p0)) (.k [1,3] (.s (.b (.s .o (.k [1,3,18] p1))) (.k [1,3] .o)))))))) (.k [1] (.j ⟨[1],[(4,dB)],[]⟩ .o (.k [1,4] (.s (.s .o (.b (.s .o (.s (.j ⟨[],[(2,dB)],[]⟩ .o .o) (.s .o (.s (.j ⟨[],[(2,dB)],[]⟩ .o .o) (.s .o (.s (.j ⟨[],[(2,dB)],[]⟩ .o .o) (.s .o (.s (.j ⟨[],[(2,dB)],[]⟩ .o .o) (.s .o (.s (.j ⟨[],[(2,dB)],[]⟩ .o .o) (.s .o (.s (.j ⟨[],[(2,dB)],[]⟩ .o .o) (.s .o (.s (.j ⟨[],[(2,dB)],[]⟩ .o .o) .o)))))))))))))))) (.k [] p0)))))))) [.tmp 2]
noncomputable def Z3u:FSp:=⟨[(.st (.prod tI (.prod .str (.prod .str (.prod tI (.prod (.st (.prod tI (.prod tI (.prod .str (.prod tI (.list (.tree .exp))))))) (.prod (.st (.prod tI (.prod tI (.prod .str (.prod tI (.list (.tree .exp))))))) (.prod (.list (.tree .exp)) (.prod (.list (.tree .stm)) (.list (.tree .stm)))))))))))],[.bool],fun x=>F85 x⟩
theorem s85:Zbk pol P 85 Z3u:=sO (a:=a85) Tryz.func85 (ZaM s65 (ZaM s67 (ZaM s95 (ZaM s96 Zbf)))) imN
noncomputable def a66:FA:=Zbe (Zaf pol) Tryz.f66 34 (.s .o (.s (.s .o (.b (.l ⟨[0],[(3,dI)],[]⟩ (.k [0,3] (.s (.s .o (.k [0,3,7] p0)) (.k [0,3] (.s (.b (.j ⟨[0,3],[(33,dB)],[]⟩ .o (.k [0,3,33] p1))) (.k [0,3] .o)))))))) (.k [] p0))) [.tmp 2]
theorem ZKh:ZqA P pol (Zaf pol) 66 1 a66:=⟨⟨_,_,Tryz.func66,rfl,rfl,rfl,by kernel_rfl⟩,by decide⟩
theorem ZKi:a66.c.ok=true:=by kernel_rfl
noncomputable def ZIr (n:Nat):FSp:=⟨[(.list (.tree .stm))],[.bool],fun x=>N66 n x⟩
noncomputable def Z21:FSp:=ZIr 1000
theorem ZJW:∀ n,Zbk pol P 66 (ZIr n)
 | 0=>fun x r h=>by cases h
 | n+1=>sOf (a:=a66) (sp:=ZIr (n+1)) ZKh (fun _=>rfl) ZKi rfl rfl (ZaM (ZJW n) (ZaM s85 Zbf)) imN (fun x=>by kernel_rfl)
theorem s66:Zbk pol P 66 Z21:=ZJW 1000
noncomputable def a42:FA:=Zbe (Zaf pol) Tryz.f42 66 (.s .o (.c 1 (.s (.s .o (.b (.l ⟨[1],[(3,dI)],[]⟩ (.k [1,3] (.s (.s .o (.k [1,3,12] p0)) (.k [1,3] (.s (.b (.s .o (.k [1,3,22] p1))) (.k [1,3] .o)))))))) (.k [1] (.s (.s .o (.b (.l ⟨[1],[(4,dI)],[]⟩ (.k [1,4] (.s (.s .o (.k [1,4,27] p0)) (.k [1,4] (.s (.b (.s .o (.c 5 (.k [1,4,5] (.s .o (.k [1,4,5,6] (.s (.s .o (.b (.l ⟨[1,4,5],[(6,.sl 0),(7,dI)],[.own .str true]⟩ (.k [1,4,5,6,7] (.s (.s .o (.k [1,4,5,6,7,47] p0)) (.k [1,4,5,6,7] (.s (.b (.s .o (.k [1,4,5,6,7,55] p1))) (.k [1,4,5,6,7] .o)))))))) (.k [1,4,5] (.j ⟨[1,4],[(65,dB)],[]⟩ .o (.k [1,4,65] p1)))))))))) (.k [1,4] .o)))))))) (.k [] p0)))))) [.tmp 2]
noncomputable def Z4p:FSp:=⟨[(.st (.prod (.list (.st (.prod .str tI))) (.list (.st (.prod .str (.prod (.list .str) (.prod (.list .str) (.prod (.list (.tree .stm)) (.st (.prod tI (.prod tI (.prod .str (.prod tI (.list (.tree .exp)))))))))))))))],[.bool],fun x=>F42 x⟩
theorem s42:Zbk pol P 42 Z4p:=sO (a:=a42) Tryz.func42 (ZaM s65 (ZaM s66 (ZaM s67 Zbf))) imN
noncomputable def a68:FA:=Zbe (Zaf pol) Tryz.f68 18 (.s .o (.s (.s .o (.b (.l ⟨[0,1],[(5,dI)],[]⟩ (.k [0,1,5] (.s (.s .o (.k [0,1,5,9] p0)) (.k [0,1,5] (.s (.b (.s .o (.k [0,1,5,17] p1))) (.k [0,1,5] .o)))))))) (.k [] p0))) [.tmp 4]
noncomputable def Z2C:FSp:=⟨[(.list .str),.str],[.bool],fun x=>F68 x.1 x.2⟩
theorem s68:Zbk pol P 68 Z2C:=sO (a:=a68) Tryz.func68 Zbf imN
noncomputable def a43:FA:=Zbe (Zaf pol) Tryz.f43 85 (.s .o (.c 1 (.s .o (.s (.s .o (.b (.l ⟨[1,4],[(3,.sl 0),(5,dI)],[.own .str true]⟩ (.k [1,3,4,5] (.s (.s .o (.k [1,3,4,5,15] p0)) (.k [1,3,4,5] (.s (.b (.s (.s .o (.k [1,3,4,5,25] p1)) (.k [1,3,4,5] .o))) (.k [1,3,4,5] .o)))))))) (.k [1,3,4] (.s (.s .o (.b (.l ⟨[1],[(3,.sl 0),(4,.sl 1),(6,dI)],[.own .str true,.own .str true]⟩ (.k [1,3,4,6] (.s (.s .o (.k [1,3,4,6,39] p0)) (.k [1,3,4,6] (.s (.b (.s .o (.c 7 (.k [1,3,4,6,7] (.s (.s .o (.k [1,3,4,6,7,50] p1)) (.k [1,3,4,6,7] (.s .o (.k [1,3,4,6,7] (.s .o (.k [1,3,4,6,7,8] (.s .o (.k [1,3,4,6,8,9] (.s .o (.b (.l ⟨[1,6],[(3,.sl 0),(4,.sl 1),(8,.sl 2),(9,.sl 3),(10,dI)],[.own .str true,.own .str true,.own .str true,.own .str true]⟩ (.k [1,3,4,6,8,9,10] (.s (.s .o (.k [1,3,4,6,8,9,10,69] p0)) (.k [1,3,4,6,8,9,10] (.s (.b (.s (.s .o (.k [1,3,4,6,8,9,10,77] p1)) (.k [1,3,4,6,8,9,10] .o))) (.k [1,3,4,6,8,9,10] .o)))))))))))))))))))) (.k [1,3,4,6] .o)))))))) (.k [] p0))))))) [.tmp 2]
noncomputable def Z6p:FSp:=⟨[(.st (.prod (.list (.st (.prod .str tI))) (.list (.st (.prod .str (.prod (.list .str) (.prod (.list .str) (.prod (.list (.tree .stm)) (.st (.prod tI (.prod tI (.prod .str (.prod tI (.list (.tree .exp)))))))))))))))],[.bool],fun x=>F43 x⟩
theorem s43:Zbk pol P 43 Z6p:=sO (a:=a43) Tryz.func43 (ZaM s68 Zbf) imN
noncomputable def a69:FA:=Zbe (Zaf pol) Tryz.f69 22 (.s .o (.c 2 (.s (.s .o (.b (.l ⟨[1,2],[(5,dI)],[]⟩ (.k [1,2,5] (.s (.s .o (.k [1,2,5,10] p0)) (.k [1,2,5] (.s (.b (.s .o (.k [1,2,5,20] p1))) (.k [1,2,5] .o)))))))) (.k [] p0)))) [.tmp 4]
noncomputable def Z2F:FSp:=⟨[(.st (.prod (.list (.st (.prod .str tI))) (.list (.st (.prod .str (.prod (.list .str) (.prod (.list .str) (.prod (.list (.tree .stm)) (.st (.prod tI (.prod tI (.prod .str (.prod tI (.list (.tree .exp))))))))))))))),.str],[tI],fun x=>F69 x.1 x.2⟩
theorem s69:Zbk pol P 69 Z2F:=sO (a:=a69) Tryz.func69 Zbf imN
noncomputable def a45:FA:=Zbe (Zaf pol) Tryz.f45 43 (.s .o (.c 3 (.c 2 (.s (.s .o (.b (.l ⟨[2,3],[(5,dI)],[]⟩ (.k [2,3,5] (.s (.s .o (.k [2,3,5,10] p0)) (.k [2,3,5] (.s (.b (.s .o (.k [2,3,5,20] p1))) (.k [2,3,5] .o)))))))) (.k [2,3] (.j ⟨[],[(4,dB)],[]⟩ .o .o)))))) [.tmp 4]
theorem ZKj:ZqA P pol (Zaf pol) 45 2 a45:=⟨⟨_,_,Tryz.func45,rfl,rfl,rfl,by kernel_rfl⟩,by decide⟩
theorem ZKk:a45.c.ok=true:=by kernel_rfl
noncomputable def ZIs (n:Nat):FSp:=⟨[(.st (.prod (.list .str) (.prod (.list .str) (.st (.prod (.list (.st (.prod .str tI))) (.list (.st (.prod .str (.prod (.list .str) (.prod (.list .str) (.prod (.list (.tree .stm)) (.st (.prod tI (.prod tI (.prod .str (.prod tI (.list (.tree .exp)))))))))))))))))),(.st (.prod tI (.prod tI (.prod .str (.prod tI (.list (.tree .exp)))))))],[.bool],fun x=>N45 n x.1 x.2⟩
noncomputable def Z3B:FSp:=ZIs 1000
theorem ZJX:∀ n,Zbk pol P 45 (ZIs n)
 | 0=>fun x r h=>by cases h
 | n+1=>sOf (a:=a45) (sp:=ZIs (n+1)) ZKj (fun _=>rfl) ZKk rfl rfl (ZaM (ZJX n) (ZaM s68 Zbf)) imN (fun x=>by kernel_rfl)
theorem s45:Zbk pol P 45 Z3B:=ZJX 1000
noncomputable def a70:FA:=Zbe (Zaf pol) Tryz.f70 64 (.s .o (.c 3 (.c 2 (.s (.s .o (.b (.l ⟨[2,3],[(5,dI)],[]⟩ (.k [2,3,5] (.s (.s .o (.k [2,3,5,10] p0)) (.k [2,3,5] (.s (.b (.s .o (.k [2,3,5,20] p1))) (.k [2,3,5] .o)))))))) (.k [2,3] (.s (.j ⟨[2,3],[(32,dB)],[]⟩ .o (.k [2,3,32] p1)) (.k [2,3] (.s (.s .o (.b (.s .o (.s p0 (.s .o (.s (.j ⟨[],[(4,dB)],[]⟩ .o .o) (.s .o p1))))))) (.k [] p0))))))))) [.tmp 4]
noncomputable def Z2E:FSp:=⟨[(.st (.prod (.list .str) (.prod (.list .str) (.st (.prod (.list (.st (.prod .str tI))) (.list (.st (.prod .str (.prod (.list .str) (.prod (.list .str) (.prod (.list (.tree .stm)) (.st (.prod tI (.prod tI (.prod .str (.prod tI (.list (.tree .exp)))))))))))))))))),(.st (.prod tI (.prod .str (.prod .str (.prod tI (.prod (.st (.prod tI (.prod tI (.prod .str (.prod tI (.list (.tree .exp))))))) (.prod (.st (.prod tI (.prod tI (.prod .str (.prod tI (.list (.tree .exp))))))) (.prod (.list (.tree .exp)) (.prod (.list (.tree .stm)) (.list (.tree .stm)))))))))))],[.bool],fun x=>F70 x.1 x.2⟩
theorem s70:Zbk pol P 70 Z2E:=sO (a:=a70) Tryz.func70 (ZaM s45 (ZaM s68 (ZaM s69 Zbf))) imN
noncomputable def a44:FA:=Zbe (Zaf pol) Tryz.f44 59 (.s .o (.c 3 (.s (.s .o (.b (.l ⟨[1,2,3],[(7,dI)],[]⟩ (.k [1,2,3,7] (.s (.s .o (.k [1,2,3,7,12] p0)) (.k [1,2,3,7] (.s (.b (.s .o (.c 8 (.k [1,2,3,7,8] (.j ⟨[1,2,3,7,8],[],[]⟩ (.s .o (.s (.j ⟨[1,2,3,7,8],[(40,dB)],[]⟩ .o (.k [1,2,3,7,8,40] p1)) (.s .o (.k [1,2,3,7,8,44] p1)))) (.k [1,2,3,7,8] (.j ⟨[1,2,3,7],[(58,dB)],[]⟩ .o (.k [1,2,3,7,58] p1)))))))) (.k [1,2,3,7] .o)))))))) (.k [] p0)))) [.tmp 6]
theorem ZKl:ZqA P pol (Zaf pol) 44 3 a44:=⟨⟨_,_,Tryz.func44,rfl,rfl,rfl,by kernel_rfl⟩,by decide⟩
theorem ZKm:a44.c.ok=true:=by kernel_rfl
noncomputable def ZIt (n:Nat):FSp:=⟨[(.st (.prod (.list .str) (.prod (.list .str) (.st (.prod (.list (.st (.prod .str tI))) (.list (.st (.prod .str (.prod (.list .str) (.prod (.list .str) (.prod (.list (.tree .stm)) (.st (.prod tI (.prod tI (.prod .str (.prod tI (.list (.tree .exp)))))))))))))))))),(.list (.tree .stm)),.bool],[.bool],fun x=>N44 n x.1 x.2.1 x.2.2⟩
noncomputable def Z4q:FSp:=ZIt 1000
theorem ZJY:∀ n,Zbk pol P 44 (ZIt n)
 | 0=>fun x r h=>by cases h
 | n+1=>sOf (a:=a44) (sp:=ZIt (n+1)) ZKl (fun _=>rfl) ZKm rfl rfl (ZaM (ZJY n) (ZaM s69 (ZaM s70 Zbf))) imN (fun x=>by kernel_rfl)
theorem s44:Zbk pol P 44 Z4q:=ZJY 1000
noncomputable def a25:FA:=Zbe (Zaf pol) Tryz.f25 86 (.s .o (.c 1 (.s (.b (.s .o (.s p0 (.s .o (.k [1,11] (.s p0 (.s .o p1))))))) (.k [1] (.s (.s .o (.b (.l ⟨[1],[(3,dI)],[]⟩ (.k [1,3] (.s (.s .o p0) (.k [1,3] (.s (.b (.s .o (.b (.l ⟨[1,3],[(4,dI)],[]⟩ (.k [1,3,4] (.s (.s .o (.k [1,3,4,26] p0)) (.k [1,3,4] (.s (.b (.s .o (.c 5 (.k [1,3,4,5] (.s .o (.k [1,3,4,5,6] (.s (.s .o (.b (.l ⟨[1,3,4,5],[(6,.bx 0 0),(7,dI)],[.box [.sl 1,.sl 2,.dat (.list (.st (.prod .str tI))),.dat (.list (.st (.prod .str (.prod (.list .str) (.prod (.list .str) (.prod (.list (.tree .stm)) (.st (.prod tI (.prod tI (.prod .str (.prod tI (.list (.tree .exp)))))))))))))] true,.own .str true,.own .str true]⟩ (.k [1,3,4,5,6,7] (.s (.s .o (.k [1,3,4,5,6,7,47] p0)) (.k [1,3,4,5,6,7] (.s (.b .o) (.k [1,3,4,5,6,7] .o)))))))) (.k [1,3,4,5,6] (.s (.j ⟨[1,3,4,5],[(6,.bx 0 0),(76,dB)],[.box [.sl 1,.sl 2,.dat (.list (.st (.prod .str tI))),.dat (.list (.st (.prod .str (.prod (.list .str) (.prod (.list .str) (.prod (.list (.tree .stm)) (.st (.prod tI (.prod tI (.prod .str (.prod tI (.list (.tree .exp)))))))))))))] true,.own .str true,.own .str true]⟩ .o (.k [1,3,4,5,6,76] p1)) (.k [1,3,4,5,6] (.j ⟨[1,3,4],[(85,dB)],[]⟩ .o (.k [1,3,4,85] p1)))))))))))) (.k [1,3,4] .o))))))))) (.k [1,3] .o)))))))) (.k [] p0)))))) [.tmp 2]
noncomputable def Z6c:FSp:=⟨[(.st (.prod (.list (.st (.prod .str tI))) (.list (.st (.prod .str (.prod (.list .str) (.prod (.list .str) (.prod (.list (.tree .stm)) (.st (.prod tI (.prod tI (.prod .str (.prod tI (.list (.tree .exp)))))))))))))))],[tI],fun x=>F25 x⟩
theorem s25:Zbk pol P 25 Z6c:=sO (a:=a25) Tryz.func25 (ZaM s41 (ZaM s42 (ZaM s43 (ZaM s44 (ZaM s45 Zbf))))) imN
noncomputable def a36:FA:=Zbe (Zaf pol) Tryz.f36 45 (.s .o (.c 3 (.c 2 (.s (.j ⟨[2,3],[(26,dB)],[]⟩ .o (.k [2,3,26] p1)) (.k [2,3] (.s (.s .o (.b (.l ⟨[2,3],[(5,dI)],[]⟩ (.k [2,3,5] (.s (.s .o (.k [2,3,5,31] p0)) (.k [2,3,5] (.s (.b (.s .o (.k [2,3,5,44] p1))) (.k [2,3,5] .o)))))))) (.k [] p0))))))) [.tmp 4]
noncomputable def Z2I:FSp:=⟨[tn,tn],[.bool],fun x=>F36 x.1 x.2⟩
theorem s36:Zbk pol P 36 Z2I:=sO (a:=a36) Tryz.func36 Zbf imN
noncomputable def a26:FA:=Zbe (Zaf pol) Tryz.f26 52 (.s .o (.s .o (.c 9 (.k [0,9] (.s (.s .o (.b (.l ⟨[],[(0,.bx 0 0),(9,.bx 1 0),(10,dI)],[.box [.pin,.pin,.sl 2,.pin,.pin,.pin,.pin] true,.box [dI,dI,.sl 3] false,.own tn true,.own tI true]⟩ (.k [0,9,10] (.s (.s .o (.k [0,9,10,23] p0)) (.k [0,9,10] (.s (.b (.s .o (.k [0,9,10,34] p1))) (.k [0,9,10] .o)))))))) (.k [0,9] (.s .o (.k [0] p0)))))))) [.tmp 8]
noncomputable def Z6e:Zbc:=⟨[.bx 0 0,dI,dI,.sl 1],[.box [.pin,.pin,.sl 2,.pin,.pin,.pin,.pin] true,.own tI true,.own tn true],1,[dI],[(0,.bx 0 0)],[.box [.pin,.pin,.sl 1,.pin,.pin,.pin,.pin] true,.own tn true],fun (x:Int×Int×List Int×TN)=>(F26 x.1 x.2.1 x.2.2.1 x.2.2.2:Option (Int×TN))⟩
theorem s26:ZdA pol P 26 Z6e:=mO (a:=a26) Tryz.func26 (ZaM s36 Zbf) imN
noncomputable def a47:FA:=Zbe (Zaf pol) Tryz.f47 25 (.s .o (.s (.s .o (.b (.l ⟨[1],[(0,.bx 0 0),(5,dI)],[.box [.pin,.pin,.pin,.sl 1,.pin,.pin,.pin] true,.own .str true]⟩ (.k [0,1,5] (.s (.s .o (.k [0,1,5,12] p0)) (.k [0,1,5] (.s (.b (.s .o (.k [0,1,5,23] p1))) (.k [0,1,5] .o)))))))) (.k [0] p0))) [.tmp 4]
noncomputable def Z3e:Zbc:=⟨[.bx 0 0,.dat .str],[.box [.pin,.pin,.pin,.sl 1,.pin,.pin,.pin] true,.own .str true],1,[dI],[(0,.bx 0 0)],[.box [.pin,.pin,.pin,.sl 1,.pin,.pin,.pin] true,.own .str true],fun (x:ByteArray×List ByteArray)=>(F47 x.1 x.2:Option Y21)⟩
theorem s47:ZdA pol P 47 Z3e:=mO (a:=a47) Tryz.func47 Zbf imN
noncomputable def a48:FA:=Zbe (Zaf pol) Tryz.f48 28 (.s .o (.s (.s .o (.b (.l ⟨[1],[(0,.bx 0 0),(5,dI)],[.box [.dat (.list (.st (.prod .str tI))),.pin,.pin,.pin,.pin,.pin,.pin] true]⟩ (.k [0,1,5] (.s (.s .o (.k [0,1,5,13] p0)) (.k [0,1,5] (.s (.b (.s .o (.k [0,1,5,26] p1))) (.k [0,1,5] .o)))))))) (.k [0] p0))) [.tmp 4]
noncomputable def ZBL:Zbc:=⟨[.bx 0 0,.dat .str],[.box [.dat (.list (.st (.prod .str tI))),.pin,.pin,.pin,.pin,.pin,.pin] true],1,[dI],[(0,.bx 0 0)],[.box [.dat (.list (.st (.prod .str tI))),.pin,.pin,.pin,.pin,.pin,.pin] true],fun (x:ByteArray×List Y11)=>(F48 x.1 x.2:Option Y43)⟩
theorem s48:ZdA pol P 48 ZBL:=mO (a:=a48) Tryz.func48 Zbf imN
noncomputable def a49:FA:=Zbe (Zaf pol) Tryz.f49 35 (.s .o (.k [0,2,6] (.s .o (.k [0,7] .o)))) []
noncomputable def ZBM:Zbc:=⟨[.bx 0 0,dI,dI],[.box [.dat (.list (.st (.prod .str tI))),.dat (.list (.st (.prod .str (.prod (.list .str) (.prod (.list .str) (.prod (.list (.tree .stm)) (.st (.prod tI (.prod tI (.prod .str (.prod tI (.list (.tree .exp))))))))))))),.sl 1,.sl 2,.sl 3,dI,dI] true,.own tn true,.own .str true,.own tI true],1,[],[(0,.bx 0 0)],[.box [.dat (.list (.st (.prod .str tI))),.dat (.list (.st (.prod .str (.prod (.list .str) (.prod (.list .str) (.prod (.list (.tree .stm)) (.st (.prod tI (.prod tI (.prod .str (.prod tI (.list (.tree .exp))))))))))))),.sl 1,.sl 2,.sl 3,dI,dI] true,.own tn true,.own .str true,.own tI true],fun (x:Int×Int×Y1×(List Y0)×Int×Int×TN×List ByteArray×List Int)=>(F49 x.1 x.2.1 x.2.2.1 x.2.2.2.1 x.2.2.2.2.1 x.2.2.2.2.2.1 x.2.2.2.2.2.2.1 x.2.2.2.2.2.2.2.1 x.2.2.2.2.2.2.2.2:Option Y2)⟩
theorem s49:ZdA pol P 49 ZBM:=mO (a:=a49) Tryz.func49 Zbf (imC s26 imN)
noncomputable def a50:FA:=Zbe (Zaf pol) Tryz.f50 19 (.s .o (.s (.s .o p1) (.k [0,1,2,3] p0))) [.tmp 8]
noncomputable def ZBK:Zbc:=⟨[.bx 0 0,dI,dI,dI],[.box [.pin,.pin,.sl 1,.pin,.pin,.pin,.pin] true,.own tn true],1,[dI],[(0,.bx 0 0)],[.box [.pin,.pin,.sl 1,.pin,.pin,.pin,.pin] true,.own tn true],fun (x:Int×Int×Int×TN)=>(F50 x.1 x.2.1 x.2.2.1 x.2.2.2:Option (Int×TN))⟩
theorem s50:ZdA pol P 50 ZBK:=mO (a:=a50) Tryz.func50 Zbf (imC s26 imN)
noncomputable def a28:FA:=Zbe (Zaf pol) Tryz.f28 166 (.s .o (.c 3 (.s (.s .o (.b (.s .o (.s p0 (.s .o (.s p0 (.s .o (.s (.s .o (.k [0,3,5] (.s .o (.k [0,5,6] (.s .o (.k [0,5,6] p0)))))) (.s .o (.s (.s .o (.k [0,3,7] (.s .o (.k [0,3,7,8] (.s .o (.k [0,3,7,8,9] (.s .o (.k [0,3,7,8,9,10] (.s .o (.k [0,3,7,9,10] (.s .o (.k [0,7,9,10,11] (.s .o (.k [0,7,10,12] (.s .o (.k [12,0] p0)))))))))))))))) .o)))))))))) (.k [0,3] (.s .o (.k [0,3,13] (.s (.s .o (.k [0,3,13,120] p1)) (.k [0,3,13] (.s .o (.k [0,3,13,14] (.j ⟨[3,13,14],[(0,.bx 0 0)],[.box [.dat (.list (.st (.prod .str tI))),.dat (.list (.st (.prod .str (.prod (.list .str) (.prod (.list .str) (.prod (.list (.tree .stm)) (.st (.prod tI (.prod tI (.prod .str (.prod tI (.list (.tree .exp))))))))))))),.sl 1,.sl 2,.sl 3,dI,dI] true,.own tn true,.own .str true,.own tI true]⟩ (.j ⟨[3,13,14],[(0,.bx 0 0),(140,dB)],[.box [.dat (.list (.st (.prod .str tI))),.dat (.list (.st (.prod .str (.prod (.list .str) (.prod (.list .str) (.prod (.list (.tree .stm)) (.st (.prod tI (.prod tI (.prod .str (.prod tI (.list (.tree .exp))))))))))))),.sl 1,.sl 2,.sl 3,dI,dI] true,.own tn true,.own .str true,.own tI true]⟩ .o (.k [0,3,13,14,140] (.s (.s .o (.s .o (.k [0,3,13,14,16] .o))) .o))) (.k [0,3,13,14] p0)))))))))))) [.tmp 4]
theorem ZKn:ZqA P pol (Zaf pol) 28 2 a28:=⟨⟨_,_,Tryz.func28,rfl,rfl,rfl,by kernel_rfl⟩,by decide⟩
theorem ZKo:a28.c.ok=true:=by kernel_rfl
noncomputable def ZIu (n:Nat):Zbc:=⟨[.bx 0 0,.agg [dI,dI,.dat .str,dI,.dat (.list (.tree .exp))]],[.box [.dat (.list (.st (.prod .str tI))),.dat (.list (.st (.prod .str (.prod (.list .str) (.prod (.list .str) (.prod (.list (.tree .stm)) (.st (.prod tI (.prod tI (.prod .str (.prod tI (.list (.tree .exp))))))))))))),.sl 1,.sl 2,.sl 3,dI,dI] true,.own tn true,.own .str true,.own tI true],1,[dI],[(0,.bx 0 0)],[.box [.dat (.list (.st (.prod .str tI))),.dat (.list (.st (.prod .str (.prod (.list .str) (.prod (.list .str) (.prod (.list (.tree .stm)) (.st (.prod tI (.prod tI (.prod .str (.prod tI (.list (.tree .exp))))))))))))),.sl 1,.sl 2,.sl 3,dI,dI] true,.own tn true,.own .str true,.own tI true],fun (x:Int×Int×ByteArray×Int×List ExT×Y1×(List Y0)×Int×Int×TN×List ByteArray×List Int)=>(N28 n x.1 x.2.1 x.2.2.1 x.2.2.2.1 x.2.2.2.2.1 x.2.2.2.2.2.1 x.2.2.2.2.2.2.1 x.2.2.2.2.2.2.2.1 x.2.2.2.2.2.2.2.2.1 x.2.2.2.2.2.2.2.2.2.1 x.2.2.2.2.2.2.2.2.2.2.1 x.2.2.2.2.2.2.2.2.2.2.2:Option Y6)⟩
noncomputable def Z6k:Zbc:=ZIu 1000
theorem ZJZ:∀ n,ZdA pol P 28 (ZIu n)
 | 0=>ino (by kernel_rfl) (by kernel_rfl) (by kernel_rfl) (fun _=>rfl)
 | n+1=>mOf (a:=a28) (sp:=ZIu (n+1)) ZKn rfl ZKo (by kernel_rfl) (by kernel_rfl) (by kernel_rfl) rfl rfl (by kernel_rfl) Zbf (imC (ZJZ n) (imC s26 (imC s47 (imC s48 (imC s49 (imC s50 imN)))))) (fun x=>by kernel_rfl)
theorem s28:ZdA pol P 28 Z6k:=ZJZ 1000
noncomputable def a87:FA:=Zbe (Zaf pol) Tryz.f87 52 (.s .o (.b (.l ⟨[2],[(0,.bx 0 0),(1,.sl 1),(6,dI)],[.box [.dat (.list (.st (.prod .str tI))),.dat (.list (.st (.prod .str (.prod (.list .str) (.prod (.list .str) (.prod (.list (.tree .stm)) (.st (.prod tI (.prod tI (.prod .str (.prod tI (.list (.tree .exp))))))))))))),.sl 2,.sl 3,.sl 4,dI,dI] true,.own .bool true,.own tn true,.own .str true,.own tI true]⟩ (.k [0,1,2,6] (.s (.s .o (.k [0,1,2,6,10] p0)) (.k [0,1,2,6] (.s (.b (.j ⟨[2,6],[(0,.bx 0 0),(1,.sl 1)],[.box [.dat (.list (.st (.prod .str tI))),.dat (.list (.st (.prod .str (.prod (.list .str) (.prod (.list .str) (.prod (.list (.tree .stm)) (.st (.prod tI (.prod tI (.prod .str (.prod tI (.list (.tree .exp))))))))))))),.sl 2,.sl 3,.sl 4,dI,dI] true,.own .bool true,.own tn true,.own .str true,.own tI true]⟩ (.j ⟨[2,6],[(0,.bx 0 0),(1,.sl 1),(26,dB)],[.box [.dat (.list (.st (.prod .str tI))),.dat (.list (.st (.prod .str (.prod (.list .str) (.prod (.list .str) (.prod (.list (.tree .stm)) (.st (.prod tI (.prod tI (.prod .str (.prod tI (.list (.tree .exp))))))))))))),.sl 2,.sl 3,.sl 4,dI,dI] true,.own .bool true,.own tn true,.own .str true,.own tI true]⟩ .o (.k [0,1,2,6,26] p0)) (.k [0,1,2,6] (.s .o (.k [0,1,2,6] .o))))) (.k [0,1,2,6] .o)))))))) []
theorem ZKp:ZqA P pol (Zaf pol) 87 3 a87:=⟨⟨_,_,Tryz.func87,rfl,rfl,rfl,by kernel_rfl⟩,by decide⟩
theorem ZKq:a87.c.ok=true:=by kernel_rfl
noncomputable def ZIv (n:Nat):Zbc:=⟨[.bx 0 0,.sl 1,.dat (.list (.tree .stm))],[.box [.dat (.list (.st (.prod .str tI))),.dat (.list (.st (.prod .str (.prod (.list .str) (.prod (.list .str) (.prod (.list (.tree .stm)) (.st (.prod tI (.prod tI (.prod .str (.prod tI (.list (.tree .exp))))))))))))),.sl 2,.sl 3,.sl 4,dI,dI] true,.own .bool true,.own tn true,.own .str true,.own tI true],2,[],[(0,.bx 0 0),(1,.sl 1)],[.box [.dat (.list (.st (.prod .str tI))),.dat (.list (.st (.prod .str (.prod (.list .str) (.prod (.list .str) (.prod (.list (.tree .stm)) (.st (.prod tI (.prod tI (.prod .str (.prod tI (.list (.tree .exp))))))))))))),.sl 2,.sl 3,.sl 4,dI,dI] true,.own .bool true,.own tn true,.own .str true,.own tI true],fun (x:List SmT×Y1×(List Y0)×Int×Int×List Bool×TN×List ByteArray×List Int)=>(N87 n x.1 x.2.1 x.2.2.1 x.2.2.2.1 x.2.2.2.2.1 x.2.2.2.2.2.1 x.2.2.2.2.2.2.1 x.2.2.2.2.2.2.2.1 x.2.2.2.2.2.2.2.2:Option Y5)⟩
noncomputable def Z3G:Zbc:=ZIv 1000
theorem ZKa:∀ n,ZdA pol P 87 (ZIv n)
 | 0=>ino (by kernel_rfl) (by kernel_rfl) (by kernel_rfl) (fun _=>rfl)
 | n+1=>mOf (a:=a87) (sp:=ZIv (n+1)) ZKp rfl ZKq (by kernel_rfl) (by kernel_rfl) (by kernel_rfl) rfl rfl (by kernel_rfl) Zbf (imC (ZKa n) (imC s47 imN)) (fun x=>by kernel_rfl)
theorem s87:ZdA pol P 87 Z3G:=ZKa 1000
noncomputable def a71:FA:=Zbe (Zaf pol) Tryz.f71 197 (.s .o (.c 3 (.s .o (.k [0,3,4] (.s .o (.k [0,3,4] (.s .o (.k [0,3,4,5] (.s .o (.k [0,3,4,5,6] (.s .o (.k [0,3,4,5,6] (.s .o (.s (.s .o (.b (.l ⟨[3,4,5],[(0,.bx 0 0),(6,.sl 1),(7,.sl 2),(8,dI)],[.box [.dat (.list (.st (.prod .str tI))),.dat (.list (.st (.prod .str (.prod (.list .str) (.prod (.list .str) (.prod (.list (.tree .stm)) (.st (.prod tI (.prod tI (.prod .str (.prod tI (.list (.tree .exp))))))))))))),.sl 3,.sl 4,.sl 5,dI,dI] true,.own .bool true,.own tI true,.own tn true,.own .str true,.own tI true]⟩ (.k [0,3,4,5,6,7,8] (.s (.s .o (.k [0,3,4,5,6,7,8,48] p0)) (.k [0,3,4,5,6,7,8] (.j ⟨[3,4,5,8],[(0,.bx 0 0),(6,.sl 1),(7,.sl 2)],[.box [.dat (.list (.st (.prod .str tI))),.dat (.list (.st (.prod .str (.prod (.list .str) (.prod (.list .str) (.prod (.list (.tree .stm)) (.st (.prod tI (.prod tI (.prod .str (.prod tI (.list (.tree .exp))))))))))))),.sl 3,.sl 4,.sl 5,dI,dI] true,.own .bool true,.own tI true,.own tn true,.own .str true,.own tI true]⟩ (.b (.s .o (.k [0,3,4,5,6,7,8,54] p0))) (.k [0,3,4,5,6,7,8] .o)))))))) (.k [0,3,4,5,7] (.s .o (.k [0,3,4,5,7,9] (.s .o (.k [0,3,4,5,7,9,10] (.s .o (.s .o (.k [0,3,4,5,7,9,10,11] (.s (.s .o (.b (.l ⟨[3,4,5,10],[(0,.bx 0 0),(7,.sl 1),(9,.sl 2),(11,.sl 3),(12,dI)],[.box [.dat (.list (.st (.prod .str tI))),.dat (.list (.st (.prod .str (.prod (.list .str) (.prod (.list .str) (.prod (.list (.tree .stm)) (.st (.prod tI (.prod tI (.prod .str (.prod tI (.list (.tree .exp))))))))))))),.sl 4,.sl 5,.sl 6,dI,dI] true,.own tI true,.own tI true,.own tI true,.own tn true,.own .str true,.own tI true]⟩ (.k [0,3,4,5,7,9,10,11,12] (.s (.s .o (.k [0,3,4,5,7,9,10,11,12,81] p0)) (.k [0,3,4,5,7,9,10,11,12] (.s (.b (.s .o (.k [0,3,4,5,7,9,10,11,12] .o))) (.k [0,3,4,5,7,9,10,11,12] .o)))))))) (.k [0,3,4,5,7,9,10,11] (.s .o (.k [0,3,4,5,7,9,10,11] (.s .o (.k [0,4,5,7,9,10,11,13] (.s .o (.k [0,4,5,7,9,10,11] (.s (.s .o (.b (.l ⟨[4,5,10],[(0,.bx 0 0),(7,.sl 1),(9,.sl 2),(11,.sl 3),(14,dI)],[.box [.dat (.list (.st (.prod .str tI))),.dat (.list (.st (.prod .str (.prod (.list .str) (.prod (.list .str) (.prod (.list (.tree .stm)) (.st (.prod tI (.prod tI (.prod .str (.prod tI (.list (.tree .exp))))))))))))),.sl 4,.sl 5,.sl 6,dI,dI] true,.own tI true,.own tI true,.own tI true,.own tn true,.own .str true,.own tI true]⟩ (.k [0,4,5,7,9,10,11,14] (.s (.s .o (.k [0,4,5,7,9,10,11,14,129] p0)) (.k [0,4,5,7,9,10,11,14] (.s (.b .o) (.k [0,4,5,7,9,10,11,14] .o)))))))) (.k [0,4,5,7,9,10,11] (.s .o (.k [0,5,7,9,10,15] (.s .o (.k [0,5,7,9,10,15] (.s .o (.k [0,5,7,9,10,15,16] (.s .o (.k [0,5,7,9,15] (.s .o (.b (.l ⟨[5,15],[(0,.bx 0 0),(7,.sl 1),(9,.sl 2),(17,dI)],[.box [.dat (.list (.st (.prod .str tI))),.dat (.list (.st (.prod .str (.prod (.list .str) (.prod (.list .str) (.prod (.list (.tree .stm)) (.st (.prod tI (.prod tI (.prod .str (.prod tI (.list (.tree .exp))))))))))))),.sl 3,.sl 4,.sl 2,dI,dI] true,.own tI true,.own tI true,.own tn true,.own .str true]⟩ (.k [0,5,7,9,15,17] (.s (.s .o (.k [0,5,7,9,15,17,168] p0)) (.k [0,5,7,9,15,17] (.s (.b (.s .o (.k [0,5,7,9,15,17,18] .o))) (.k [0,5,7,9,15,17] .o)))))))))))))))))))))))))))))))))))))))))))))))) []
theorem ZBQ:ZqA P pol (Zaf pol) 71 2 a71:=⟨⟨_,_,Tryz.func71,rfl,rfl,rfl,by kernel_rfl⟩,by decide⟩
theorem ZBR:a71.c.ok=true:=by kernel_rfl
noncomputable def ZJh (n:Nat):Zbc:=⟨[.bx 0 0,.agg [dI,.dat .str,.dat .str,dI,dI,dI,.dat .str,dI,.dat (.list (.tree .exp)),dI,dI,.dat .str,dI,.dat (.list (.tree .exp)),.dat (.list (.tree .exp)),.dat (.list (.tree .stm)),.dat (.list (.tree .stm))]],[.box [.dat (.list (.st (.prod .str tI))),.dat (.list (.st (.prod .str (.prod (.list .str) (.prod (.list .str) (.prod (.list (.tree .stm)) (.st (.prod tI (.prod tI (.prod .str (.prod tI (.list (.tree .exp))))))))))))),.sl 1,.sl 2,.sl 3,dI,dI] true,.own tn true,.own .str true,.own tI true],1,[],[(0,.bx 0 0)],[.box [.dat (.list (.st (.prod .str tI))),.dat (.list (.st (.prod .str (.prod (.list .str) (.prod (.list .str) (.prod (.list (.tree .stm)) (.st (.prod tI (.prod tI (.prod .str (.prod tI (.list (.tree .exp))))))))))))),.sl 1,.sl 2,.sl 3,dI,dI] true,.own tn true,.own .str true,.own tI true],fun (x:Int×ByteArray×ByteArray×Int×Int×Int×ByteArray×Int×List ExT×Int×Int×ByteArray×Int×List ExT×List ExT×List SmT×List SmT×Y1×(List Y0)×Int×Int×TN×List ByteArray×List Int)=>(E71 (N27 n) x.1 x.2.1 x.2.2.1 x.2.2.2.1 x.2.2.2.2.1 x.2.2.2.2.2.1 x.2.2.2.2.2.2.1 x.2.2.2.2.2.2.2.1 x.2.2.2.2.2.2.2.2.1 x.2.2.2.2.2.2.2.2.2.1 x.2.2.2.2.2.2.2.2.2.2.1 x.2.2.2.2.2.2.2.2.2.2.2.1 x.2.2.2.2.2.2.2.2.2.2.2.2.1 x.2.2.2.2.2.2.2.2.2.2.2.2.2.1 x.2.2.2.2.2.2.2.2.2.2.2.2.2.2.1 x.2.2.2.2.2.2.2.2.2.2.2.2.2.2.2.1 x.2.2.2.2.2.2.2.2.2.2.2.2.2.2.2.2.1 x.2.2.2.2.2.2.2.2.2.2.2.2.2.2.2.2.2.1 x.2.2.2.2.2.2.2.2.2.2.2.2.2.2.2.2.2.2.1 x.2.2.2.2.2.2.2.2.2.2.2.2.2.2.2.2.2.2.2.1 x.2.2.2.2.2.2.2.2.2.2.2.2.2.2.2.2.2.2.2.2.1 x.2.2.2.2.2.2.2.2.2.2.2.2.2.2.2.2.2.2.2.2.2.1 x.2.2.2.2.2.2.2.2.2.2.2.2.2.2.2.2.2.2.2.2.2.2.1 x.2.2.2.2.2.2.2.2.2.2.2.2.2.2.2.2.2.2.2.2.2.2.2:Option Y2)⟩
theorem ZKr (n:Nat) (hh:ZdA pol P 27 (ZDt n)):ZdA pol P 71 (ZJh n):=mOf (a:=a71) (sp:=ZJh n) ZBQ rfl ZBR (by kernel_rfl) (by kernel_rfl) (by kernel_rfl) rfl rfl (by kernel_rfl) Zbf (imC s26 (imC hh (imC s28 (imC s50 (imC s87 imN))))) (fun x=>by kernel_rfl)
noncomputable def a46:FA:=Zbe (Zaf pol) Tryz.f46 241 (.s .o (.c 3 (.s .o (.b (.s .o (.s (.s .o (.k [0,3,4] .o)) (.s .o (.s (.s .o (.k [0,3,5] (.s .o (.k [0,3,5,6] (.s .o (.k [0,5,6,7] (.s .o (.k [0,5,6,7] .o)))))))) (.s .o (.s (.s .o (.k [0,8] .o)) (.s .o (.s p0 (.s .o (.s (.s .o (.s (.s .o (.b (.l ⟨[3],[(0,.bx 0 0),(10,.sl 1),(11,dI)],[.box [.dat (.list (.st (.prod .str tI))),.dat (.list (.st (.prod .str (.prod (.list .str) (.prod (.list .str) (.prod (.list (.tree .stm)) (.st (.prod tI (.prod tI (.prod .str (.prod tI (.list (.tree .exp))))))))))))),.sl 2,.sl 3,.sl 4,dI,dI] true,.own tI true,.own tn true,.own .str true,.own tI true]⟩ (.k [0,3,10,11] (.s (.s .o (.k [0,3,10,11,108] p0)) (.k [0,3,10,11] (.s (.b .o) (.k [0,3,10,11] .o)))))))) (.k [0,3,10] (.s .o (.k [0,3] .o))))) (.s .o (.s (.s .o (.k [0,3,12] (.s .o (.k [0,3,12,13] (.s .o (.k [0,3,12,13,14] (.s .o (.k [0,3,12,13,14] (.s .o (.k [0,3,12,13,14,15] (.s .o (.k [0,3,12,13,14,15,16] (.s .o (.k [0,3,12,14,15,16] (.s .o (.k [0,3,12,15,16] (.s .o (.k [0,12,15,16] (.s (.s .o (.b (.l ⟨[12,16],[(0,.bx 0 0),(15,.sl 1),(17,dI)],[.box [.dat (.list (.st (.prod .str tI))),.dat (.list (.st (.prod .str (.prod (.list .str) (.prod (.list .str) (.prod (.list (.tree .stm)) (.st (.prod tI (.prod tI (.prod .str (.prod tI (.list (.tree .exp))))))))))))),.sl 2,.sl 3,.sl 4,dI,dI] true,.own tI true,.own tn true,.own .str true,.own tI true]⟩ (.k [0,12,15,16,17] (.s (.s .o (.k [0,12,15,16,17,202] p0)) (.k [0,12,15,16,17] (.s (.b .o) (.k [0,12,15,16,17] .o)))))))) (.k [0,12,16] .o)))))))))))))))))))) (.s .o p0))))))))))))))))) []
theorem ZKs:ZqA P pol (Zaf pol) 46 2 a46:=⟨⟨_,_,Tryz.func46,rfl,rfl,rfl,by kernel_rfl⟩,by decide⟩
theorem ZKt:a46.c.ok=true:=by kernel_rfl
noncomputable def ZJi (n:Nat):Zbc:=⟨[.bx 0 0,.dat (.st (.prod tI (.prod .str (.prod .str (.prod tI (.prod (.st (.prod tI (.prod tI (.prod .str (.prod tI (.list (.tree .exp))))))) (.prod (.st (.prod tI (.prod tI (.prod .str (.prod tI (.list (.tree .exp))))))) (.prod (.list (.tree .exp)) (.prod (.list (.tree .stm)) (.list (.tree .stm)))))))))))],[.box [.dat (.list (.st (.prod .str tI))),.dat (.list (.st (.prod .str (.prod (.list .str) (.prod (.list .str) (.prod (.list (.tree .stm)) (.st (.prod tI (.prod tI (.prod .str (.prod tI (.list (.tree .exp))))))))))))),.sl 1,.sl 2,.sl 3,dI,dI] true,.own tn true,.own .str true,.own tI true],1,[],[(0,.bx 0 0)],[.box [.dat (.list (.st (.prod .str tI))),.dat (.list (.st (.prod .str (.prod (.list .str) (.prod (.list .str) (.prod (.list (.tree .stm)) (.st (.prod tI (.prod tI (.prod .str (.prod tI (.list (.tree .exp))))))))))))),.sl 1,.sl 2,.sl 3,dI,dI] true,.own tn true,.own .str true,.own tI true],fun (x:Y32×Y1×(List Y0)×Int×Int×TN×List ByteArray×List Int)=>(E46 (N27 n) x.1 x.2.1 x.2.2.1 x.2.2.2.1 x.2.2.2.2.1 x.2.2.2.2.2.1 x.2.2.2.2.2.2.1 x.2.2.2.2.2.2.2:Option Y2)⟩
theorem ZKu (n:Nat) (hh:ZdA pol P 27 (ZDt n)):ZdA pol P 46 (ZJi n):=mOf (a:=a46) (sp:=ZJi n) ZKs rfl ZKt (by kernel_rfl) (by kernel_rfl) (by kernel_rfl) rfl rfl (by kernel_rfl) (ZaM s69 Zbf) (imC s26 (imC hh (imC s28 (imC s47 (imC s48 (imC s49 (imC s50 (imC (ZKr n hh) imN)))))))) (fun x=>by kernel_rfl)
noncomputable def a27:FA:=Zbe (Zaf pol) Tryz.f27 17 (.s .o (.b (.l ⟨[1],[(0,.bx 0 0),(4,dI)],[.box [.dat (.list (.st (.prod .str tI))),.dat (.list (.st (.prod .str (.prod (.list .str) (.prod (.list .str) (.prod (.list (.tree .stm)) (.st (.prod tI (.prod tI (.prod .str (.prod tI (.list (.tree .exp))))))))))))),.sl 1,.sl 2,.sl 3,dI,dI] true,.own tn true,.own .str true,.own tI true]⟩ (.k [0,1,4] (.s (.s .o (.k [0,1,4,8] p0)) (.k [0,1,4] (.s (.b .o) (.k [0,1,4] .o)))))))) []
theorem ZFe:ZqA P pol (Zaf pol) 27 2 a27:=⟨⟨_,_,Tryz.func27,rfl,rfl,rfl,by kernel_rfl⟩,by decide⟩
theorem ZFf:a27.c.ok=true:=by kernel_rfl
noncomputable def Z6g:Zbc:=ZDt 1000
theorem ZEW:∀ n,ZdA pol P 27 (ZDt n)
 | 0=>ino (by kernel_rfl) (by kernel_rfl) (by kernel_rfl) (fun _=>rfl)
 | n+1=>mOf (a:=a27) (sp:=ZDt (n+1)) ZFe rfl ZFf (by kernel_rfl) (by kernel_rfl) (by kernel_rfl) rfl rfl (by kernel_rfl) Zbf (imC (ZEW n) (imC (ZKu n (ZEW n)) imN)) (fun x=>by kernel_rfl)
theorem s27:ZdA pol P 27 Z6g:=ZEW 1000
noncomputable def a10:FA:=Zbe (Zaf pol) Tryz.f10 144 (.s .o (.c 1 (.s (.s .o (.s .o p1)) (.k [1,2] (.s .o (.k [1,2,5] (.s (.s .o (.b (.l ⟨[1],[(2,.bx 0 0),(5,.bx 1 0),(6,dI)],[.box [.nils,.nils] true,.box [.sl 2,.sl 3] true,.own (.st (.prod .str tI)) true,.own (.st (.prod .str (.prod tI (.prod (.list tn) (.prod tI tI))))) true]⟩ (.k [1,2,5,6] (.s (.s .o (.k [1,2,5,6,27] p0)) (.k [1,2,5,6] (.s (.b (.s .o (.c 7 (.k [1,2,5,6,7] (.s .o (.k [1,2,5,6,7,8] (.s .o (.k [1,2,5,6,7,8] (.s (.s .o (.b (.l ⟨[1,6,7],[(2,.bx 0 0),(5,.bx 1 0),(8,.bx 2 0),(9,dI)],[.box [.nils,.nils] true,.box [.sl 3,.sl 4] true,.box [.dat (.list (.st (.prod .str tI))),.dat (.list (.st (.prod .str (.prod (.list .str) (.prod (.list .str) (.prod (.list (.tree .stm)) (.st (.prod tI (.prod tI (.prod .str (.prod tI (.list (.tree .exp))))))))))))),.sl 5,.sl 6,.sl 7,dI,dI] true,.own (.st (.prod .str tI)) true,.own (.st (.prod .str (.prod tI (.prod (.list tn) (.prod tI tI))))) true,.own tn true,.own .str true,.own tI true]⟩ (.k [1,2,5,6,7,8,9] (.s (.s .o (.k [1,2,5,6,7,8,9,47] p0)) (.k [1,2,5,6,7,8,9] (.s (.b (.s .o (.k [1,2,5,6,7,8,9] .o))) (.k [1,2,5,6,7,8,9] .o)))))))) (.k [1,2,5,6,7,8] (.s (.s .o (.b (.l ⟨[1,6,7],[(2,.bx 0 0),(5,.bx 1 0),(8,.bx 2 0),(10,dI)],[.box [.nils,.nils] true,.box [.sl 3,.sl 4] true,.box [.dat (.list (.st (.prod .str tI))),.dat (.list (.st (.prod .str (.prod (.list .str) (.prod (.list .str) (.prod (.list (.tree .stm)) (.st (.prod tI (.prod tI (.prod .str (.prod tI (.list (.tree .exp))))))))))))),.sl 5,.sl 6,.sl 7,dI,dI] true,.own (.st (.prod .str tI)) true,.own (.st (.prod .str (.prod tI (.prod (.list tn) (.prod tI tI))))) true,.own tn true,.own .str true,.own tI true]⟩ (.k [1,2,5,6,7,8,10] (.s (.s .o (.k [1,2,5,6,7,8,10,80] p0)) (.k [1,2,5,6,7,8,10] (.s (.b (.s .o (.k [1,2,5,6,7,8,10] .o))) (.k [1,2,5,6,7,8,10] .o)))))))) (.k [1,2,5,6,7,8] (.s .o (.k [1,2,5,6,7,8] (.s .o (.k [1,2,5,6,7,8,11] (.s (.s .o (.k [1,2,5,6,7,8,11,121] p1)) (.k [1,2,5,6,7,8,11] .o)))))))))))))))))) (.k [1,2,5,6] .o)))))))) (.k [2,5] p0)))))))) [.cell 2 26,.tmp 3]
noncomputable def ZBY:FSp:=⟨[(.st (.prod (.list (.st (.prod .str tI))) (.list (.st (.prod .str (.prod (.list .str) (.prod (.list .str) (.prod (.list (.tree .stm)) (.st (.prod tI (.prod tI (.prod .str (.prod tI (.list (.tree .exp)))))))))))))))],[(.st (.prod (.list (.st (.prod .str tI))) (.list (.st (.prod .str (.prod tI (.prod (.list tn) (.prod tI tI)))))))),tI],fun x=>F10 x⟩
theorem s10:Zbk pol P 10 ZBY:=sO (a:=a10) Tryz.func10 (ZaM s25 Zbf) (imC s26 (imC s27 (imC s28 imN)))
noncomputable def a29:FA:=Zbe (Zaf pol) Tryz.f29 25 (.s .o (.s (.s .o (.k [0,9] p1)) (.k [0] (.s .o (.k [0,3] (.s .o (.k [3,0] p0))))))) [.tmp 2]
noncomputable def Z6o:Zbc:=⟨[.bx 0 0],[.box [.sl 1,dI] true,.own tI false],1,[dI],[(0,.bx 0 0)],[.box [.sl 1,dI] true,.own tI false],fun (x:Int×List Int)=>(F29 x.1 x.2:Option Y28)⟩
theorem s29:ZdA pol P 29 Z6o:=mO (a:=a29) Tryz.func29 Zbf imN
noncomputable def a5:FA:=Zbe (Zaf pol) Tryz.f5 14 (.s .o (.s .o (.k [0,1] (.j ⟨[],[(0,dI)],[]⟩ (.s .o p0) (.k [0] p0))))) [.tmp 4]
noncomputable def sp5:FSp:=⟨[tI,tI],[tI],fun x=>F5 x.1 x.2⟩
theorem s5:Zbk pol P 5 sp5:=sO (a:=a5) Tryz.func5 Zbf imN
noncomputable def a52:FA:=Zbe (Zaf pol) Tryz.f52 7 (.s .o (.s (.s .o p1) (.k [] p0))) [.tmp 2]
noncomputable def ZBS:FSp:=⟨[tI],[(.list .str)],fun x=>F52 x⟩
theorem s52:Zbk pol P 52 ZBS:=sO (a:=a52) Tryz.func52 Zbf imN
noncomputable def a53:FA:=Zbe (Zaf pol) Tryz.f53 25 (.s .o (.s .o (.s .o (.s (.b (.s .o (.s p0 (.s .o p1)))) (.k [1] p0))))) [.tmp 4]
noncomputable def ZBP:FSp:=⟨[tI,tI],[tI],fun x=>F53 x.1 x.2⟩
theorem s53:Zbk pol P 53 ZBP:=sO (a:=a53) Tryz.func53 (ZaM s5 Zbf) imN
noncomputable def a31:FA:=Zbe (Zaf pol) Tryz.f31 115 (.s .o (.s .o (.s .o (.s .o (.s .o (.k [0,1,2,6,7,8,9,10] (.s (.b (.j ⟨[1,2,7,8,9,10],[(0,.bx 0 0),(6,.bx 1 0),(20,dB)],[.box [.sl 2,dI] true,.box [dI,dI,.dat .str,dI,.nils] true,.own tI false]⟩ .o (.k [0,1,2,6,7,8,9,10,20] (.s (.s (.j ⟨[7,8,10],[(0,.bx 0 0),(6,.bx 1 0),(37,dB)],[.box [.sl 2,dI] true,.box [dI,dI,.dat .str,dI,.nils] true,.own tI false]⟩ .o (.k [6,7,8,10,37,0] p1)) (.k [6,7,10,0] p0)) (.s .o (.s p0 (.s .o (.s p0 (.s .o p1))))))))) (.k [0,1,2,6,10] p0)))))))) [.cell 6 75]
theorem ZKv:ZqA P pol (Zaf pol) 31 3 a31:=⟨⟨_,_,Tryz.func31,rfl,rfl,rfl,by kernel_rfl⟩,by decide⟩
theorem ZKw:a31.c.ok=true:=by kernel_rfl
noncomputable def ZIw (n:Nat):Zbc:=⟨[.bx 0 0,dI,dI],[.box [.sl 1,dI] true,.own tI false],1,[.agg [dI,dI,.dat .str,dI,.sl 1]],[(0,.bx 0 0)],[.box [.sl 2,dI] true,.own (.tree .exp) true,.own tI false],fun (x:Int×Int×Int×List Int)=>(N31 n x.1 x.2.1 x.2.2.1 x.2.2.2:Option Y8)⟩
noncomputable def Z6r:Zbc:=ZIw 1000
theorem ZKb:∀ n,ZdA pol P 31 (ZIw n)
 | 0=>ino (by kernel_rfl) (by kernel_rfl) (by kernel_rfl) (fun _=>rfl)
 | n+1=>mOf (a:=a31) (sp:=ZIw (n+1)) ZKv rfl ZKw (by kernel_rfl) (by kernel_rfl) (by kernel_rfl) rfl rfl (by kernel_rfl) (ZaM s5 (ZaM s52 (ZaM s53 Zbf))) (imC (ZKb n) (imC s29 imN)) (fun x=>by kernel_rfl)
theorem s31:ZdA pol P 31 Z6r:=ZKb 1000
noncomputable def a51:FA:=Zbe (Zaf pol) Tryz.f51 156 (.s .o (.s .o (.s .o (.s .o (.k [0,1,2,6,7,8,9] (.s .o (.j ⟨[1,2,8,9],[(0,.bx 0 0),(6,.bx 1 0),(10,dI)],[.box [.sl 2,dI] true,.box [dI,.dat .str,.dat .str,dI,dI,dI,.dat .str,dI,.nils,dI,dI,.dat .str,dI,.nils,.nils,.nils,.nils] true,.own tI false]⟩ (.j ⟨[1,2,8,9,10],[(0,.bx 0 0),(6,.bx 1 0),(44,dB)],[.box [.sl 2,dI] true,.box [dI,.dat .str,.dat .str,dI,dI,dI,.dat .str,dI,.nils,dI,dI,.dat .str,dI,.nils,.nils,.nils,.nils] true,.own tI false]⟩ .o (.k [0,1,2,6,8,9,10,44] p0)) (.k [0,1,2,6,8,9,10] (.s (.b (.s .o (.s p0 (.s .o (.s p0 (.s .o (.s (.s .o (.k [0,1,2,6,11] (.s .o (.k [0,1,2,6,11] (.s .o (.k [6,11,0] p0)))))) (.s .o (.s (.s .o (.k [0,1,2,6] (.s .o (.k [0,1,2,6,12] (.s .o (.k [6,12,0] p0)))))) (.s .o (.s p0 (.s .o (.s (.s .o (.k [0,1,6,9,13] (.s (.s .o (.b (.l ⟨[1,9],[(0,.bx 0 0),(6,.bx 1 0),(13,.bx 2 0),(14,dI)],[.box [.sl 3,dI] true,.box [dI,.dat .str,.dat .str,dI,dI,dI,.dat .str,dI,.nils,dI,dI,.dat .str,dI,.nils,.nils,.nils,.nils] true,.box [dI,.dat .str,.dat .str,dI,dI,dI,.dat .str,dI,.nils,dI,dI,.dat .str,dI,.nils,.sl 4,.nils,.nils] true,.own tI false,.own (.tree .exp) true]⟩ (.k [0,1,6,9,13,14] (.s (.s .o (.k [0,1,6,9,13,14,142] p0)) (.k [0,1,6,9,13,14] (.s (.b .o) (.k [0,1,6,9,13,14] .o)))))))) (.k [6,13,0] p0)))) .o))))))))))))) (.k [6,9,0] p0)))))))))) [.cell 6 117]
theorem ZKx:ZqA P pol (Zaf pol) 51 3 a51:=⟨⟨_,_,Tryz.func51,rfl,rfl,rfl,by kernel_rfl⟩,by decide⟩
theorem ZKy:a51.c.ok=true:=by kernel_rfl
noncomputable def ZJj (n:Nat):Zbc:=⟨[.bx 0 0,dI,dI],[.box [.sl 1,dI] true,.own tI false],1,[.agg [dI,.dat .str,.dat .str,dI,dI,dI,.dat .str,dI,.sl 1,dI,dI,.dat .str,dI,.sl 2,.sl 3,.sl 4,.sl 5]],[(0,.bx 0 0)],[.box [.sl 6,dI] true,.own (.tree .exp) true,.own (.tree .exp) true,.own (.tree .exp) true,.own (.tree .stm) true,.own (.tree .stm) true,.own tI false],fun (x:Int×Int×Int×List Int)=>(E51 (N30 n) x.1 x.2.1 x.2.2.1 x.2.2.2:Option Y4)⟩
theorem ZKz (n:Nat) (hh:ZdA pol P 30 (ZHN n)):ZdA pol P 51 (ZJj n):=mOf (a:=a51) (sp:=ZJj n) ZKx rfl ZKy (by kernel_rfl) (by kernel_rfl) (by kernel_rfl) rfl rfl (by kernel_rfl) (ZaM s5 (ZaM s52 Zbf)) (imC s29 (imC hh (imC s31 imN))) (fun x=>by kernel_rfl)
noncomputable def a30:FA:=Zbe (Zaf pol) Tryz.f30 36 (.s .o (.s .o (.s (.s .o (.k [0,1,2,9,10] (.b (.l ⟨[1,2],[(0,.bx 0 0),(9,.sl 1),(10,dI)],[.box [.sl 2,dI] true,.own (.tree .stm) true,.own tI false]⟩ (.k [0,1,2,9,10] (.s (.j ⟨[1,2,10],[(0,.bx 0 0),(9,.sl 1),(25,dB)],[.box [.sl 2,dI] true,.own (.tree .stm) true,.own tI false]⟩ .o (.k [0,1,2,9,10,25] p0)) (.k [0,1,2,9,10] (.s (.b .o) (.k [0,1,2,9,10] .o))))))))) (.k [9,0] p0)))) [.tmp 8]
theorem ZK0:ZqA P pol (Zaf pol) 30 4 a30:=⟨⟨_,_,Tryz.func30,rfl,rfl,rfl,by kernel_rfl⟩,by decide⟩
theorem ZK1:a30.c.ok=true:=by kernel_rfl
noncomputable def Z6q:Zbc:=ZHN 1000
theorem ZJF:∀ n,ZdA pol P 30 (ZHN n)
 | 0=>ino (by kernel_rfl) (by kernel_rfl) (by kernel_rfl) (fun _=>rfl)
 | n+1=>mOf (a:=a30) (sp:=ZHN (n+1)) ZK0 rfl ZK1 (by kernel_rfl) (by kernel_rfl) (by kernel_rfl) rfl rfl (by kernel_rfl) (ZaM s5 Zbf) (imC (ZJF n) (imC s29 (imC (ZKz n (ZJF n)) imN))) (fun x=>by kernel_rfl)
theorem s30:ZdA pol P 30 Z6q:=ZJF 1000
noncomputable def a11:FA:=Zbe (Zaf pol) Tryz.f11 61 (.s .o (.s .o (.k [2,3] (.s .o (.s .o (.k [2,3,5] (.s .o (.k [2,3,5] (.s .o (.k [2,3,5] (.s .o (.k [2,3,5] (.s .o (.k [2,3,5] (.s .o (.k [2,5] p0)))))))))))))))) [.cell 2 41]
noncomputable def Z5Y:FSp:=⟨[tL],[(.st (.prod (.list (.st (.prod .str tI))) (.list (.st (.prod .str (.prod (.list .str) (.prod (.list .str) (.prod (.list (.tree .stm)) (.st (.prod tI (.prod tI (.prod .str (.prod tI (.list (.tree .exp)))))))))))))))],fun x=>F11 x⟩
theorem s11:Zbk pol P 11 Z5Y:=sO (a:=a11) Tryz.func11 (ZaM s5 Zbf) (imC s29 (imC s30 (imC s31 imN)))
noncomputable def a4:FA:=Zbe (Zaf pol) Tryz.f4 12 (.s .o (.s .o (.c 3 (.k [2,3] p0)))) [.cell 2 26]
noncomputable def sp4:FSp:=⟨[tL],[(.st (.prod (.list (.st (.prod .str tI))) (.list (.st (.prod .str (.prod tI (.prod (.list tn) (.prod tI tI))))))))],fun x=>F4 x⟩
theorem s4:Zbk pol P 4 sp4:=sO (a:=a4) Tryz.func4 (ZaM s10 (ZaM s11 Zbf)) imN
noncomputable def a98:FA:=Zbe (Zaf pol) Tryz.f98 6 (.s .o p0) [.tmp 2]
noncomputable def Z3z:FSp:=⟨[tI],[tI],fun x=>F98 x⟩
theorem s98:Zbk pol P 98 Z3z:=sO (a:=a98) Tryz.func98 Zbf imN
noncomputable def Z3y:FA:=Zbe (Zaf pol) Tryz.f100 21 (.s .o (.s .o (.s (.s .o (.b (.l ⟨[0],[(3,.sl 0),(4,dI)],[.own tI true]⟩ (.k [0,3,4] (.s (.s .o p0) (.k [0,3,4] (.s (.b .o) (.k [0,3,4] .o)))))))) (.k [0,3] (.s .o (.k [3] p0)))))) [.tmp 2]
noncomputable def Z1p:FSp:=⟨[tI],[tL],fun x=>ZuC x⟩
theorem Z1q:Zbk pol P 100 Z1p:=sO (a:=Z3y) Tryz.func100 (ZaM s98 Zbf) imN
noncomputable def Z3C:FA:=Zbe (Zaf pol) Tryz.f101 22 (.s .o (.s (.s .o (.b (.s .o (.s p0 (.j ⟨[3],[(7,dB)],[]⟩ (.s .o (.s .o (.s .o p0))) (.k [3,7] (.s p0 (.s .o (.s p0 (.s .o (.s p0 (.s .o p1)))))))))))) (.k [] p0))) [.tmp 2]
noncomputable def Z1s:FSp:=⟨[tI],[tL],fun x=>Z0p x⟩
theorem Z3D:Zbk pol P 101 Z1s:=sO (a:=Z3C) Tryz.func101 Zbf imN
noncomputable def a97:FA:=Zbe (Zaf pol) Tryz.f97 31 (.s .o (.s (.s .o (.b (.j ⟨[0,4],[(5,dB)],[]⟩ (.s .o (.s .o (.s .o (.s .o (.s .o p0))))) (.k [0,4,5] (.s p0 (.j ⟨[0,4],[(10,dB)],[]⟩ (.s .o (.s .o (.s .o (.s .o (.s .o p0))))) (.k [0,4,10] (.s p0 (.j ⟨[0,4],[(15,dB)],[]⟩ (.s .o (.s .o (.s .o p0))) (.k [0,4,15] (.s p0 (.j ⟨[0,4],[(19,dB)],[]⟩ (.s .o p0) (.k [0,4,19] (.s p0 (.j ⟨[0],[(22,dB)],[]⟩ (.s .o p0) (.k [0,22] p1)))))))))))))))) (.k [0] (.s (.j ⟨[],[(30,dB)],[]⟩ .o (.k [30] p1)) (.k [] p0))))) [.tmp 2,.tmp 3]
noncomputable def Z3w:FSp:=⟨[tI],[tI,.bool],fun x=>F97 x⟩
theorem s97:Zbk pol P 97 Z3w:=sO (a:=a97) Tryz.func97 Zbf imN
noncomputable def a99:FA:=Zbe (Zaf pol) Tryz.f99 21 (.s .o (.s (.s .o (.b (.l ⟨[0,1],[(5,dI)],[]⟩ (.k [0,1,5] (.s (.s .o (.k [0,1,5,9] p0)) (.k [0,1,5] (.s (.b (.s .o (.k [0,1,5,20] p1))) (.k [0,1,5] .o)))))))) (.k [] p0))) [.tmp 4]
noncomputable def Z32:FSp:=⟨[tL,tL],[.bool],fun x=>F99 x.1 x.2⟩
theorem s99:Zbk pol P 99 Z32:=sO (a:=a99) Tryz.func99 Zbf imN
noncomputable def a88:FA:=Zbe (Zaf pol) Tryz.f88 106 (.s .o (.c 2 (.s .o (.k [1,2,5,6] (.s (.j ⟨[1,2],[(26,dB)],[]⟩ .o (.k [1,2,26] p1)) (.k [1,2] (.s (.b (.s .o (.k [1,2,27] (.s (.j ⟨[],[(4,dB)],[]⟩ .o .o) (.s .o (.k [1,2,53] (.s (.s (.j ⟨[1],[(70,dB)],[]⟩ .o (.k [1,70] p1)) (.k [1] (.s (.s .o (.k [72,73,74] (.b (.l ⟨[72,73],[(74,dI)],[]⟩ (.k [72,73,74] (.s .o (.s p0 (.k [72,73,74] (.s (.b (.s .o (.s .o p1))) (.k [72,73,74] .o)))))))))) (.k [] p0)))) (.j ⟨[1,2],[(81,dB)],[]⟩ .o (.k [1,2,81] (.s (.j ⟨[],[(4,dB)],[]⟩ .o .o) .o)))))))))) (.k [1,2] p0)))))))) [.tmp 4]
noncomputable def Z3O:FSp:=⟨[tn,tL],[.bool],fun x=>F88 x.1 x.2⟩
theorem s88:Zbk pol P 88 Z3O:=sO (a:=a88) Tryz.func88 (ZaM s97 (ZaM s98 (ZaM s99 (ZaM Z1q (ZaM Z3D Zbf))))) imN
noncomputable def a89:FA:=Zbe (Zaf pol) Tryz.f89 53 (.s .o (.c 3 (.s .o (.j ⟨[3],[(5,dI)],[]⟩ (.s .o (.b (.s .o (.s p0 (.s .o (.s .o (.s .o (.s .o (.j ⟨[0,3,5,7],[(14,dB)],[]⟩ (.s .o p0) (.k [0,3,5,7,14] (.s .o (.s .o (.s (.j ⟨[],[(4,dB)],[]⟩ .o .o) (.s .o (.s .o (.s .o (.s .o (.s .o p0)))))))))))))))))) (.k [3,5] (.j ⟨[],[(4,dB)],[]⟩ .o .o)))))) [.tmp 4]
noncomputable def Z3P:FSp:=⟨[(.list tn),tn],[.bool],fun x=>F89 x.1 x.2⟩
theorem s89:Zbk pol P 89 Z3P:=sO (a:=a89) Tryz.func89 (ZaM s98 Zbf) imN
noncomputable def a72:FA:=Zbe (Zaf pol) Tryz.f72 80 (.s .o (.s .o (.c 7 (.k [0,1,2,7] (.s .o (.s (.s .o (.k [0,1,2,7,8,16,17,18] (.b (.l ⟨[0,1,2,7,16,17],[(8,.sl 0),(18,dI)],[.own tI true]⟩ (.k [0,1,2,7,8,16,17,18] (.s .o (.s p0 (.k [0,1,2,7,8,16,17,18] (.s (.b (.s .o (.s (.j ⟨[0,1,2,7,10,16,17,18],[(8,.sl 0),(35,dB)],[.own tI true]⟩ .o (.k [0,1,2,7,8,10,16,17,18,35] p1)) (.k [0,1,2,7,8,10,16,17,18] .o)))) (.k [0,1,2,7,8,16,17,18] .o)))))))))) (.k [0,7,8] (.s (.j ⟨[7],[(8,.sl 0),(53,dB)],[.own tI true]⟩ .o (.k [7,8,53] p1)) (.k [7,8] (.j ⟨[],[],[]⟩ (.s .o (.b (.s .o (.s p0 (.j ⟨[7,55],[(8,.sl 0),(58,dB)],[.own tI true]⟩ (.s .o (.s .o (.s .o (.s .o (.s .o (.s .o (.s .o p0))))))) (.k [7,8,55,58] (.s p0 (.s .o (.s p0 (.s .o (.s (.s .o (.k [74] p1)) (.s .o (.s (.s .o p1) .o))))))))))))) (.k [] p0))))))))))) [.tmp 6]
noncomputable def Z3x:FSp:=⟨[(.list tn),tI,tL],[tI],fun x=>F72 x.1 x.2.1 x.2.2⟩
theorem s72:Zbk pol P 72 Z3x:=sO (a:=a72) Tryz.func72 (ZaM s88 (ZaM s89 Zbf)) imN
noncomputable def a54:FA:=Zbe (Zaf pol) Tryz.f54 22 (.s .o (.s .o (.k [0,3] (.s (.s .o (.b (.l ⟨[0,9],[(3,.sl 0),(10,dI)],[.own tI true]⟩ (.k [0,3,9,10] (.s .o (.s p0 (.k [0,3,9,10] (.s (.b p0) (.k [0,3,9,10] .o))))))))) (.k [3] p0))))) [.tmp 2]
noncomputable def Z2K:FSp:=⟨[(.list tn)],[tL],fun x=>F54 x⟩
theorem s54:Zbk pol P 54 Z2K:=sO (a:=a54) Tryz.func54 (ZaM s72 Zbf) imN
noncomputable def a32:FA:=Zbe (Zaf pol) Tryz.f32 21 (.s .o (.s (.j ⟨[0,1],[(12,dB)],[]⟩ .o (.k [0,1,12] p1)) (.k [0,1] p0))) [.tmp 4]
noncomputable def Z5X:FSp:=⟨[(.list tn),tI],[tI],fun x=>F32 x.1 x.2⟩
theorem s32:Zbk pol P 32 Z5X:=sO (a:=a32) Tryz.func32 (ZaM s54 Zbf) imN
noncomputable def a34:FA:=Zbe (Zaf pol) Tryz.f34 4 (.s .o p0) [.tmp 2]
noncomputable def Z2H:FSp:=⟨[tI],[tI],fun x=>F34 x⟩
theorem s34:Zbk pol P 34 Z2H:=sO (a:=a34) Tryz.func34 Zbf imN
noncomputable def Z28:FA:=Zbe (Zaf pol) Tryz.f102 15 (.s .o (.s (.s .o p1) (.k [0] p0))) [.tmp 2]
noncomputable def Z0V:FSp:=⟨[tI],[.str],fun x=>Zcz x⟩
theorem ZyN:Zbk pol P 102 Z0V:=sO (a:=Z28) Tryz.func102 Zbf imN
noncomputable def Z3s:FA:=Zbe (Zaf pol) Tryz.f106 6 (.s .o p0) [.tmp 2]
noncomputable def Z1o:FSp:=⟨[tI],[tI],fun x=>Z0Q x⟩
theorem Z3t:Zbk pol P 106 Z1o:=sO (a:=Z3s) Tryz.func106 Zbf imN
noncomputable def Z3M:FA:=Zbe (Zaf pol) Tryz.f107 25 (.s .o (.j ⟨[],[(0,.dat (.int .u64)),(2,dI)],[]⟩ (.s .o p1) (.k [0,2] (.j ⟨[],[(0,.dat (.int .u64)),(2,dI)],[]⟩ (.s .o p1) (.k [0,2] (.j ⟨[],[(0,.dat (.int .u64)),(2,dI)],[]⟩ (.s .o p1) (.k [0,2] p0))))))) [.tmp 2]
noncomputable def Z12:FSp:=⟨[(.int .u64)],[tI],fun x=>ZuT x⟩
theorem Z3N:Zbk pol P 107 Z12:=sO (a:=Z3M) Tryz.func107 Zbf imN
noncomputable def Z3I:FA:=Zbe (Zaf pol) Tryz.f108 4 (.s .o (.s (.s .o p1) (.k [] p0))) [.tmp 2]
noncomputable def Z1t:FSp:=⟨[.bool],[tI],fun x=>ZuR x⟩
theorem Z1u:Zbk pol P 108 Z1t:=sO (a:=Z3I) Tryz.func108 Zbf imN
noncomputable def Z4g:FA:=Zbe (Zaf pol) Tryz.f103 15 (.s .o (.s .o (.k [0,3] p0))) [.tmp 2]
noncomputable def Z13:FSp:=⟨[(.int .u64)],[tI],fun x=>ZxP x⟩
theorem ZyT:Zbk pol P 103 Z13:=sO (a:=Z4g) Tryz.func103 (ZaM Z3t (ZaM Z3N (ZaM Z1u Zbf))) imN
noncomputable def Z4h:FA:=Zbe (Zaf pol) Tryz.f104 167 (.s .o (.s (.b (.l ⟨[],[(0,.sl 0),(1,.dat (.int .u64)),(4,dI)],[.own (.int .u8) true]⟩ (.k [0,1,4] (.s (.s .o p0) (.k [0,1,4] (.b (.s .o (.k [0,1,4,5] (.s .o (.s .o (.k [0,1,4,6,7] (.s .o (.k [0,1,4,6,8,9] (.s .o (.k [0,1,4,8,9,10,11] (.s .o (.k [0,1,4,8,10,11] (.s .o (.k [0,1,4,10,11] (.s .o (.k [0,1,4,10] (.s .o (.k [0,1,4] .o))))))))))))))))))))))) (.k [0,1,4] (.s .o (.j ⟨[],[(0,.sl 0),(4,dI),(12,.dat (.int .u32))],[.own (.int .u8) true]⟩ (.s .o (.s (.s .o (.s .o (.s .o (.k [0,4,12,14,15] (.s .o (.k [0,4,12,14] (.s .o (.k [0,4,12] .o)))))))) .o)) (.k [0,4,12] (.j ⟨[],[(0,.sl 0),(4,dI),(12,.dat (.int .u32))],[.own (.int .u8) true]⟩ (.s .o (.s (.s .o (.k [0,4,12,16] (.s .o (.s .o (.k [0,4,12] .o))))) .o)) (.k [0,4,12] (.s .o p0))))))))) []
noncomputable def Z14:Zbc:=⟨[.sl 0,.dat (.int .u64)],[.own (.int .u8) true],1,[],[(0,.sl 0)],[.own (.int .u8) true],fun (x:Int×List Int)=>(ZxQ x.1 x.2:Option (List Int))⟩
theorem Z4i:ZdA pol P 104 Z14:=mO (a:=Z4h) Tryz.func104 Zbf imN
noncomputable def a90:FA:=Zbe (Zaf pol) Tryz.f90 36 (.s .o (.s (.s .o (.s (.s (.s .o p1) (.k [0,1] (.s .o (.s .o (.s .o (.k [0,7,8] p0)))))) .o)) (.k [0,1,2] (.s .o (.k [0] p0))))) [.tmp 6]
noncomputable def Z4w:Zbc:=⟨[.sl 0,.dat (.int .u64),dI],[.own (.int .u8) true],0,[.sl 0],[],[.own (.int .u8) true],fun (x:Int×Int×List Int)=>(F90 x.1 x.2.1 x.2.2:Option (List Int))⟩
theorem s90:ZdA pol P 90 Z4w:=mO (a:=a90) Tryz.func90 (ZaM ZyN (ZaM ZyT Zbf)) (imC Z4i imN)
noncomputable def a73:FA:=Zbe (Zaf pol) Tryz.f73 21 (.s .o (.s .o (.j ⟨[2],[(0,.sl 0),(7,.dat (.int .u64))],[.own (.int .u8) true]⟩ (.s .o (.s (.s .o (.k [0,2,7] .o)) .o)) (.k [0,2,7] p0)))) [.tmp 6]
noncomputable def Z33:Zbc:=⟨[.sl 0,dI,dI],[.own (.int .u8) true],0,[.sl 0],[],[.own (.int .u8) true],fun (x:Int×Int×List Int)=>(F73 x.1 x.2.1 x.2.2:Option (List Int))⟩
theorem s73:ZdA pol P 73 Z33:=mO (a:=a73) Tryz.func73 Zbf (imC s90 imN)
noncomputable def a55:FA:=Zbe (Zaf pol) Tryz.f55 11 (.s .o p0) [.tmp 6]
noncomputable def Z3S:Zbc:=⟨[.sl 0,dI,dI],[.own (.int .u8) true],0,[.sl 0],[],[.own (.int .u8) true],fun (x:Int×Int×List Int)=>(F55 x.1 x.2.1 x.2.2:Option (List Int))⟩
theorem s55:ZdA pol P 55 Z3S:=mO (a:=a55) Tryz.func55 Zbf (imC s73 imN)
noncomputable def ZAE:FA:=Zbe (Zaf pol) Tryz.f33 34 (.s .o (.c 2 (.s .o (.k [1,2,5] (.s .o (.k [1,2,5] (.s (.s .o (.k [1,5,18,19,20] (.b (.l ⟨[18,19],[(1,.fn 34 [] []),(5,.sl 0),(20,dI)],[.own (.int .u8) true]⟩ (.k [1,5,18,19,20] (.s .o (.s p0 (.k [1,5,18,19,20] (.s (.b p0) (.k [1,5,18,19,20] .o)))))))))) (.k [5] p0)))))))) [.tmp 4]
noncomputable def Z8Y:Zbc:=⟨[.dat tn,.fn 34 [] []],[],0,[.dat .str],[],[],fun (x:Int×Int×List Int)=>(Z7k x:Option ByteArray)⟩
theorem ZAF:ZdA pol P 33 Z8Y:=mO (a:=ZAE) Tryz.func33 (ZaM s34 Zbf) (imC s55 imN)
noncomputable def a12:FA:=Zbe (Zaf pol) Tryz.f12 42 (.s .o (.s .o (.k [0,4] (.s .o (.s (.s .o (.b (.l ⟨[0,13],[(4,.sl 0),(5,.mp 1),(14,dI)],[.own tI true,.map .str .bool]⟩ (.k [0,4,5,13,14] (.s .o (.s p0 (.k [0,4,5,13,14] (.s (.b (.s .o (.s .o (.k [0,4,5,6,13,14] (.s .o (.k [0,4,5,6,7,13,14] (.s (.j ⟨[0,7,13,14],[(4,.sl 0),(5,.mp 1),(37,dB)],[.own tI true,.map .str .bool]⟩ .o (.k [0,4,5,7,13,14,37] p1)) (.k [0,4,5,7,13,14] .o)))))))) (.k [0,4,5,13,14] .o))))))))) (.k [4] p0)))))) [.tmp 2,.tmp 3]
noncomputable def ZBF:FSp:=⟨[(.list tn)],[tL,.bool],fun x=>F12 x⟩
theorem s12:Zbk pol P 12 ZBF:=sO (a:=a12) Tryz.func12 (ZaM s32 Zbf) (imC ZAF imN)
noncomputable def a13:FA:=Zbe (Zaf pol) Tryz.f13 17 (.s .o (.s (.j ⟨[0,1],[(12,dB)],[]⟩ .o (.k [0,1,12] p1)) (.k [0,1] p0))) [.tmp 4]
noncomputable def Z5Z:FSp:=⟨[tL,tI],[tI],fun x=>F13 x.1 x.2⟩
theorem s13:Zbk pol P 13 Z5Z:=sO (a:=a13) Tryz.func13 Zbf imN
noncomputable def a14:FA:=Zbe (Zaf pol) Tryz.f14 72 (.s .o (.s .o (.k [0,3] (.s (.s .o (.b (.l ⟨[13,14],[(3,.sl 0),(15,dI)],[.own (.int .u32) true]⟩ (.k [3,13,14,15] (.s .o (.s p0 (.k [3,13,14,15] (.s (.b (.s .o (.c 5 (.k [3,4,5,13,14,15] (.j ⟨[4,5,13,14,15],[(3,.sl 0)],[.own (.int .u32) true]⟩ (.s .o p0) (.k [3,4,5,13,14,15] (.s .o (.k [3,4,5,6,13,14,15] (.s .o (.k [3,4,5,6,13,14,15,37,38,39] (.b (.l ⟨[4,5,6,13,14,15,37,38],[(3,.sl 0),(39,dI)],[.own (.int .u32) true]⟩ (.k [3,4,5,6,13,14,15,37,38,39] (.s .o (.s p0 (.k [3,4,5,6,13,14,15,37,38,39] (.s (.b (.s .o (.k [3,4,5,6,7,8,13,14,15,37,38,39] (.s .o (.k [3,4,5,6,7,9,13,14,15,37,38,39] (.j ⟨[4,5,6,13,14,15,37,38,39],[(3,.sl 0),(9,.dat (.int .u32))],[.own (.int .u32) true]⟩ (.j ⟨[4,5,6,9,13,14,15,37,38,39],[(3,.sl 0),(55,dB)],[.own (.int .u32) true]⟩ .o (.k [3,4,5,6,9,13,14,15,37,38,39,55] p0)) (.k [3,4,5,6,9,13,14,15,37,38,39] .o))))))) (.k [3,4,5,6,13,14,15,37,38,39] .o)))))))))))))))))) (.k [3,13,14,15] .o))))))))) (.k [3] p0))))) [.tmp 2]
noncomputable def ZBH:FSp:=⟨[(.list tn)],[(.list (.int .u32))],fun x=>F14 x⟩
theorem s14:Zbk pol P 14 ZBH:=sO (a:=a14) Tryz.func14 Zbf imN
noncomputable def a6:FA:=Zbe (Zaf pol) Tryz.f6 100 (.s .o (.c 1 (.s .o (.k [1,3,4] (.s (.j ⟨[1],[(33,dB)],[]⟩ .o (.k [1,33] p1)) (.k [1] (.s .o (.s (.s .o (.k [1,5,35,36,37] (.b (.l ⟨[1,35,36],[(5,.ar 0),(37,dI)],[.arr tI]⟩ (.k [1,5,35,36,37] (.s .o (.s p0 (.k [1,5,35,36,37] (.j ⟨[1,35,36,37],[(5,.ar 0)],[.arr tI]⟩ (.b (.s .o (.c 7 (.k [1,5,7,35,36,37] (.s .o (.s (.s (.s .o (.k [1,5,7,35,36,37,48] p1)) (.k [1,5,7,35,36,37] .o)) .o)))))) (.k [1,5,35,36,37] .o)))))))))) (.k [1,5] (.s (.s .o (.k [1,5,59,60,61] (.b (.l ⟨[1,59,60],[(5,.ar 0),(61,dI)],[.arr tI]⟩ (.k [1,5,59,60,61] (.s .o (.s p0 (.k [1,5,59,60,61] (.j ⟨[1,59,60,61],[(5,.ar 0)],[.arr tI]⟩ (.b (.s .o (.c 9 (.k [1,5,9,59,60,61] (.s .o (.s (.s .o (.k [1,5,9,10,59,60,61] (.j ⟨[1,59,60,61],[(5,.ar 0),(81,dB)],[.arr tI]⟩ .o (.k [1,5,59,60,61,81] p1)))) .o)))))) (.k [1,5,59,60,61] .o)))))))))) (.k [1] (.s .o (.k [1,11] (.j ⟨[],[(2,dB)],[]⟩ .o .o)))))))))))))) [.tmp 2]
noncomputable def sp6:FSp:=⟨[(.st (.prod .str (.prod tI (.prod (.list tn) (.prod tI tI)))))],[.bool],fun x=>F6 x⟩
theorem s6:Zbk pol P 6 sp6:=sO (a:=a6) Tryz.func6 (ZaM s12 (ZaM s13 (ZaM s14 Zbf))) imN
noncomputable def a7:FA:=Zbe (Zaf pol) Tryz.f7 111 (.s .o (.s .o (.k [1,2,7] (.s (.s .o p1) (.k [1,2,7] (.s .o (.k [1,2,7,8] (.s .o (.k [1,2,7,8,9] (.s .o (.k [1,2,7,8,9] (.j ⟨[8],[(7,.sl 0),(9,.bx 1 0)],[.own tn true,.box [dI,dI,.sl 2] true,.own tI false]⟩ (.s .o (.b (.s .o (.s .o (.s .o (.s .o (.s .o (.s .o (.s .o (.s (.s .o (.k [1,2,7,8,9,65] p0)) (.s .o (.s (.s .o (.k [7,8,9,87] p0)) (.s .o (.s .o (.s .o (.s (.s .o (.s .o (.k [7,8,9] .o))) .o)))))))))))))))) (.k [7,8,9] (.s .o (.k [7] p0))))))))))))))) [.tmp 6]
noncomputable def sp7:FSp:=⟨[(.list tn),tI,tI],[(.list tn)],fun x=>F7 x.1 x.2.1 x.2.2⟩
theorem s7:Zbk pol P 7 sp7:=sO (a:=a7) Tryz.func7 (ZaM s5 Zbf) imN
noncomputable def a74:FA:=Zbe (Zaf pol) Tryz.f74 67 (.s .o (.s (.b (.j ⟨[0],[(4,dB)],[]⟩ .o (.k [0,4] (.s p0 (.j ⟨[0],[(19,dB)],[]⟩ .o (.k [0,19] (.s p0 (.j ⟨[0],[(34,dB)],[]⟩ .o (.k [0,34] (.s p0 (.j ⟨[0],[(53,dB)],[]⟩ .o (.k [0,53] (.s p0 (.j ⟨[],[(60,dB)],[]⟩ .o (.k [60] p1))))))))))))))) (.k [] p0))) [.tmp 2,.tmp 3]
noncomputable def Z34:FSp:=⟨[tI],[tI,.bool],fun x=>F74 x⟩
theorem s74:Zbk pol P 74 Z34:=sO (a:=a74) Tryz.func74 Zbf imN
noncomputable def a91:FA:=Zbe (Zaf pol) Tryz.f91 19 (.s .o (.s (.s .o (.b (.s .o (.s p0 (.s .o (.s p0 (.j ⟨[3],[(8,dB)],[]⟩ (.s .o p0) (.k [3,8] (.s p0 (.s .o (.s p0 (.s .o (.s p0 (.s .o (.s p0 (.s .o p1)))))))))))))))) (.k [] p0))) [.tmp 2]
noncomputable def Z4x:FSp:=⟨[tI],[tI],fun x=>F91 x⟩
theorem s91:Zbk pol P 91 Z4x:=sO (a:=a91) Tryz.func91 Zbf imN
noncomputable def a75:FA:=Zbe (Zaf pol) Tryz.f75 29 (.s .o (.s (.s .o p1) (.k [0,1] (.s .o (.s (.s .o p1) (.k [0,1,5] (.j ⟨[],[(4,dB)],[]⟩ .o .o))))))) [.tmp 4]
noncomputable def Z3E:FSp:=⟨[tI,tI],[.bool],fun x=>F75 x.1 x.2⟩
theorem s75:Zbk pol P 75 Z3E:=sO (a:=a75) Tryz.func75 (ZaM s91 Zbf) imN
noncomputable def a76:FA:=Zbe (Zaf pol) Tryz.f76 7 (.s .o (.s (.s .o p1) (.k [] p0))) [.tmp 4]
noncomputable def Z29:FSp:=⟨[.bool,tI],[tI],fun x=>F76 x.1 x.2⟩
theorem s76:Zbk pol P 76 Z29:=sO (a:=a76) Tryz.func76 Zbf imN
noncomputable def a77:FA:=Zbe (Zaf pol) Tryz.f77 15 (.s .o (.s (.s .o (.b (.l ⟨[0],[(3,dI)],[]⟩ (.k [0,3] (.s (.s .o (.k [0,3,7] p0)) (.k [0,3] (.s (.b (.s .o (.k [0,3,14] p1))) (.k [0,3] .o)))))))) (.k [] p0))) [.tmp 2]
noncomputable def Z3U:FSp:=⟨[tL],[.bool],fun x=>F77 x⟩
theorem s77:Zbk pol P 77 Z3U:=sO (a:=a77) Tryz.func77 Zbf imN
noncomputable def a56:FA:=Zbe (Zaf pol) Tryz.f56 221 (.s .o (.c 4 (.s .o (.k [0,2,4,7,8] (.s (.j ⟨[0,2,4],[(36,dB)],[]⟩ .o (.k [0,2,4,36] p1)) (.k [0,2,4] (.s (.s .o (.b (.s .o (.s (.s (.s .o (.k [44] p1)) (.k [] p0)) (.s .o (.s p0 (.s .o (.s (.s (.j ⟨[2],[(67,dB)],[]⟩ .o (.k [2,67] p1)) (.k [2] p0)) (.s .o (.s (.j ⟨[],[(6,dI)],[]⟩ .o .o) (.s .o (.s p0 (.s .o (.s (.s (.j ⟨[4],[(111,dB)],[]⟩ .o (.k [4,111] p1)) (.k [4] p0)) (.j ⟨[2,38],[(117,dB)],[]⟩ (.s .o p0) (.k [2,38,117] (.s (.j ⟨[],[(6,dI)],[]⟩ .o .o) (.s .o (.s (.j ⟨[],[(6,dI)],[]⟩ .o .o) (.s .o (.s (.j ⟨[],[(6,dI)],[]⟩ .o .o) (.s .o (.s (.s .o (.k [2,9] (.j ⟨[],[(6,dI)],[]⟩ .o .o))) .o))))))))))))))))))))))) (.k [2] p0)))))))) [.tmp 6]
noncomputable def Z36:FSp:=⟨[(.list tn),tn,tL],[tI],fun x=>F56 x.1 x.2.1 x.2.2⟩
theorem s56:Zbk pol P 56 Z36:=sO (a:=a56) Tryz.func56 (ZaM s74 (ZaM s75 (ZaM s76 (ZaM s77 Zbf)))) imN
noncomputable def a35:FA:=Zbe (Zaf pol) Tryz.f35 69 (.s .o (.s .o (.s (.s .o (.b (.l ⟨[0],[(3,.sl 0),(4,dI)],[.own tI true]⟩ (.k [0,3,4] (.s (.s .o (.k [0,3,4,12] p0)) (.k [0,3,4] (.j ⟨[0,4],[(3,.sl 0)],[.own tI true]⟩ (.b (.s .o (.s .o (.j ⟨[0,4],[(3,.sl 0),(5,.sl 1),(6,dB)],[.own tI true,.own tI true]⟩ (.s .o (.b (.l ⟨[0,4],[(3,.sl 0),(5,.sl 1),(6,dB),(7,dI)],[.own tI true,.own tI true]⟩ (.k [0,3,4,5,6,7] (.s (.s .o (.k [0,3,4,5,6,7,22] p0)) (.k [0,3,4,5,6,7] (.s (.b (.s .o (.k [0,3,4,5,6,7,8] (.s (.j ⟨[0,4,6,7,8],[(3,.sl 0),(5,.sl 1),(46,dB)],[.own tI true,.own tI true]⟩ .o (.k [0,3,4,5,6,7,8,46] p1)) (.k [0,3,4,5,6,7,8] .o))))) (.k [0,3,4,5,6,7] .o)))))))) (.k [0,3,4,5,6] (.s .o p0)))))) (.k [0,3,4] .o)))))))) (.k [3] p0)))) [.tmp 2]
noncomputable def Z2J:FSp:=⟨[(.list tn)],[tL],fun x=>F35 x⟩
theorem s35:Zbk pol P 35 Z2J:=sO (a:=a35) Tryz.func35 (ZaM s56 Zbf) imN
noncomputable def a15:FA:=Zbe (Zaf pol) Tryz.f15 33 (.s .o (.s .o (.s (.s .o (.b (.l ⟨[0,3],[(4,dI)],[]⟩ (.k [0,3,4] (.s (.s .o (.k [0,3,4,11] p0)) (.k [0,3,4] (.s (.b (.s (.s .o (.k [0,3,4,18] p1)) (.k [0,3,4] (.s .o (.b (.l ⟨[0,3,4],[(5,dI)],[]⟩ (.k [0,3,4,5] (.s (.s .o p0) (.k [0,3,4,5] (.s (.b (.s .o (.k [0,3,4,5,32] p1))) (.k [0,3,4,5] .o))))))))))) (.k [0,3,4] .o)))))))) (.k [] p0)))) [.tmp 2]
noncomputable def ZBG:FSp:=⟨[(.list tn)],[.bool],fun x=>F15 x⟩
theorem s15:Zbk pol P 15 ZBG:=sO (a:=a15) Tryz.func15 (ZaM s35 (ZaM s36 Zbf)) imN
noncomputable def a16:FA:=Zbe (Zaf pol) Tryz.f16 21 (.s .o (.s (.j ⟨[0,1],[(12,dB)],[]⟩ .o (.k [0,1,12] p1)) (.k [0,1] p0))) [.tmp 4]
noncomputable def ZBN:FSp:=⟨[(.list tn),tI],[tI],fun x=>F16 x.1 x.2⟩
theorem s16:Zbk pol P 16 ZBN:=sO (a:=a16) Tryz.func16 (ZaM s35 Zbf) imN
noncomputable def a17:FA:=Zbe (Zaf pol) Tryz.f17 34 (.s .o (.s (.s .o (.b (.l ⟨[0,1],[(5,dI)],[]⟩ (.k [0,1,5] (.s (.s .o (.k [0,1,5,9] p0)) (.k [0,1,5] (.s (.b (.j ⟨[0,1,5],[(26,dB)],[]⟩ .o (.k [0,1,5,26] p1))) (.k [0,1,5] .o)))))))) (.k [] p0))) [.tmp 4]
noncomputable def ZBX:FSp:=⟨[(.list tn),tI],[tI],fun x=>F17 x.1 x.2⟩
theorem s17:Zbk pol P 17 ZBX:=sO (a:=a17) Tryz.func17 Zbf imN
noncomputable def a18:FA:=Zbe (Zaf pol) Tryz.f18 77 (.s .o (.s .o (.s (.s .o (.b (.l ⟨[0],[(3,.sl 0),(4,dI)],[.own (.list .bool) true]⟩ (.k [0,3,4] (.s (.s .o (.k [0,3,4,12] p0)) (.k [0,3,4] (.s (.b (.s .o (.s .o (.c 6 (.k [0,3,4,5,6] (.s (.s .o (.b (.l ⟨[0,4,6],[(3,.sl 0),(5,.sl 1),(7,dI)],[.own (.list .bool) true,.own .bool true]⟩ (.k [0,3,4,5,6,7] (.s (.s .o (.k [0,3,4,5,6,7,24] p0)) (.k [0,3,4,5,6,7] (.s (.b (.s .o (.b (.l ⟨[0,4,6,7],[(3,.sl 0),(5,.sl 1),(8,dI)],[.own (.list .bool) true,.own .bool true]⟩ (.k [0,3,4,5,6,7,8] (.s (.s .o p0) (.k [0,3,4,5,6,7,8] (.j ⟨[0,4,6,7,8],[(3,.sl 0),(5,.sl 1)],[.own (.list .bool) true,.own .bool true]⟩ (.b (.j ⟨[0,4,6,7,8],[(3,.sl 0),(5,.sl 1),(60,dB)],[.own (.list .bool) true,.own .bool true]⟩ .o (.k [0,3,4,5,6,7,8,60] p0))) (.k [0,3,4,5,6,7,8] .o))))))))) (.k [0,3,4,5,6,7] .o)))))))) (.k [0,3,4,5,6] (.j ⟨[0,4],[(3,.sl 0),(5,.sl 1)],[.own (.list .bool) true,.own .bool true]⟩ (.s .o p0) (.k [0,3,4,5] .o))))))))) (.k [0,3,4] .o)))))))) (.k [3] p0)))) [.tmp 2]
noncomputable def ZBO:FSp:=⟨[(.list tn)],[(.list (.list .bool))],fun x=>F18 x⟩
theorem s18:Zbk pol P 18 ZBO:=sO (a:=a18) Tryz.func18 Zbf imN
noncomputable def a8:FA:=Zbe (Zaf pol) Tryz.f8 112 (.s .o (.c 1 (.s (.j ⟨[1],[(28,dB)],[]⟩ .o (.k [1,28] p1)) (.k [1] (.s (.s .o (.b (.l ⟨[1],[(3,dI)],[]⟩ (.k [1,3] (.s (.s .o (.k [1,3,33] p0)) (.k [1,3] (.j ⟨[1,3],[],[]⟩ (.b (.s .o (.c 4 (.k [1,3,4] (.s (.s .o (.b (.l ⟨[1,3,4],[(5,dI)],[]⟩ (.k [1,3,4,5] (.s (.j ⟨[1,3,4,5],[(48,dB)],[]⟩ .o (.k [1,3,4,5,48] p0)) (.k [1,3,4,5] (.s (.b (.j ⟨[1,3,4,5],[(68,dB)],[]⟩ .o (.k [1,3,4,5,68] p1))) (.k [1,3,4,5] .o)))))))) (.k [1,3,4] (.s .o (.s .o (.s (.s .o (.k [1,3,4,6] (.j ⟨[1,3],[(86,dB)],[]⟩ .o (.k [1,3,86] p1)))) .o))))))))) (.k [1,3] .o)))))))) (.k [1] (.s .o (.k [1,7] (.s (.s .o (.b (.l ⟨[1,7],[(8,dI)],[]⟩ (.k [1,7,8] (.s (.s .o p0) (.k [1,7,8] (.s (.b (.j ⟨[1,7,8],[(111,dB)],[]⟩ .o (.k [1,7,8,111] p1))) (.k [1,7,8] .o)))))))) (.k [] p0)))))))))) [.tmp 2]
noncomputable def sp8:FSp:=⟨[(.st (.prod .str (.prod tI (.prod (.list tn) (.prod tI tI)))))],[.bool],fun x=>F8 x⟩
theorem s8:Zbk pol P 8 sp8:=sO (a:=a8) Tryz.func8 (ZaM s15 (ZaM s16 (ZaM s17 (ZaM s18 Zbf)))) imN
noncomputable def a3:FA:=Zbe (Zaf pol) Tryz.f3 69 (.s .o (.s .o (.c 13 (.k [1,2,3,4,5,13] (.s .o (.k [2,3,4,5,14] (.s (.s .o p1) (.k [2,3,4,5,14] (.s .o (.k [4,5,14] (.s .o (.s .o (.k [14,15] (.j ⟨[],[(12,dB)],[]⟩ .o .o)))))))))))))) [.tmp 12]
noncomputable def sp3:FSp:=⟨[tL,tI,tI,tI,tI,tI],[.bool],fun x=>F3 x.1 x.2.1 x.2.2.1 x.2.2.2.1 x.2.2.2.2.1 x.2.2.2.2.2⟩
theorem s3:Zbk pol P 3 sp3:=sO (a:=a3) Tryz.func3 (ZaM s4 (ZaM s5 (ZaM s6 (ZaM s7 (ZaM s8 (ZaM s9 Zbf)))))) imN
end Go.Proofs.YteejallmbdngcaaGreatDoor
