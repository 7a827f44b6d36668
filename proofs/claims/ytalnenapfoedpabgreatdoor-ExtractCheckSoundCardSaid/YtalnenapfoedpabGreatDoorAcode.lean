/-
  The program's functions, annotated, and that they compute the plain functions. Printed by program.
-/
import Derived.Test.YtalnenapfoedpabGreatDoorSb
import Derived.Test.YtalnenapfoedpabGreatDoorFd
noncomputable section
set_option linter.unusedVariables false
namespace Go.Proofs.YtalnenapfoedpabGreatDoor
open Go.Eng Go.Dat
def a17:FA:=Zbe (Zaf pol) Tryz.f17 14 (.s .o (.s .o (.k [0,1] (.j ⟨[],[(0,dI)],[]⟩ (.s .o p0) (.k [0] p0))))) [.tmp 4]
def ZBX:FSp:=⟨[tI,tI],[tI],fun x=>F17 x.1 x.2⟩
theorem s17:Zbk pol P 17 ZBX:=sO (a:=a17) Tryz.func17 Zbf imN
def a30:FA:=Zbe (Zaf pol) Tryz.f30 25 (.s .o (.s .o (.s .o (.s (.b (.s .o (.s p0 (.s .o p1)))) (.k [1] p0))))) [.tmp 4]
def Z6q:FSp:=⟨[tI,tI],[tI],fun x=>F30 x.1 x.2⟩
theorem s30:Zbk pol P 30 Z6q:=sO (a:=a30) Tryz.func30 (ZaM s17 Zbf) imN
def a31:FA:=Zbe (Zaf pol) Tryz.f31 67 (.s .o (.s (.b (.j ⟨[0],[(4,dB)],[]⟩ .o (.k [0,4] (.s p0 (.j ⟨[0],[(19,dB)],[]⟩ .o (.k [0,19] (.s p0 (.j ⟨[0],[(34,dB)],[]⟩ .o (.k [0,34] (.s p0 (.j ⟨[0],[(53,dB)],[]⟩ .o (.k [0,53] (.s p0 (.j ⟨[],[(60,dB)],[]⟩ .o (.k [60] p1))))))))))))))) (.k [] p0))) [.tmp 2,.tmp 3]
def Z6r:FSp:=⟨[tI],[tI,.bool],fun x=>F31 x⟩
theorem s31:Zbk pol P 31 Z6r:=sO (a:=a31) Tryz.func31 Zbf imN
def a93:FA:=Zbe (Zaf pol) Tryz.f93 19 (.s .o (.s (.s .o (.b (.s .o (.s p0 (.s .o (.s p0 (.j ⟨[3],[(8,dB)],[]⟩ (.s .o p0) (.k [3,8] (.s p0 (.s .o (.s p0 (.s .o (.s p0 (.s .o (.s p0 (.s .o p1)))))))))))))))) (.k [] p0))) [.tmp 2]
def Z2B:FSp:=⟨[tI],[tI],fun x=>F93 x⟩
theorem s93:Zbk pol P 93 Z2B:=sO (a:=a93) Tryz.func93 Zbf imN
def a84:FA:=Zbe (Zaf pol) Tryz.f84 29 (.s .o (.s (.s .o p1) (.k [0,1] (.s .o (.s (.s .o p1) (.k [0,1,5] (.j ⟨[],[(4,dB)],[]⟩ .o .o))))))) [.tmp 4]
def Z3A:FSp:=⟨[tI,tI],[.bool],fun x=>F84 x.1 x.2⟩
theorem s84:Zbk pol P 84 Z3A:=sO (a:=a84) Tryz.func84 (ZaM s93 Zbf) imN
def a85:FA:=Zbe (Zaf pol) Tryz.f85 7 (.s .o (.s (.s .o p1) (.k [] p0))) [.tmp 4]
def Z3u:FSp:=⟨[.bool,tI],[tI],fun x=>F85 x.1 x.2⟩
theorem s85:Zbk pol P 85 Z3u:=sO (a:=a85) Tryz.func85 Zbf imN
def a86:FA:=Zbe (Zaf pol) Tryz.f86 15 (.s .o (.s (.s .o (.b (.l ⟨[0],[(3,dI)],[]⟩ (.k [0,3] (.s (.s .o (.k [0,3,7] p0)) (.k [0,3] (.s (.b (.s .o (.k [0,3,14] p1))) (.k [0,3] .o)))))))) (.k [] p0))) [.tmp 2]
def Z2D:FSp:=⟨[tL],[.bool],fun x=>F86 x⟩
theorem s86:Zbk pol P 86 Z2D:=sO (a:=a86) Tryz.func86 Zbf imN
def a64:FA:=Zbe (Zaf pol) Tryz.f64 221 (.s .o (.c 4 (.s .o (.k [0,2,4,7,8] (.s (.j ⟨[0,2,4],[(36,dB)],[]⟩ .o (.k [0,2,4,36] p1)) (.k [0,2,4] (.s (.s .o (.b (.s .o (.s (.s (.s .o (.k [44] p1)) (.k [] p0)) (.s .o (.s p0 (.s .o (.s (.s (.j ⟨[2],[(67,dB)],[]⟩ .o (.k [2,67] p1)) (.k [2] p0)) (.s .o (.s (.j ⟨[],[(6,dI)],[]⟩ .o .o) (.s .o (.s p0 (.s .o (.s (.s (.j ⟨[4],[(111,dB)],[]⟩ .o (.k [4,111] p1)) (.k [4] p0)) (.j ⟨[2,38],[(117,dB)],[]⟩ (.s .o p0) (.k [2,38,117] (.s (.j ⟨[],[(6,dI)],[]⟩ .o .o) (.s .o (.s (.j ⟨[],[(6,dI)],[]⟩ .o .o) (.s .o (.s (.j ⟨[],[(6,dI)],[]⟩ .o .o) (.s .o (.s (.s .o (.k [2,9] (.j ⟨[],[(6,dI)],[]⟩ .o .o))) .o))))))))))))))))))))))) (.k [2] p0)))))))) [.tmp 6]
def Z6n:FSp:=⟨[tD,tn,tL],[tI],fun x=>F64 x.1 x.2.1 x.2.2⟩
theorem s64:Zbk pol P 64 Z6n:=sO (a:=a64) Tryz.func64 (ZaM s31 (ZaM s84 (ZaM s85 (ZaM s86 Zbf)))) imN
def q38a:List CS:=[.own tI true,.own tI true]
def a38:FA:=Zbe (Zaf pol) Tryz.f38 69 (.s .o (.s .o (.s (.s .o (.b (.l ⟨[0],[(3,.sl 0),(4,dI)],[.own tI true]⟩ (.k [0,3,4] (.s (.s .o (.k [0,3,4,12] p0)) (.k [0,3,4] (.j ⟨[0,4],[(3,.sl 0)],[.own tI true]⟩ (.b (.s .o (.s .o (.j ⟨[0,4],[(3,.sl 0),(5,.sl 1),(6,dB)],q38a⟩ (.s .o (.b (.l ⟨[0,4],[(3,.sl 0),(5,.sl 1),(6,dB),(7,dI)],q38a⟩ (.k [0,3,4,5,6,7] (.s (.s .o (.k [0,3,4,5,6,7,22] p0)) (.k [0,3,4,5,6,7] (.s (.b (.s .o (.k [0,3,4,5,6,7,8] (.s (.j ⟨[0,4,6,7,8],[(3,.sl 0),(5,.sl 1),(46,dB)],q38a⟩ .o (.k [0,3,4,5,6,7,8,46] p1)) (.k [0,3,4,5,6,7,8] .o))))) (.k [0,3,4,5,6,7] .o)))))))) (.k [0,3,4,5,6] (.s .o p0)))))) (.k [0,3,4] .o)))))))) (.k [3] p0)))) [.tmp 2]
def Z35:FSp:=⟨[tD],[tL],fun x=>F38 x⟩
theorem s38:Zbk pol P 38 Z35:=sO (a:=a38) Tryz.func38 (ZaM s64 Zbf) imN
def a32:FA:=Zbe (Zaf pol) Tryz.f32 39 (.s .o (.s .o (.s .o (.s (.s .o (.b (.l ⟨[0,1,2,7],[(8,.sl 0),(9,dI)],[.own tI true]⟩ (.k [0,1,2,7,8,9] (.s (.s .o (.k [0,1,2,7,8,9,15] p0)) (.k [0,1,2,7,8,9] (.j ⟨[0,1,2,7,9],[(8,.sl 0)],[.own tI true]⟩ (.b (.s .o (.k [0,1,2,7,8,9,23] p0))) (.k [0,1,2,7,8,9] .o)))))))) (.k [2,8] p0))))) [.tmp 6]
def Z5X:FSp:=⟨[tD,tI,tI],[tI],fun x=>F32 x.1 x.2.1 x.2.2⟩
theorem s32:Zbk pol P 32 Z5X:=sO (a:=a32) Tryz.func32 (ZaM s17 (ZaM s38 Zbf)) imN
def a57:FA:=Zbe (Zaf pol) Tryz.f57 13 (.s .o (.s (.j ⟨[],[(12,dB)],[]⟩ .o (.k [12] p1)) (.k [] p0))) [.tmp 2]
def Z41:FSp:=⟨[tI],[tI],fun x=>F57 x⟩
theorem s57:Zbk pol P 57 Z41:=sO (a:=a57) Tryz.func57 Zbf imN
def a33:FA:=Zbe (Zaf pol) Tryz.f33 20 (.s .o (.s (.j ⟨[],[(19,dB)],[]⟩ .o (.k [19] p1)) (.k [] p0))) [.tmp 4]
def Z2G:FSp:=⟨[tI,tI],[tI],fun x=>F33 x.1 x.2⟩
theorem s33:Zbk pol P 33 Z2G:=sO (a:=a33) Tryz.func33 (ZaM s57 Zbf) imN
def a58:FA:=Zbe (Zaf pol) Tryz.f58 45 (.s .o (.c 3 (.c 2 (.s (.j ⟨[2,3],[(26,dB)],[]⟩ .o (.k [2,3,26] p1)) (.k [2,3] (.s (.s .o (.b (.l ⟨[2,3],[(5,dI)],[]⟩ (.k [2,3,5] (.s (.s .o (.k [2,3,5,31] p0)) (.k [2,3,5] (.s (.b (.s .o (.k [2,3,5,44] p1))) (.k [2,3,5] .o)))))))) (.k [] p0))))))) [.tmp 4]
def Z4e:FSp:=⟨[tn,tn],[.bool],fun x=>F58 x.1 x.2⟩
theorem s58:Zbk pol P 58 Z4e:=sO (a:=a58) Tryz.func58 Zbf imN
def a35:FA:=Zbe (Zaf pol) Tryz.f35 18 (.s .o (.c 3 (.s (.s .o (.b (.l ⟨[0,3],[(5,dI)],[]⟩ (.k [0,3,5] (.s (.s .o (.k [0,3,5,9] p0)) (.k [0,3,5] (.s (.b (.s .o (.k [0,3,5,17] p1))) (.k [0,3,5] .o)))))))) (.k [] p0)))) [.tmp 4]
def Z2J:FSp:=⟨[tD,tn],[.bool],fun x=>F35 x.1 x.2⟩
theorem s35:Zbk pol P 35 Z2J:=sO (a:=a35) Tryz.func35 (ZaM s58 Zbf) imN
def a34:FA:=Zbe (Zaf pol) Tryz.f34 25 (.s .o (.s (.s .o (.k [0,9] p1)) (.k [0] (.s .o (.k [0,3] (.s .o (.k [3,0] p0))))))) [.tmp 2]
def Z2H:Zbc:=⟨[.bx 0 0],[.box [.sl 1,dI] true,.own tI false],1,[dI],[(0,.bx 0 0)],[.box [.sl 1,dI] true,.own tI false],fun (x:Int×List Int)=>(F34 x.1 x.2:Option Y35)⟩
theorem s34:ZdA pol P 34 Z2H:=mO (a:=a34) Tryz.func34 Zbf imN
def q12a:List CS:=[.own tn true,.box [.sl 3,dI] true,.box [dI,dI,.nils] true,.own tI true]
def q12b:List CS:=[.own tn true,.box [dI,dI,.sl 2] true,.own tI true]
def a12:FA:=Zbe (Zaf pol) Tryz.f12 147 (.s .o (.s .o (.k [0,1,5] (.s (.s .o (.b (.l ⟨[0,1],[(5,.sl 0),(6,dI)],[.own tn true]⟩ (.k [0,1,5,6] (.s (.j ⟨[0,1,6],[(5,.sl 0),(23,dB)],[.own tn true]⟩ .o (.k [0,1,5,6,23] p0)) (.k [0,1,5,6] (.j ⟨[0,1,6],[(5,.sl 0)],[.own tn true]⟩ (.b (.s .o (.k [0,1,5,6,7] (.s .o (.k [0,1,5,6,7,8] (.j ⟨[0,1,6],[(5,.sl 0),(7,.bx 1 0),(8,.bx 2 0)],q12a⟩ (.j ⟨[0,1,6],[(5,.sl 0),(7,.bx 1 0),(8,.bx 2 0),(60,dB)],q12a⟩ .o (.k [0,1,5,6,7,8,60] p0)) (.k [0,1,5,6,7,8] (.j ⟨[0,1,6],[(5,.sl 0),(7,.bx 1 0),(8,.bx 2 0)],q12a⟩ (.s .o (.k [0,1,5,6,7,8,76] p0)) (.k [0,1,5,6,7,8] (.s .o (.k [0,1,5,6,7,8,9] (.s (.s .o (.b (.l ⟨[0,1,6,9],[(5,.sl 0),(7,.bx 1 0),(8,.bx 2 0),(11,dI)],[.own tn true,.box [.sl 3,dI] true,.box [dI,dI,.sl 4] true,.own tI false,.own tI true]⟩ (.k [0,1,5,6,7,8,9,11] (.s (.s .o p0) (.k [0,1,5,6,7,8,9,11] (.s (.b .o) (.k [0,1,5,6,7,8,9,11] .o)))))))) (.k [0,1,5,6,8] (.j ⟨[0,1,6],[(5,.sl 0),(8,.bx 1 0)],q12b⟩ (.s .o p0) (.k [0,1,5,6,8] (.j ⟨[0,1,6],[(5,.sl 0),(8,.bx 1 0)],q12b⟩ (.j ⟨[0,1,6],[(5,.sl 0),(8,.bx 1 0),(130,dB)],q12b⟩ .o (.k [0,1,5,6,8,130] p0)) (.k [0,1,5,6,8] (.s .o (.k [0,1,5,6,8,141] p0))))))))))))))))))) (.k [0,1,5,6] .o)))))))) (.k [5] p0))))) [.tmp 4]
def ZBF:FSp:=⟨[tL,.bool],[tD],fun x=>F12 x.1 x.2⟩
theorem s12:Zbk pol P 12 ZBF:=sO (a:=a12) Tryz.func12 (ZaM s17 (ZaM s30 (ZaM s31 (ZaM s32 (ZaM s33 (ZaM s35 Zbf)))))) (imC s34 imN)
def a13:FA:=Zbe (Zaf pol) Tryz.f13 49 (.s .o (.s (.s .o (.k [0,1,5] (.b (.l ⟨[0,1],[(5,dI)],[]⟩ (.k [0,1,5] (.s (.s .o p0) (.k [0,1,5] (.s (.b (.j ⟨[0,1,5],[(6,dB)],[]⟩ .o (.k [0,1,5,6] (.s .o (.k [0,1,5,47] p1))))) (.k [0,1,5] .o))))))))) (.k [] p0))) [.tmp 4]
def Z5Z:FSp:=⟨[tD,tI],[tI],fun x=>F13 x.1 x.2⟩
theorem s13:Zbk pol P 13 Z5Z:=sO (a:=a13) Tryz.func13 Zbf imN
def a15:FA:=Zbe (Zaf pol) Tryz.f15 6 (.s .o (.c 1 p0)) [.tmp 2]
def ZBG:FSp:=⟨[tn],[.bool],fun x=>F15 x⟩
theorem s15:Zbk pol P 15 ZBG:=sO (a:=a15) Tryz.func15 Zbf imN
def a14:FA:=Zbe (Zaf pol) Tryz.f14 24 (.s .o (.s .o (.k [0,1,5] (.s .o (.k [5,0] p0))))) [.tmp 4]
def ZBH:Zbc:=⟨[.bx 0 0,dI],[.box [dI] true],1,[dI],[(0,.bx 0 0)],[.box [dI] true],fun (x:Int×Int)=>(F14 x.1 x.2:Option (Int×Int))⟩
theorem s14:ZdA pol P 14 ZBH:=mO (a:=a14) Tryz.func14 (ZaM s17 Zbf) imN
def q4a:List CS:=[.box [.nils,.nils,.nils,dI,dI,dI,dI] true,.box [.dat tD,.sl 2,.nils,dI,dI,dI,dI] true,.own ts true]
def a4:FA:=Zbe (Zaf pol) Tryz.f4 69 (.s .o (.s .o (.k [1,4,5] (.s .o (.k [1,4,5] (.s (.s .o (.b (.l ⟨[1],[(4,.bx 0 0),(5,.bx 1 0),(6,dI)],q4a⟩ (.k [1,4,5,6] (.s (.j ⟨[1,6],[(4,.bx 0 0),(5,.bx 1 0),(28,dB)],q4a⟩ .o (.k [1,4,5,6,28] p0)) (.k [1,4,5,6] (.j ⟨[1,6],[(4,.bx 0 0),(5,.bx 1 0)],q4a⟩ (.b (.s .o (.k [1,4,5,6,7] (.s .o (.k [1,4,5,6,8,9] (.s .o (.k [1,4,5,6,8,9,59] p0))))))) (.k [1,4,5,6] .o)))))))) (.k [4,5] p0))))))) [.cell 4 28]
def sp4:FSp:=⟨[tL,tL],[tA],fun x=>F4 x.1 x.2⟩
theorem s4:Zbk pol P 4 sp4:=sO (a:=a4) Tryz.func4 (ZaM s12 (ZaM s13 (ZaM s15 Zbf))) (imC s14 imN)
def a39:FA:=Zbe (Zaf pol) Tryz.f39 13 (.s .o (.j ⟨[],[(4,dB)],[]⟩ .o .o)) [.tmp 4]
def Z3F:FSp:=⟨[tD,tI],[.bool],fun x=>F39 x.1 x.2⟩
theorem s39:Zbk pol P 39 Z3F:=sO (a:=a39) Tryz.func39 Zbf imN
def a40:FA:=Zbe (Zaf pol) Tryz.f40 33 (.s .o (.s .o (.s (.s .o (.b (.l ⟨[0,3],[(4,dI)],[]⟩ (.k [0,3,4] (.s (.s .o (.k [0,3,4,11] p0)) (.k [0,3,4] (.s (.b (.s (.s .o (.k [0,3,4,18] p1)) (.k [0,3,4] (.s .o (.b (.l ⟨[0,3,4],[(5,dI)],[]⟩ (.k [0,3,4,5] (.s (.s .o p0) (.k [0,3,4,5] (.s (.b (.s .o (.k [0,3,4,5,32] p1))) (.k [0,3,4,5] .o))))))))))) (.k [0,3,4] .o)))))))) (.k [] p0)))) [.tmp 2]
def Z3X:FSp:=⟨[tD],[.bool],fun x=>F40 x⟩
theorem s40:Zbk pol P 40 Z3X:=sO (a:=a40) Tryz.func40 (ZaM s38 (ZaM s58 Zbf)) imN
def a41:FA:=Zbe (Zaf pol) Tryz.f41 15 (.s .o (.c 3 (.j ⟨[],[(4,dB)],[]⟩ .o .o))) [.tmp 4]
def Z4d:FSp:=⟨[tD,ts],[.bool],fun x=>F41 x.1 x.2⟩
theorem s41:Zbk pol P 41 Z4d:=sO (a:=a41) Tryz.func41 (ZaM s39 Zbf) imN
def a20:FA:=Zbe (Zaf pol) Tryz.f20 81 (.s .o (.c 1 (.s .o (.k [1,3] (.s (.j ⟨[1,3],[(50,dB)],[]⟩ .o (.k [1,3,50] p1)) (.k [1,3] (.s (.s .o (.b (.l ⟨[1,3],[(4,dI)],[]⟩ (.k [1,3,4] (.s (.s .o (.k [1,3,4,55] p0)) (.k [1,3,4] (.s (.b (.s .o (.c 5 (.k [1,3,4,5] (.j ⟨[1,3,4],[(80,dB)],[]⟩ .o (.k [1,3,4,80] p1)))))) (.k [1,3,4] .o)))))))) (.k [] p0)))))))) [.tmp 2]
def Z3T:FSp:=⟨[tA],[.bool],fun x=>F20 x⟩
theorem s20:Zbk pol P 20 Z3T:=sO (a:=a20) Tryz.func20 (ZaM s38 (ZaM s39 (ZaM s40 (ZaM s41 Zbf)))) imN
def a60:FA:=Zbe (Zaf pol) Tryz.f60 77 (.s .o (.c 4 (.c 3 (.s (.j ⟨[2,3,4],[(30,dB)],[]⟩ .o (.k [2,3,4,30] p1)) (.k [2,3,4] (.s (.s .o (.b (.l ⟨[2,3,4],[(7,dI)],[]⟩ (.k [2,3,4,7] (.s (.s .o (.k [2,3,4,7,35] p0)) (.k [2,3,4,7] (.s (.b (.s .o (.k [2,3,4,7,8] (.s .o (.k [2,3,4,7,8,9] (.j ⟨[2,3,4,7],[(76,dB)],[]⟩ .o (.k [2,3,4,7,76] p1))))))) (.k [2,3,4,7] .o)))))))) (.k [] p0))))))) [.tmp 6]
def Z6d:FSp:=⟨[tn,tn,tL],[.bool],fun x=>F60 x.1 x.2.1 x.2.2⟩
theorem s60:Zbk pol P 60 Z6d:=sO (a:=a60) Tryz.func60 Zbf imN
def a59:FA:=Zbe (Zaf pol) Tryz.f59 43 (.s .o (.k [0,1,2,6] (.s .o (.k [0,6,7] (.s .o (.b (.l ⟨[6,7],[(0,.sl 0),(8,dI)],[.own tI true]⟩ (.k [0,6,7,8] (.s (.s .o (.k [0,6,7,8,30] p0)) (.k [0,6,7,8] (.j ⟨[6,7,8],[(0,.sl 0)],[.own tI true]⟩ (.b (.s .o (.k [0,6,7,8,38] p0))) (.k [0,6,7,8] .o)))))))))))) []
def Z37:Zbc:=⟨[.sl 0,dI,dI],[.own tI true],1,[],[(0,.sl 0)],[.own tI true],fun (x:Int×Int×List Int)=>(F59 x.1 x.2.1 x.2.2:Option (List Int))⟩
theorem s59:ZdA pol P 59 Z37:=mO (a:=a59) Tryz.func59 Zbf imN
def q36a:List CS:=[.own tI true]
def a36:FA:=Zbe (Zaf pol) Tryz.f36 99 (.s .o (.s .o (.s (.s .o (.b (.l ⟨[0,1],[(5,.sl 0),(6,dI)],q36a⟩ (.k [0,1,5,6] (.s (.s .o (.k [0,1,5,6,16] p0)) (.k [0,1,5,6] (.s (.b .o) (.k [0,1,5,6] .o)))))))) (.k [0,1,5] (.s (.s .o (.b (.l ⟨[0,1],[(5,.sl 0),(7,dI)],q36a⟩ (.k [0,1,5,7] (.s (.s .o (.k [0,1,5,7,26] p0)) (.k [0,1,5,7] (.j ⟨[0,1,7],[(5,.sl 0)],q36a⟩ (.b (.s .o (.k [0,1,5,7,8] (.s .o (.k [0,1,5,7,8,9] (.j ⟨[0,1,7,8,9],[(5,.sl 0),(56,dB)],q36a⟩ .o (.k [0,1,5,7,8,9,56] p0))))))) (.k [0,1,5,7] .o)))))))) (.k [0,5] (.s (.s .o (.b (.l ⟨[0],[(5,.sl 0),(10,dB)],q36a⟩ (.k [0,5,10] (.s (.s .o p0) (.k [0,5] (.b (.s .o (.s .o (.b (.l ⟨[0],[(5,.sl 0),(10,dB),(11,dI)],q36a⟩ (.k [0,5,10,11] (.s (.s .o (.k [0,5,10,11,65] p0)) (.k [0,5,10,11] (.s (.b (.s .o (.b (.l ⟨[0,11],[(5,.sl 0),(10,dB),(12,dI)],q36a⟩ (.k [0,5,10,11,12] (.s (.s .o p0) (.k [0,5,10,11,12] (.j ⟨[0,11,12],[(5,.sl 0),(10,dB)],q36a⟩ (.b (.j ⟨[0,10,11,12],[(5,.sl 0),(93,dB)],q36a⟩ .o (.k [0,5,10,11,12,93] (.s (.s .o (.k [0,5,11,12] .o)) .o)))) (.k [0,5,10,11,12] .o))))))))) (.k [0,5,10,11] .o)))))))))))))))) (.k [5] p0)))))))) [.tmp 4]
def Z2I:FSp:=⟨[tD,(.list tM)],[tL],fun x=>F36 x.1 x.2⟩
theorem s36:Zbk pol P 36 Z2I:=sO (a:=a36) Tryz.func36 (ZaM s60 Zbf) (imC s59 imN)
def a16:FA:=Zbe (Zaf pol) Tryz.f16 35 (.s .o (.c 1 (.s (.s .o p1) (.k [1] (.s .o (.s (.s .o (.b (.l ⟨[1],[(3,.sl 0),(4,dI)],[.own tM true]⟩ (.k [1,3,4] (.s (.s .o (.k [1,3,4,12] p0)) (.k [1,3,4] (.s (.b .o) (.k [1,3,4] .o)))))))) (.k [1,3] p0))))))) [.tmp 2]
def ZBN:FSp:=⟨[tA],[tL],fun x=>F16 x⟩
theorem s16:Zbk pol P 16 ZBN:=sO (a:=a16) Tryz.func16 (ZaM s20 (ZaM s36 Zbf)) imN
def q5a:List CS:=[.own tI true,.own tI true]
def a5:FA:=Zbe (Zaf pol) Tryz.f5 70 (.s .o (.c 2 (.s .o (.s .o (.k [1,5,6] (.s (.s .o (.b (.l ⟨[1,5],[(6,.sl 0),(7,dI)],[.own tI true]⟩ (.k [1,5,6,7] (.s (.s .o (.k [1,5,6,7,19] p0)) (.k [1,5,6,7] (.j ⟨[1,5,7],[(6,.sl 0)],[.own tI true]⟩ (.b (.s .o (.k [1,5,6,7] (.s (.s .o (.k [1,5,6,7,30] p0)) (.k [1,5,6,7] (.s .o (.s (.s .o (.b (.l ⟨[1,5,7],[(6,.sl 0),(8,.sl 1),(9,dI)],q5a⟩ (.k [1,5,6,7,8,9] (.s (.s .o (.k [1,5,6,7,8,9,35] p0)) (.k [1,5,6,7,8,9] (.j ⟨[1,5,7,9],[(6,.sl 0),(8,.sl 1)],q5a⟩ (.b (.s .o (.k [1,5,6,7,8,9,43] p0))) (.k [1,5,6,7,8,9] .o)))))))) (.k [1,5,6,7,8] (.s .o (.j ⟨[1,5,7],[(6,.sl 0),(8,.sl 1),(10,dI)],q5a⟩ (.s .o (.k [1,5,6,7,8,10,51] p0)) (.k [1,5,6,7,8,10] (.s .o p0)))))))))))) (.k [1,5,6,7] .o)))))))) (.k [6] p0))))))) [.tmp 4]
def sp5:FSp:=⟨[tA,tL],[tL],fun x=>F5 x.1 x.2⟩
theorem s5:Zbk pol P 5 sp5:=sO (a:=a5) Tryz.func5 (ZaM s16 (ZaM s17 Zbf)) imN
def a42:FA:=Zbe (Zaf pol) Tryz.f42 85 (.s .o (.s .o (.c 10 (.c 9 (.k [0,1,9,10] (.s (.j ⟨[0,1,9,10],[(40,dB)],[]⟩ .o (.k [0,1,9,10,40] p1)) (.k [0,1,9,10] (.s (.s .o (.b (.l ⟨[0,1,9,10],[(11,dI)],[]⟩ (.k [0,1,9,10,11] (.s (.s .o (.k [0,1,9,10,11,45] p0)) (.k [0,1,9,10,11] (.s (.b (.j ⟨[0,1,9,10,11],[(84,dB)],[]⟩ .o (.k [0,1,9,10,11,84] p1))) (.k [0,1,9,10,11] .o)))))))) (.k [] p0))))))))) [.tmp 8]
def Z4p:FSp:=⟨[tD,tL,tI,tI],[.bool],fun x=>F42 x.1 x.2.1 x.2.2.1 x.2.2.2⟩
theorem s42:Zbk pol P 42 Z4p:=sO (a:=a42) Tryz.func42 (ZaM s39 Zbf) imN
def q21a:List CS:=[.box [.nils,.nils,.nils,dI,dI,dI,dI,.nils,.nils] true,.box [.dat tD,.dat tH,.dat tC,dI,dI,dI,dI,.dat tL,.sl 2] true,.own2 tI]
def a21:FA:=Zbe (Zaf pol) Tryz.f21 81 (.s .o (.c 1 (.s .o (.k [1,2,3] (.s .o (.k [1,2,3] (.s (.s .o (.b (.l ⟨[1],[(2,.bx 0 0),(3,.bx 1 0),(4,dI)],q21a⟩ (.k [1,2,3,4] (.s (.s .o (.k [1,2,3,4,20] p0)) (.k [1,2,3,4] (.j ⟨[1,4],[(2,.bx 0 0),(3,.bx 1 0)],q21a⟩ (.b (.s .o (.s (.s .o (.b (.l ⟨[1,4],[(2,.bx 0 0),(3,.bx 1 0),(5,dB),(6,dI)],q21a⟩ (.k [1,2,3,4,5,6] (.s (.s (.r 31 32 .o) (.k [1,2,3,4,5,6,34] p0)) (.k [1,2,3,4,5,6] (.j ⟨[1,4,6],[(2,.bx 0 0),(3,.bx 1 0),(5,dB)],q21a⟩ (.r 50 51 (.b .o)) (.k [1,2,3,4,5,6] .o)))))))) (.k [1,2,3,4,5] (.s .o p0))))) (.k [1,2,3,4] .o)))))))) (.k [2,3] p0)))))))) [.cell 2 67]
def Z42:FSp:=⟨[tA],[tE],fun x=>F21 x⟩
theorem s21:Zbk pol P 21 Z42:=sO (a:=a21) Tryz.func21 (ZaM s16 (ZaM s42 Zbf)) imN
def a61:FA:=Zbe (Zaf pol) Tryz.f61 55 (.s .o (.c 2 (.s (.s .o (.k [1,2,11] p1)) (.k [1,2] (.s (.s .o (.b (.l ⟨[1,2],[(5,dI)],[]⟩ (.k [1,2,5] (.s (.s .o (.k [1,2,5,15] p0)) (.k [1,2,5] (.s (.b (.j ⟨[1,2,5],[(54,dB)],[]⟩ .o (.k [1,2,5,54] p1))) (.k [1,2,5] .o)))))))) (.k [] p0)))))) [.tmp 4]
def Z4f:FSp:=⟨[tE,tL],[.bool],fun x=>F61 x.1 x.2⟩
theorem s61:Zbk pol P 61 Z4f:=sO (a:=a61) Tryz.func61 (ZaM s39 Zbf) imN
def a81:FA:=Zbe (Zaf pol) Tryz.f81 21 (.s .o (.s (.j ⟨[0,1],[(12,dB)],[]⟩ .o (.k [0,1,12] p1)) (.k [0,1] p0))) [.tmp 4]
def Z4o:FSp:=⟨[tD,tI],[tI],fun x=>F81 x.1 x.2⟩
theorem s81:Zbk pol P 81 Z4o:=sO (a:=a81) Tryz.func81 (ZaM s38 Zbf) imN
def a82:FA:=Zbe (Zaf pol) Tryz.f82 34 (.s .o (.s (.s .o (.b (.l ⟨[0,1],[(5,dI)],[]⟩ (.k [0,1,5] (.s (.s .o (.k [0,1,5,9] p0)) (.k [0,1,5] (.s (.b (.j ⟨[0,1,5],[(26,dB)],[]⟩ .o (.k [0,1,5,26] p1))) (.k [0,1,5] .o)))))))) (.k [] p0))) [.tmp 4]
def Z4l:FSp:=⟨[tD,tI],[tI],fun x=>F82 x.1 x.2⟩
theorem s82:Zbk pol P 82 Z4l:=sO (a:=a82) Tryz.func82 Zbf imN
def q83a:List CS:=[.own tJ true,.own .bool true]
def a83:FA:=Zbe (Zaf pol) Tryz.f83 77 (.s .o (.s .o (.s (.s .o (.b (.l ⟨[0],[(3,.sl 0),(4,dI)],[.own tJ true]⟩ (.k [0,3,4] (.s (.s .o (.k [0,3,4,12] p0)) (.k [0,3,4] (.s (.b (.s .o (.s .o (.c 6 (.k [0,3,4,5,6] (.s (.s .o (.b (.l ⟨[0,4,6],[(3,.sl 0),(5,.sl 1),(7,dI)],q83a⟩ (.k [0,3,4,5,6,7] (.s (.s .o (.k [0,3,4,5,6,7,24] p0)) (.k [0,3,4,5,6,7] (.s (.b (.s .o (.b (.l ⟨[0,4,6,7],[(3,.sl 0),(5,.sl 1),(8,dI)],q83a⟩ (.k [0,3,4,5,6,7,8] (.s (.s .o p0) (.k [0,3,4,5,6,7,8] (.j ⟨[0,4,6,7,8],[(3,.sl 0),(5,.sl 1)],q83a⟩ (.b (.j ⟨[0,4,6,7,8],[(3,.sl 0),(5,.sl 1),(60,dB)],q83a⟩ .o (.k [0,3,4,5,6,7,8,60] p0))) (.k [0,3,4,5,6,7,8] .o))))))))) (.k [0,3,4,5,6,7] .o)))))))) (.k [0,3,4,5,6] (.j ⟨[0,4],[(3,.sl 0),(5,.sl 1)],q83a⟩ (.s .o p0) (.k [0,3,4,5] .o))))))))) (.k [0,3,4] .o)))))))) (.k [3] p0)))) [.tmp 2]
def Z3H:FSp:=⟨[tD],[(.list tJ)],fun x=>F83 x⟩
theorem s83:Zbk pol P 83 Z3H:=sO (a:=a83) Tryz.func83 Zbf imN
def a63:FA:=Zbe (Zaf pol) Tryz.f63 112 (.s .o (.c 1 (.s (.j ⟨[1],[(28,dB)],[]⟩ .o (.k [1,28] p1)) (.k [1] (.s (.s .o (.b (.l ⟨[1],[(3,dI)],[]⟩ (.k [1,3] (.s (.s .o (.k [1,3,33] p0)) (.k [1,3] (.j ⟨[1,3],[],[]⟩ (.b (.s .o (.c 4 (.k [1,3,4] (.s (.s .o (.b (.l ⟨[1,3,4],[(5,dI)],[]⟩ (.k [1,3,4,5] (.s (.j ⟨[1,3,4,5],[(48,dB)],[]⟩ .o (.k [1,3,4,5,48] p0)) (.k [1,3,4,5] (.s (.b (.j ⟨[1,3,4,5],[(68,dB)],[]⟩ .o (.k [1,3,4,5,68] p1))) (.k [1,3,4,5] .o)))))))) (.k [1,3,4] (.s .o (.s .o (.s (.s .o (.k [1,3,4,6] (.j ⟨[1,3],[(86,dB)],[]⟩ .o (.k [1,3,86] p1)))) .o))))))))) (.k [1,3] .o)))))))) (.k [1] (.s .o (.k [1,7] (.s (.s .o (.b (.l ⟨[1,7],[(8,dI)],[]⟩ (.k [1,7,8] (.s (.s .o p0) (.k [1,7,8] (.s (.b (.j ⟨[1,7,8],[(111,dB)],[]⟩ .o (.k [1,7,8,111] p1))) (.k [1,7,8] .o)))))))) (.k [] p0)))))))))) [.tmp 2]
def Z6j:FSp:=⟨[tF],[.bool],fun x=>F63 x⟩
theorem s63:Zbk pol P 63 Z6j:=sO (a:=a63) Tryz.func63 (ZaM s40 (ZaM s81 (ZaM s82 (ZaM s83 Zbf)))) imN
def q62a:List CS:=[.box [.dat tD,.dat tH,.dat tC,dI,dI,dI,dI,.dat tL,.dat tK,.dat tL,.sl 1,.dat .str,dI,.sl 2,dI,dI,dB] true,.own tI true,.own tn true]
def a62:FA:=Zbe (Zaf pol) Tryz.f62 151 (.s .o (.s (.j ⟨[1],[(0,.bx 0 0),(31,dB)],q62a⟩ .o (.k [0,1,31] (.s (.s .o (.k [0] p0)) .o))) (.k [0,1] (.s (.s .o (.k [0,1,42] p1)) (.k [0,1] (.s .o (.k [0,1] (.s .o (.c 5 (.k [0,1,5] (.s .o (.s (.s .o (.b (.l ⟨[1,5],[(0,.bx 0 0),(6,.sl 1),(7,dI)],[.box [.dat tD,.dat tH,.dat tC,dI,dI,dI,dI,.dat tL,.dat tK,.dat tL,.sl 2,.dat .str,dI,.sl 3,dI,dI,dB] true,.own tI true,.own tI true,.own tn true]⟩ (.k [0,1,5,6,7] (.s (.s .o (.k [0,1,5,6,7,75] p0)) (.k [0,1,5,6,7] (.s (.b .o) (.k [0,1,5,6,7] .o)))))))) (.k [0,1,5,6] (.s .o (.k [0,1,5,6] (.s .o (.k [0,1,5] (.j ⟨[1],[(0,.bx 0 0)],q62a⟩ (.j ⟨[1,5],[(0,.bx 0 0),(136,dB)],q62a⟩ .o (.k [0,1,5,136] p0)) (.k [0,1] p0))))))))))))))))))) [.tmp 4]
theorem ZBZ:ZqA P pol (Zaf pol) 62 2 a62:=⟨⟨_,_,Tryz.func62,rfl,rfl,rfl,by kernel_rfl⟩,by decide⟩
theorem ZCa:a62.c.ok=true:=by kernel_rfl
def Z9c (n:Nat):Zbc:=⟨[.bx 0 0,dI],[.box [.dat tD,.dat tH,.dat tC,dI,dI,dI,dI,.dat tL,.dat tK,.dat tL,.sl 1,.dat .str,dI,.sl 2,dI,dI,dB] true,.own tI true,.own tn true],1,[dI],[(0,.bx 0 0)],[.box [.dat tD,.dat tH,.dat tC,dI,dI,dI,dI,.dat tL,.dat tK,.dat tL,.sl 1,.dat .str,dI,.sl 2,dI,dI,dB] true,.own tI true,.own tn true],fun (x:Int×TN×TS×TI×Int×Int×Int×Int×List Int×List (List Int)×List Int×ByteArray×Int×Int×Int×Bool×List Int×TN)=>(N62 n x.1 x.2.1 x.2.2.1 x.2.2.2.1 x.2.2.2.2.1 x.2.2.2.2.2.1 x.2.2.2.2.2.2.1 x.2.2.2.2.2.2.2.1 x.2.2.2.2.2.2.2.2.1 x.2.2.2.2.2.2.2.2.2.1 x.2.2.2.2.2.2.2.2.2.2.1 x.2.2.2.2.2.2.2.2.2.2.2.1 x.2.2.2.2.2.2.2.2.2.2.2.2.1 x.2.2.2.2.2.2.2.2.2.2.2.2.2.1 x.2.2.2.2.2.2.2.2.2.2.2.2.2.2.1 x.2.2.2.2.2.2.2.2.2.2.2.2.2.2.2.1 x.2.2.2.2.2.2.2.2.2.2.2.2.2.2.2.2.1 x.2.2.2.2.2.2.2.2.2.2.2.2.2.2.2.2.2:Option Y1)⟩
def Z6f:Zbc:=Z9c 1000
theorem ZBC:∀ n,ZdA pol P 62 (Z9c n)
 | 0=>ino (by kernel_rfl) (by kernel_rfl) (by kernel_rfl) (fun _=>rfl)
 | n+1=>mOf (a:=a62) (sp:=Z9c (n+1)) ZBZ rfl ZCa (by kernel_rfl) (by kernel_rfl) (by kernel_rfl) rfl rfl (by kernel_rfl) Zbf (imC (ZBC n) imN) (fun x=>by kernel_rfl)
theorem s62:ZdA pol P 62 Z6f:=ZBC 1000
def a37:FA:=Zbe (Zaf pol) Tryz.f37 75 (.s .o (.c 2 (.s (.s .o (.k [1,2,4,11] p1)) (.k [1,2,4] (.s .o (.k [1,2,4,6] (.s (.s .o (.b (.l ⟨[1,2],[(4,.bx 0 0),(6,.bx 1 0),(7,dI)],[.box [.dat .str,dI,.nils,dI,dI] true,.box [.dat tD,.dat tH,.dat tC,dI,dI,dI,dI,.dat tL,.dat tK,.dat tL,.sl 2,.dat .str,dI,.nils,dI,dI,dB] true,.own tI true]⟩ (.k [1,2,4,6,7] (.s (.s .o (.k [1,2,4,6,7,23] p0)) (.k [1,2,4,6,7] (.s (.b .o) (.k [1,2,4,6,7] .o)))))))) (.k [2,4,6] (.s .o (.k [2,4,6] (.s .o (.k [4,6] (.s (.j ⟨[],[(4,.bx 0 0),(6,.bx 1 0),(69,dB)],[.box [.dat .str,dI,.nils,dI,dI] true,.box [.dat tD,.dat tH,.dat tC,dI,dI,dI,dI,.dat tL,.dat tK,.dat tL,.sl 2,.dat .str,dI,.sl 3,dI,dI,dB] true,.own tI true,.own tn true]⟩ .o (.k [4,6,69] p1)) (.k [4,6] p0)))))))))))))) [.cell 4 60,.tmp 5]
def Z4b:FSp:=⟨[tE,tL],[tF,.bool],fun x=>F37 x.1 x.2⟩
theorem s37:Zbk pol P 37 Z4b:=sO (a:=a37) Tryz.func37 (ZaM s61 (ZaM s63 Zbf)) (imC s62 imN)
def a18:FA:=Zbe (Zaf pol) Tryz.f18 16 (.s .o (.c 2 (.s (.s .o p1) (.k [1,2,4] p0)))) [.cell 4 60,.tmp 5]
def ZBO:FSp:=⟨[tA,tL],[tF,.bool],fun x=>F18 x.1 x.2⟩
theorem s18:Zbk pol P 18 ZBO:=sO (a:=a18) Tryz.func18 (ZaM s20 (ZaM s21 (ZaM s37 Zbf))) imN
def a19:FA:=Zbe (Zaf pol) Tryz.f19 35 (.s .o (.c 1 (.s (.s .o (.b (.j ⟨[1,4],[(5,dB)],[]⟩ (.s .o (.s .o (.s .o p0))) (.k [1,4,5] (.s p0 (.j ⟨[1,4],[(9,dB)],[]⟩ (.s .o p0) (.k [1,4,9] (.s p0 (.j ⟨[1,4],[(12,dB)],[]⟩ (.s .o (.s .o (.s .o p0))) (.k [1,4,12] (.s p0 (.s .o (.s p0 (.s .o (.s p0 (.j ⟨[1,4],[(20,dB)],[]⟩ (.s .o p0) (.k [1,4,20] (.s p0 (.j ⟨[1],[(23,dB)],[]⟩ (.s .o (.s .o (.s .o p0))) (.k [1,23] p1)))))))))))))))))))) (.k [1] (.s (.j ⟨[],[(34,dB)],[]⟩ .o (.k [34] p1)) (.k [] p0)))))) [.tmp 2]
def Z2L:FSp:=⟨[tn],[tI],fun x=>F19 x⟩
theorem s19:Zbk pol P 19 Z2L:=sO (a:=a19) Tryz.func19 Zbf imN
def a6:FA:=Zbe (Zaf pol) Tryz.f6 33 (.s .o (.c 2 (.s .o (.c 6 (.k [6,7] (.s .o (.s (.s .o (.b (.l ⟨[6,7],[(8,dI),(9,dI)],[]⟩ (.k [6,7,8,9] (.s (.s .o (.k [6,7,8,9,20] p0)) (.k [6,7,8,9] (.s (.b .o) (.k [6,7,8,9] .o)))))))) (.k [7,8] p0)))))))) [.tmp 4,.tmp 5]
def sp6:FSp:=⟨[tA,tL],[tI,.bool],fun x=>F6 x.1 x.2⟩
theorem s6:Zbk pol P 6 sp6:=sO (a:=a6) Tryz.func6 (ZaM s18 (ZaM s19 Zbf)) imN
def a23:FA:=Zbe (Zaf pol) Tryz.f23 16 (.s .o (.s .o (.s (.s .o (.b (.l ⟨[0],[(3,.sl 0),(4,dI)],[.own tI true]⟩ (.k [0,3,4] (.s (.s .o p0) (.k [0,3,4] (.s (.b .o) (.k [0,3,4] .o)))))))) (.k [3] p0)))) [.tmp 2]
def Z46:FSp:=⟨[tI],[tL],fun x=>F23 x⟩
theorem s23:Zbk pol P 23 Z46:=sO (a:=a23) Tryz.func23 Zbf imN
def a66:FA:=Zbe (Zaf pol) Tryz.f66 30 (.s .o (.c 3 (.s (.s .o (.k [1,2,3,11] p1)) (.k [2,3] (.s (.s .o (.k [2,3,22] p1)) (.k [] p0)))))) [.tmp 6]
def Z21:FSp:=⟨[tE,tL,tI],[tI],fun x=>F66 x.1 x.2.1 x.2.2⟩
theorem s66:Zbk pol P 66 Z21:=sO (a:=a66) Tryz.func66 Zbf imN
def a87:FA:=Zbe (Zaf pol) Tryz.f87 32 (.s .o (.c 3 (.s .o (.k [2,3,7] (.s (.s .o (.b (.l ⟨[2,3,7],[(8,dI)],[]⟩ (.k [2,3,7,8] (.s (.s .o (.k [2,3,7,8,19] p0)) (.k [2,3,7,8] (.s (.b (.s .o (.k [2,3,7,8,31] p1))) (.k [2,3,7,8] .o)))))))) (.k [] p0)))))) [.tmp 6]
def Z3G:FSp:=⟨[tE,tI,tI],[.bool],fun x=>F87 x.1 x.2.1 x.2.2⟩
theorem s87:Zbk pol P 87 Z3G:=sO (a:=a87) Tryz.func87 Zbf imN
def a65:FA:=Zbe (Zaf pol) Tryz.f65 43 (.s .o (.c 4 (.s (.s .o (.k [2,3,4,9] (.s .o p1))) (.k [2,3,4] (.s (.s .o (.b (.l ⟨[2,3,4],[(10,dI)],[]⟩ (.k [2,3,4,10] (.s (.s .o (.k [2,3,4,10,28] p0)) (.k [2,3,4,10] (.s (.b (.s .o (.k [2,3,4,10,42] p1))) (.k [2,3,4,10] .o)))))))) (.k [] p0)))))) [.tmp 8]
def Z20:FSp:=⟨[tE,tL,tI,tI],[.bool],fun x=>F65 x.1 x.2.1 x.2.2.1 x.2.2.2⟩
theorem s65:Zbk pol P 65 Z20:=sO (a:=a65) Tryz.func65 (ZaM s66 (ZaM s87 Zbf)) imN
def q67a:List CS:=[.own .bool true]
def a67:FA:=Zbe (Zaf pol) Tryz.f67 105 (.s .o (.c 3 (.s .o (.k [1,2,3,7] (.s (.s .o (.b (.l ⟨[1,2,3],[(7,.sl 0),(8,dB)],q67a⟩ (.k [1,2,3,7,8] (.s (.s .o p0) (.k [1,2,3,7] (.b (.s .o (.s .o (.b (.l ⟨[1,2,3],[(7,.sl 0),(8,dB),(9,dI)],q67a⟩ (.k [1,2,3,7,8,9] (.s (.s .o (.k [1,2,3,7,8,9,23] p0)) (.k [1,2,3,7,8,9] (.j ⟨[1,2,3,9],[(7,.sl 0),(8,dB)],q67a⟩ (.b (.s .o (.j ⟨[1,2,3,8,9],[(7,.sl 0),(10,dI)],q67a⟩ (.s .o (.k [1,2,3,7,8,9,10,29] p0)) (.k [1,2,3,7,8,9,10] (.s (.j ⟨[1,2,3,8,9,10],[(7,.sl 0),(41,dB)],q67a⟩ .o (.k [1,2,3,7,8,9,10,41] p0)) (.k [1,2,3,7,8,9,10] (.s .o (.s .o (.k [1,2,3,7,8,9,11,12] (.s (.s .o (.b (.l ⟨[1,2,3,8,9,12],[(7,.sl 0),(11,dB),(13,dI)],q67a⟩ (.k [1,2,3,7,8,9,11,12,13] (.s (.s .o (.k [1,2,3,7,8,9,11,12,13,52] p0)) (.k [1,2,3,7,8,9,11,12,13] (.j ⟨[1,2,3,8,9,12,13],[(7,.sl 0),(11,dB)],q67a⟩ (.b (.s .o (.k [1,2,3,7,8,9,11,12,13,14] .o))) (.k [1,2,3,7,8,9,11,12,13] .o)))))))) (.k [1,2,3,7,8,9,11] (.s .o p0)))))))))))) (.k [1,2,3,7,8,9] .o)))))))))))))))) (.k [1,2,3,7] (.s (.s .o (.b (.l ⟨[1,2,3],[(7,.sl 0),(15,dI)],q67a⟩ (.k [1,2,3,7,15] (.s (.s .o (.k [1,2,3,7,15,84] p0)) (.k [1,2,3,7,15] (.s (.b (.j ⟨[1,2,3,15],[(7,.sl 0),(104,dB)],q67a⟩ .o (.k [1,2,3,7,15,104] p1))) (.k [1,2,3,7,15] .o)))))))) (.k [] p0)))))))) [.tmp 6]
def Z2A:FSp:=⟨[tE,tL,tJ],[.bool],fun x=>F67 x.1 x.2.1 x.2.2⟩
theorem s67:Zbk pol P 67 Z2A:=sO (a:=a67) Tryz.func67 (ZaM s66 Zbf) imN
def q43a:List CS:=[.own .bool true]
def q43b:List CS:=[.own .bool true,.own tI true]
def a43:FA:=Zbe (Zaf pol) Tryz.f43 160 (.s .o (.c 2 (.k [1,2] (.s .o (.k [1,2,7] (.s .o (.s .o (.k [1,2,7,8] (.s (.s .o (.b (.l ⟨[1,2,7],[(8,.sl 0),(9,dB)],q43a⟩ (.k [1,2,7,8,9] (.s (.s .o p0) (.k [1,2,7,8] (.b (.s .o (.s .o (.b (.l ⟨[1,2,7],[(8,.sl 0),(9,dB),(10,dI)],q43a⟩ (.k [1,2,7,8,9,10] (.s (.s .o p0) (.k [1,2,7,8,9,10] (.s (.b (.s .o (.b (.l ⟨[1,2,7,10],[(8,.sl 0),(9,dB),(11,dI)],q43a⟩ (.k [1,2,7,8,9,10,11] (.s (.j ⟨[1,2,7,9,10,11],[(8,.sl 0),(55,dB)],q43a⟩ .o (.k [1,2,7,8,9,10,11,55] p0)) (.k [1,2,7,8,9,10,11] (.j ⟨[1,2,7,10,11],[(8,.sl 0),(9,dB)],q43a⟩ (.b (.j ⟨[1,2,7,9,10,11],[(8,.sl 0),(78,dB)],q43a⟩ .o (.k [1,2,7,8,9,10,11,78] p0))) (.k [1,2,7,8,9,10,11] .o))))))))) (.k [1,2,7,8,9,10] .o)))))))))))))))) (.k [1,2,7,8] (.s .o (.s .o (.s (.s .o (.b (.l ⟨[1,2,7],[(8,.sl 0),(12,.sl 1),(13,dI),(14,dI)],q43b⟩ (.k [1,2,7,8,12,13,14] (.s (.s .o p0) (.k [1,2,7,8,12,13,14] (.j ⟨[1,2,7,14],[(8,.sl 0),(12,.sl 1),(13,dI)],q43b⟩ (.b (.s (.s .o (.k [1,2,7,8,12,13,14,91] p0)) (.k [1,2,7,8,12,13,14] (.s (.s .o (.k [1,2,7,8,12,13,14,15] (.s .o p1))) (.k [1,2,7,8,12,13,14] (.s .o (.k [1,2,7,8,12,13,14] (.s .o (.k [1,2,7,8,12,13,14,16] (.s (.s .o (.b (.l ⟨[1,2,7,13,14],[(8,.sl 0),(12,.sl 1),(16,dI),(17,dI)],q43b⟩ (.k [1,2,7,8,12,13,14,16,17] (.s (.s .o (.k [1,2,7,8,12,13,14,16,17,131] p0)) (.k [1,2,7,8,12,13,14,16,17] (.s (.b .o) (.k [1,2,7,8,12,13,14,16,17] .o)))))))) (.k [1,2,7,8,12,13,14,16] .o))))))))))) (.k [1,2,7,8,12,13,14] .o)))))))) (.k [1,2,8,12,13] p0)))))))))))))) [.tmp 4,.tmp 5,.tmp 6]
def Z6p:FSp:=⟨[tE,tL],[tL,tI,.bool],fun x=>F43 x.1 x.2⟩
theorem s43:Zbk pol P 43 Z6p:=sO (a:=a43) Tryz.func43 (ZaM s19 (ZaM s65 (ZaM s66 (ZaM s67 Zbf)))) imN
def a44:FA:=Zbe (Zaf pol) Tryz.f44 30 (.s .o (.c 2 (.s .o (.s (.s .o (.b (.l ⟨[1,2],[(5,.sl 0),(6,dI)],[.own tI true]⟩ (.k [1,2,5,6] (.s (.s .o (.k [1,2,5,6,12] p0)) (.k [1,2,5,6] (.j ⟨[1,2,6],[(5,.sl 0)],[.own tI true]⟩ (.b (.s .o (.k [1,2,5,6,21] p0))) (.k [1,2,5,6] .o)))))))) (.k [5] p0))))) [.tmp 4]
def Z4q:FSp:=⟨[tE,tL],[tL],fun x=>F44 x.1 x.2⟩
theorem s44:Zbk pol P 44 Z4q:=sO (a:=a44) Tryz.func44 (ZaM s66 Zbf) imN
def q45a:List CS:=[.own .bool true]
def a45:FA:=Zbe (Zaf pol) Tryz.f45 103 (.s .o (.c 2 (.s .o (.k [1,2,5] (.s .o (.k [1,2,5] (.s (.s .o (.b (.l ⟨[1,2],[(5,.sl 0),(6,dB)],q45a⟩ (.k [1,2,5,6] (.s (.s .o p0) (.k [1,2,5] (.b (.s .o (.s .o (.b (.l ⟨[1,2],[(5,.sl 0),(6,dB),(7,dI)],q45a⟩ (.k [1,2,5,6,7] (.s (.s .o (.k [1,2,5,6,7,37] p0)) (.k [1,2,5,6,7] (.s (.b (.s .o (.b (.l ⟨[1,2,7],[(5,.sl 0),(6,dB),(8,dI)],q45a⟩ (.k [1,2,5,6,7,8] (.s (.j ⟨[1,2,6,7,8],[(5,.sl 0),(58,dB)],q45a⟩ .o (.k [1,2,5,6,7,8,58] p0)) (.k [1,2,5,6,7,8] (.j ⟨[1,2,7,8],[(5,.sl 0),(6,dB)],q45a⟩ (.b (.s .o (.k [1,2,5,6,7,8,9] (.s .o (.k [1,2,5,6,7,8,9,82] p0))))) (.k [1,2,5,6,7,8] .o))))))))) (.k [1,2,5,6,7] .o)))))))))))))))) (.k [1,5] (.s .o (.s (.s .o (.b (.l ⟨[],[(5,.sl 0),(10,.sl 1),(11,dI)],[.own .bool true,.own tI true]⟩ (.k [5,10,11] (.s (.s .o (.k [5,10,11,91] p0)) (.k [5,10,11] (.j ⟨[11],[(5,.sl 0),(10,.sl 1)],[.own .bool true,.own tI true]⟩ (.b (.s .o (.k [5,10,11,98] p0))) (.k [5,10,11] .o)))))))) (.k [10] p0))))))))))) [.tmp 4]
def Z3B:FSp:=⟨[tE,tL],[tL],fun x=>F45 x.1 x.2⟩
theorem s45:Zbk pol P 45 Z3B:=sO (a:=a45) Tryz.func45 Zbf imN
def q22a:List CS:=[.box [.dat tD,.dat tH,.dat tC,dI,dI,dI,dI,.dat tL,.dat tK,dI,dI,dB,.dat tL,dI] true,.own tI false,.box [dI,dI,.nils] true,.box [dI,dI,.sl 4] true,.own .tree true]
def a22:FA:=Zbe (Zaf pol) Tryz.f22 150 (.s .o (.s .o (.k [0,1,4] (.s (.s .o (.k [0,1,4,30] p1)) (.k [0,1,4] (.s .o (.k [0,1,4,5,6,7] (.s (.b (.s .o (.s p0 (.j ⟨[5,6],[(0,.bx 0 0),(1,.sl 1),(4,.bx 2 0),(46,dB)],[.box [.dat tD,.dat tH,.dat tC,dI,dI,dI,dI,.dat tL,.dat tK,dI,dI,dB,.dat tL,dI] true,.own tI false,.box [dI,dI,.nils] true]⟩ .o (.k [0,1,4,5,6,46] (.s p0 (.s .o (.k [0,1,4,5,6,60] (.s (.s .o (.k [0,4,6,8] (.s (.s .o (.c 9 (.k [0,4,6,8,10] (.s .o p1)))) (.k [0,4,6,8] (.s .o (.k [4,0] p0)))))) .o))))))))) (.k [0,1,4,5] (.s .o (.k [0,1,4,5,11] (.s .o (.k [0,1,4,5,11,12] (.s (.s .o (.b (.l ⟨[5,12],[(0,.bx 0 0),(1,.sl 1),(4,.bx 2 0),(11,.bx 3 0),(13,dI)],q22a⟩ (.k [0,1,4,5,11,12,13] (.s (.j ⟨[5,12,13],[(0,.bx 0 0),(1,.sl 1),(4,.bx 2 0),(11,.bx 3 0),(127,dB)],q22a⟩ .o (.k [0,1,4,5,11,12,13,127] p0)) (.k [0,1,4,5,11,12,13] (.s (.b (.s .o (.s .o (.k [0,1,4,5,11,12,13,14] .o)))) (.k [0,1,4,5,11,12,13] .o)))))))) (.k [4,11,0] p0))))))))))))))) [.cell 4 35]
theorem ZEY:ZqA P pol (Zaf pol) 22 2 a22:=⟨⟨_,_,Tryz.func22,rfl,rfl,rfl,by kernel_rfl⟩,by decide⟩
theorem ZEZ:a22.c.ok=true:=by kernel_rfl
def ZDo (n:Nat):Zbc:=⟨[.bx 0 0,.sl 1],[.box [.dat tD,.dat tH,.dat tC,dI,dI,dI,dI,.dat tL,.dat tK,dI,dI,dB,.dat tL,dI] true,.own tI false],1,[.agg [dI,dI,.sl 1]],[(0,.bx 0 0)],[.box [.dat tD,.dat tH,.dat tC,dI,dI,dI,dI,.dat tL,.dat tK,dI,dI,dB,.dat tL,dI] true,.own .tree true],fun (x:TN×TS×TI×Int×Int×Int×Int×List Int×List (List Int)×Int×Int×Bool×List Int×Int×List Int)=>(N22 n x.1 x.2.1 x.2.2.1 x.2.2.2.1 x.2.2.2.2.1 x.2.2.2.2.2.1 x.2.2.2.2.2.2.1 x.2.2.2.2.2.2.2.1 x.2.2.2.2.2.2.2.2.1 x.2.2.2.2.2.2.2.2.2.1 x.2.2.2.2.2.2.2.2.2.2.1 x.2.2.2.2.2.2.2.2.2.2.2.1 x.2.2.2.2.2.2.2.2.2.2.2.2.1 x.2.2.2.2.2.2.2.2.2.2.2.2.2.1 x.2.2.2.2.2.2.2.2.2.2.2.2.2.2:Option Y2)⟩
def Z43:Zbc:=ZDo 1000
theorem ZET:∀ n,ZdA pol P 22 (ZDo n)
 | 0=>ino (by kernel_rfl) (by kernel_rfl) (by kernel_rfl) (fun _=>rfl)
 | n+1=>mOf (a:=a22) (sp:=ZDo (n+1)) ZEY rfl ZEZ (by kernel_rfl) (by kernel_rfl) (by kernel_rfl) rfl rfl (by kernel_rfl) (ZaM s37 (ZaM s43 (ZaM s44 (ZaM s45 Zbf)))) (imC (ZET n) imN) (fun x=>by kernel_rfl)
theorem s22:ZdA pol P 22 Z43:=ZET 1000
def a7:FA:=Zbe (Zaf pol) Tryz.f7 60 (.s .o (.c 2 (.k [1,2,6] (.s (.j ⟨[1,2],[(6,.bx 0 0),(20,dB)],[.box [dI,dI,.nils] true]⟩ .o (.k [1,2,6,20] p1)) (.k [1,2,6] (.s .o (.k [2,6,8] (.s .o (.c 9 (.k [6,8,9] (.s (.b (.s .o (.k [6,8,9,33] (.s p0 (.s .o (.k [6,8,9,44] p1)))))) (.k [6,8,9] p0)))))))))))) [.tmp 4,.tmp 5,.cell 6 35,.tmp 7]
def sp7:FSp:=⟨[tA,tI],[tL,tI,tG,tI],fun x=>F7 x.1 x.2⟩
theorem s7:Zbk pol P 7 sp7:=sO (a:=a7) Tryz.func7 (ZaM s20 (ZaM s21 (ZaM s23 Zbf))) (imC s22 imN)
def a8:FA:=Zbe (Zaf pol) Tryz.f8 64 (.s .o (.s (.j ⟨[0,1],[(4,.bx 0 0),(17,dB)],[.box [dI,dI,.nils] true]⟩ .o (.k [0,1,4,17] p1)) (.k [0,1,4] (.s .o (.k [0,1,4,6] (.s .o (.s .o (.k [0,1,4,6,7] (.s (.s .o p1) (.k [0,1,4,6,7] (.s .o (.k [0,1,4,6,7] (.s (.s .o (.k [0,1,4,7,8] (.b (.l ⟨[1],[(0,.dat tL),(4,.bx 0 0),(7,.bx 1 0),(8,dI)],[.box [dI,dI,.nils] true,.box [dI,dI,.sl 2] true,.own .tree true]⟩ (.k [0,1,4,7,8] (.s (.s .o p0) (.k [0,1,4,7,8] (.s (.b (.s .o (.c 9 (.k [1,4,7,8,9,10] .o)))) (.k [0,1,4,7,8] .o))))))))) (.k [0,4,7] p0)))))))))))))) [.cell 4 35,.tmp 5]
theorem is8:ZqA P pol (Zaf pol) 8 2 a8:=⟨⟨_,_,Tryz.func8,rfl,rfl,rfl,by kernel_rfl⟩,by decide⟩
theorem ok8:a8.c.ok=true:=by kernel_rfl
def ZEO (n:Nat):FSp:=⟨[tL,tI],[tG,tL],fun x=>N8 n x.1 x.2⟩
def sp8:FSp:=ZEO 1000
theorem sn8:∀ n,Zbk pol P 8 (ZEO n)
 | 0=>fun x r h=>by cases h
 | n+1=>sOf (a:=a8) (sp:=ZEO (n+1)) is8 (fun _=>rfl) ok8 rfl rfl (ZaM (sn8 n) Zbf) (imC s14 imN) (fun x=>by kernel_rfl)
theorem s8:Zbk pol P 8 sp8:=sn8 1000
def Z3I:FA:=Zbe (Zaf pol) Tryz.f108 31 (.s .o (.s (.s .o (.b (.j ⟨[0,4],[(5,dB)],[]⟩ (.s .o (.s .o (.s .o (.s .o (.s .o p0))))) (.k [0,4,5] (.s p0 (.j ⟨[0,4],[(10,dB)],[]⟩ (.s .o (.s .o (.s .o (.s .o (.s .o p0))))) (.k [0,4,10] (.s p0 (.j ⟨[0,4],[(15,dB)],[]⟩ (.s .o (.s .o (.s .o p0))) (.k [0,4,15] (.s p0 (.j ⟨[0,4],[(19,dB)],[]⟩ (.s .o p0) (.k [0,4,19] (.s p0 (.j ⟨[0],[(22,dB)],[]⟩ (.s .o p0) (.k [0,22] p1)))))))))))))))) (.k [0] (.s (.j ⟨[],[(30,dB)],[]⟩ .o (.k [30] p1)) (.k [] p0))))) [.tmp 2,.tmp 3]
def Z1t:FSp:=⟨[tI],[tI,.bool],fun x=>ZuR x⟩
theorem Z1u:Zbk pol P 108 Z1t:=sO (a:=Z3I) Tryz.func108 Zbf imN
def Z3J:FA:=Zbe (Zaf pol) Tryz.f109 6 (.s .o p0) [.tmp 2]
def Z1v:FSp:=⟨[tI],[tI],fun x=>Z0r x⟩
theorem Z3K:Zbk pol P 109 Z1v:=sO (a:=Z3J) Tryz.func109 Zbf imN
def Z3L:FA:=Zbe (Zaf pol) Tryz.f110 21 (.s .o (.s (.s .o (.b (.l ⟨[0,1],[(5,dI)],[]⟩ (.k [0,1,5] (.s (.s .o (.k [0,1,5,9] p0)) (.k [0,1,5] (.s (.b (.s .o (.k [0,1,5,20] p1))) (.k [0,1,5] .o)))))))) (.k [] p0))) [.tmp 4]
def Z10:FSp:=⟨[tL,tL],[.bool],fun x=>Z0s x.1 x.2⟩
theorem Z11:Zbk pol P 110 Z10:=sO (a:=Z3L) Tryz.func110 Zbf imN
def Z4t:FA:=Zbe (Zaf pol) Tryz.f111 21 (.s .o (.s .o (.s (.s .o (.b (.l ⟨[0],[(3,.sl 0),(4,dI)],[.own tI true]⟩ (.k [0,3,4] (.s (.s .o p0) (.k [0,3,4] (.s (.b .o) (.k [0,3,4] .o)))))))) (.k [0,3] (.s .o (.k [3] p0)))))) [.tmp 2]
def Z18:FSp:=⟨[tI],[tL],fun x=>Z0t x⟩
theorem Z19:Zbk pol P 111 Z18:=sO (a:=Z4t) Tryz.func111 (ZaM Z3K Zbf) imN
def Z4r:FA:=Zbe (Zaf pol) Tryz.f112 22 (.s .o (.s (.s .o (.b (.s .o (.s p0 (.j ⟨[3],[(7,dB)],[]⟩ (.s .o (.s .o (.s .o p0))) (.k [3,7] (.s p0 (.s .o (.s p0 (.s .o (.s p0 (.s .o p1)))))))))))) (.k [] p0))) [.tmp 2]
def Z16:FSp:=⟨[tI],[tL],fun x=>ZrP x⟩
theorem Z0z:Zbk pol P 112 Z16:=sO (a:=Z4r) Tryz.func112 Zbf imN
def Z3C:FA:=Zbe (Zaf pol) Tryz.f101 106 (.s .o (.c 2 (.s .o (.k [1,2,5,6] (.s (.j ⟨[1,2],[(26,dB)],[]⟩ .o (.k [1,2,26] p1)) (.k [1,2] (.s (.b (.s .o (.k [1,2,27] (.s (.j ⟨[],[(4,dB)],[]⟩ .o .o) (.s .o (.k [1,2,53] (.s (.s (.j ⟨[1],[(70,dB)],[]⟩ .o (.k [1,70] p1)) (.k [1] (.s (.s .o (.k [72,73,74] (.b (.l ⟨[72,73],[(74,dI)],[]⟩ (.k [72,73,74] (.s .o (.s p0 (.k [72,73,74] (.s (.b (.s .o (.s .o p1))) (.k [72,73,74] .o)))))))))) (.k [] p0)))) (.j ⟨[1,2],[(81,dB)],[]⟩ .o (.k [1,2,81] (.s (.j ⟨[],[(4,dB)],[]⟩ .o .o) .o)))))))))) (.k [1,2] p0)))))))) [.tmp 4]
def Z1s:FSp:=⟨[tn,tL],[.bool],fun x=>Z0p x.1 x.2⟩
theorem Z3D:Zbk pol P 101 Z1s:=sO (a:=Z3C) Tryz.func101 (ZaM Z1u (ZaM Z3K (ZaM Z11 (ZaM Z19 (ZaM Z0z Zbf))))) imN
def Z28:FA:=Zbe (Zaf pol) Tryz.f102 53 (.s .o (.c 3 (.s .o (.j ⟨[3],[(5,dI)],[]⟩ (.s .o (.b (.s .o (.s p0 (.s .o (.s .o (.s .o (.s .o (.j ⟨[0,3,5,7],[(14,dB)],[]⟩ (.s .o p0) (.k [0,3,5,7,14] (.s .o (.s .o (.s (.j ⟨[],[(4,dB)],[]⟩ .o .o) (.s .o (.s .o (.s .o (.s .o (.s .o p0)))))))))))))))))) (.k [3,5] (.j ⟨[],[(4,dB)],[]⟩ .o .o)))))) [.tmp 4]
def Z0V:FSp:=⟨[tD,tn],[.bool],fun x=>Zcz x.1 x.2⟩
theorem ZyN:Zbk pol P 102 Z0V:=sO (a:=Z28) Tryz.func102 (ZaM Z3K Zbf) imN
def a96:FA:=Zbe (Zaf pol) Tryz.f96 80 (.s .o (.s .o (.c 7 (.k [0,1,2,7] (.s .o (.s (.s .o (.k [0,1,2,7,8,16,17,18] (.b (.l ⟨[0,1,2,7,16,17],[(8,.sl 0),(18,dI)],[.own tI true]⟩ (.k [0,1,2,7,8,16,17,18] (.s .o (.s p0 (.k [0,1,2,7,8,16,17,18] (.s (.b (.s .o (.s (.j ⟨[0,1,2,7,10,16,17,18],[(8,.sl 0),(35,dB)],[.own tI true]⟩ .o (.k [0,1,2,7,8,10,16,17,18,35] p1)) (.k [0,1,2,7,8,10,16,17,18] .o)))) (.k [0,1,2,7,8,16,17,18] .o)))))))))) (.k [0,7,8] (.s (.j ⟨[7],[(8,.sl 0),(53,dB)],[.own tI true]⟩ .o (.k [7,8,53] p1)) (.k [7,8] (.j ⟨[],[],[]⟩ (.s .o (.b (.s .o (.s p0 (.j ⟨[7,55],[(8,.sl 0),(58,dB)],[.own tI true]⟩ (.s .o (.s .o (.s .o (.s .o (.s .o (.s .o (.s .o p0))))))) (.k [7,8,55,58] (.s p0 (.s .o (.s p0 (.s .o (.s (.s .o (.k [74] p1)) (.s .o (.s (.s .o p1) .o))))))))))))) (.k [] p0))))))))))) [.tmp 6]
def Z3v:FSp:=⟨[tD,tI,tL],[tI],fun x=>F96 x.1 x.2.1 x.2.2⟩
theorem s96:Zbk pol P 96 Z3v:=sO (a:=a96) Tryz.func96 (ZaM Z3D (ZaM ZyN Zbf)) imN
def a94:FA:=Zbe (Zaf pol) Tryz.f94 22 (.s .o (.s .o (.k [0,3] (.s (.s .o (.b (.l ⟨[0,9],[(3,.sl 0),(10,dI)],[.own tI true]⟩ (.k [0,3,9,10] (.s .o (.s p0 (.k [0,3,9,10] (.s (.b p0) (.k [0,3,9,10] .o))))))))) (.k [3] p0))))) [.tmp 2]
def Z3Z:FSp:=⟨[tD],[tL],fun x=>F94 x⟩
theorem s94:Zbk pol P 94 Z3Z:=sO (a:=a94) Tryz.func94 (ZaM s96 Zbf) imN
def a88:FA:=Zbe (Zaf pol) Tryz.f88 21 (.s .o (.s (.j ⟨[0,1],[(12,dB)],[]⟩ .o (.k [0,1,12] p1)) (.k [0,1] p0))) [.tmp 4]
def Z3O:FSp:=⟨[tD,tI],[tI],fun x=>F88 x.1 x.2⟩
theorem s88:Zbk pol P 88 Z3O:=sO (a:=a88) Tryz.func88 (ZaM s94 Zbf) imN
def a89:FA:=Zbe (Zaf pol) Tryz.f89 4 (.s .o p0) [.tmp 2]
def Z3P:FSp:=⟨[tI],[tI],fun x=>F89 x⟩
theorem s89:Zbk pol P 89 Z3P:=sO (a:=a89) Tryz.func89 Zbf imN
def a97:FA:=Zbe (Zaf pol) Tryz.f97 15 (.s .o (.s (.s .o p1) (.k [0] p0))) [.tmp 2]
def Z3w:FSp:=⟨[tI],[.str],fun x=>F97 x⟩
theorem s97:Zbk pol P 97 Z3w:=sO (a:=a97) Tryz.func97 Zbf imN
def Z4g:FA:=Zbe (Zaf pol) Tryz.f103 6 (.s .o p0) [.tmp 2]
def Z13:FSp:=⟨[tI],[tI],fun x=>ZxP x⟩
theorem ZyT:Zbk pol P 103 Z13:=sO (a:=Z4g) Tryz.func103 Zbf imN
def Z4h:FA:=Zbe (Zaf pol) Tryz.f104 25 (.s .o (.j ⟨[],[(0,.dat (.int .u64)),(2,dI)],[]⟩ (.s .o p1) (.k [0,2] (.j ⟨[],[(0,.dat (.int .u64)),(2,dI)],[]⟩ (.s .o p1) (.k [0,2] (.j ⟨[],[(0,.dat (.int .u64)),(2,dI)],[]⟩ (.s .o p1) (.k [0,2] p0))))))) [.tmp 2]
def Z14:FSp:=⟨[(.int .u64)],[tI],fun x=>ZxQ x⟩
theorem Z4i:Zbk pol P 104 Z14:=sO (a:=Z4h) Tryz.func104 Zbf imN
def Z4j:FA:=Zbe (Zaf pol) Tryz.f105 4 (.s .o (.s (.s .o p1) (.k [] p0))) [.tmp 2]
def Z15:FSp:=⟨[.bool],[tI],fun x=>Z0q x⟩
theorem Z4k:Zbk pol P 105 Z15:=sO (a:=Z4j) Tryz.func105 Zbf imN
def a98:FA:=Zbe (Zaf pol) Tryz.f98 15 (.s .o (.s .o (.k [0,3] p0))) [.tmp 2]
def Z3z:FSp:=⟨[(.int .u64)],[tI],fun x=>F98 x⟩
theorem s98:Zbk pol P 98 Z3z:=sO (a:=a98) Tryz.func98 (ZaM ZyT (ZaM Z4i (ZaM Z4k Zbf))) imN
def a99:FA:=Zbe (Zaf pol) Tryz.f99 167 (.s .o (.s (.b (.l ⟨[],[(0,.sl 0),(1,.dat (.int .u64)),(4,dI)],[.own (.int .u8) true]⟩ (.k [0,1,4] (.s (.s .o p0) (.k [0,1,4] (.b (.s .o (.k [0,1,4,5] (.s .o (.s .o (.k [0,1,4,6,7] (.s .o (.k [0,1,4,6,8,9] (.s .o (.k [0,1,4,8,9,10,11] (.s .o (.k [0,1,4,8,10,11] (.s .o (.k [0,1,4,10,11] (.s .o (.k [0,1,4,10] (.s .o (.k [0,1,4] .o))))))))))))))))))))))) (.k [0,1,4] (.s .o (.j ⟨[],[(0,.sl 0),(4,dI),(12,.dat (.int .u32))],[.own (.int .u8) true]⟩ (.s .o (.s (.s .o (.s .o (.s .o (.k [0,4,12,14,15] (.s .o (.k [0,4,12,14] (.s .o (.k [0,4,12] .o)))))))) .o)) (.k [0,4,12] (.j ⟨[],[(0,.sl 0),(4,dI),(12,.dat (.int .u32))],[.own (.int .u8) true]⟩ (.s .o (.s (.s .o (.k [0,4,12,16] (.s .o (.s .o (.k [0,4,12] .o))))) .o)) (.k [0,4,12] (.s .o p0))))))))) []
def Z32:Zbc:=⟨[.sl 0,.dat (.int .u64)],[.own (.int .u8) true],1,[],[(0,.sl 0)],[.own (.int .u8) true],fun (x:Int×List Int)=>(F99 x.1 x.2:Option (List Int))⟩
theorem s99:ZdA pol P 99 Z32:=mO (a:=a99) Tryz.func99 Zbf imN
def a95:FA:=Zbe (Zaf pol) Tryz.f95 36 (.s .o (.s (.s .o (.s (.s (.s .o p1) (.k [0,1] (.s .o (.s .o (.s .o (.k [0,7,8] p0)))))) .o)) (.k [0,1,2] (.s .o (.k [0] p0))))) [.tmp 6]
def Z3Y:Zbc:=⟨[.sl 0,.dat (.int .u64),dI],[.own (.int .u8) true],0,[.sl 0],[],[.own (.int .u8) true],fun (x:Int×Int×List Int)=>(F95 x.1 x.2.1 x.2.2:Option (List Int))⟩
theorem s95:ZdA pol P 95 Z3Y:=mO (a:=a95) Tryz.func95 (ZaM s97 (ZaM s98 Zbf)) (imC s99 imN)
def a91:FA:=Zbe (Zaf pol) Tryz.f91 21 (.s .o (.s .o (.j ⟨[2],[(0,.sl 0),(7,.dat (.int .u64))],[.own (.int .u8) true]⟩ (.s .o (.s (.s .o (.k [0,2,7] .o)) .o)) (.k [0,2,7] p0)))) [.tmp 6]
def Z4x:Zbc:=⟨[.sl 0,dI,dI],[.own (.int .u8) true],0,[.sl 0],[],[.own (.int .u8) true],fun (x:Int×Int×List Int)=>(F91 x.1 x.2.1 x.2.2:Option (List Int))⟩
theorem s91:ZdA pol P 91 Z4x:=mO (a:=a91) Tryz.func91 Zbf (imC s95 imN)
def a73:FA:=Zbe (Zaf pol) Tryz.f73 11 (.s .o p0) [.tmp 6]
def Z33:Zbc:=⟨[.sl 0,dI,dI],[.own (.int .u8) true],0,[.sl 0],[],[.own (.int .u8) true],fun (x:Int×Int×List Int)=>(F73 x.1 x.2.1 x.2.2:Option (List Int))⟩
theorem s73:ZdA pol P 73 Z33:=mO (a:=a73) Tryz.func73 Zbf (imC s91 imN)
def ZE9:FA:=Zbe (Zaf pol) Tryz.f48 34 (.s .o (.c 2 (.s .o (.k [1,2,5] (.s .o (.k [1,2,5] (.s (.s .o (.k [1,5,18,19,20] (.b (.l ⟨[18,19],[(1,.fn 89 [] []),(5,.sl 0),(20,dI)],[.own (.int .u8) true]⟩ (.k [1,5,18,19,20] (.s .o (.s p0 (.k [1,5,18,19,20] (.s (.b p0) (.k [1,5,18,19,20] .o)))))))))) (.k [5] p0)))))))) [.tmp 4]
def ZDp:Zbc:=⟨[.dat tn,.fn 89 [] []],[],0,[.dat .str],[],[],fun (x:Int×Int×List Int)=>(ZC0 x:Option ByteArray)⟩
theorem ZEA:ZdA pol P 48 ZDp:=mO (a:=ZE9) Tryz.func48 (ZaM s89 Zbf) (imC s73 imN)
def a68:FA:=Zbe (Zaf pol) Tryz.f68 42 (.s .o (.s .o (.k [0,4] (.s .o (.s (.s .o (.b (.l ⟨[0,13],[(4,.sl 0),(5,.mp 1),(14,dI)],[.own tI true,.map .str .bool]⟩ (.k [0,4,5,13,14] (.s .o (.s p0 (.k [0,4,5,13,14] (.s (.b (.s .o (.s .o (.k [0,4,5,6,13,14] (.s .o (.k [0,4,5,6,7,13,14] (.s (.j ⟨[0,7,13,14],[(4,.sl 0),(5,.mp 1),(37,dB)],[.own tI true,.map .str .bool]⟩ .o (.k [0,4,5,7,13,14,37] p1)) (.k [0,4,5,7,13,14] .o)))))))) (.k [0,4,5,13,14] .o))))))))) (.k [4] p0)))))) [.tmp 2,.tmp 3]
def Z2C:FSp:=⟨[tD],[tL,.bool],fun x=>F68 x⟩
theorem s68:Zbk pol P 68 Z2C:=sO (a:=a68) Tryz.func68 (ZaM s88 Zbf) (imC ZEA imN)
def a69:FA:=Zbe (Zaf pol) Tryz.f69 17 (.s .o (.s (.j ⟨[0,1],[(12,dB)],[]⟩ .o (.k [0,1,12] p1)) (.k [0,1] p0))) [.tmp 4]
def Z2F:FSp:=⟨[tL,tI],[tI],fun x=>F69 x.1 x.2⟩
theorem s69:Zbk pol P 69 Z2F:=sO (a:=a69) Tryz.func69 Zbf imN
def a46:FA:=Zbe (Zaf pol) Tryz.f46 56 (.s .o (.c 1 (.s (.s .o (.k [1,11] p1)) (.k [1] (.s .o (.k [1,3,4] (.s (.j ⟨[1,3],[(33,dB)],[]⟩ .o (.k [1,3,33] p1)) (.k [1,3] (.s (.s .o (.k [3,35,36,37] (.b (.l ⟨[3,35,36],[(37,dI)],[]⟩ (.k [3,35,36,37] (.s .o (.s p0 (.k [3,35,36,37] (.s (.b (.s .o (.c 6 (.k [3,6,35,36,37] (.s .o (.k [3,6,7,35,36,37] (.j ⟨[3,35,36,37],[(54,dB)],[]⟩ .o (.k [3,35,36,37,54] p1)))))))) (.k [3,35,36,37] .o)))))))))) (.k [] p0)))))))))) [.tmp 2]
def ZBJ:FSp:=⟨[tA],[.bool],fun x=>F46 x⟩
theorem s46:Zbk pol P 46 ZBJ:=sO (a:=a46) Tryz.func46 (ZaM s68 (ZaM s69 Zbf)) imN
def a72:FA:=Zbe (Zaf pol) Tryz.f72 26 (.s .o (.s (.b (.l ⟨[],[(0,.sl 0),(1,dI)],[.own tI true]⟩ (.k [0,1] (.s (.s .o (.k [0,1,10] p0)) (.k [0,1] (.b (.s .o (.k [0,1] .o)))))))) (.k [1,0] p0))) [.tmp 4]
def Z3x:Zbc:=⟨[.sl 0,dI],[.own tI true],1,[dI],[(0,.sl 0)],[.own tI true],fun (x:Int×List Int)=>(F72 x.1 x.2:Option Y3)⟩
theorem s72:ZdA pol P 72 Z3x:=mO (a:=a72) Tryz.func72 Zbf imN
def a70:FA:=Zbe (Zaf pol) Tryz.f70 24 (.s .o (.s .o (.k [0,1,2] (.s (.s .o p1) (.k [0,1,2] (.s .o (.k [0] p0))))))) [.tmp 6]
def Z2E:Zbc:=⟨[.sl 0,dI,dI],[.own tI true],1,[dB],[(0,.sl 0)],[.own tI true],fun (x:Int×Int×List Int)=>(F70 x.1 x.2.1 x.2.2:Option Y15)⟩
theorem s70:ZdA pol P 70 Z2E:=mO (a:=a70) Tryz.func70 Zbf (imC s72 imN)
def a90:FA:=Zbe (Zaf pol) Tryz.f90 20 (.s .o (.s (.s .o (.b (.l ⟨[1],[(0,.sl 0),(5,dI)],[.own (.int .u8) true]⟩ (.k [0,1,5] (.s (.s .o p0) (.k [0,1,5] (.s (.b .o) (.k [0,1,5] .o)))))))) (.k [0] p0))) [.tmp 4]
def Z4w:Zbc:=⟨[.sl 0,.dat (.int .u64)],[.own (.int .u8) true],0,[.sl 0],[],[.own (.int .u8) true],fun (x:Int×List Int)=>(F90 x.1 x.2:Option (List Int))⟩
theorem s90:ZdA pol P 90 Z4w:=mO (a:=a90) Tryz.func90 Zbf imN
def a71:FA:=Zbe (Zaf pol) Tryz.f71 42 (.s .o (.c 3 (.s .o (.k [0,3,6] (.s .o (.k [0,3,6] (.s (.s .o (.k [0,6,19,20,21] (.b (.l ⟨[19,20],[(0,.sl 0),(6,.sl 1),(21,dI)],[.own tI true,.own (.int .u8) true]⟩ (.k [0,6,19,20,21] (.s .o (.s p0 (.k [0,6,19,20,21] (.s (.b (.s .o (.s (.j ⟨[8,19,20,21],[(0,.sl 0),(6,.sl 1),(32,dB)],[.own tI true,.own (.int .u8) true]⟩ .o (.k [0,6,8,19,20,21,32] p1)) (.k [0,6,8,19,20,21] .o)))) (.k [0,6,19,20,21] .o)))))))))) (.k [6,0] p0)))))))) [.tmp 4,.tmp 5]
def Z4a:Zbc:=⟨[.sl 0,.agg [dI,dI,.dat tL]],[.own tI true],1,[.dat .str,dB],[(0,.sl 0)],[.own tI true],fun (x:Int×Int×List Int×List Int)=>(F71 x.1 x.2.1 x.2.2.1 x.2.2.2:Option Y47)⟩
theorem s71:ZdA pol P 71 Z4a:=mO (a:=a71) Tryz.func71 Zbf (imC s72 (imC s90 imN))
def a47:FA:=Zbe (Zaf pol) Tryz.f47 110 (.s .o (.s .o (.k [0,1,5] (.s (.s .o (.b (.l ⟨[0,1,23],[(5,.sl 0),(24,dI)],[.own tI true]⟩ (.k [0,1,5,23,24] (.s .o (.s p0 (.k [0,1,5,23,24] (.s (.b p0) (.k [0,1,5,23,24] .o))))))))) (.k [0,1,5] (.s (.s .o (.b (.l ⟨[0,32,33],[(5,.sl 0),(34,dI)],[.own tI true]⟩ (.k [0,5,32,33,34] (.s .o (.s p0 (.k [0,5,32,33,34] (.j ⟨[0,32,33,34],[(5,.sl 0)],[.own tI true]⟩ (.b (.s .o (.k [0,5,8,32,33,34] (.j ⟨[0,32,33,34],[(5,.sl 0),(8,.bx 1 0),(53,dB)],[.own tI true,.box [dI,dI] true]⟩ .o (.k [0,5,8,32,33,34,53] p0))))) (.k [0,5,32,33,34] .o))))))))) (.k [0,5] (.s (.s .o (.b (.l ⟨[0],[(5,.sl 0),(9,dB)],[.own tI true]⟩ (.k [0,5,9] (.s (.s .o p0) (.k [0,5] (.b (.s .o (.s .o (.s .o (.b (.l ⟨[0,63,64],[(5,.sl 0),(9,dB),(10,.mp 1),(65,dI)],[.own tI true,.map .str tI]⟩ (.k [0,5,9,10,63,64,65] (.s .o (.s p0 (.k [0,5,9,10,63,64,65] (.j ⟨[0,63,64,65],[(5,.sl 0),(9,dB),(10,.mp 1)],[.own tI true,.map .str tI]⟩ (.b (.s .o (.c 12 (.k [0,5,9,10,11,12,63,64,65] (.s .o (.k [0,5,9,10,11,13,14,63,64,65] (.s (.s .o p0) (.k [0,5,9,10,11,13,63,64,65] (.s .o (.k [0,5,9,10,11,13,15,16,63,64,65] (.s .o (.s .o (.s .o (.k [0,5,9,10,63,64,65,92] p0)))))))))))))) (.k [0,5,9,10,63,64,65] .o)))))))))))))))))) (.k [0,5] (.s .o (.k [5,17] (.s (.s .o (.b (.l ⟨[98],[(5,.sl 0),(17,.sl 1),(99,dI)],[.own tI true,.own tI true]⟩ (.k [5,17,98,99] (.s .o (.s p0 (.k [5,17,98,99] (.s (.b p0) (.k [5,17,98,99] .o))))))))) (.k [17] p0))))))))))))) [.tmp 4]
def Z3e:FSp:=⟨[tD,(.list tM)],[tL],fun x=>F47 x.1 x.2⟩
theorem s47:Zbk pol P 47 Z3e:=sO (a:=a47) Tryz.func47 Zbf (imC s70 (imC s71 (imC s72 imN)))
def a49:FA:=Zbe (Zaf pol) Tryz.f49 11 (.s .o p0) [.tmp 3]
def ZBM:Zbc:=⟨[dI,.bx 0 0],[.box [.bx 1 0] true,.box [.dat tD,.dat tH,.dat tC,dI,dI,dI,dI,.dat tL,.sl 2,.sl 3] true,.own tI true,.own2 tI],1,[dI],[(1,.bx 0 0)],[.box [.bx 1 0] true,.box [.dat tD,.dat tH,.dat tC,dI,dI,dI,dI,.dat tL,.sl 2,.sl 3] true,.own tI true,.own2 tI],fun (x:Int×TN×TS×TI×Int×Int×Int×Int×List Int×List Int×List (List Int))=>(F49 x.1 x.2.1 x.2.2.1 x.2.2.2.1 x.2.2.2.2.1 x.2.2.2.2.2.1 x.2.2.2.2.2.2.1 x.2.2.2.2.2.2.2.1 x.2.2.2.2.2.2.2.2.1 x.2.2.2.2.2.2.2.2.2.1 x.2.2.2.2.2.2.2.2.2.2:Option Y45)⟩
theorem s49:ZdA pol P 49 ZBM:=mO (a:=a49) Tryz.func49 Zbf imN
def ZEB:FA:=Zbe (Zaf pol) Tryz.f48 34 (.s .o (.c 2 (.s .o (.k [1,2,5] (.s .o (.k [1,2,5] (.s (.s .o (.k [1,5,18,19,20] (.b (.l ⟨[18,19],[(1,.fn 49 [] [.bx 0 0]),(5,.sl 1),(20,dI)],[.box [.bx 2 0] true,.own (.int .u8) true,.box [.dat tD,.dat tH,.dat tC,dI,dI,dI,dI,.dat tL,.sl 3,.sl 4] true,.own tI true,.own2 tI]⟩ (.k [1,5,18,19,20] (.s .o (.s p0 (.k [1,5,18,19,20] (.s (.b p0) (.k [1,5,18,19,20] .o)))))))))) (.k [5,1] p0)))))))) [.tmp 4]
def ZDq:Zbc:=⟨[.dat tn,.fn 49 [] [.bx 0 0]],[.box [.bx 1 0] true,.box [.dat tD,.dat tH,.dat tC,dI,dI,dI,dI,.dat tL,.sl 2,.sl 3] true,.own tI true,.own2 tI],1,[.dat .str],[(1,.fn 49 [] [.bx 0 0])],[.box [.bx 1 0] true,.box [.dat tD,.dat tH,.dat tC,dI,dI,dI,dI,.dat tL,.sl 2,.sl 3] true,.own tI true,.own2 tI],fun (x:Y35×TN×TS×TI×Int×Int×Int×Int×List Int×List Int×List (List Int))=>(ZCs x.1 x.2.1 x.2.2.1 x.2.2.2.1 x.2.2.2.2.1 x.2.2.2.2.2.1 x.2.2.2.2.2.2.1 x.2.2.2.2.2.2.2.1 x.2.2.2.2.2.2.2.2.1 x.2.2.2.2.2.2.2.2.2.1 x.2.2.2.2.2.2.2.2.2.2:Option Y24)⟩
theorem ZEC:ZdA pol P 48 ZDq:=mO (a:=ZEB) Tryz.func48 Zbf (imC s49 (imC s73 imN))
def q24a:List CS:=[.box [.bx 2 0] true,.map .str .bool,.box [.dat tD,.dat tH,.dat tC,dI,dI,dI,dI,.dat tL,.sl 3,.sl 4] true,.own tI true,.own2 tI]
def a24:FA:=Zbe (Zaf pol) Tryz.f24 99 (.s .o (.c 1 (.s (.s .o p1) (.k [1] (.s .o (.s (.s .o (.k [1,4,17,18,19] (.b (.l ⟨[1,17,18],[(4,.sl 0),(19,dI)],[.own tM true]⟩ (.k [1,4,17,18,19] (.s .o (.s p0 (.k [1,4,17,18,19] (.s (.b (.s .o (.c 6 (.k [1,4,6,17,18,19] .o)))) (.k [1,4,17,18,19] .o)))))))))) (.k [1,4] (.s .o (.k [1,7] (.s .o (.s (.s .o (.k [7,8,45,46,47] (.b (.l ⟨[45,46],[(7,.bx 0 0),(8,.mp 1),(47,dI)],q24a⟩ (.k [7,8,45,46,47] (.s .o (.s p0 (.k [7,8,45,46,47] (.j ⟨[45,46,47],[(7,.bx 0 0),(8,.mp 1)],q24a⟩ (.b (.s .o (.c 10 (.k [7,8,9,10,45,46,47] (.s .o (.k [7,8,9,10,11,45,46,47] (.j ⟨[9,10,11,45,46,47],[(7,.bx 0 0),(8,.mp 1)],q24a⟩ (.s .o p0) (.k [7,8,9,10,11,45,46,47] (.s .o (.k [7,8,9,11,12,45,46,47] (.s .o (.k [7,8,9,11,12,45,46,47,78] p1)))))))))))) (.k [7,8,45,46,47] .o)))))))))) (.k [7] p0)))))))))))) [.tmp 2,.tmp 3]
def Z2y:FSp:=⟨[tA],[tB,.bool],fun x=>F24 x⟩
theorem s24:Zbk pol P 24 Z2y:=sO (a:=a24) Tryz.func24 (ZaM s46 (ZaM s47 Zbf)) (imC ZEC imN)
def a56:FA:=Zbe (Zaf pol) Tryz.f56 58 (.s .o (.s (.s .o (.k [0,1,14] p1)) (.k [0,1] (.s (.s .o (.b (.l ⟨[0,15,16],[(17,dI)],[]⟩ (.k [0,15,16,17] (.s .o (.s p0 (.k [0,15,16,17] (.j ⟨[0,15,16,17],[],[]⟩ (.b (.s .o (.k [0,5,6,15,16,17] (.s (.s .o p0) (.k [0,5,6,15,16,17] (.j ⟨[0,15,16,17],[(56,dB)],[]⟩ .o (.k [0,15,16,17,56] p1))))))) (.k [0,15,16,17] .o))))))))) (.k [] p0))))) [.tmp 4]
def Z36:FSp:=⟨[tB,tL],[.bool],fun x=>F56 x.1 x.2⟩
theorem s56:Zbk pol P 56 Z36:=sO (a:=a56) Tryz.func56 Zbf imN
def q74a:List CS:=[.box [.sl 6] true,.box [dB] true,.box [.dat tL] true,.box [.dat tB] true,.box [.fn 74 [] [.bx 0 0,.bx 1 0,.bx 2 0,.bx 3 0,.bx 4 0,.bx 5 0]] true,.box [.sl 7] true,.own tI true,.own tI true]
def a74:FA:=Zbe (Zaf pol) Tryz.f74 68 (.s (.j ⟨[0],[(1,.bx 0 0),(2,.bx 1 0),(3,.bx 2 0),(4,.bx 3 0),(5,.bx 4 0),(6,.bx 5 0),(18,dB)],q74a⟩ .o (.k [0,1,2,3,4,5,6,18] p0)) (.k [0,1,2,3,4,5,6] (.s (.j ⟨[0],[(1,.bx 0 0),(2,.bx 1 0),(3,.bx 2 0),(4,.bx 3 0),(5,.bx 4 0),(6,.bx 5 0),(30,dB)],q74a⟩ .o (.k [0,1,2,3,4,5,6,30] p1)) (.k [0,1,3,4,5,6,2] (.s .o (.k [0,1,3,4,5,6,2] (.s (.s .o (.k [0,1,4,5,6,45,46,47,2,3] (.b (.l ⟨[0,45,46],[(1,.bx 0 0),(2,.bx 1 0),(3,.bx 2 0),(4,.bx 3 0),(5,.bx 4 0),(6,.bx 5 0),(47,dI)],q74a⟩ (.k [0,1,4,5,6,45,46,47,2,3] (.s .o (.s p0 (.k [0,1,4,5,6,45,46,47,2,3] (.s (.b p0) (.k [0,1,4,5,6,45,46,47,2,3] .o)))))))))) (.k [0,1,6,2,3,4,5] (.s .o (.k [0,6,1,2,3,4,5] .o)))))))))) []
theorem ZFa:ZqA P pol (Zaf pol) 74 7 a74:=⟨⟨_,_,Tryz.func74,rfl,rfl,rfl,by kernel_rfl⟩,by decide⟩
theorem ZFb:a74.c.ok=true:=by kernel_rfl
def ZDr (n:Nat):Zbc:=⟨[dI,.bx 0 0,.bx 1 0,.bx 2 0,.bx 3 0,.bx 4 0,.bx 5 0],[.box [.sl 6] true,.box [dB] true,.box [.dat tL] true,.box [.dat tB] true,.box [.fn 74 [] [.bx 0 0,.bx 1 0,.bx 2 0,.bx 3 0,.bx 4 0,.bx 5 0]] true,.box [.sl 7] true,.own tI true,.own tI true],6,[],[(1,.bx 0 0),(2,.bx 1 0),(3,.bx 2 0),(4,.bx 3 0),(5,.bx 4 0),(6,.bx 5 0)],[.box [.sl 6] true,.box [dB] true,.box [.dat tL] true,.box [.dat tB] true,.box [.fn 74 [] [.bx 0 0,.bx 1 0,.bx 2 0,.bx 3 0,.bx 4 0,.bx 5 0]] true,.box [.sl 7] true,.own tI true,.own tI true],fun (x:Int×Bool×List Int×(Option Y0)×List Int×List Int)=>(N74 n x.1 x.2.1 x.2.2.1 x.2.2.2.1 x.2.2.2.2.1 x.2.2.2.2.2:Option Y6)⟩
def Z34:Zbc:=ZDr 1000
theorem ZEU:∀ n,ZdA pol P 74 (ZDr n)
 | 0=>ino (by kernel_rfl) (by kernel_rfl) (by kernel_rfl) (fun _=>rfl)
 | n+1=>mOf (a:=a74) (sp:=ZDr (n+1)) ZFa rfl ZFb (by kernel_rfl) (by kernel_rfl) (by kernel_rfl) rfl rfl (by kernel_rfl) Zbf (imC (ZEU n) imN) (fun x=>by kernel_rfl)
theorem s74:ZdA pol P 74 Z34:=ZEU 1000
def a50:FA:=Zbe (Zaf pol) Tryz.f50 46 (.s .o (.k [2,3] (.s (.s .o (.k [2,3,13] p1)) (.k [2,3] (.s .o (.k [2,3,6] (.s .o (.s .o (.s .o (.s .o (.s .o (.k [2,7,8,9] (.s .o (.k [7,8] p0)))))))))))))) [.tmp 4,.tmp 5]
def ZBK:FSp:=⟨[tB,tL],[tL,.bool],fun x=>F50 x.1 x.2⟩
theorem s50:Zbk pol P 50 ZBK:=sO (a:=a50) Tryz.func50 (ZaM s56 Zbf) (imC s74 imN)
def q75a:List CS:=[.own (.int .u32) true]
def a75:FA:=Zbe (Zaf pol) Tryz.f75 72 (.s .o (.s .o (.k [0,3] (.s (.s .o (.b (.l ⟨[13,14],[(3,.sl 0),(15,dI)],q75a⟩ (.k [3,13,14,15] (.s .o (.s p0 (.k [3,13,14,15] (.s (.b (.s .o (.c 5 (.k [3,4,5,13,14,15] (.j ⟨[4,5,13,14,15],[(3,.sl 0)],q75a⟩ (.s .o p0) (.k [3,4,5,13,14,15] (.s .o (.k [3,4,5,6,13,14,15] (.s .o (.k [3,4,5,6,13,14,15,37,38,39] (.b (.l ⟨[4,5,6,13,14,15,37,38],[(3,.sl 0),(39,dI)],q75a⟩ (.k [3,4,5,6,13,14,15,37,38,39] (.s .o (.s p0 (.k [3,4,5,6,13,14,15,37,38,39] (.s (.b (.s .o (.k [3,4,5,6,7,8,13,14,15,37,38,39] (.s .o (.k [3,4,5,6,7,9,13,14,15,37,38,39] (.j ⟨[4,5,6,13,14,15,37,38,39],[(3,.sl 0),(9,.dat (.int .u32))],q75a⟩ (.j ⟨[4,5,6,9,13,14,15,37,38,39],[(3,.sl 0),(55,dB)],q75a⟩ .o (.k [3,4,5,6,9,13,14,15,37,38,39,55] p0)) (.k [3,4,5,6,9,13,14,15,37,38,39] .o))))))) (.k [3,4,5,6,13,14,15,37,38,39] .o)))))))))))))))))) (.k [3,13,14,15] .o))))))))) (.k [3] p0))))) [.tmp 2]
def Z3E:FSp:=⟨[tD],[(.list (.int .u32))],fun x=>F75 x⟩
theorem s75:Zbk pol P 75 Z3E:=sO (a:=a75) Tryz.func75 Zbf imN
def a51:FA:=Zbe (Zaf pol) Tryz.f51 100 (.s .o (.c 1 (.s .o (.k [1,3,4] (.s (.j ⟨[1],[(33,dB)],[]⟩ .o (.k [1,33] p1)) (.k [1] (.s .o (.s (.s .o (.k [1,5,35,36,37] (.b (.l ⟨[1,35,36],[(5,.ar 0),(37,dI)],[.arr tI]⟩ (.k [1,5,35,36,37] (.s .o (.s p0 (.k [1,5,35,36,37] (.j ⟨[1,35,36,37],[(5,.ar 0)],[.arr tI]⟩ (.b (.s .o (.c 7 (.k [1,5,7,35,36,37] (.s .o (.s (.s (.s .o (.k [1,5,7,35,36,37,48] p1)) (.k [1,5,7,35,36,37] .o)) .o)))))) (.k [1,5,35,36,37] .o)))))))))) (.k [1,5] (.s (.s .o (.k [1,5,59,60,61] (.b (.l ⟨[1,59,60],[(5,.ar 0),(61,dI)],[.arr tI]⟩ (.k [1,5,59,60,61] (.s .o (.s p0 (.k [1,5,59,60,61] (.j ⟨[1,59,60,61],[(5,.ar 0)],[.arr tI]⟩ (.b (.s .o (.c 9 (.k [1,5,9,59,60,61] (.s .o (.s (.s .o (.k [1,5,9,10,59,60,61] (.j ⟨[1,59,60,61],[(5,.ar 0),(81,dB)],[.arr tI]⟩ .o (.k [1,5,59,60,61,81] p1)))) .o)))))) (.k [1,5,59,60,61] .o)))))))))) (.k [1] (.s .o (.k [1,11] (.j ⟨[],[(2,dB)],[]⟩ .o .o)))))))))))))) [.tmp 2]
def ZBI:FSp:=⟨[tF],[.bool],fun x=>F51 x⟩
theorem s51:Zbk pol P 51 ZBI:=sO (a:=a51) Tryz.func51 (ZaM s68 (ZaM s69 (ZaM s75 Zbf))) imN
def q25a:List CS:=[.box [.dat .str,dI,.nils,dI,dI] true,.box [.dat .str,dI,.sl 3,dI,dI] true,.own tI true,.own tn true]
def a25:FA:=Zbe (Zaf pol) Tryz.f25 128 (.s .o (.s .o (.k [0,1,4,6,7] (.s (.s .o p1) (.k [0,1,4,6] (.s .o (.s .o (.k [0,1,4,6,8,9] (.s (.s .o (.b (.l ⟨[0,1,28,29],[(4,.bx 0 0),(8,.bx 1 0),(9,.sl 2),(30,dI)],q25a⟩ (.k [0,1,4,8,9,28,29,30] (.s .o (.s p0 (.k [0,1,4,8,9,28,29,30] (.j ⟨[0,1,28,29,30],[(4,.bx 0 0),(8,.bx 1 0),(9,.sl 2)],q25a⟩ (.b (.s .o (.k [0,1,4,8,9,10,11,28,29,30] (.s .o (.c 12 (.k [0,1,4,8,9,10,11,12,28,29,30] (.s .o (.s (.s .o (.k [0,1,4,8,9,10,11,12,13,28,29,30,47,48,49] (.b (.l ⟨[0,1,10,11,12,28,29,30,47,48],[(4,.bx 0 0),(8,.bx 1 0),(9,.sl 2),(13,.sl 3),(49,dI)],[.box [.dat .str,dI,.nils,dI,dI] true,.box [.dat .str,dI,.sl 4,dI,dI] true,.own tI true,.own tI true,.own tn true]⟩ (.k [0,1,4,8,9,10,11,12,13,28,29,30,47,48,49] (.s .o (.s p0 (.k [0,1,4,8,9,10,11,12,13,28,29,30,47,48,49] (.s (.b p0) (.k [0,1,4,8,9,10,11,12,13,28,29,30,47,48,49] .o)))))))))) (.k [0,1,4,8,9,10,11,12,13,28,29,30] (.s .o (.k [0,1,4,8,9,12,13,28,29,30] (.s .o (.k [0,1,4,8,9,12,28,29,30] (.s .o p0)))))))))))))) (.k [0,1,4,8,9,28,29,30] .o))))))))) (.k [0,4,8,9] (.s .o (.k [4,8] (.s (.s .o p1) (.k [4,8] p0)))))))))))))) [.cell 4 60,.tmp 5]
def Z6c:FSp:=⟨[tB,tL],[tF,.bool],fun x=>F25 x.1 x.2⟩
theorem s25:Zbk pol P 25 Z6c:=sO (a:=a25) Tryz.func25 (ZaM s50 (ZaM s51 Zbf)) imN
def a52:FA:=Zbe (Zaf pol) Tryz.f52 40 (.s .o (.c 1 (.s (.s .o (.b (.j ⟨[4],[(5,dB)],[]⟩ (.s .o (.s .o (.s .o p0))) (.k [4,5] (.s p0 (.j ⟨[4],[(9,dB)],[]⟩ (.s .o (.s .o (.s .o (.s .o (.s .o (.s .o (.s .o (.s .o (.s .o (.s .o (.s .o (.s .o (.s .o (.s .o (.s .o (.s .o (.s .o (.s .o (.s .o (.s .o (.s .o (.s .o (.s .o (.s .o (.s .o (.s .o (.s .o (.s .o (.s .o p0))))))))))))))))))))))))))))) (.k [4,9] (.s p0 (.j ⟨[4],[(26,dB)],[]⟩ (.s .o p0) (.k [4,26] (.s p0 (.j ⟨[4],[(29,dB)],[]⟩ (.s .o (.s .o (.s .o p0))) (.k [4,29] (.s p0 (.s .o (.s p0 (.s .o (.s p0 (.j ⟨[],[(37,dB)],[]⟩ (.s .o p0) (.k [37] p1)))))))))))))))))))) (.k [] p0)))) [.tmp 2]
def ZBS:FSp:=⟨[tn],[tI],fun x=>F52 x⟩
theorem s52:Zbk pol P 52 ZBS:=sO (a:=a52) Tryz.func52 Zbf imN
def a26:FA:=Zbe (Zaf pol) Tryz.f26 19 (.s .o (.c 1 (.s .o (.s (.s .o (.k [3,7,8,9] (.b (.l ⟨[7,8],[(3,dI),(9,dI)],[]⟩ (.k [3,7,8,9] (.s .o (.s p0 (.k [3,7,8,9] (.s (.b (.s .o (.c 5 (.k [3,5,7,8,9] .o)))) (.k [3,7,8,9] .o)))))))))) (.k [3] p0))))) [.tmp 2]
def Z6e:FSp:=⟨[tF],[tI],fun x=>F26 x⟩
theorem s26:Zbk pol P 26 Z6e:=sO (a:=a26) Tryz.func26 (ZaM s52 Zbf) imN
def a55:FA:=Zbe (Zaf pol) Tryz.f55 23 (.s .o (.s (.j ⟨[0,1],[(15,dB)],[]⟩ .o (.k [0,1,15] p1)) (.k [0,1] p0))) [.tmp 4]
def Z3S:FSp:=⟨[tB,tI],[tL],fun x=>F55 x.1 x.2⟩
theorem s55:Zbk pol P 55 Z3S:=sO (a:=a55) Tryz.func55 Zbf imN
def a77:FA:=Zbe (Zaf pol) Tryz.f77 26 (.s .o (.s (.s .o (.k [0,1,2,12] p1)) (.k [0,2] (.s (.s .o (.k [7] (.s .o p1))) (.k [] p0))))) [.tmp 6]
def Z3U:FSp:=⟨[tB,tL,tI],[tI],fun x=>F77 x.1 x.2.1 x.2.2⟩
theorem s77:Zbk pol P 77 Z3U:=sO (a:=a77) Tryz.func77 (ZaM s55 Zbf) imN
def a78:FA:=Zbe (Zaf pol) Tryz.f78 98 (.s .o (.s .o (.k [0,5] (.s .o (.s (.s .o (.b (.l ⟨[0,5,21,22],[(6,.mp 0),(23,dI)],[.map tI tI]⟩ (.k [0,5,6,21,22,23] (.s .o (.s p0 (.k [0,5,6,21,22,23] (.s (.b (.s .o (.s .o (.s .o (.k [0,5,6,9,21,22,23,36,37,38] (.b (.l ⟨[0,5,21,22,23,36,37],[(6,.mp 0),(9,.mp 1),(38,dI)],[.map tI tI,.map tI .bool]⟩ (.k [0,5,6,9,21,22,23,36,37,38] (.s .o (.s p0 (.k [0,5,6,9,21,22,23,36,37,38] (.j ⟨[0,5,21,22,23,36,37,38],[(6,.mp 0),(9,.mp 1)],[.map tI tI,.map tI .bool]⟩ (.b (.s .o (.s .o (.k [0,5,6,9,12,21,22,23,36,37,38] (.s .o (.k [0,5,6,9,12,21,22,23,36,37,38,52] p1)))))) (.k [0,5,6,9,21,22,23,36,37,38] .o))))))))))))) (.k [0,5,6,21,22,23] .o))))))))) (.k [0,5,6] (.s .o (.s (.s .o (.k [0,5,6,13,71,72,73] (.b (.l ⟨[0,5,71,72],[(6,.mp 0),(13,.sl 1),(73,dI)],[.map tI tI,.own tI true]⟩ (.k [0,5,6,13,71,72,73] (.s .o (.s p0 (.k [0,5,6,13,71,72,73] (.j ⟨[0,5,71,72,73],[(6,.mp 0),(13,.sl 1)],[.map tI tI,.own tI true]⟩ (.b (.s .o (.s .o (.k [0,5,6,13,16,71,72,73] (.s .o (.k [0,5,6,13,16,71,72,73,89] (.s (.s .o (.k [0,5,6,13,16,71,72,73] .o)) .o))))))) (.k [0,5,6,13,71,72,73] .o)))))))))) (.k [13] p0))))))))) [.tmp 4]
def Z3V:FSp:=⟨[tB,tI],[tL],fun x=>F78 x.1 x.2⟩
theorem s78:Zbk pol P 78 Z3V:=sO (a:=a78) Tryz.func78 (ZaM s55 Zbf) imN
def q92a:List CS:=[.box [.dat tB] true,.box [.dat tL] true,.box [.dat tJ] true,.box [dB] true,.box [.sl 6] true,.box [.fn 92 [] [.bx 0 0,.bx 1 0,.bx 2 0,.bx 3 0,.bx 4 0,.bx 5 0]] true,.own tI true]
def a92:FA:=Zbe (Zaf pol) Tryz.f92 69 (.s .o (.k [0,1,3,4,5,6,8,2] (.s (.j ⟨[0,8],[(1,.bx 0 0),(2,.bx 1 0),(3,.bx 2 0),(4,.bx 3 0),(5,.bx 4 0),(6,.bx 5 0),(33,dB)],q92a⟩ .o (.k [0,1,4,5,6,8,33,2,3] p0)) (.k [0,1,4,5,6,8,2,3] (.s (.s .o (.k [0,1,4,5,6,8,38,2,3] p1)) (.k [0,1,5,6,8,2,3,4] (.s .o (.k [0,1,5,6,8,2,3,4] (.s (.s .o (.k [0,1,5,6,50,51,52,2,3,4] (.b (.l ⟨[0,50,51],[(1,.bx 0 0),(2,.bx 1 0),(3,.bx 2 0),(4,.bx 3 0),(5,.bx 4 0),(6,.bx 5 0),(52,dI)],q92a⟩ (.k [0,1,5,6,50,51,52,2,3,4] (.s .o (.s p0 (.k [0,1,5,6,50,51,52,2,3,4] (.s (.b p0) (.k [0,1,5,6,50,51,52,2,3,4] .o)))))))))) (.k [0,5,1,2,3,4,6] .o)))))))))) []
theorem ZFc:ZqA P pol (Zaf pol) 92 7 a92:=⟨⟨_,_,Tryz.func92,rfl,rfl,rfl,by kernel_rfl⟩,by decide⟩
theorem ZFd:a92.c.ok=true:=by kernel_rfl
def ZDs (n:Nat):Zbc:=⟨[dI,.bx 0 0,.bx 1 0,.bx 2 0,.bx 3 0,.bx 4 0,.bx 5 0],[.box [.dat tB] true,.box [.dat tL] true,.box [.dat tJ] true,.box [dB] true,.box [.sl 6] true,.box [.fn 92 [] [.bx 0 0,.bx 1 0,.bx 2 0,.bx 3 0,.bx 4 0,.bx 5 0]] true,.own tI true],6,[],[(1,.bx 0 0),(2,.bx 1 0),(3,.bx 2 0),(4,.bx 3 0),(5,.bx 4 0),(6,.bx 5 0)],[.box [.dat tB] true,.box [.dat tL] true,.box [.dat tJ] true,.box [dB] true,.box [.sl 6] true,.box [.fn 92 [] [.bx 0 0,.bx 1 0,.bx 2 0,.bx 3 0,.bx 4 0,.bx 5 0]] true,.own tI true],fun (x:Int×(Option Y0)×List Int×List Bool×Bool×List Int)=>(N92 n x.1 x.2.1 x.2.2.1 x.2.2.2.1 x.2.2.2.2.1 x.2.2.2.2.2:Option Y9)⟩
def Z4y:Zbc:=ZDs 1000
theorem ZEV:∀ n,ZdA pol P 92 (ZDs n)
 | 0=>ino (by kernel_rfl) (by kernel_rfl) (by kernel_rfl) (fun _=>rfl)
 | n+1=>mOf (a:=a92) (sp:=ZDs (n+1)) ZFc rfl ZFd (by kernel_rfl) (by kernel_rfl) (by kernel_rfl) rfl rfl (by kernel_rfl) (ZaM s77 Zbf) (imC (ZEV n) imN) (fun x=>by kernel_rfl)
theorem s92:ZdA pol P 92 Z4y:=ZEV 1000
def a79:FA:=Zbe (Zaf pol) Tryz.f79 30 (.s .o (.k [3,4,5] (.s .o (.k [3,4,5,7] (.s .o (.s .o (.s .o (.s (.s .o (.k [8,9,19,20,21] (.b (.l ⟨[19,20],[(8,.bx 0 0),(9,.bx 1 0),(21,dI)],[.box [dB] true,.box [.fn 92 [] [.bx 2 0,.bx 3 0,.bx 4 0,.bx 0 0,.bx 5 0,.bx 1 0]] true,.box [.dat tB] true,.box [.dat tL] true,.box [.dat tJ] true,.box [.sl 6] true,.own tI true]⟩ (.k [8,9,19,20,21] (.s .o (.s p0 (.k [8,9,19,20,21] (.s (.b p0) (.k [8,9,19,20,21] .o)))))))))) (.k [8] p0))))))))) [.tmp 6]
def Z3W:FSp:=⟨[tB,tL,tJ],[.bool],fun x=>F79 x.1 x.2.1 x.2.2⟩
theorem s79:Zbk pol P 79 Z3W:=sO (a:=a79) Tryz.func79 Zbf (imC s92 imN)
def a76:FA:=Zbe (Zaf pol) Tryz.f76 16 (.s .o (.k [0,1,2,8] (.s (.s .o (.k [0,2,1] .o)) .o))) []
def Z29:Zbc:=⟨[dI,.bx 0 0,.bx 1 0],[.box [.sl 2] true,.box [.sl 3] true,.own .bool true,.own tI true],2,[],[(1,.bx 0 0),(2,.bx 1 0)],[.box [.sl 2] true,.box [.sl 3] true,.own .bool true,.own tI true],fun (x:Int×List Bool×List Int)=>(F76 x.1 x.2.1 x.2.2:Option Y68)⟩
theorem s76:ZdA pol P 76 Z29:=mO (a:=a76) Tryz.func76 Zbf imN
def q53a:List CS:=[.box [.nils,.nils,dI,dB] true,.box [.sl 3] true,.box [.sl 4] true,.own .bool true,.own tI true]
def q53b:List CS:=[.box [.nils,.nils,dI,dB] true,.box [.sl 3] true,.box [.sl 4,.sl 5,dI,dB] true,.own .bool true,.own tI true,.own tI true]
def a53:FA:=Zbe (Zaf pol) Tryz.f53 192 (.s .o (.s .o (.k [0,1,4,5] (.s .o (.s .o (.s .o (.k [0,1,4,5,6,7] (.s .o (.k [0,1,4,5,6,7] (.s (.b (.l ⟨[0,1],[(4,.bx 0 0),(5,.bx 1 0),(6,.bx 2 0),(7,.fn 76 [] [.bx 1 0,.bx 2 0])],q53a⟩ (.k [0,1,4,5,6,7] (.s (.s .o p0) (.k [0,1,4,5,6,7] (.b (.s .o (.k [0,1,4,5,6,7,8] (.s .o (.k [0,1,4,5,6,7,8] (.s (.s .o (.k [0,1,4,5,6,7,8,9] (.s .o (.s (.s (.s .o (.k [0,1,4,5,6,7,80,81,82] (.b (.l ⟨[0,1,80,81],[(4,.bx 0 0),(5,.bx 1 0),(6,.bx 2 0),(7,.fn 76 [] [.bx 1 0,.bx 2 0]),(82,dI)],q53a⟩ (.k [0,1,4,5,6,7,80,81,82] (.s .o (.s p0 (.k [0,1,4,5,6,7,80,81,82] (.s (.b p0) (.k [0,1,4,5,6,7,80,81,82] .o)))))))))) .o) .o)))) (.k [0,1,4,5,6,7,8] (.s .o (.k [0,1,4,5,6,7,98,99,100] (.b (.l ⟨[0,1,98,99],[(4,.bx 0 0),(5,.bx 1 0),(6,.bx 2 0),(7,.fn 76 [] [.bx 1 0,.bx 2 0]),(100,dI)],q53a⟩ (.k [0,1,4,5,6,7,98,99,100] (.s .o (.s p0 (.k [0,1,4,5,6,7,98,99,100] (.s (.b p0) (.k [0,1,4,5,6,7,98,99,100] .o)))))))))))))))))))))) (.k [0,1,4,5] (.s .o (.s (.s .o (.k [0,1,4,5,14,111,112,113] (.b (.l ⟨[0,1,111,112],[(4,.bx 0 0),(5,.bx 1 0),(14,.bx 2 0),(113,dI)],q53b⟩ (.k [0,1,4,5,14,111,112,113] (.s .o (.s p0 (.k [0,1,4,5,14,111,112,113] (.j ⟨[0,1,111,112,113],[(4,.bx 0 0),(5,.bx 1 0),(14,.bx 2 0)],q53b⟩ (.b (.s .o (.s (.s .o (.k [0,1,4,5,14,16,111,112,113,121] p0)) (.k [0,1,4,5,14,16,111,112,113] (.s .o (.k [0,1,4,5,14,16,111,112,113] (.s (.s .o (.k [0,1,4,5,14,16,17,111,112,113] (.s .o p1))) (.k [0,1,4,5,14,16,111,112,113] (.s .o (.k [0,1,4,5,14,16,111,112,113] (.s .o (.s (.s .o (.k [0,1,4,5,14,18,111,112,113,155,156,157] (.b (.l ⟨[0,1,111,112,113,155,156],[(4,.bx 0 0),(5,.bx 1 0),(14,.bx 2 0),(18,dI),(157,dI)],q53b⟩ (.k [0,1,4,5,14,18,111,112,113,155,156,157] (.s .o (.s p0 (.k [0,1,4,5,14,18,111,112,113,155,156,157] (.j ⟨[0,1,111,112,113,155,156,157],[(4,.bx 0 0),(5,.bx 1 0),(14,.bx 2 0),(18,dI)],q53b⟩ (.b (.s .o (.s .o (.k [0,1,4,5,14,18,21,111,112,113,155,156,157] (.j ⟨[0,1,18,21,111,112,113,155,156,157],[(4,.bx 0 0),(5,.bx 1 0),(14,.bx 2 0),(176,dB)],q53b⟩ .o (.k [0,1,4,5,14,18,21,111,112,113,155,156,157,176] p0)))))) (.k [0,1,4,5,14,18,111,112,113,155,156,157] .o)))))))))) (.k [0,1,4,5,14,18,111,112,113] .o))))))))))))) (.k [0,1,4,5,14,111,112,113] .o)))))))))) (.k [0,1,4,5,14] (.s .o (.k [4,14] p0)))))))))))))))) [.cell 4 107]
def ZBP:FSp:=⟨[tB,tL],[tN],fun x=>F53 x.1 x.2⟩
theorem s53:Zbk pol P 53 ZBP:=sO (a:=a53) Tryz.func53 (ZaM s52 (ZaM s55 (ZaM s77 (ZaM s78 (ZaM s79 Zbf))))) (imC s76 imN)
def a80:FA:=Zbe (Zaf pol) Tryz.f80 33 (.s .o (.c 5 (.s .o (.k [0,1,5,7] (.s (.s .o (.k [0,1,7,15,16,17] (.b (.l ⟨[0,1,15,16],[(7,.sl 0),(17,dI)],[.own tI true]⟩ (.k [0,1,7,15,16,17] (.s .o (.s p0 (.k [0,1,7,15,16,17] (.j ⟨[0,1,15,16,17],[(7,.sl 0)],[.own tI true]⟩ (.b (.s .o (.s .o (.k [0,1,7,9,10,15,16,17] (.s .o p0))))) (.k [0,1,7,15,16,17] .o)))))))))) (.k [7] p0)))))) [.tmp 6]
def Z4c:FSp:=⟨[tB,tL,tN],[tL],fun x=>F80 x.1 x.2.1 x.2.2⟩
theorem s80:Zbk pol P 80 Z4c:=sO (a:=a80) Tryz.func80 (ZaM s77 Zbf) imN
def a54:FA:=Zbe (Zaf pol) Tryz.f54 29 (.s .o (.s .o (.c 5 (.k [0,1,5] (.s (.s .o p1) (.k [0,1,5] (.s (.s .o (.k [0,1,5,17] p1)) (.k [0,1,5] (.s .o (.c 6 (.k [7] p0))))))))))) [.tmp 4]
def Z2K:FSp:=⟨[tB,tL],[.bool],fun x=>F54 x.1 x.2⟩
theorem s54:Zbk pol P 54 Z2K:=sO (a:=a54) Tryz.func54 (ZaM s25 (ZaM s53 (ZaM s80 Zbf))) imN
def a27:FA:=Zbe (Zaf pol) Tryz.f27 101 (.s .o (.c 7 (.s (.s .o (.b (.s .o (.s (.j ⟨[],[(8,dB)],[]⟩ .o .o) (.s .o (.s (.j ⟨[],[(8,dB)],[]⟩ .o .o) (.s .o (.s (.s .o (.k [0,1,2,7,9] (.s (.j ⟨[0,1,2,7,9],[(74,dB)],[]⟩ .o (.k [0,1,2,7,9,74] p1)) (.k [0,1,2,7,9] (.s (.s .o (.b (.l ⟨[0,1,2,7,75,76],[(77,dI)],[]⟩ (.k [0,1,2,7,75,76,77] (.s .o (.s p0 (.k [0,1,2,7,75,76,77] (.s (.b (.s .o (.k [0,1,2,7,10,11,75,76,77] (.s .o (.k [0,1,2,7,10,11,12,75,76,77] (.s .o (.k [0,1,2,7,10,12,75,76,77] (.s .o (.k [0,1,2,7,75,76,77,99] p1))))))))) (.k [0,1,2,7,75,76,77] .o))))))))) (.k [] p0)))))) .o)))))))) (.k [] p0)))) [.tmp 8]
theorem ZFe:ZqA P pol (Zaf pol) 27 4 a27:=⟨⟨_,_,Tryz.func27,rfl,rfl,rfl,by kernel_rfl⟩,by decide⟩
theorem ZFf:a27.c.ok=true:=by kernel_rfl
def ZDt (n:Nat):FSp:=⟨[tB,tL,tI,tG],[.bool],fun x=>N27 n x.1 x.2.1 x.2.2.1 x.2.2.2⟩
def Z6g:FSp:=ZDt 1000
theorem ZEW:∀ n,Zbk pol P 27 (ZDt n)
 | 0=>fun x r h=>by cases h
 | n+1=>sOf (a:=a27) (sp:=ZDt (n+1)) ZFe (fun _=>rfl) ZFf rfl rfl (ZaM (ZEW n) (ZaM s53 (ZaM s54 (ZaM s55 Zbf)))) imN (fun x=>by kernel_rfl)
theorem s27:Zbk pol P 27 Z6g:=ZEW 1000
def a28:FA:=Zbe (Zaf pol) Tryz.f28 17 (.s .o (.s .o (.s (.s .o (.b (.l ⟨[8],[(3,.sl 0),(9,dI)],[.own tI true]⟩ (.k [3,8,9] (.s .o (.s p0 (.k [3,8,9] (.s (.b p0) (.k [3,8,9] .o))))))))) (.k [3] p0)))) [.tmp 2]
def Z6k:FSp:=⟨[tI],[tL],fun x=>F28 x⟩
theorem s28:Zbk pol P 28 Z6k:=sO (a:=a28) Tryz.func28 Zbf imN
def a9:FA:=Zbe (Zaf pol) Tryz.f9 42 (.s .o (.c 7 (.c 4 (.s .o (.k [1,2,4,7,9,10] (.s (.s .o p1) (.k [1,2,4,7,9] (.s .o (.c 11 (.k [2,4,7,9,10,11] (.j ⟨[],[(8,dB)],[]⟩ .o .o))))))))))) [.tmp 8]
def sp9:FSp:=⟨[tA,tL,tI,tG],[.bool],fun x=>F9 x.1 x.2.1 x.2.2.1 x.2.2.2⟩
theorem s9:Zbk pol P 9 sp9:=sO (a:=a9) Tryz.func9 (ZaM s24 (ZaM s25 (ZaM s26 (ZaM s27 (ZaM s28 Zbf))))) imN
def a10:FA:=Zbe (Zaf pol) Tryz.f10 74 (.s .o (.s (.j ⟨[1,2],[(3,.bx 0 0),(6,.bx 1 0),(21,dB)],[.box [dI,dI,.dat (.list .tree)] true,.box [dI,dI,.nils] true]⟩ .o (.k [1,2,3,6,21] (.s (.s .o (.k [1,2,3,6,7] (.s .o (.k [1,2,3,6,7] (.s .o (.k [3,6] p0)))))) .o))) (.k [1,3,6] (.j ⟨[],[(3,.bx 0 0),(6,.bx 1 0)],[.box [dI,dI,.sl 2] true,.box [dI,dI,.nils] true,.own .tree false]⟩ (.s .o (.b (.s .o (.s .o (.s .o (.s .o (.s .o (.s .o (.s .o p0))))))))) (.k [3,6] p0))))) [.cell 6 35]
theorem ZFg:ZqA P pol (Zaf pol) 10 3 a10:=⟨⟨_,_,Tryz.func10,rfl,rfl,rfl,by kernel_rfl⟩,by decide⟩
theorem ZFh:a10.c.ok=true:=by kernel_rfl
def ZDu (n:Nat):FSp:=⟨[tG,tI,tI],[tG],fun x=>N10 n x.1 x.2.1 x.2.2⟩
def ZBY:FSp:=ZDu 1000
theorem ZEX:∀ n,Zbk pol P 10 (ZDu n)
 | 0=>fun x r h=>by cases h
 | n+1=>sOf (a:=a10) (sp:=ZDu (n+1)) ZFg (fun _=>rfl) ZFh rfl rfl (ZaM (ZEX n) (ZaM s17 Zbf)) imN (fun x=>by kernel_rfl)
theorem s10:Zbk pol P 10 ZBY:=ZEX 1000
def a3:FA:=Zbe (Zaf pol) Tryz.f3 123 (.s .o (.s .o (.c 15 (.k [2,3,4,5,6,15] (.s .o (.k [3,4,5,6,15,16] (.s .o (.k [3,4,5,6,15,16,17,18] (.s .o (.c 21 (.k [3,4,5,6,15,16,17,18,19,20,21,22] (.s .o (.c 23 (.k [4,5,6,15,16,17,18,19,20,21,22,23] (.j ⟨[4,15,17,19,20,21,22],[(25,dB)],[]⟩ .o (.k [4,15,17,19,20,21,22,25] (.s (.j ⟨[4,15,17,19,20,21,22,25],[(80,dB)],[]⟩ .o (.k [4,15,17,19,20,21,22,25,80] p1)) (.k [4,15,17,19,20,21,22,25] (.s (.s .o (.b (.l ⟨[4,15,17,19,20,21,22,25],[(26,dI)],[]⟩ (.k [4,15,17,19,20,21,22,25,26] (.s (.j ⟨[4,15,17,19,20,21,22,25,26],[(88,dB)],[]⟩ .o (.k [4,15,17,19,20,21,22,25,26,88] p0)) (.k [4,15,17,19,20,21,22,25,26] (.s (.b (.s .o (.k [4,15,17,19,20,21,22,25,26,27,28] (.j ⟨[4,15,17,19,20,21,22,25,26],[(110,dB)],[]⟩ .o (.k [4,15,17,19,20,21,22,25,26,110] p1))))) (.k [4,15,17,19,20,21,22,25,26] .o)))))))) (.k [15,19,20,21,22] (.j ⟨[],[(14,dB)],[]⟩ .o .o))))))))))))))))))))) [.tmp 14]
def sp3:FSp:=⟨[tL,tL,tL,tL,tK,tI,tI],[.bool],fun x=>F3 x.1 x.2.1 x.2.2.1 x.2.2.2.1 x.2.2.2.2.1 x.2.2.2.2.2.1 x.2.2.2.2.2.2⟩
theorem s3:Zbk pol P 3 sp3:=sO (a:=a3) Tryz.func3 (ZaM s4 (ZaM s5 (ZaM s6 (ZaM s7 (ZaM s8 (ZaM s9 (ZaM s10 (ZaM s11 Zbf)))))))) imN
end Go.Proofs.YtalnenapfoedpabGreatDoor
end
