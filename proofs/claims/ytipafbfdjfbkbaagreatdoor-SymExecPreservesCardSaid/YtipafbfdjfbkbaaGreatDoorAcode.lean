/-
  The program's functions, annotated, and that they compute the plain functions. Printed by program.
-/
import Derived.Test.YtipafbfdjfbkbaaGreatDoorSb
import Derived.Test.YtipafbfdjfbkbaaGreatDoorFd
import Derived.Test.YtipafbfdjfbkbaaGreatDoorPl0
noncomputable section
set_option linter.unusedVariables false
namespace Go.Proofs.YtipafbfdjfbkbaaGreatDoor
open Go.Eng Go.Dat
def a13:FA:=Zbe (Zaf pol) Tryz.f13 14 (.s .o (.s .o (.k [0,1] (.j ⟨[],[(0,dI)],[]⟩ (.s .o p0) (.k [0] p0))))) [.tmp 4]
def Z5Z:FSp:=⟨[tI,tI],[tI],fun x=>F13 x.1 x.2⟩
theorem s13:Zbk pol P 13 Z5Z:=sO (a:=a13) Tryz.func13 Zbf imN
def a19:FA:=Zbe (Zaf pol) Tryz.f19 25 (.s .o (.s .o (.s .o (.s (.b (.s .o (.s p0 (.s .o p1)))) (.k [1] p0))))) [.tmp 4]
def Z2L:FSp:=⟨[tI,tI],[tI],fun x=>F19 x.1 x.2⟩
theorem s19:Zbk pol P 19 Z2L:=sO (a:=a19) Tryz.func19 (ZaM s13 Zbf) imN
def a26:FA:=Zbe (Zaf pol) Tryz.f26 67 (.s .o (.s (.b (.j ⟨[0],[(4,dB)],[]⟩ .o (.k [0,4] (.s p0 (.j ⟨[0],[(19,dB)],[]⟩ .o (.k [0,19] (.s p0 (.j ⟨[0],[(34,dB)],[]⟩ .o (.k [0,34] (.s p0 (.j ⟨[0],[(53,dB)],[]⟩ .o (.k [0,53] (.s p0 (.j ⟨[],[(60,dB)],[]⟩ .o (.k [60] p1))))))))))))))) (.k [] p0))) [.tmp 2,.tmp 3]
def Z6e:FSp:=⟨[tI],[tI,.bool],fun x=>F26 x⟩
theorem s26:Zbk pol P 26 Z6e:=sO (a:=a26) Tryz.func26 Zbf imN
def Z3J:FA:=Zbe (Zaf pol) Tryz.f109 19 (.s .o (.s (.s .o (.b (.s .o (.s p0 (.s .o (.s p0 (.j ⟨[3],[(8,dB)],[]⟩ (.s .o p0) (.k [3,8] (.s p0 (.s .o (.s p0 (.s .o (.s p0 (.s .o (.s p0 (.s .o p1)))))))))))))))) (.k [] p0))) [.tmp 2]
def Z1v:FSp:=⟨[tI],[tI],fun x=>Z0r x⟩
theorem Z3K:Zbk pol P 109 Z1v:=sO (a:=Z3J) Tryz.func109 Zbf imN
def a81:FA:=Zbe (Zaf pol) Tryz.f81 29 (.s .o (.s (.s .o p1) (.k [0,1] (.s .o (.s (.s .o p1) (.k [0,1,5] (.j ⟨[],[(4,dB)],[]⟩ .o .o))))))) [.tmp 4]
def Z4o:FSp:=⟨[tI,tI],[.bool],fun x=>F81 x.1 x.2⟩
theorem s81:Zbk pol P 81 Z4o:=sO (a:=a81) Tryz.func81 (ZaM Z3K Zbf) imN
def a82:FA:=Zbe (Zaf pol) Tryz.f82 7 (.s .o (.s (.s .o p1) (.k [] p0))) [.tmp 4]
def Z4l:FSp:=⟨[.bool,tI],[tI],fun x=>F82 x.1 x.2⟩
theorem s82:Zbk pol P 82 Z4l:=sO (a:=a82) Tryz.func82 Zbf imN
def a83:FA:=Zbe (Zaf pol) Tryz.f83 15 (.s .o (.s (.s .o (.b (.l ⟨[0],[(3,dI)],[]⟩ (.k [0,3] (.s (.s .o (.k [0,3,7] p0)) (.k [0,3] (.s (.b (.s .o (.k [0,3,14] p1))) (.k [0,3] .o)))))))) (.k [] p0))) [.tmp 2]
def Z3H:FSp:=⟨[tL],[.bool],fun x=>F83 x⟩
theorem s83:Zbk pol P 83 Z3H:=sO (a:=a83) Tryz.func83 Zbf imN
def a50:FA:=Zbe (Zaf pol) Tryz.f50 221 (.s .o (.c 4 (.s .o (.k [0,2,4,7,8] (.s (.j ⟨[0,2,4],[(36,dB)],[]⟩ .o (.k [0,2,4,36] p1)) (.k [0,2,4] (.s (.s .o (.b (.s .o (.s (.s (.s .o (.k [44] p1)) (.k [] p0)) (.s .o (.s p0 (.s .o (.s (.s (.j ⟨[2],[(67,dB)],[]⟩ .o (.k [2,67] p1)) (.k [2] p0)) (.s .o (.s (.j ⟨[],[(6,dI)],[]⟩ .o .o) (.s .o (.s p0 (.s .o (.s (.s (.j ⟨[4],[(111,dB)],[]⟩ .o (.k [4,111] p1)) (.k [4] p0)) (.j ⟨[2,38],[(117,dB)],[]⟩ (.s .o p0) (.k [2,38,117] (.s (.j ⟨[],[(6,dI)],[]⟩ .o .o) (.s .o (.s (.j ⟨[],[(6,dI)],[]⟩ .o .o) (.s .o (.s (.j ⟨[],[(6,dI)],[]⟩ .o .o) (.s .o (.s (.s .o (.k [2,9] (.j ⟨[],[(6,dI)],[]⟩ .o .o))) .o))))))))))))))))))))))) (.k [2] p0)))))))) [.tmp 6]
def ZBK:FSp:=⟨[tE,tn,tL],[tI],fun x=>F50 x.1 x.2.1 x.2.2⟩
theorem s50:Zbk pol P 50 ZBK:=sO (a:=a50) Tryz.func50 (ZaM s26 (ZaM s81 (ZaM s82 (ZaM s83 Zbf)))) imN
def q31a:List CS:=[.own tI true,.own tI true]
def a31:FA:=Zbe (Zaf pol) Tryz.f31 69 (.s .o (.s .o (.s (.s .o (.b (.l ⟨[0],[(3,.sl 0),(4,dI)],[.own tI true]⟩ (.k [0,3,4] (.s (.s .o (.k [0,3,4,12] p0)) (.k [0,3,4] (.j ⟨[0,4],[(3,.sl 0)],[.own tI true]⟩ (.b (.s .o (.s .o (.j ⟨[0,4],[(3,.sl 0),(5,.sl 1),(6,dB)],q31a⟩ (.s .o (.b (.l ⟨[0,4],[(3,.sl 0),(5,.sl 1),(6,dB),(7,dI)],q31a⟩ (.k [0,3,4,5,6,7] (.s (.s .o (.k [0,3,4,5,6,7,22] p0)) (.k [0,3,4,5,6,7] (.s (.b (.s .o (.k [0,3,4,5,6,7,8] (.s (.j ⟨[0,4,6,7,8],[(3,.sl 0),(5,.sl 1),(46,dB)],q31a⟩ .o (.k [0,3,4,5,6,7,8,46] p1)) (.k [0,3,4,5,6,7,8] .o))))) (.k [0,3,4,5,6,7] .o)))))))) (.k [0,3,4,5,6] (.s .o p0)))))) (.k [0,3,4] .o)))))))) (.k [3] p0)))) [.tmp 2]
def Z6r:FSp:=⟨[tE],[tL],fun x=>F31 x⟩
theorem s31:Zbk pol P 31 Z6r:=sO (a:=a31) Tryz.func31 (ZaM s50 Zbf) imN
def a27:FA:=Zbe (Zaf pol) Tryz.f27 39 (.s .o (.s .o (.s .o (.s (.s .o (.b (.l ⟨[0,1,2,7],[(8,.sl 0),(9,dI)],[.own tI true]⟩ (.k [0,1,2,7,8,9] (.s (.s .o (.k [0,1,2,7,8,9,15] p0)) (.k [0,1,2,7,8,9] (.j ⟨[0,1,2,7,9],[(8,.sl 0)],[.own tI true]⟩ (.b (.s .o (.k [0,1,2,7,8,9,23] p0))) (.k [0,1,2,7,8,9] .o)))))))) (.k [2,8] p0))))) [.tmp 6]
def Z6g:FSp:=⟨[tE,tI,tI],[tI],fun x=>F27 x.1 x.2.1 x.2.2⟩
theorem s27:Zbk pol P 27 Z6g:=sO (a:=a27) Tryz.func27 (ZaM s13 (ZaM s31 Zbf)) imN
def a49:FA:=Zbe (Zaf pol) Tryz.f49 13 (.s .o (.s (.j ⟨[],[(12,dB)],[]⟩ .o (.k [12] p1)) (.k [] p0))) [.tmp 2]
def ZBM:FSp:=⟨[tI],[tI],fun x=>F49 x⟩
theorem s49:Zbk pol P 49 ZBM:=sO (a:=a49) Tryz.func49 Zbf imN
def a28:FA:=Zbe (Zaf pol) Tryz.f28 20 (.s .o (.s (.j ⟨[],[(19,dB)],[]⟩ .o (.k [19] p1)) (.k [] p0))) [.tmp 4]
def Z6k:FSp:=⟨[tI,tI],[tI],fun x=>F28 x.1 x.2⟩
theorem s28:Zbk pol P 28 Z6k:=sO (a:=a28) Tryz.func28 (ZaM s49 Zbf) imN
def a29:FA:=Zbe (Zaf pol) Tryz.f29 25 (.s .o (.s (.s .o (.k [0,9] p1)) (.k [0] (.s .o (.k [0,3] (.s .o (.k [3,0] p0))))))) [.tmp 2]
def Z6o:Zbc:=⟨[.bx 0 0],[.box [.sl 1,dI] true,.own tI false],1,[dI],[(0,.bx 0 0)],[.box [.sl 1,dI] true,.own tI false],fun (x:Int×List Int)=>(F29 x.1 x.2:Option Y23)⟩
theorem s29:ZdA pol P 29 Z6o:=mO (a:=a29) Tryz.func29 Zbf imN
def a32:FA:=Zbe (Zaf pol) Tryz.f32 45 (.s .o (.c 3 (.c 2 (.s (.j ⟨[2,3],[(26,dB)],[]⟩ .o (.k [2,3,26] p1)) (.k [2,3] (.s (.s .o (.b (.l ⟨[2,3],[(5,dI)],[]⟩ (.k [2,3,5] (.s (.s .o (.k [2,3,5,31] p0)) (.k [2,3,5] (.s (.b (.s .o (.k [2,3,5,44] p1))) (.k [2,3,5] .o)))))))) (.k [] p0))))))) [.tmp 4]
def Z5X:FSp:=⟨[tn,tn],[.bool],fun x=>F32 x.1 x.2⟩
theorem s32:Zbk pol P 32 Z5X:=sO (a:=a32) Tryz.func32 Zbf imN
def a30:FA:=Zbe (Zaf pol) Tryz.f30 18 (.s .o (.c 3 (.s (.s .o (.b (.l ⟨[0,3],[(5,dI)],[]⟩ (.k [0,3,5] (.s (.s .o (.k [0,3,5,9] p0)) (.k [0,3,5] (.s (.b (.s .o (.k [0,3,5,17] p1))) (.k [0,3,5] .o)))))))) (.k [] p0)))) [.tmp 4]
def Z6q:FSp:=⟨[tE,tn],[.bool],fun x=>F30 x.1 x.2⟩
theorem s30:Zbk pol P 30 Z6q:=sO (a:=a30) Tryz.func30 (ZaM s32 Zbf) imN
def q11a:List CS:=[.own tn true,.box [.sl 3,dI] true,.box [dI,dI,.nils] true,.own tI true]
def q11b:List CS:=[.own tn true,.box [dI,dI,.sl 2] true,.own tI true]
def a11:FA:=Zbe (Zaf pol) Tryz.f11 147 (.s .o (.s .o (.k [0,1,5] (.s (.s .o (.b (.l ⟨[0,1],[(5,.sl 0),(6,dI)],[.own tn true]⟩ (.k [0,1,5,6] (.s (.j ⟨[0,1,6],[(5,.sl 0),(23,dB)],[.own tn true]⟩ .o (.k [0,1,5,6,23] p0)) (.k [0,1,5,6] (.j ⟨[0,1,6],[(5,.sl 0)],[.own tn true]⟩ (.b (.s .o (.k [0,1,5,6,7] (.s .o (.k [0,1,5,6,7,8] (.j ⟨[0,1,6],[(5,.sl 0),(7,.bx 1 0),(8,.bx 2 0)],q11a⟩ (.j ⟨[0,1,6],[(5,.sl 0),(7,.bx 1 0),(8,.bx 2 0),(60,dB)],q11a⟩ .o (.k [0,1,5,6,7,8,60] p0)) (.k [0,1,5,6,7,8] (.j ⟨[0,1,6],[(5,.sl 0),(7,.bx 1 0),(8,.bx 2 0)],q11a⟩ (.s .o (.k [0,1,5,6,7,8,76] p0)) (.k [0,1,5,6,7,8] (.s .o (.k [0,1,5,6,7,8,9] (.s (.s .o (.b (.l ⟨[0,1,6,9],[(5,.sl 0),(7,.bx 1 0),(8,.bx 2 0),(11,dI)],[.own tn true,.box [.sl 3,dI] true,.box [dI,dI,.sl 4] true,.own tI false,.own tI true]⟩ (.k [0,1,5,6,7,8,9,11] (.s (.s .o p0) (.k [0,1,5,6,7,8,9,11] (.s (.b .o) (.k [0,1,5,6,7,8,9,11] .o)))))))) (.k [0,1,5,6,8] (.j ⟨[0,1,6],[(5,.sl 0),(8,.bx 1 0)],q11b⟩ (.s .o p0) (.k [0,1,5,6,8] (.j ⟨[0,1,6],[(5,.sl 0),(8,.bx 1 0)],q11b⟩ (.j ⟨[0,1,6],[(5,.sl 0),(8,.bx 1 0),(130,dB)],q11b⟩ .o (.k [0,1,5,6,8,130] p0)) (.k [0,1,5,6,8] (.s .o (.k [0,1,5,6,8,141] p0))))))))))))))))))) (.k [0,1,5,6] .o)))))))) (.k [5] p0))))) [.tmp 4]
def Z5Y:FSp:=⟨[tL,.bool],[tE],fun x=>F11 x.1 x.2⟩
theorem s11:Zbk pol P 11 Z5Y:=sO (a:=a11) Tryz.func11 (ZaM s13 (ZaM s19 (ZaM s26 (ZaM s27 (ZaM s28 (ZaM s30 Zbf)))))) (imC s29 imN)
def a12:FA:=Zbe (Zaf pol) Tryz.f12 21 (.s .o (.s (.j ⟨[0,1],[(12,dB)],[]⟩ .o (.k [0,1,12] p1)) (.k [0,1] p0))) [.tmp 4]
def ZBF:FSp:=⟨[tE,tI],[tI],fun x=>F12 x.1 x.2⟩
theorem s12:Zbk pol P 12 ZBF:=sO (a:=a12) Tryz.func12 (ZaM s31 Zbf) imN
def a14:FA:=Zbe (Zaf pol) Tryz.f14 28 (.s .o (.c 3 (.s (.s .o (.b (.l ⟨[0,3],[(6,dI)],[]⟩ (.k [0,3,6] (.s (.s .o (.k [0,3,6,10] p0)) (.k [0,3,6] (.s (.b (.s .o (.k [0,3,6,18] p1))) (.k [0,3,6] .o)))))))) (.k [0,3] p0)))) [.tmp 4,.tmp 5]
def ZBH:FSp:=⟨[tE,tn],[tE,tI],fun x=>F14 x.1 x.2⟩
theorem s14:Zbk pol P 14 ZBH:=sO (a:=a14) Tryz.func14 (ZaM s32 Zbf) imN
def a4:FA:=Zbe (Zaf pol) Tryz.f4 214 (.s .o (.s .o (.s (.s .o (.b (.l ⟨[0,1],[(5,.dat tE),(6,dI)],[]⟩ (.k [0,1,5,6] (.s (.j ⟨[0,1,5,6],[(22,dB)],[]⟩ .o (.k [0,1,5,6,22] p0)) (.k [0,1,5,6] (.j ⟨[0,1,6],[(5,.dat tE)],[]⟩ (.b (.s .o (.s (.s .o (.b (.l ⟨[0,1,5,6],[(7,dI),(8,dI),(9,dI)],[]⟩ (.k [0,1,5,6,7,8,9] (.s (.s .o (.k [0,1,5,6,7,8,9,28] p0)) (.k [0,1,5,6,7,8,9] (.j ⟨[0,1,5,6,9],[(7,dI),(8,dI)],[]⟩ (.b (.j ⟨[0,1,5,6,8,9],[(7,dI)],[]⟩ (.j ⟨[0,1,5,6,7,8,9],[(44,dB)],[]⟩ .o (.k [0,1,5,6,7,8,9,44] p0)) (.k [0,1,5,6,7,8,9] (.j ⟨[0,1,5,6,7,8,9],[(60,dB)],[]⟩ .o (.k [0,1,5,6,7,8,9,60] p0))))) (.k [0,1,5,6,7,8,9] .o)))))))) (.k [0,1,5,6,7,8] (.s .o (.s .o (.k [0,1,5,6,7,8,66] (.b (.s .o (.s (.s .o (.k [0,1,5,6,7,10] (.s .o (.k [0,1,5,6,7,11] (.s .o (.k [0,1,5,6,11,12] (.s .o (.k [0,1,5,6,11,12] (.s .o (.k [0,1,5,6,10,11,12] (.s .o (.k [0,1,5,6,11,12] .o)))))))))))) (.s .o (.s (.s .o (.k [0,1,5,6,7,8,10] (.s .o (.k [0,1,5,6,7,8,11] (.s .o (.k [0,1,5,6,7,8,11] (.s .o (.k [0,1,5,6,8,11,12] (.s .o (.k [0,1,5,6,11,12] .o)))))))))) (.s .o (.k [0,1,5,6,7,8,10] (.s .o (.k [0,1,5,6,7,8,11] (.s .o (.k [0,1,5,6,8,11,12] .o)))))))))))))))))) (.k [0,1,5,6] .o)))))))) (.k [5] p0)))) [.tmp 4]
def sp4:FSp:=⟨[tL,tI],[tE],fun x=>F4 x.1 x.2⟩
theorem s4:Zbk pol P 4 sp4:=sO (a:=a4) Tryz.func4 (ZaM s11 (ZaM s12 (ZaM s13 (ZaM s14 Zbf)))) imN
def a5:FA:=Zbe (Zaf pol) Tryz.f5 19 (.s .o (.s (.s .o (.k [0,1,5] (.b (.l ⟨[0,1],[(5,dI)],[]⟩ (.k [0,1,5] (.s (.s .o p0) (.k [0,1,5] (.s (.b (.s .o (.k [0,1,5,17] p1))) (.k [0,1,5] .o))))))))) (.k [] p0))) [.tmp 4]
def sp5:FSp:=⟨[tE,tI],[tI],fun x=>F5 x.1 x.2⟩
theorem s5:Zbk pol P 5 sp5:=sO (a:=a5) Tryz.func5 (ZaM s12 Zbf) imN
def Z3L:FA:=Zbe (Zaf pol) Tryz.f110 31 (.s .o (.s (.s .o (.b (.j ⟨[0,4],[(5,dB)],[]⟩ (.s .o (.s .o (.s .o (.s .o (.s .o p0))))) (.k [0,4,5] (.s p0 (.j ⟨[0,4],[(10,dB)],[]⟩ (.s .o (.s .o (.s .o (.s .o (.s .o p0))))) (.k [0,4,10] (.s p0 (.j ⟨[0,4],[(15,dB)],[]⟩ (.s .o (.s .o (.s .o p0))) (.k [0,4,15] (.s p0 (.j ⟨[0,4],[(19,dB)],[]⟩ (.s .o p0) (.k [0,4,19] (.s p0 (.j ⟨[0],[(22,dB)],[]⟩ (.s .o p0) (.k [0,22] p1)))))))))))))))) (.k [0] (.s (.j ⟨[],[(30,dB)],[]⟩ .o (.k [30] p1)) (.k [] p0))))) [.tmp 2,.tmp 3]
def Z10:FSp:=⟨[tI],[tI,.bool],fun x=>Z0s x⟩
theorem Z11:Zbk pol P 110 Z10:=sO (a:=Z3L) Tryz.func110 Zbf imN
def Z4t:FA:=Zbe (Zaf pol) Tryz.f111 6 (.s .o p0) [.tmp 2]
def Z18:FSp:=⟨[tI],[tI],fun x=>Z0t x⟩
theorem Z19:Zbk pol P 111 Z18:=sO (a:=Z4t) Tryz.func111 Zbf imN
def Z4r:FA:=Zbe (Zaf pol) Tryz.f112 21 (.s .o (.s (.s .o (.b (.l ⟨[0,1],[(5,dI)],[]⟩ (.k [0,1,5] (.s (.s .o (.k [0,1,5,9] p0)) (.k [0,1,5] (.s (.b (.s .o (.k [0,1,5,20] p1))) (.k [0,1,5] .o)))))))) (.k [] p0))) [.tmp 4]
def Z16:FSp:=⟨[tL,tL],[.bool],fun x=>ZrP x.1 x.2⟩
theorem Z0z:Zbk pol P 112 Z16:=sO (a:=Z4r) Tryz.func112 Zbf imN
def Z4u:FA:=Zbe (Zaf pol) Tryz.f113 21 (.s .o (.s .o (.s (.s .o (.b (.l ⟨[0],[(3,.sl 0),(4,dI)],[.own tI true]⟩ (.k [0,3,4] (.s (.s .o p0) (.k [0,3,4] (.s (.b .o) (.k [0,3,4] .o)))))))) (.k [0,3] (.s .o (.k [3] p0)))))) [.tmp 2]
def Z1A:FSp:=⟨[tI],[tL],fun x=>Z0u x⟩
theorem Z4v:Zbk pol P 113 Z1A:=sO (a:=Z4u) Tryz.func113 (ZaM Z19 Zbf) imN
def Z3c:FA:=Zbe (Zaf pol) Tryz.f114 22 (.s .o (.s (.s .o (.b (.s .o (.s p0 (.j ⟨[3],[(7,dB)],[]⟩ (.s .o (.s .o (.s .o p0))) (.k [3,7] (.s p0 (.s .o (.s p0 (.s .o (.s p0 (.s .o p1)))))))))))) (.k [] p0))) [.tmp 2]
def Z1g:FSp:=⟨[tI],[tL],fun x=>Z0m x⟩
theorem Z3d:Zbk pol P 114 Z1g:=sO (a:=Z3c) Tryz.func114 Zbf imN
def a84:FA:=Zbe (Zaf pol) Tryz.f84 106 (.s .o (.c 2 (.s .o (.k [1,2,5,6] (.s (.j ⟨[1,2],[(26,dB)],[]⟩ .o (.k [1,2,26] p1)) (.k [1,2] (.s (.b (.s .o (.k [1,2,27] (.s (.j ⟨[],[(4,dB)],[]⟩ .o .o) (.s .o (.k [1,2,53] (.s (.s (.j ⟨[1],[(70,dB)],[]⟩ .o (.k [1,70] p1)) (.k [1] (.s (.s .o (.k [72,73,74] (.b (.l ⟨[72,73],[(74,dI)],[]⟩ (.k [72,73,74] (.s .o (.s p0 (.k [72,73,74] (.s (.b (.s .o (.s .o p1))) (.k [72,73,74] .o)))))))))) (.k [] p0)))) (.j ⟨[1,2],[(81,dB)],[]⟩ .o (.k [1,2,81] (.s (.j ⟨[],[(4,dB)],[]⟩ .o .o) .o)))))))))) (.k [1,2] p0)))))))) [.tmp 4]
def Z3A:FSp:=⟨[tn,tL],[.bool],fun x=>F84 x.1 x.2⟩
theorem s84:Zbk pol P 84 Z3A:=sO (a:=a84) Tryz.func84 (ZaM Z11 (ZaM Z19 (ZaM Z0z (ZaM Z4v (ZaM Z3d Zbf))))) imN
def a85:FA:=Zbe (Zaf pol) Tryz.f85 53 (.s .o (.c 3 (.s .o (.j ⟨[3],[(5,dI)],[]⟩ (.s .o (.b (.s .o (.s p0 (.s .o (.s .o (.s .o (.s .o (.j ⟨[0,3,5,7],[(14,dB)],[]⟩ (.s .o p0) (.k [0,3,5,7,14] (.s .o (.s .o (.s (.j ⟨[],[(4,dB)],[]⟩ .o .o) (.s .o (.s .o (.s .o (.s .o (.s .o p0)))))))))))))))))) (.k [3,5] (.j ⟨[],[(4,dB)],[]⟩ .o .o)))))) [.tmp 4]
def Z3u:FSp:=⟨[tE,tn],[.bool],fun x=>F85 x.1 x.2⟩
theorem s85:Zbk pol P 85 Z3u:=sO (a:=a85) Tryz.func85 (ZaM Z19 Zbf) imN
def a51:FA:=Zbe (Zaf pol) Tryz.f51 80 (.s .o (.s .o (.c 7 (.k [0,1,2,7] (.s .o (.s (.s .o (.k [0,1,2,7,8,16,17,18] (.b (.l ⟨[0,1,2,7,16,17],[(8,.sl 0),(18,dI)],[.own tI true]⟩ (.k [0,1,2,7,8,16,17,18] (.s .o (.s p0 (.k [0,1,2,7,8,16,17,18] (.s (.b (.s .o (.s (.j ⟨[0,1,2,7,10,16,17,18],[(8,.sl 0),(35,dB)],[.own tI true]⟩ .o (.k [0,1,2,7,8,10,16,17,18,35] p1)) (.k [0,1,2,7,8,10,16,17,18] .o)))) (.k [0,1,2,7,8,16,17,18] .o)))))))))) (.k [0,7,8] (.s (.j ⟨[7],[(8,.sl 0),(53,dB)],[.own tI true]⟩ .o (.k [7,8,53] p1)) (.k [7,8] (.j ⟨[],[],[]⟩ (.s .o (.b (.s .o (.s p0 (.j ⟨[7,55],[(8,.sl 0),(58,dB)],[.own tI true]⟩ (.s .o (.s .o (.s .o (.s .o (.s .o (.s .o (.s .o p0))))))) (.k [7,8,55,58] (.s p0 (.s .o (.s p0 (.s .o (.s (.s .o (.k [74] p1)) (.s .o (.s (.s .o p1) .o))))))))))))) (.k [] p0))))))))))) [.tmp 6]
def ZBI:FSp:=⟨[tE,tI,tL],[tI],fun x=>F51 x.1 x.2.1 x.2.2⟩
theorem s51:Zbk pol P 51 ZBI:=sO (a:=a51) Tryz.func51 (ZaM s84 (ZaM s85 Zbf)) imN
def a33:FA:=Zbe (Zaf pol) Tryz.f33 22 (.s .o (.s .o (.k [0,3] (.s (.s .o (.b (.l ⟨[0,9],[(3,.sl 0),(10,dI)],[.own tI true]⟩ (.k [0,3,9,10] (.s .o (.s p0 (.k [0,3,9,10] (.s (.b p0) (.k [0,3,9,10] .o))))))))) (.k [3] p0))))) [.tmp 2]
def Z2G:FSp:=⟨[tE],[tL],fun x=>F33 x⟩
theorem s33:Zbk pol P 33 Z2G:=sO (a:=a33) Tryz.func33 (ZaM s51 Zbf) imN
def a15:FA:=Zbe (Zaf pol) Tryz.f15 21 (.s .o (.s (.j ⟨[0,1],[(12,dB)],[]⟩ .o (.k [0,1,12] p1)) (.k [0,1] p0))) [.tmp 4]
def ZBG:FSp:=⟨[tE,tI],[tI],fun x=>F15 x.1 x.2⟩
theorem s15:Zbk pol P 15 ZBG:=sO (a:=a15) Tryz.func15 (ZaM s33 Zbf) imN
def a16:FA:=Zbe (Zaf pol) Tryz.f16 7 (.s .o p0) [.tmp 2]
def ZBN:Zbc:=⟨[.dat tL],[],0,[.bx 0 0],[],[.box [.nils,.mp 1,.dat tL] true,.map .str tI],fun (x:List Int)=>(F16 x:Option (List Int×List Y1))⟩
theorem s16:ZdA pol P 16 ZBN:=mO (a:=a16) Tryz.func16 Zbf imN
def Z1w:FA:=Zbe (Zaf pol) Tryz.f120 15 (.s .o (.s (.s .o p1) (.k [0] p0))) [.tmp 2]
def Z1z:FSp:=⟨[tI],[.str],fun x=>Z2z x⟩
theorem Z0y:Zbk pol P 120 Z1z:=sO (a:=Z1w) Tryz.func120 Zbf imN
def Z3n:FA:=Zbe (Zaf pol) Tryz.f125 6 (.s .o p0) [.tmp 2]
def Z1l:FSp:=⟨[tI],[tI],fun x=>Z0i x⟩
theorem Z3o:Zbk pol P 125 Z1l:=sO (a:=Z3n) Tryz.func125 Zbf imN
def Z3p:FA:=Zbe (Zaf pol) Tryz.f126 25 (.s .o (.j ⟨[],[(0,.dat (.int .u64)),(2,dI)],[]⟩ (.s .o p1) (.k [0,2] (.j ⟨[],[(0,.dat (.int .u64)),(2,dI)],[]⟩ (.s .o p1) (.k [0,2] (.j ⟨[],[(0,.dat (.int .u64)),(2,dI)],[]⟩ (.s .o p1) (.k [0,2] p0))))))) [.tmp 2]
def Z1m:FSp:=⟨[(.int .u64)],[tI],fun x=>Z0n x⟩
theorem Z3q:Zbk pol P 126 Z1m:=sO (a:=Z3p) Tryz.func126 Zbf imN
def ZTR:FA:=Zbe (Zaf pol) Tryz.f127 4 (.s .o (.s (.s .o p1) (.k [] p0))) [.tmp 2]
def ZTF:FSp:=⟨[.bool],[tI],fun x=>ZTC x⟩
theorem ZTS:Zbk pol P 127 ZTF:=sO (a:=ZTR) Tryz.func127 Zbf imN
def Z4s:FA:=Zbe (Zaf pol) Tryz.f121 15 (.s .o (.s .o (.k [0,3] p0))) [.tmp 2]
def Z17:FSp:=⟨[(.int .u64)],[tI],fun x=>Zy2 x⟩
theorem Z00:Zbk pol P 121 Z17:=sO (a:=Z4s) Tryz.func121 (ZaM Z3o (ZaM Z3q (ZaM ZTS Zbf))) imN
def Z3b:FA:=Zbe (Zaf pol) Tryz.f122 167 (.s .o (.s (.b (.l ⟨[],[(0,.sl 0),(1,.dat (.int .u64)),(4,dI)],[.own (.int .u8) true]⟩ (.k [0,1,4] (.s (.s .o p0) (.k [0,1,4] (.b (.s .o (.k [0,1,4,5] (.s .o (.s .o (.k [0,1,4,6,7] (.s .o (.k [0,1,4,6,8,9] (.s .o (.k [0,1,4,8,9,10,11] (.s .o (.k [0,1,4,8,10,11] (.s .o (.k [0,1,4,10,11] (.s .o (.k [0,1,4,10] (.s .o (.k [0,1,4] .o))))))))))))))))))))))) (.k [0,1,4] (.s .o (.j ⟨[],[(0,.sl 0),(4,dI),(12,.dat (.int .u32))],[.own (.int .u8) true]⟩ (.s .o (.s (.s .o (.s .o (.s .o (.k [0,4,12,14,15] (.s .o (.k [0,4,12,14] (.s .o (.k [0,4,12] .o)))))))) .o)) (.k [0,4,12] (.j ⟨[],[(0,.sl 0),(4,dI),(12,.dat (.int .u32))],[.own (.int .u8) true]⟩ (.s .o (.s (.s .o (.k [0,4,12,16] (.s .o (.s .o (.k [0,4,12] .o))))) .o)) (.k [0,4,12] (.s .o p0))))))))) []
def Z1f:Zbc:=⟨[.sl 0,.dat (.int .u64)],[.own (.int .u8) true],1,[],[(0,.sl 0)],[.own (.int .u8) true],fun (x:Int×List Int)=>(Z0l x.1 x.2:Option (List Int))⟩
theorem Zva:ZdA pol P 122 Z1f:=mO (a:=Z3b) Tryz.func122 Zbf imN
def Z30:FA:=Zbe (Zaf pol) Tryz.f115 36 (.s .o (.s (.s .o (.s (.s (.s .o p1) (.k [0,1] (.s .o (.s .o (.s .o (.k [0,7,8] p0)))))) .o)) (.k [0,1,2] (.s .o (.k [0] p0))))) [.tmp 6]
def Z1r:Zbc:=⟨[.sl 0,.dat (.int .u64),dI],[.own (.int .u8) true],0,[.sl 0],[],[.own (.int .u8) true],fun (x:Int×Int×List Int)=>(ZvZ x.1 x.2.1 x.2.2:Option (List Int))⟩
theorem Z31:ZdA pol P 115 Z1r:=mO (a:=Z30) Tryz.func115 (ZaM Z0y (ZaM Z00 Zbf)) (imC Zva imN)
def a86:FA:=Zbe (Zaf pol) Tryz.f86 21 (.s .o (.s .o (.j ⟨[2],[(0,.sl 0),(7,.dat (.int .u64))],[.own (.int .u8) true]⟩ (.s .o (.s (.s .o (.k [0,2,7] .o)) .o)) (.k [0,2,7] p0)))) [.tmp 6]
def Z2D:Zbc:=⟨[.sl 0,dI,dI],[.own (.int .u8) true],0,[.sl 0],[],[.own (.int .u8) true],fun (x:Int×Int×List Int)=>(F86 x.1 x.2.1 x.2.2:Option (List Int))⟩
theorem s86:ZdA pol P 86 Z2D:=mO (a:=a86) Tryz.func86 Zbf (imC Z31 imN)
def a52:FA:=Zbe (Zaf pol) Tryz.f52 11 (.s .o p0) [.tmp 6]
def ZBS:Zbc:=⟨[.sl 0,dI,dI],[.own (.int .u8) true],0,[.sl 0],[],[.own (.int .u8) true],fun (x:Int×Int×List Int)=>(F52 x.1 x.2.1 x.2.2:Option (List Int))⟩
theorem s52:ZdA pol P 52 ZBS:=mO (a:=a52) Tryz.func52 Zbf (imC s86 imN)
def a34:FA:=Zbe (Zaf pol) Tryz.f34 77 (.s .o (.s .o (.s .o (.k [0,1,2,3,9] (.s (.s .o (.b (.l ⟨[1,2,22],[(0,.bx 0 0),(3,.sl 1),(9,.sl 2),(21,.sl 1),(23,dI)],[.box [.sl 3,.mp 4,.dat tL] true,.own tI true,.own (.int .u8) true,.own tn true,.map .str tI]⟩ (.k [0,1,2,3,9,21,22,23] (.s .o (.s p0 (.k [0,1,2,3,9,21,22,23] (.s (.b p0) (.k [0,1,2,3,9,21,22,23] .o))))))))) (.k [0,1,2,3,9] (.s (.s .o (.k [0,1,2,3,9,12,13] (.s .o p1))) (.k [0,1,2,3,9] (.s .o (.k [0,1,2,3] (.s .o (.k [0] p0)))))))))))) [.tmp 8]
def Z2H:Zbc:=⟨[.bx 0 0,dI,dI,.sl 1],[.box [.sl 2,.mp 3,.dat tL] true,.own tI true,.own tn true,.map .str tI],1,[dI],[(0,.bx 0 0)],[.box [.sl 1,.mp 2,.dat tL] true,.own tn true,.map .str tI],fun (x:Int×Int×List Int×List Int×TN×List Y1)=>(F34 x.1 x.2.1 x.2.2.1 x.2.2.2.1 x.2.2.2.2.1 x.2.2.2.2.2:Option Y5)⟩
theorem s34:ZdA pol P 34 Z2H:=mO (a:=a34) Tryz.func34 Zbf (imC s52 imN)
def a35:FA:=Zbe (Zaf pol) Tryz.f35 8 (.s .o p0) [.tmp 4]
def Z2J:Zbc:=⟨[.bx 0 0,dI],[.box [.sl 1,.mp 2,.dat tL] true,.own tn true,.map .str tI],1,[dI],[(0,.bx 0 0)],[.box [.sl 1,.mp 2,.dat tL] true,.own tn true,.map .str tI],fun (x:Int×List Int×TN×List Y1)=>(F35 x.1 x.2.1 x.2.2.1 x.2.2.2:Option Y5)⟩
theorem s35:ZdA pol P 35 Z2J:=mO (a:=a35) Tryz.func35 Zbf (imC s34 imN)
def a54:FA:=Zbe (Zaf pol) Tryz.f54 24 (.s .o (.s .o (.c 7 (.k [2,7,0] (.j ⟨[],[(0,.bx 0 0),(6,dB)],[.box [.sl 1,.mp 2,.dat tL] true,.own tn true,.map .str tI]⟩ .o .o))))) [.tmp 6]
def Z2K:Zbc:=⟨[.bx 0 0,dI,dI],[.box [.sl 1,.mp 2,.dat tL] true,.own tn true,.map .str tI],1,[dB],[(0,.bx 0 0)],[.box [.sl 1,.mp 2,.dat tL] true,.own tn true,.map .str tI],fun (x:Int×Int×List Int×TN×List Y1)=>(F54 x.1 x.2.1 x.2.2.1 x.2.2.2.1 x.2.2.2.2:Option Y6)⟩
theorem s54:ZdA pol P 54 Z2K:=mO (a:=a54) Tryz.func54 Zbf imN
def q53a:List CS:=[.box [.sl 1,.mp 2,.dat tL] true,.own tn true,.map .str tI]
def a53:FA:=Zbe (Zaf pol) Tryz.f53 65 (.s .o (.s .o (.c 7 (.k [0,7] (.s (.s .o p1) (.k [0,7] (.s (.s .o (.b (.l ⟨[7],[(0,.bx 0 0),(8,dI)],q53a⟩ (.k [0,7,8] (.s (.s .o p0) (.k [0,7,8] (.s (.b (.s .o (.k [0,7,8,9,10] (.s .o (.c 11 (.k [0,7,8,9,10,11] (.j ⟨[7,8,9,10],[(0,.bx 0 0),(62,dB)],q53a⟩ .o (.k [0,7,8,9,10,62] p1)))))))) (.k [0,7,8] .o)))))))) (.k [0] p0)))))))) [.tmp 4,.tmp 5,.tmp 6]
def ZBP:Zbc:=⟨[.bx 0 0,dI],[.box [.sl 1,.mp 2,.dat tL] true,.own tn true,.map .str tI],1,[dI,dI,dB],[(0,.bx 0 0)],[.box [.sl 1,.mp 2,.dat tL] true,.own tn true,.map .str tI],fun (x:Int×List Int×TN×List Y1)=>(F53 x.1 x.2.1 x.2.2.1 x.2.2.2:Option Y19)⟩
theorem s53:ZdA pol P 53 ZBP:=mO (a:=a53) Tryz.func53 Zbf (imC s54 imN)
def a56:FA:=Zbe (Zaf pol) Tryz.f56 34 (.s .o (.s (.j ⟨[1],[(0,.bx 0 0),(26,dB)],[.box [.sl 1,.mp 2,.dat tL] true,.own tn true,.map .str tI]⟩ .o (.k [0,1,26] p1)) (.k [0,1] p0))) [.tmp 4,.tmp 5]
def Z36:Zbc:=⟨[.bx 0 0,dI],[.box [.sl 1,.mp 2,.dat tL] true,.own tn true,.map .str tI],1,[dI,dB],[(0,.bx 0 0)],[.box [.sl 1,.mp 2,.dat tL] true,.own tn true,.map .str tI],fun (x:Int×List Int×TN×List Y1)=>(F56 x.1 x.2.1 x.2.2.1 x.2.2.2:Option Y8)⟩
theorem s56:ZdA pol P 56 Z36:=mO (a:=a56) Tryz.func56 Zbf imN
def a37:FA:=Zbe (Zaf pol) Tryz.f37 48 (.s .o (.s .o (.c 9 (.k [0,2,3,9] (.s .o (.k [0,2,9,10,11] (.j ⟨[],[(0,.bx 0 0),(8,dB)],[.box [.sl 1,.mp 2,.dat tL] true,.own tn true,.map .str tI]⟩ .o .o))))))) [.tmp 8]
def Z4b:Zbc:=⟨[.bx 0 0,dI,dI,dI],[.box [.sl 1,.mp 2,.dat tL] true,.own tn true,.map .str tI],1,[dB],[(0,.bx 0 0)],[.box [.sl 1,.mp 2,.dat tL] true,.own tn true,.map .str tI],fun (x:Int×Int×Int×List Int×TN×List Y1)=>(F37 x.1 x.2.1 x.2.2.1 x.2.2.2.1 x.2.2.2.2.1 x.2.2.2.2.2:Option Y6)⟩
theorem s37:ZdA pol P 37 Z4b:=mO (a:=a37) Tryz.func37 Zbf (imC s54 (imC s56 imN))
def a55:FA:=Zbe (Zaf pol) Tryz.f55 30 (.s .o (.s .o (.c 9 (.k [0,2,3,9] (.j ⟨[],[(0,.bx 0 0),(8,dB)],[.box [.sl 1,.mp 2,.dat tL] true,.own tn true,.map .str tI]⟩ .o .o))))) [.tmp 8]
def Z3S:Zbc:=⟨[.bx 0 0,dI,dI,dI],[.box [.sl 1,.mp 2,.dat tL] true,.own tn true,.map .str tI],1,[dB],[(0,.bx 0 0)],[.box [.sl 1,.mp 2,.dat tL] true,.own tn true,.map .str tI],fun (x:Int×Int×Int×List Int×TN×List Y1)=>(F55 x.1 x.2.1 x.2.2.1 x.2.2.2.1 x.2.2.2.2.1 x.2.2.2.2.2:Option Y6)⟩
theorem s55:ZdA pol P 55 Z3S:=mO (a:=a55) Tryz.func55 Zbf (imC s37 imN)
def q36a:List CS:=[.box [.sl 1,.mp 2,.dat tL] true,.own tn true,.map .str tI]
def a36:FA:=Zbe (Zaf pol) Tryz.f36 124 (.s .o (.s .o (.c 9 (.c 8 (.k [0,2,8,9] (.j ⟨[],[(0,.bx 0 0)],q36a⟩ (.s .o (.b (.j ⟨[2,8,9,29],[(0,.bx 0 0),(30,dB)],q36a⟩ (.s .o p0) (.k [0,2,8,9,29,30] (.s (.s .o (.k [0,8,9,10,11,12] (.j ⟨[8,10],[(0,.bx 0 0),(64,dB)],q36a⟩ .o (.k [0,8,10,64] p1)))) (.s .o (.s (.s .o (.c 13 (.k [0,2,8,13] (.j ⟨[8,13],[(0,.bx 0 0),(110,dB)],q36a⟩ .o (.k [0,8,13,110] p1))))) .o))))))) (.k [0] p0))))))) [.tmp 6,.tmp 7]
theorem ZQw:ZqA P pol (Zaf pol) 36 3 a36:=⟨⟨_,_,Tryz.func36,rfl,rfl,rfl,by kernel_rfl⟩,by decide⟩
theorem ZQx:a36.c.ok=true:=by kernel_rfl
def ZTs (n:Nat):Zbc:=⟨[.bx 0 0,dI,dI],[.box [.sl 1,.mp 2,.dat tL] true,.own tn true,.map .str tI],1,[dI,dB],[(0,.bx 0 0)],[.box [.sl 1,.mp 2,.dat tL] true,.own tn true,.map .str tI],fun (x:Int×Int×List Int×TN×List Y1)=>(E36 (N17 n) x.1 x.2.1 x.2.2.1 x.2.2.2.1 x.2.2.2.2:Option Y8)⟩
theorem ZTO (n:Nat) (hh:ZdA pol P 17 (Z9b n)):ZdA pol P 36 (ZTs n):=mOf (a:=a36) (sp:=ZTs n) ZQw rfl ZQx (by kernel_rfl) (by kernel_rfl) (by kernel_rfl) rfl rfl (by kernel_rfl) Zbf (imC hh (imC s53 (imC s54 (imC s55 imN)))) (fun x=>by kernel_rfl)
def q17a:List CS:=[.box [.sl 2,.mp 3,.dat tL] true,.own tI true,.own tn true,.map .str tI]
def a17:FA:=Zbe (Zaf pol) Tryz.f17 155 (.s .o (.j ⟨[1,2],[(0,.bx 0 0),(3,.sl 1)],q17a⟩ (.s .o (.b (.s .o (.s (.s .o (.c 10 (.c 9 (.k [0,1,2,3,9,10] (.j ⟨[1,2],[(0,.bx 0 0),(3,.sl 1),(53,dB)],q17a⟩ .o (.k [0,1,2,3,53] p1)))))) (.s .o (.s (.s .o (.c 11 (.k [0,1,2,3,11] (.s .o p1)))) (.s .o (.s (.s .o (.k [0,1,2,3,12,13] (.s .o p1))) (.s .o (.s (.s .o (.k [0,1,2,3,14,15,16] (.s (.s .o p1) (.k [0,1,2,3,14,15,16] (.s .o (.c 17 (.k [0,1,2,3,14,15,16,17] (.j ⟨[1,2,15],[(0,.bx 0 0),(3,.sl 1),(148,dB)],q17a⟩ .o (.k [0,1,2,3,15,148] p1))))))))) .o)))))))))) (.k [0,1,2,3] p0))) [.tmp 8]
theorem ZBV:ZqA P pol (Zaf pol) 17 4 a17:=⟨⟨_,_,Tryz.func17,rfl,rfl,rfl,by kernel_rfl⟩,by decide⟩
theorem ZBW:a17.c.ok=true:=by kernel_rfl
def ZBX:Zbc:=Z9b 3000
theorem ZBB:∀ n,ZdA pol P 17 (Z9b n)
 | 0=>ino (by kernel_rfl) (by kernel_rfl) (by kernel_rfl) (fun _=>rfl)
 | n+1=>mOf (a:=a17) (sp:=Z9b (n+1)) ZBV rfl ZBW (by kernel_rfl) (by kernel_rfl) (by kernel_rfl) rfl rfl (by kernel_rfl) Zbf (imC (ZBB n) (imC s34 (imC s35 (imC (ZTO n (ZBB n)) (imC s37 imN))))) (fun x=>by kernel_rfl)
theorem s17:ZdA pol P 17 ZBX:=ZBB 3000
def Z2I:Zbc:=⟨[.bx 0 0,dI,dI],[.box [.sl 1,.mp 2,.dat tL] true,.own tn true,.map .str tI],1,[dI,dB],[(0,.bx 0 0)],[.box [.sl 1,.mp 2,.dat tL] true,.own tn true,.map .str tI],fun (x:Int×Int×List Int×TN×List Y1)=>(F36 x.1 x.2.1 x.2.2.1 x.2.2.2.1 x.2.2.2.2:Option Y8)⟩
theorem s36:ZdA pol P 36 Z2I:=ZTO 3000 (ZBB 3000)
def a38:FA:=Zbe (Zaf pol) Tryz.f38 54 (.s (.s .o (.k [0,1,2,3,4,14] p0)) (.k [0,1,2,3,4] (.s .o (.c 6 (.k [0,1,3,4,6,2] (.s .o (.s (.s .o (.k [0,1,3,4,6,7,23,24,25,2] (.b (.l ⟨[0,6,23,24],[(1,.bx 0 0),(2,.bx 1 0),(3,.bx 2 0),(4,.bx 3 0),(7,.sl 4),(25,dI)],[.box [.sl 5] true,.box [.bx 6 0] true,.box [.fn 38 [] [.bx 0 0,.bx 1 0,.bx 2 0,.bx 3 0]] true,.box [.sl 7] true,.own tI true,.own tI true,.box [.sl 8,.mp 9,.dat tL] true,.own tn true,.own tn true,.map .str tI]⟩ (.k [0,1,3,4,6,7,23,24,25,2] (.s .o (.s p0 (.k [0,1,3,4,6,7,23,24,25,2] (.s (.b (.s .o p0)) (.k [0,1,3,4,6,7,23,24,25,2] .o)))))))))) (.k [0,1,4,6,7,2,3] (.s .o (.k [4,6,7,1,2,3] .o)))))))))) []
theorem ZTT:ZqA P pol (Zaf pol) 38 5 a38:=⟨⟨_,_,Tryz.func38,rfl,rfl,rfl,by kernel_rfl⟩,by decide⟩
theorem ZTU:a38.c.ok=true:=by kernel_rfl
def ZSW (n:Nat):Zbc:=⟨[dI,.bx 0 0,.bx 1 0,.bx 2 0,.bx 3 0],[.box [.sl 4] true,.box [.bx 5 0] true,.box [.fn 38 [] [.bx 0 0,.bx 1 0,.bx 2 0,.bx 3 0]] true,.box [.sl 6] true,.own tI true,.box [.sl 7,.mp 8,.dat tL] true,.own tn true,.own tn true,.map .str tI],4,[],[(1,.bx 0 0),(2,.bx 1 0),(3,.bx 2 0),(4,.bx 3 0)],[.box [.sl 4] true,.box [.bx 5 0] true,.box [.fn 38 [] [.bx 0 0,.bx 1 0,.bx 2 0,.bx 3 0]] true,.box [.sl 6] true,.own tI true,.box [.sl 7,.mp 8,.dat tL] true,.own tn true,.own tn true,.map .str tI],fun (x:Int×List Int×List Int×TN×TN×List Y1)=>(N38 n x.1 x.2.1 x.2.2.1 x.2.2.2.1 x.2.2.2.2.1 x.2.2.2.2.2:Option Y10)⟩
def Z35:Zbc:=ZSW 3000
theorem ZTP:∀ n,ZdA pol P 38 (ZSW n)
 | 0=>ino (by kernel_rfl) (by kernel_rfl) (by kernel_rfl) (fun _=>rfl)
 | n+1=>mOf (a:=a38) (sp:=ZSW (n+1)) ZTT rfl ZTU (by kernel_rfl) (by kernel_rfl) (by kernel_rfl) rfl rfl (by kernel_rfl) Zbf (imC (ZTP n) imN) (fun x=>by kernel_rfl)
theorem s38:ZdA pol P 38 Z35:=ZTP 3000
def a18:FA:=Zbe (Zaf pol) Tryz.f18 44 (.s .o (.k [1,2,3] (.s .o (.k [1,2,3,9] (.s (.s .o (.b (.l ⟨[1,2,20],[(3,.bx 0 0),(9,.bx 1 0),(21,dI)],[.box [.bx 2 0] true,.box [.sl 3] true,.box [.sl 4,.mp 5,.dat tL] true,.own tI true,.own tn true,.map .str tI]⟩ (.k [1,2,3,9,20,21] (.s .o (.s p0 (.k [1,2,3,9,20,21] (.s (.b p0) (.k [1,2,3,9,20,21] .o))))))))) (.k [1,2,3,9] (.s .o (.s .o (.s .o (.s .o (.s .o p0))))))))))) [.tmp 6,.tmp 7,.tmp 8]
def ZBO:Zbc:=⟨[.bx 0 0,dI,dI],[.box [.sl 1,.mp 2,.dat tL] true,.own tn true,.map .str tI],0,[.sl 0,dI,dI],[],[.own tn true],fun (x:Int×Int×List Int×TN×List Y1)=>(F18 x.1 x.2.1 x.2.2.1 x.2.2.2.1 x.2.2.2.2:Option (Int×Int×TN))⟩
theorem s18:ZdA pol P 18 ZBO:=mO (a:=a18) Tryz.func18 Zbf (imC s38 imN)
def a6:FA:=Zbe (Zaf pol) Tryz.f6 107 (.s .o (.c 2 (.s (.s .o (.k [1,2,4,16,17] (.b (.l ⟨[1,2,16],[(4,.bx 0 0),(17,dI)],[.box [.dat .str,dI,.nils,dI,dI] true]⟩ (.k [1,2,4,16,17] (.s .o (.s p0 (.k [1,2,4,16,17] (.s (.b (.s .o (.s .o (.k [1,2,4,16,17,24] p1)))) (.k [1,2,4,16,17] .o)))))))))) (.k [1,2,4] (.s (.j ⟨[1,2],[(4,.bx 0 0),(40,dB)],[.box [.dat .str,dI,.nils,dI,dI] true]⟩ .o (.k [1,2,4,40] p1)) (.k [1,2,4] (.s .o (.s .o (.k [2,4,6,7] (.s (.s .o (.k [2,4,6,7,49,50,51] (.b (.l ⟨[2,49,50],[(4,.bx 0 0),(6,.bx 1 0),(7,.sl 2),(51,dI)],[.box [.dat .str,dI,.nils,dI,dI] true,.box [.sl 3,.mp 4,.dat tL] true,.own tI true,.own tn true,.map .str tI]⟩ (.k [2,4,6,7,49,50,51] (.s .o (.s p0 (.k [2,4,6,7,49,50,51] (.s (.b (.s .o (.c 9 (.k [2,4,6,7,8,9,49,50,51] (.s .o (.s (.s .o (.k [2,4,6,7,8,9,10,49,50,51,57,58,59] (.b (.l ⟨[2,8,9,49,50,51,57,58],[(4,.bx 0 0),(6,.bx 1 0),(7,.sl 2),(10,.sl 3),(59,dI)],[.box [.dat .str,dI,.nils,dI,dI] true,.box [.sl 4,.mp 5,.dat tL] true,.own tI true,.own tI true,.own tn true,.map .str tI]⟩ (.k [2,4,6,7,8,9,10,49,50,51,57,58,59] (.s .o (.s p0 (.k [2,4,6,7,8,9,10,49,50,51,57,58,59] (.s (.b p0) (.k [2,4,6,7,8,9,10,49,50,51,57,58,59] .o)))))))))) (.k [2,4,6,7,8,9,10,49,50,51] .o))))))) (.k [2,4,6,7,49,50,51] .o)))))))))) (.k [2,4,6,7] (.s .o (.k [2,4,6,7,13] (.s .o (.k [4,13] p0))))))))))))))) [.cell 4 27]
def sp6:FSp:=⟨[tA,tL],[tA],fun x=>F6 x.1 x.2⟩
theorem s6:Zbk pol P 6 sp6:=sO (a:=a6) Tryz.func6 (ZaM s15 Zbf) (imC s16 (imC s17 (imC s18 imN)))
def a7:FA:=Zbe (Zaf pol) Tryz.f7 14 (.s .o p0) [.tmp 6]
def sp7:FSp:=⟨[tI,tI,tI],[tL],fun x=>F7 x.1 x.2.1 x.2.2⟩
theorem s7:Zbk pol P 7 sp7:=sO (a:=a7) Tryz.func7 (ZaM s19 Zbf) imN
def a8:FA:=Zbe (Zaf pol) Tryz.f8 52 (.s .o (.c 3 (.c 2 (.s (.j ⟨[2,3],[(33,dB)],[]⟩ .o (.k [2,3,33] p1)) (.k [2,3] (.s (.s .o (.b (.l ⟨[2,3],[(5,dI)],[]⟩ (.k [2,3,5] (.s (.s .o (.k [2,3,5,38] p0)) (.k [2,3,5] (.s (.b (.s .o (.k [2,3,5,51] p1))) (.k [2,3,5] .o)))))))) (.k [] p0))))))) [.tmp 4]
def sp8:FSp:=⟨[tH,tH],[.bool],fun x=>F8 x.1 x.2⟩
theorem s8:Zbk pol P 8 sp8:=sO (a:=a8) Tryz.func8 Zbf imN
def a87:FA:=Zbe (Zaf pol) Tryz.f87 21 (.s .o (.j ⟨[],[(2,dB)],[]⟩ .o .o)) [.tmp 2]
def Z3G:FSp:=⟨[(.int .u8)],[.bool],fun x=>F87 x⟩
theorem s87:Zbk pol P 87 Z3G:=sO (a:=a87) Tryz.func87 Zbf imN
def a88:FA:=Zbe (Zaf pol) Tryz.f88 9 (.s .o (.j ⟨[],[(2,dB)],[]⟩ .o .o)) [.tmp 2]
def Z3O:FSp:=⟨[(.int .u8)],[.bool],fun x=>F88 x⟩
theorem s88:Zbk pol P 88 Z3O:=sO (a:=a88) Tryz.func88 Zbf imN
def a57:FA:=Zbe (Zaf pol) Tryz.f57 34 (.s .o (.s (.s .o (.b (.l ⟨[0],[(3,dI)],[]⟩ (.k [0,3] (.s (.s .o (.k [0,3,7] p0)) (.k [0,3] (.s (.b (.j ⟨[0,3],[(25,dB)],[]⟩ .o (.k [0,3,25] p1))) (.k [0,3] .o)))))))) (.k [0] (.j ⟨[],[(2,dB)],[]⟩ .o .o)))) [.tmp 2]
def Z41:FSp:=⟨[.str],[.bool],fun x=>F57 x⟩
theorem s57:Zbk pol P 57 Z41:=sO (a:=a57) Tryz.func57 (ZaM s87 (ZaM s88 Zbf)) imN
def a58:FA:=Zbe (Zaf pol) Tryz.f58 18 (.s .o (.s .o (.s (.s .o (.b (.l ⟨[0],[(3,.sl 0),(4,dI)],[.own .str true]⟩ (.k [0,3,4] (.s (.s .o (.k [0,3,4,9] p0)) (.k [0,3,4] (.s (.b (.s .o (.k [0,3,4,17] p1))) (.k [0,3,4] .o)))))))) (.k [] p0)))) [.tmp 2]
def Z4e:FSp:=⟨[.str],[.bool],fun x=>F58 x⟩
theorem s58:Zbk pol P 58 Z4e:=sO (a:=a58) Tryz.func58 Zbf imN
def a39:FA:=Zbe (Zaf pol) Tryz.f39 10 (.s .o (.j ⟨[],[(2,dB)],[]⟩ .o .o)) [.tmp 2]
def Z3F:FSp:=⟨[.str],[.bool],fun x=>F39 x⟩
theorem s39:Zbk pol P 39 Z3F:=sO (a:=a39) Tryz.func39 (ZaM s57 (ZaM s58 Zbf)) imN
def q41a:List CS:=[.own tK true,.own .bool true]
def a41:FA:=Zbe (Zaf pol) Tryz.f41 77 (.s .o (.s .o (.s (.s .o (.b (.l ⟨[0],[(3,.sl 0),(4,dI)],[.own tK true]⟩ (.k [0,3,4] (.s (.s .o (.k [0,3,4,12] p0)) (.k [0,3,4] (.s (.b (.s .o (.s .o (.c 6 (.k [0,3,4,5,6] (.s (.s .o (.b (.l ⟨[0,4,6],[(3,.sl 0),(5,.sl 1),(7,dI)],q41a⟩ (.k [0,3,4,5,6,7] (.s (.s .o (.k [0,3,4,5,6,7,24] p0)) (.k [0,3,4,5,6,7] (.s (.b (.s .o (.b (.l ⟨[0,4,6,7],[(3,.sl 0),(5,.sl 1),(8,dI)],q41a⟩ (.k [0,3,4,5,6,7,8] (.s (.s .o p0) (.k [0,3,4,5,6,7,8] (.j ⟨[0,4,6,7,8],[(3,.sl 0),(5,.sl 1)],q41a⟩ (.b (.j ⟨[0,4,6,7,8],[(3,.sl 0),(5,.sl 1),(60,dB)],q41a⟩ .o (.k [0,3,4,5,6,7,8,60] p0))) (.k [0,3,4,5,6,7,8] .o))))))))) (.k [0,3,4,5,6,7] .o)))))))) (.k [0,3,4,5,6] (.j ⟨[0,4],[(3,.sl 0),(5,.sl 1)],q41a⟩ (.s .o p0) (.k [0,3,4,5] .o))))))))) (.k [0,3,4] .o)))))))) (.k [3] p0)))) [.tmp 2]
def Z4d:FSp:=⟨[tE],[tF],fun x=>F41 x⟩
theorem s41:Zbk pol P 41 Z4d:=sO (a:=a41) Tryz.func41 Zbf imN
def a59:FA:=Zbe (Zaf pol) Tryz.f59 34 (.s .o (.s (.s .o (.b (.l ⟨[0,1],[(5,dI)],[]⟩ (.k [0,1,5] (.s (.s .o (.k [0,1,5,9] p0)) (.k [0,1,5] (.s (.b (.j ⟨[0,1,5],[(26,dB)],[]⟩ .o (.k [0,1,5,26] p1))) (.k [0,1,5] .o)))))))) (.k [] p0))) [.tmp 4]
def Z37:FSp:=⟨[tE,tI],[tI],fun x=>F59 x.1 x.2⟩
theorem s59:Zbk pol P 59 Z37:=sO (a:=a59) Tryz.func59 Zbf imN
def q40a:List CS:=[.own .bool true]
def a40:FA:=Zbe (Zaf pol) Tryz.f40 179 (.s .o (.c 3 (.c 2 (.s (.j ⟨[2,3],[(33,dB)],[]⟩ .o (.k [2,3,33] p1)) (.k [2,3] (.s .o (.k [2,3,5] (.s (.s .o (.b (.l ⟨[2,3,5],[(6,dI)],[]⟩ (.k [2,3,5,6] (.s (.s .o (.k [2,3,5,6,40] p0)) (.k [2,3,5,6] (.s (.b (.s .o (.k [2,3,5,6,47] p1))) (.k [2,3,5,6] .o)))))))) (.k [2,3,5] (.s .o (.s (.s .o (.b (.l ⟨[2,3,5],[(7,.sl 0),(8,dI)],q40a⟩ (.k [2,3,5,7,8] (.s (.s .o (.k [2,3,5,7,8,52] p0)) (.k [2,3,5,7,8] (.j ⟨[2,3,5,8],[(7,.sl 0)],q40a⟩ (.b (.s .o (.c 9 (.k [2,3,5,7,8,9] (.s (.s .o (.b (.l ⟨[2,3,5,8,9],[(7,.sl 0),(10,dI)],q40a⟩ (.k [2,3,5,7,8,9,10] (.s (.s .o p0) (.k [2,3,5,7,8,9,10] (.s (.b (.s .o (.k [2,3,5,7,8,9,10,71] p1))) (.k [2,3,5,7,8,9,10] .o)))))))) (.k [2,3,5,7,8,9] (.s .o (.b (.s .o (.s (.s .o (.k [2,3,5,7,8,80] p1)) (.j ⟨[2,3,5,8,9,73],[(7,.sl 0),(81,dB)],q40a⟩ (.s .o p0) (.k [2,3,5,7,8,9,73,81] (.s (.s .o (.k [2,3,5,7,8,89] p1)) (.s .o (.s (.j ⟨[2,3,5,8],[(7,.sl 0),(111,dB)],q40a⟩ .o (.k [2,3,5,7,8,111] p1)) (.s .o (.s (.s (.s .o (.k [2,3,5,7,8,9,118] p1)) (.k [2,3,5,7,8,9] .o)) (.s .o (.s (.s .o (.k [2,3,5,7,8,9,11] (.j ⟨[2,3,5,8],[(7,.sl 0),(139,dB)],q40a⟩ .o (.k [2,3,5,7,8,139] p1)))) .o))))))))))))))))))) (.k [2,3,5,7,8] .o)))))))) (.k [3] (.s (.j ⟨[3],[(153,dB)],[]⟩ .o (.k [3,153] p1)) (.k [3] (.s .o (.k [3,12] (.s (.s .o (.b (.l ⟨[3,12],[(13,dI)],[]⟩ (.k [3,12,13] (.s (.s .o p0) (.k [3,12,13] (.s (.b (.j ⟨[3,12,13],[(178,dB)],[]⟩ .o (.k [3,12,13,178] p1))) (.k [3,12,13] .o)))))))) (.k [] p0)))))))))))))))))) [.tmp 4]
def Z3X:FSp:=⟨[tM,tA],[.bool],fun x=>F40 x.1 x.2⟩
theorem s40:Zbk pol P 40 Z3X:=sO (a:=a40) Tryz.func40 (ZaM s12 (ZaM s31 (ZaM s32 (ZaM s39 (ZaM s41 (ZaM s59 Zbf)))))) imN
def a20:FA:=Zbe (Zaf pol) Tryz.f20 91 (.s .o (.c 1 (.s (.j ⟨[1],[(17,dB)],[]⟩ .o (.k [1,17] p1)) (.k [1] (.s (.s .o (.b (.l ⟨[1],[(3,dI)],[]⟩ (.k [1,3] (.s (.s .o (.k [1,3,22] p0)) (.k [1,3] (.s (.b (.s .o (.c 4 (.k [1,3,4] (.s (.j ⟨[1,3,4],[(43,dB)],[]⟩ .o (.k [1,3,4,43] p1)) (.k [1,3,4] (.s .o (.b (.l ⟨[1,3,4],[(5,dI)],[]⟩ (.k [1,3,4,5] (.s (.s .o p0) (.k [1,3,4,5] (.s (.b (.s .o (.k [1,3,4,5,57] p1))) (.k [1,3,4,5] .o)))))))))))))) (.k [1,3] .o)))))))) (.k [1] (.s (.s .o (.b (.l ⟨[1],[(6,dI)],[]⟩ (.k [1,6] (.s (.s .o (.k [1,6,62] p0)) (.k [1,6] (.s (.b (.s (.s .o (.b (.l ⟨[1,6],[(7,dI)],[]⟩ (.k [1,6,7] (.s (.s .o p0) (.k [1,6,7] (.s (.b (.s .o (.k [1,6,7,82] p1))) (.k [1,6,7] .o)))))))) (.k [1,6] (.s .o (.k [1,6,90] p1))))) (.k [1,6] .o)))))))) (.k [] p0)))))))) [.tmp 2]
def Z3T:FSp:=⟨[tM],[.bool],fun x=>F20 x⟩
theorem s20:Zbk pol P 20 Z3T:=sO (a:=a20) Tryz.func20 (ZaM s39 (ZaM s40 Zbf)) imN
def a21:FA:=Zbe (Zaf pol) Tryz.f21 33 (.s .o (.c 7 (.c 4 (.s .o (.c 9 (.k [2,4,7,9] p0)))))) [.tmp 8]
def Z42:Zbc:=⟨[.agg [.dat tC,.dat tG],dI,.sl 0,.agg [.sl 1,.dat tL,dI,dI,dI,dI]],[.own tI false,.own tL false],0,[.bx 0 0],[],[.box [.dat tC,.dat tG,.dat .str,dI,.dat tE,dI,dI,.dat tF,.sl 1,.sl 2,.dat tL,dI,dI,dI,dI,.sl 3,.sl 4,.sl 5] true,.own tI false,.own tL false,.own .bool true,.own (.tree .res) true,.own tD true],fun (x:(List Y1)×(List Y2)×Int×List Int×Int×Int×Int×Int×List Int×List (List Int))=>(F21 x.1 x.2.1 x.2.2.1 x.2.2.2.1 x.2.2.2.2.1 x.2.2.2.2.2.1 x.2.2.2.2.2.2.1 x.2.2.2.2.2.2.2.1 x.2.2.2.2.2.2.2.2.1 x.2.2.2.2.2.2.2.2.2:Option Y14)⟩
theorem s21:ZdA pol P 21 Z42:=mO (a:=a21) Tryz.func21 (ZaM s41 Zbf) imN
def a60:FA:=Zbe (Zaf pol) Tryz.f60 14 (.s .o (.s (.s .o (.b (.s .o (.s p0 (.s .o p1))))) (.k [] p0))) [.tmp 4]
def Z6d:FSp:=⟨[tI,tI],[tI],fun x=>F60 x.1 x.2⟩
theorem s60:Zbk pol P 60 Z6d:=sO (a:=a60) Tryz.func60 Zbf imN
def a61:FA:=Zbe (Zaf pol) Tryz.f61 27 (.s .o (.c 3 (.s (.j ⟨[1,2,3],[(18,dB)],[]⟩ .o (.k [1,2,3,18] p1)) (.k [1,2,3] p0)))) [.tmp 6]
def Z4f:FSp:=⟨[tB,tI,tI],[tI],fun x=>F61 x.1 x.2.1 x.2.2⟩
theorem s61:Zbk pol P 61 Z4f:=sO (a:=a61) Tryz.func61 Zbf imN
def a89:FA:=Zbe (Zaf pol) Tryz.f89 46 (.s .o (.s (.j ⟨[1,2,3],[(4,.bx 0 0),(8,.bx 1 0),(21,dB)],[.box [.dat tS,.dat tL,dI,dI,dI,dI] true,.box [.nils,.nils,dI,dI,dI,dI] true]⟩ .o (.k [1,2,3,4,8,21] p1)) (.k [1,2,3,4,8] (.s .o (.k [1,2,3,4,8,9] (.s .o (.k [1,2,3,4,8,9] (.s .o (.k [4,8,9] (.s .o p0)))))))))) [.cell 8 58]
def Z3P:FSp:=⟨[tB,tI,tI,tI],[tB],fun x=>F89 x.1 x.2.1 x.2.2.1 x.2.2.2⟩
theorem s89:Zbk pol P 89 Z3P:=sO (a:=a89) Tryz.func89 Zbf imN
def a90:FA:=Zbe (Zaf pol) Tryz.f90 13 (.s .o (.s (.s .o (.s (.s .o p0) .o)) (.k [1,2] (.s .o (.k [1,2] p0))))) [.cell 2 58]
def Z4w:FSp:=⟨[tB],[tB],fun x=>F90 x⟩
theorem s90:Zbk pol P 90 Z4w:=sO (a:=a90) Tryz.func90 Zbf imN
def a62:FA:=Zbe (Zaf pol) Tryz.f62 139 (.s .o (.c 3 (.s .o (.k [0,3,4,5] (.s (.s .o (.s (.s .o (.k [0,3,4,5,6] p0)) .o)) (.k [0,3,4,5] (.s (.s .o p1) (.k [0,3,4,5] (.s (.s .o (.b (.s .o (.s (.j ⟨[],[(0,.bx 0 0),(4,.bx 1 0),(5,.bx 2 0)],[.box [.dat tC,.dat tG,.dat .str,dI,.dat tE,dI,dI,.dat tF,.sl 3,.sl 4,.dat tL,dI,dI,dI,dI,.sl 5,.sl 6,.sl 7] true,.box [.nils,.nils,dI,dI,dI,dI] true,.box [.dat tS,.dat tL,dI,dI,dI,dI] true,.own tI false,.own tL false,.own .bool true,.own (.tree .res) true,.own tD true]⟩ (.s .o (.k [3,4,5,56,0] p1)) (.k [4,5,0] p0)) (.s .o (.s (.s .o (.k [4,5,0] p0)) .o)))))) (.k [0,3,4,5] (.s .o (.s (.s .o (.b (.l ⟨[3],[(0,.bx 0 0),(4,.bx 1 0),(5,.bx 2 0),(7,.sl 3),(8,dI)],[.box [.dat tC,.dat tG,.dat .str,dI,.dat tE,dI,dI,.dat tF,.sl 4,.sl 5,.dat tL,dI,dI,dI,dI,.sl 6,.sl 7,.sl 8] true,.box [.nils,.nils,dI,dI,dI,dI] true,.box [.dat tS,.dat tL,dI,dI,dI,dI] true,.own tI true,.own tI false,.own tL false,.own .bool true,.own (.tree .res) true,.own tD true]⟩ (.k [0,3,4,5,7,8] (.s (.s .o (.k [0,3,4,5,7,8,83] p0)) (.k [0,3,4,5,7,8] (.s (.b .o) (.k [0,3,4,5,7,8] .o)))))))) (.k [0,3,4,5,7] (.s .o (.s (.s .o p1) (.k [0,3,4,5,7] (.s .o (.s .o (.s .o (.k [4,9,10,0] (.s .o (.k [4,9,10,11,0] (.s (.s .o (.s (.s .o p0) .o)) (.k [4,10,11,0] (.s .o (.k [4,11,0] p0)))))))))))))))))))))))))) [.cell 4 58]
theorem ZBZ:ZqA P pol (Zaf pol) 62 2 a62:=⟨⟨_,_,Tryz.func62,rfl,rfl,rfl,by kernel_rfl⟩,by decide⟩
theorem ZCa:a62.c.ok=true:=by kernel_rfl
def ZTt (n:Nat):Zbc:=⟨[.bx 0 0,.agg [dI,dI,.dat tL]],[.box [.dat tC,.dat tG,.dat .str,dI,.dat tE,dI,dI,.dat tF,.sl 1,.sl 2,.dat tL,dI,dI,dI,dI,.sl 3,.sl 4,.sl 5] true,.own tI false,.own tL false,.own .bool true,.own (.tree .res) true,.own tD true],1,[.agg [.dat tS,.sl 1,dI,dI,dI,dI]],[(0,.bx 0 0)],[.box [.dat tC,.dat tG,.dat .str,dI,.dat tE,dI,dI,.dat tF,.sl 2,.sl 3,.dat tL,dI,dI,dI,dI,.sl 4,.sl 5,.sl 6] true,.own tI false,.own tI false,.own tL false,.own .bool true,.own (.tree .res) true,.own tD true],fun (x:Int×Int×List Int×(List Y1)×(List Y2)×ByteArray×Int×TN×Int×Int×List (List Bool)×List Int×Int×Int×Int×Int×List Int×List (List Int)×List Bool×List ReT×List (List ReT))=>(E62 (N22 n) x.1 x.2.1 x.2.2.1 x.2.2.2.1 x.2.2.2.2.1 x.2.2.2.2.2.1 x.2.2.2.2.2.2.1 x.2.2.2.2.2.2.2.1 x.2.2.2.2.2.2.2.2.1 x.2.2.2.2.2.2.2.2.2.1 x.2.2.2.2.2.2.2.2.2.2.1 x.2.2.2.2.2.2.2.2.2.2.2.1 x.2.2.2.2.2.2.2.2.2.2.2.2.1 x.2.2.2.2.2.2.2.2.2.2.2.2.2.1 x.2.2.2.2.2.2.2.2.2.2.2.2.2.2.1 x.2.2.2.2.2.2.2.2.2.2.2.2.2.2.2.1 x.2.2.2.2.2.2.2.2.2.2.2.2.2.2.2.2.1 x.2.2.2.2.2.2.2.2.2.2.2.2.2.2.2.2.2.1 x.2.2.2.2.2.2.2.2.2.2.2.2.2.2.2.2.2.2.1 x.2.2.2.2.2.2.2.2.2.2.2.2.2.2.2.2.2.2.2.1 x.2.2.2.2.2.2.2.2.2.2.2.2.2.2.2.2.2.2.2.2:Option Y4)⟩
theorem ZTV (n:Nat) (hh:ZdA pol P 22 (ZDo n)):ZdA pol P 62 (ZTt n):=mOf (a:=a62) (sp:=ZTt n) ZBZ rfl ZCa (by kernel_rfl) (by kernel_rfl) (by kernel_rfl) rfl rfl (by kernel_rfl) (ZaM s89 (ZaM s90 Zbf)) (imC s21 (imC hh imN)) (fun x=>by kernel_rfl)
def a92:FA:=Zbe (Zaf pol) Tryz.f92 16 (.s .o (.s (.b (.s .o (.s p0 (.s .o p1)))) (.k [0,1] p0))) [.tmp 4]
def Z4y:FSp:=⟨[tI,tI],[tI],fun x=>F92 x.1 x.2⟩
theorem s92:Zbk pol P 92 Z4y:=sO (a:=a92) Tryz.func92 Zbf imN
def a93:FA:=Zbe (Zaf pol) Tryz.f93 4 (.s .o (.s (.s .o p1) (.k [] p0))) [.tmp 2]
def Z2B:FSp:=⟨[.bool],[tI],fun x=>F93 x⟩
theorem s93:Zbk pol P 93 Z2B:=sO (a:=a93) Tryz.func93 Zbf imN
def a64:FA:=Zbe (Zaf pol) Tryz.f64 108 (.s .o (.s .o (.k [0,1,2,7] (.s (.s .o (.b (.s .o (.s p0 (.s .o (.s p0 (.s .o (.s p0 (.s .o (.s p0 (.s .o (.s (.s (.s .o p1) (.k [1,2] p0)) (.s .o (.s p0 (.s .o (.s p0 (.s .o p1))))))))))))))))) (.k [0,1,2,7] (.s (.s .o (.b (.s .o (.s p0 (.s .o (.s p0 (.s .o (.s p0 (.s .o (.s p0 (.s .o (.s p0 (.s .o (.s p0 (.s .o (.s p0 (.s .o p1))))))))))))))))) (.k [] p0))))))) [.tmp 6]
def Z6n:FSp:=⟨[tI,tI,tI],[tI],fun x=>F64 x.1 x.2.1 x.2.2⟩
theorem s64:Zbk pol P 64 Z6n:=sO (a:=a64) Tryz.func64 (ZaM s92 (ZaM s93 Zbf)) imN
def q42a:List CS:=[.box [.dat tC,.dat tG,.dat .str,dI,.dat tE,dI,dI,.dat tF,.sl 2,.sl 3,.dat tL,dI,dI,dI,dI,.sl 4,.sl 5,.sl 6] true,.box [dI,.nils,.nils,dI,dI,dI,dI,.nils] true,.own tI false,.own tL false,.own .bool true,.own (.tree .res) true,.own tD true]
def a42:FA:=Zbe (Zaf pol) Tryz.f42 161 (.s .o (.s .o (.c 5 (.k [0,4,5] (.s .o (.s (.s .o (.b (.s .o (.s p0 (.s .o (.s p0 (.s .o (.s p0 (.j ⟨[5,6,18],[(0,.bx 0 0),(4,.bx 1 0),(51,dB)],q42a⟩ (.s .o p0) (.k [0,4,5,6,18,51] (.s p0 (.s .o (.s (.s (.s .o (.k [0,4,6,72] p1)) (.k [0,4,6] p0)) (.s .o (.s p0 (.s .o (.s p0 (.s .o (.s p0 (.s .o (.s p0 (.j ⟨[5,6,18],[(0,.bx 0 0),(4,.bx 1 0),(130,dB)],q42a⟩ (.s .o (.s .o (.s .o (.s .o (.s .o p0))))) (.k [0,4,5,6,18,130] (.s p0 (.s .o p1))))))))))))))))))))))))) (.k [0,4,5,6] p0))))))) [.cell 4 63]
theorem ZTW:ZqA P pol (Zaf pol) 42 2 a42:=⟨⟨_,_,Tryz.func42,rfl,rfl,rfl,by kernel_rfl⟩,by decide⟩
theorem ZTX:a42.c.ok=true:=by kernel_rfl
def ZTu (n:Nat):Zbc:=⟨[.bx 0 0,dI],[.box [.dat tC,.dat tG,.dat .str,dI,.dat tE,dI,dI,.dat tF,.sl 1,.sl 2,.dat tL,dI,dI,dI,dI,.sl 3,.sl 4,.sl 5] true,.own tI false,.own tL false,.own .bool true,.own (.tree .res) true,.own tD true],1,[.agg [dI,.sl 1,.sl 2,dI,dI,dI,dI,.dat tD]],[(0,.bx 0 0)],[.box [.dat tC,.dat tG,.dat .str,dI,.dat tE,dI,dI,.dat tF,.sl 3,.sl 4,.dat tL,dI,dI,dI,dI,.sl 5,.sl 6,.sl 7] true,.own tL false,.own tI false,.own tI false,.own tL false,.own .bool true,.own (.tree .res) true,.own tD true],fun (x:Int×(List Y1)×(List Y2)×ByteArray×Int×TN×Int×Int×List (List Bool)×List Int×Int×Int×Int×Int×List Int×List (List Int)×List Bool×List ReT×List (List ReT))=>(E42 (N22 n) x.1 x.2.1 x.2.2.1 x.2.2.2.1 x.2.2.2.2.1 x.2.2.2.2.2.1 x.2.2.2.2.2.2.1 x.2.2.2.2.2.2.2.1 x.2.2.2.2.2.2.2.2.1 x.2.2.2.2.2.2.2.2.2.1 x.2.2.2.2.2.2.2.2.2.2.1 x.2.2.2.2.2.2.2.2.2.2.2.1 x.2.2.2.2.2.2.2.2.2.2.2.2.1 x.2.2.2.2.2.2.2.2.2.2.2.2.2.1 x.2.2.2.2.2.2.2.2.2.2.2.2.2.2.1 x.2.2.2.2.2.2.2.2.2.2.2.2.2.2.2.1 x.2.2.2.2.2.2.2.2.2.2.2.2.2.2.2.2.1 x.2.2.2.2.2.2.2.2.2.2.2.2.2.2.2.2.2.1 x.2.2.2.2.2.2.2.2.2.2.2.2.2.2.2.2.2.2:Option Y3)⟩
theorem ZTY (n:Nat) (hh:ZdA pol P 22 (ZDo n)):ZdA pol P 42 (ZTu n):=mOf (a:=a42) (sp:=ZTu n) ZTW rfl ZTX (by kernel_rfl) (by kernel_rfl) (by kernel_rfl) rfl rfl (by kernel_rfl) (ZaM s60 (ZaM s61 (ZaM s64 Zbf))) (imC hh (imC (ZTV n hh) imN)) (fun x=>by kernel_rfl)
def a22:FA:=Zbe (Zaf pol) Tryz.f22 37 (.s .o (.j ⟨[1],[(0,.bx 0 0),(4,.bx 1 0)],[.box [.dat tC,.dat tG,.dat .str,dI,.dat tE,dI,dI,.dat tF,.sl 2,.sl 3,.dat tL,dI,dI,dI,dI,.sl 4,.sl 5,.sl 6] true,.box [dI,.nils,.nils,dI,dI,dI,dI,.nils] true,.own tI false,.own tL false,.own .bool true,.own (.tree .res) true,.own tD true]⟩ (.s .o (.k [0,1,4,13] (.s (.s .o (.c 5 (.k [0,1,4,5] (.s .o (.k [0,1,4] .o))))) .o))) (.k [0,1,4] p0))) [.cell 4 63]
theorem ZEY:ZqA P pol (Zaf pol) 22 2 a22:=⟨⟨_,_,Tryz.func22,rfl,rfl,rfl,by kernel_rfl⟩,by decide⟩
theorem ZEZ:a22.c.ok=true:=by kernel_rfl
def Z43:Zbc:=ZDo 1000
theorem ZET:∀ n,ZdA pol P 22 (ZDo n)
 | 0=>ino (by kernel_rfl) (by kernel_rfl) (by kernel_rfl) (fun _=>rfl)
 | n+1=>mOf (a:=a22) (sp:=ZDo (n+1)) ZEY rfl ZEZ (by kernel_rfl) (by kernel_rfl) (by kernel_rfl) rfl rfl (by kernel_rfl) Zbf (imC (ZET n) (imC (ZTY n (ZET n)) imN)) (fun x=>by kernel_rfl)
theorem s22:ZdA pol P 22 Z43:=ZET 1000
def q9a:List CS:=[.box [dI,dI,.nils,dI] true]
def a9:FA:=Zbe (Zaf pol) Tryz.f9 115 (.s .o (.c 4 (.s (.j ⟨[1,2,3,4],[(8,.bx 0 0),(24,dB)],q9a⟩ .o (.k [1,2,3,4,8,24] p1)) (.k [1,2,3,4,8] (.s .o (.s (.b (.l ⟨[1,2,3,4],[(8,.bx 0 0),(9,dI)],q9a⟩ (.k [1,2,3,4,8,9] (.s (.j ⟨[1,2,3,4,9],[(8,.bx 0 0),(40,dB)],q9a⟩ .o (.k [1,2,3,4,8,9,40] p0)) (.k [1,2,3,4,8,9] (.b .o)))))) (.k [2,3,4,8,9] (.s (.j ⟨[2,3,4,9],[(8,.bx 0 0),(58,dB)],q9a⟩ .o (.k [2,3,4,8,9,58] p1)) (.k [2,3,4,8,9] (.s .o (.k [2,4,8,9,10] (.s (.s .o (.b (.l ⟨[2,4,9],[(8,.bx 0 0),(10,.bx 1 0),(11,dI)],[.box [dI,dI,.nils,dI] true,.box [.sl 2,.nils,dI,dI,dI,dI] true,.own tL true]⟩ (.k [2,4,8,9,10,11] (.s (.s .o (.k [2,4,8,9,10,11,66] p0)) (.k [2,4,8,9,10,11] (.s (.b .o) (.k [2,4,8,9,10,11] .o)))))))) (.k [2,4,8,9,10] (.s .o (.k [8,12] (.s .o (.c 13 (.k [8,12,13] (.s (.s .o p1) (.k [8,12,13] p0)))))))))))))))))))) [.cell 8 36]
def sp9:FSp:=⟨[tM,.str,tL,tI],[tH],fun x=>F9 x.1 x.2.1 x.2.2.1 x.2.2.2⟩
theorem s9:Zbk pol P 9 sp9:=sO (a:=a9) Tryz.func9 (ZaM s20 Zbf) (imC s21 (imC s22 imN))
def a3:FA:=Zbe (Zaf pol) Tryz.f3 48 (.s .o (.s .o (.s .o (.c 10 (.k [1,2,3,10] (.s .o (.c 11 (.k [1,2,3,10,11] (.s .o (.k [1,2,3,10,11,12] (.s .o (.k [10,11,12,13] (.j ⟨[],[(8,dB)],[]⟩ .o .o))))))))))))) [.tmp 8]
def sp3:FSp:=⟨[tL,tI,tI,tI],[.bool],fun x=>F3 x.1 x.2.1 x.2.2.1 x.2.2.2⟩
theorem s3:Zbk pol P 3 sp3:=sO (a:=a3) Tryz.func3 (ZaM s4 (ZaM s5 (ZaM s6 (ZaM s7 (ZaM s8 (ZaM s9 (ZaM s10 Zbf))))))) imN
end Go.Proofs.YtipafbfdjfbkbaaGreatDoor
end
