/-
  The program's functions, annotated, and that they compute the plain functions. Printed by program.
-/
import Derived.Test.YtnhhmgpkldfpoaaGreatDoorSb
import Derived.Test.YtnhhmgpkldfpoaaGreatDoorFd
import Derived.Test.YtnhhmgpkldfpoaaGreatDoorPl0
noncomputable section
set_option linter.unusedVariables false
namespace Go.Proofs.YtnhhmgpkldfpoaaGreatDoor
open Go.Eng Go.Dat
def a10:FA:=Zbe (Zaf pol) Tryz.f10 22 (.s .o (.c 1 (.s .o (.s (.s .o (.b (.l ⟨[1],[(3,.sl 0),(4,dI)],[.own tI true]⟩ (.k [1,3,4] (.s (.s .o (.k [1,3,4,9] p0)) (.k [1,3,4] (.s (.b .o) (.k [1,3,4] .o)))))))) (.k [3] p0))))) [.tmp 2]
def ZBY:FSp:=⟨[tM],[tL],fun x=>F10 x⟩
theorem s10:Zbk pol P 10 ZBY:=sO (a:=a10) Tryz.func10 Zbf imN
def Z2M:FA:=Zbe (Zaf pol) Tryz.f138 31 (.s .o (.s (.s .o (.b (.j ⟨[0,4],[(5,dB)],[]⟩ (.s .o (.s .o (.s .o (.s .o (.s .o p0))))) (.k [0,4,5] (.s p0 (.j ⟨[0,4],[(10,dB)],[]⟩ (.s .o (.s .o (.s .o (.s .o (.s .o p0))))) (.k [0,4,10] (.s p0 (.j ⟨[0,4],[(15,dB)],[]⟩ (.s .o (.s .o (.s .o p0))) (.k [0,4,15] (.s p0 (.j ⟨[0,4],[(19,dB)],[]⟩ (.s .o p0) (.k [0,4,19] (.s p0 (.j ⟨[0],[(22,dB)],[]⟩ (.s .o p0) (.k [0,22] p1)))))))))))))))) (.k [0] (.s (.j ⟨[],[(30,dB)],[]⟩ .o (.k [30] p1)) (.k [] p0))))) [.tmp 2,.tmp 3]
def Z0W:FSp:=⟨[tI],[tI,.bool],fun x=>Z0j x⟩
theorem Z2N:Zbk pol P 138 Z0W:=sO (a:=Z2M) Tryz.func138 Zbf imN
def Z2O:FA:=Zbe (Zaf pol) Tryz.f139 6 (.s .o p0) [.tmp 2]
def Z0X:FSp:=⟨[tI],[tI],fun x=>ZsW x⟩
theorem Z0Y:Zbk pol P 139 Z0X:=sO (a:=Z2O) Tryz.func139 Zbf imN
def Z2P:FA:=Zbe (Zaf pol) Tryz.f140 21 (.s .o (.s (.s .o (.b (.l ⟨[0,1],[(5,dI)],[]⟩ (.k [0,1,5] (.s (.s .o (.k [0,1,5,9] p0)) (.k [0,1,5] (.s (.b (.s .o (.k [0,1,5,20] p1))) (.k [0,1,5] .o)))))))) (.k [] p0))) [.tmp 4]
def Z0Z:FSp:=⟨[tL,tL],[.bool],fun x=>ZvX x.1 x.2⟩
theorem Z2Q:Zbk pol P 140 Z0Z:=sO (a:=Z2P) Tryz.func140 Zbf imN
def Z2R:FA:=Zbe (Zaf pol) Tryz.f141 21 (.s .o (.s .o (.s (.s .o (.b (.l ⟨[0],[(3,.sl 0),(4,dI)],[.own tI true]⟩ (.k [0,3,4] (.s (.s .o p0) (.k [0,3,4] (.s (.b .o) (.k [0,3,4] .o)))))))) (.k [0,3] (.s .o (.k [3] p0)))))) [.tmp 2]
def Z1a:FSp:=⟨[tI],[tL],fun x=>Zxm x⟩
theorem Z2S:Zbk pol P 141 Z1a:=sO (a:=Z2R) Tryz.func141 (ZaM Z0Y Zbf) imN
def Z2T:FA:=Zbe (Zaf pol) Tryz.f142 22 (.s .o (.s (.s .o (.b (.s .o (.s p0 (.j ⟨[3],[(7,dB)],[]⟩ (.s .o (.s .o (.s .o p0))) (.k [3,7] (.s p0 (.s .o (.s p0 (.s .o (.s p0 (.s .o p1)))))))))))) (.k [] p0))) [.tmp 2]
def Z1b:FSp:=⟨[tI],[tL],fun x=>Zp6 x⟩
theorem Z2U:Zbk pol P 142 Z1b:=sO (a:=Z2T) Tryz.func142 Zbf imN
def Z4u:FA:=Zbe (Zaf pol) Tryz.f113 106 (.s .o (.c 2 (.s .o (.k [1,2,5,6] (.s (.j ⟨[1,2],[(26,dB)],[]⟩ .o (.k [1,2,26] p1)) (.k [1,2] (.s (.b (.s .o (.k [1,2,27] (.s (.j ⟨[],[(4,dB)],[]⟩ .o .o) (.s .o (.k [1,2,53] (.s (.s (.j ⟨[1],[(70,dB)],[]⟩ .o (.k [1,70] p1)) (.k [1] (.s (.s .o (.k [72,73,74] (.b (.l ⟨[72,73],[(74,dI)],[]⟩ (.k [72,73,74] (.s .o (.s p0 (.k [72,73,74] (.s (.b (.s .o (.s .o p1))) (.k [72,73,74] .o)))))))))) (.k [] p0)))) (.j ⟨[1,2],[(81,dB)],[]⟩ .o (.k [1,2,81] (.s (.j ⟨[],[(4,dB)],[]⟩ .o .o) .o)))))))))) (.k [1,2] p0)))))))) [.tmp 4]
def Z1A:FSp:=⟨[tn,tL],[.bool],fun x=>Z0u x.1 x.2⟩
theorem Z4v:Zbk pol P 113 Z1A:=sO (a:=Z4u) Tryz.func113 (ZaM Z2N (ZaM Z0Y (ZaM Z2Q (ZaM Z2S (ZaM Z2U Zbf))))) imN
def Z3c:FA:=Zbe (Zaf pol) Tryz.f114 53 (.s .o (.c 3 (.s .o (.j ⟨[3],[(5,dI)],[]⟩ (.s .o (.b (.s .o (.s p0 (.s .o (.s .o (.s .o (.s .o (.j ⟨[0,3,5,7],[(14,dB)],[]⟩ (.s .o p0) (.k [0,3,5,7,14] (.s .o (.s .o (.s (.j ⟨[],[(4,dB)],[]⟩ .o .o) (.s .o (.s .o (.s .o (.s .o (.s .o p0)))))))))))))))))) (.k [3,5] (.j ⟨[],[(4,dB)],[]⟩ .o .o)))))) [.tmp 4]
def Z1g:FSp:=⟨[tG,tn],[.bool],fun x=>Z0m x.1 x.2⟩
theorem Z3d:Zbk pol P 114 Z1g:=sO (a:=Z3c) Tryz.func114 (ZaM Z0Y Zbf) imN
def a75:FA:=Zbe (Zaf pol) Tryz.f75 80 (.s .o (.s .o (.c 7 (.k [0,1,2,7] (.s .o (.s (.s .o (.k [0,1,2,7,8,16,17,18] (.b (.l ⟨[0,1,2,7,16,17],[(8,.sl 0),(18,dI)],[.own tI true]⟩ (.k [0,1,2,7,8,16,17,18] (.s .o (.s p0 (.k [0,1,2,7,8,16,17,18] (.s (.b (.s .o (.s (.j ⟨[0,1,2,7,10,16,17,18],[(8,.sl 0),(35,dB)],[.own tI true]⟩ .o (.k [0,1,2,7,8,10,16,17,18,35] p1)) (.k [0,1,2,7,8,10,16,17,18] .o)))) (.k [0,1,2,7,8,16,17,18] .o)))))))))) (.k [0,7,8] (.s (.j ⟨[7],[(8,.sl 0),(53,dB)],[.own tI true]⟩ .o (.k [7,8,53] p1)) (.k [7,8] (.j ⟨[],[],[]⟩ (.s .o (.b (.s .o (.s p0 (.j ⟨[7,55],[(8,.sl 0),(58,dB)],[.own tI true]⟩ (.s .o (.s .o (.s .o (.s .o (.s .o (.s .o (.s .o p0))))))) (.k [7,8,55,58] (.s p0 (.s .o (.s p0 (.s .o (.s (.s .o (.k [74] p1)) (.s .o (.s (.s .o p1) .o))))))))))))) (.k [] p0))))))))))) [.tmp 6]
def Z3E:FSp:=⟨[tG,tI,tL],[tI],fun x=>F75 x.1 x.2.1 x.2.2⟩
theorem s75:Zbk pol P 75 Z3E:=sO (a:=a75) Tryz.func75 (ZaM Z4v (ZaM Z3d Zbf)) imN
def a43:FA:=Zbe (Zaf pol) Tryz.f43 22 (.s .o (.s .o (.k [0,3] (.s (.s .o (.b (.l ⟨[0,9],[(3,.sl 0),(10,dI)],[.own tI true]⟩ (.k [0,3,9,10] (.s .o (.s p0 (.k [0,3,9,10] (.s (.b p0) (.k [0,3,9,10] .o))))))))) (.k [3] p0))))) [.tmp 2]
def Z6p:FSp:=⟨[tG],[tL],fun x=>F43 x⟩
theorem s43:Zbk pol P 43 Z6p:=sO (a:=a43) Tryz.func43 (ZaM s75 Zbf) imN
def a20:FA:=Zbe (Zaf pol) Tryz.f20 21 (.s .o (.s (.j ⟨[0,1],[(12,dB)],[]⟩ .o (.k [0,1,12] p1)) (.k [0,1] p0))) [.tmp 4]
def Z3T:FSp:=⟨[tG,tI],[tI],fun x=>F20 x.1 x.2⟩
theorem s20:Zbk pol P 20 Z3T:=sO (a:=a20) Tryz.func20 (ZaM s43 Zbf) imN
def a21:FA:=Zbe (Zaf pol) Tryz.f21 7 (.s .o p0) [.tmp 2]
def Z42:Zbc:=⟨[.dat tL],[],0,[.bx 0 0],[],[.box [.nils,.mp 1,.dat tL] true,.map .str tI],fun (x:List Int)=>(F21 x:Option (List Int×List Y1))⟩
theorem s21:ZdA pol P 21 Z42:=mO (a:=a21) Tryz.func21 Zbf imN
def ZPL:FA:=Zbe (Zaf pol) Tryz.f152 15 (.s .o (.s (.s .o p1) (.k [0] p0))) [.tmp 2]
def ZOW:FSp:=⟨[tI],[.str],fun x=>ZOG x⟩
theorem ZPM:Zbk pol P 152 ZOW:=sO (a:=ZPL) Tryz.func152 Zbf imN
def ZPN:FA:=Zbe (Zaf pol) Tryz.f157 6 (.s .o p0) [.tmp 2]
def ZOX:FSp:=⟨[tI],[tI],fun x=>ZOU x⟩
theorem ZPO:Zbk pol P 157 ZOX:=sO (a:=ZPN) Tryz.func157 Zbf imN
def ZPP:FA:=Zbe (Zaf pol) Tryz.f158 25 (.s .o (.j ⟨[],[(0,.dat (.int .u64)),(2,dI)],[]⟩ (.s .o p1) (.k [0,2] (.j ⟨[],[(0,.dat (.int .u64)),(2,dI)],[]⟩ (.s .o p1) (.k [0,2] (.j ⟨[],[(0,.dat (.int .u64)),(2,dI)],[]⟩ (.s .o p1) (.k [0,2] p0))))))) [.tmp 2]
def ZOY:FSp:=⟨[(.int .u64)],[tI],fun x=>ZOH x⟩
theorem ZPQ:Zbk pol P 158 ZOY:=sO (a:=ZPP) Tryz.func158 Zbf imN
def ZPR:FA:=Zbe (Zaf pol) Tryz.f159 4 (.s .o (.s (.s .o p1) (.k [] p0))) [.tmp 2]
def ZOZ:FSp:=⟨[.bool],[tI],fun x=>ZOV x⟩
theorem ZPS:Zbk pol P 159 ZOZ:=sO (a:=ZPR) Tryz.func159 Zbf imN
def ZPT:FA:=Zbe (Zaf pol) Tryz.f153 15 (.s .o (.s .o (.k [0,3] p0))) [.tmp 2]
def ZPa:FSp:=⟨[(.int .u64)],[tI],fun x=>ZOI x⟩
theorem ZPU:Zbk pol P 153 ZPa:=sO (a:=ZPT) Tryz.func153 (ZaM ZPO (ZaM ZPQ (ZaM ZPS Zbf))) imN
def ZPV:FA:=Zbe (Zaf pol) Tryz.f154 167 (.s .o (.s (.b (.l ⟨[],[(0,.sl 0),(1,.dat (.int .u64)),(4,dI)],[.own (.int .u8) true]⟩ (.k [0,1,4] (.s (.s .o p0) (.k [0,1,4] (.b (.s .o (.k [0,1,4,5] (.s .o (.s .o (.k [0,1,4,6,7] (.s .o (.k [0,1,4,6,8,9] (.s .o (.k [0,1,4,8,9,10,11] (.s .o (.k [0,1,4,8,10,11] (.s .o (.k [0,1,4,10,11] (.s .o (.k [0,1,4,10] (.s .o (.k [0,1,4] .o))))))))))))))))))))))) (.k [0,1,4] (.s .o (.j ⟨[],[(0,.sl 0),(4,dI),(12,.dat (.int .u32))],[.own (.int .u8) true]⟩ (.s .o (.s (.s .o (.s .o (.s .o (.k [0,4,12,14,15] (.s .o (.k [0,4,12,14] (.s .o (.k [0,4,12] .o)))))))) .o)) (.k [0,4,12] (.j ⟨[],[(0,.sl 0),(4,dI),(12,.dat (.int .u32))],[.own (.int .u8) true]⟩ (.s .o (.s (.s .o (.k [0,4,12,16] (.s .o (.s .o (.k [0,4,12] .o))))) .o)) (.k [0,4,12] (.s .o p0))))))))) []
def ZPb:Zbc:=⟨[.sl 0,.dat (.int .u64)],[.own (.int .u8) true],1,[],[(0,.sl 0)],[.own (.int .u8) true],fun (x:Int×List Int)=>(ZOJ x.1 x.2:Option (List Int))⟩
theorem ZPW:ZdA pol P 154 ZPb:=mO (a:=ZPV) Tryz.func154 Zbf imN
def ZPX:FA:=Zbe (Zaf pol) Tryz.f143 36 (.s .o (.s (.s .o (.s (.s (.s .o p1) (.k [0,1] (.s .o (.s .o (.s .o (.k [0,7,8] p0)))))) .o)) (.k [0,1,2] (.s .o (.k [0] p0))))) [.tmp 6]
def ZPc:Zbc:=⟨[.sl 0,.dat (.int .u64),dI],[.own (.int .u8) true],0,[.sl 0],[],[.own (.int .u8) true],fun (x:Int×Int×List Int)=>(ZOK x.1 x.2.1 x.2.2:Option (List Int))⟩
theorem ZPY:ZdA pol P 143 ZPc:=mO (a:=ZPX) Tryz.func143 (ZaM ZPM (ZaM ZPU Zbf)) (imC ZPW imN)
def Z30:FA:=Zbe (Zaf pol) Tryz.f115 21 (.s .o (.s .o (.j ⟨[2],[(0,.sl 0),(7,.dat (.int .u64))],[.own (.int .u8) true]⟩ (.s .o (.s (.s .o (.k [0,2,7] .o)) .o)) (.k [0,2,7] p0)))) [.tmp 6]
def Z1r:Zbc:=⟨[.sl 0,dI,dI],[.own (.int .u8) true],0,[.sl 0],[],[.own (.int .u8) true],fun (x:Int×Int×List Int)=>(ZvZ x.1 x.2.1 x.2.2:Option (List Int))⟩
theorem Z31:ZdA pol P 115 Z1r:=mO (a:=Z30) Tryz.func115 Zbf (imC ZPY imN)
def a76:FA:=Zbe (Zaf pol) Tryz.f76 11 (.s .o p0) [.tmp 6]
def Z29:Zbc:=⟨[.sl 0,dI,dI],[.own (.int .u8) true],0,[.sl 0],[],[.own (.int .u8) true],fun (x:Int×Int×List Int)=>(F76 x.1 x.2.1 x.2.2:Option (List Int))⟩
theorem s76:ZdA pol P 76 Z29:=mO (a:=a76) Tryz.func76 Zbf (imC Z31 imN)
def a44:FA:=Zbe (Zaf pol) Tryz.f44 77 (.s .o (.s .o (.s .o (.k [0,1,2,3,9] (.s (.s .o (.b (.l ⟨[1,2,22],[(0,.bx 0 0),(3,.sl 1),(9,.sl 2),(21,.sl 1),(23,dI)],[.box [.sl 3,.mp 4,.dat tL] true,.own tI true,.own (.int .u8) true,.own tn true,.map .str tI]⟩ (.k [0,1,2,3,9,21,22,23] (.s .o (.s p0 (.k [0,1,2,3,9,21,22,23] (.s (.b p0) (.k [0,1,2,3,9,21,22,23] .o))))))))) (.k [0,1,2,3,9] (.s (.s .o (.k [0,1,2,3,9,12,13] (.s .o p1))) (.k [0,1,2,3,9] (.s .o (.k [0,1,2,3] (.s .o (.k [0] p0)))))))))))) [.tmp 8]
def Z4q:Zbc:=⟨[.bx 0 0,dI,dI,.sl 1],[.box [.sl 2,.mp 3,.dat tL] true,.own tI true,.own tn true,.map .str tI],1,[dI],[(0,.bx 0 0)],[.box [.sl 1,.mp 2,.dat tL] true,.own tn true,.map .str tI],fun (x:Int×Int×List Int×List Int×TN×List Y1)=>(F44 x.1 x.2.1 x.2.2.1 x.2.2.2.1 x.2.2.2.2.1 x.2.2.2.2.2:Option Y8)⟩
theorem s44:ZdA pol P 44 Z4q:=mO (a:=a44) Tryz.func44 Zbf (imC s76 imN)
def a45:FA:=Zbe (Zaf pol) Tryz.f45 8 (.s .o p0) [.tmp 4]
def Z3B:Zbc:=⟨[.bx 0 0,dI],[.box [.sl 1,.mp 2,.dat tL] true,.own tn true,.map .str tI],1,[dI],[(0,.bx 0 0)],[.box [.sl 1,.mp 2,.dat tL] true,.own tn true,.map .str tI],fun (x:Int×List Int×TN×List Y1)=>(F45 x.1 x.2.1 x.2.2.1 x.2.2.2:Option Y8)⟩
theorem s45:ZdA pol P 45 Z3B:=mO (a:=a45) Tryz.func45 Zbf (imC s44 imN)
def a78:FA:=Zbe (Zaf pol) Tryz.f78 24 (.s .o (.s .o (.c 7 (.k [2,7,0] (.j ⟨[],[(0,.bx 0 0),(6,dB)],[.box [.sl 1,.mp 2,.dat tL] true,.own tn true,.map .str tI]⟩ .o .o))))) [.tmp 6]
def Z3V:Zbc:=⟨[.bx 0 0,dI,dI],[.box [.sl 1,.mp 2,.dat tL] true,.own tn true,.map .str tI],1,[dB],[(0,.bx 0 0)],[.box [.sl 1,.mp 2,.dat tL] true,.own tn true,.map .str tI],fun (x:Int×Int×List Int×TN×List Y1)=>(F78 x.1 x.2.1 x.2.2.1 x.2.2.2.1 x.2.2.2.2:Option Y10)⟩
theorem s78:ZdA pol P 78 Z3V:=mO (a:=a78) Tryz.func78 Zbf imN
def q77a:List CS:=[.box [.sl 1,.mp 2,.dat tL] true,.own tn true,.map .str tI]
def a77:FA:=Zbe (Zaf pol) Tryz.f77 65 (.s .o (.s .o (.c 7 (.k [0,7] (.s (.s .o p1) (.k [0,7] (.s (.s .o (.b (.l ⟨[7],[(0,.bx 0 0),(8,dI)],q77a⟩ (.k [0,7,8] (.s (.s .o p0) (.k [0,7,8] (.s (.b (.s .o (.k [0,7,8,9,10] (.s .o (.c 11 (.k [0,7,8,9,10,11] (.j ⟨[7,8,9,10],[(0,.bx 0 0),(62,dB)],q77a⟩ .o (.k [0,7,8,9,10,62] p1)))))))) (.k [0,7,8] .o)))))))) (.k [0] p0)))))))) [.tmp 4,.tmp 5,.tmp 6]
def Z3U:Zbc:=⟨[.bx 0 0,dI],[.box [.sl 1,.mp 2,.dat tL] true,.own tn true,.map .str tI],1,[dI,dI,dB],[(0,.bx 0 0)],[.box [.sl 1,.mp 2,.dat tL] true,.own tn true,.map .str tI],fun (x:Int×List Int×TN×List Y1)=>(F77 x.1 x.2.1 x.2.2.1 x.2.2.2:Option Y30)⟩
theorem s77:ZdA pol P 77 Z3U:=mO (a:=a77) Tryz.func77 Zbf (imC s78 imN)
def a80:FA:=Zbe (Zaf pol) Tryz.f80 34 (.s .o (.s (.j ⟨[1],[(0,.bx 0 0),(26,dB)],[.box [.sl 1,.mp 2,.dat tL] true,.own tn true,.map .str tI]⟩ .o (.k [0,1,26] p1)) (.k [0,1] p0))) [.tmp 4,.tmp 5]
def Z4c:Zbc:=⟨[.bx 0 0,dI],[.box [.sl 1,.mp 2,.dat tL] true,.own tn true,.map .str tI],1,[dI,dB],[(0,.bx 0 0)],[.box [.sl 1,.mp 2,.dat tL] true,.own tn true,.map .str tI],fun (x:Int×List Int×TN×List Y1)=>(F80 x.1 x.2.1 x.2.2.1 x.2.2.2:Option Y14)⟩
theorem s80:ZdA pol P 80 Z4c:=mO (a:=a80) Tryz.func80 Zbf imN
def a47:FA:=Zbe (Zaf pol) Tryz.f47 48 (.s .o (.s .o (.c 9 (.k [0,2,3,9] (.s .o (.k [0,2,9,10,11] (.j ⟨[],[(0,.bx 0 0),(8,dB)],[.box [.sl 1,.mp 2,.dat tL] true,.own tn true,.map .str tI]⟩ .o .o))))))) [.tmp 8]
def Z3e:Zbc:=⟨[.bx 0 0,dI,dI,dI],[.box [.sl 1,.mp 2,.dat tL] true,.own tn true,.map .str tI],1,[dB],[(0,.bx 0 0)],[.box [.sl 1,.mp 2,.dat tL] true,.own tn true,.map .str tI],fun (x:Int×Int×Int×List Int×TN×List Y1)=>(F47 x.1 x.2.1 x.2.2.1 x.2.2.2.1 x.2.2.2.2.1 x.2.2.2.2.2:Option Y10)⟩
theorem s47:ZdA pol P 47 Z3e:=mO (a:=a47) Tryz.func47 Zbf (imC s78 (imC s80 imN))
def a79:FA:=Zbe (Zaf pol) Tryz.f79 30 (.s .o (.s .o (.c 9 (.k [0,2,3,9] (.j ⟨[],[(0,.bx 0 0),(8,dB)],[.box [.sl 1,.mp 2,.dat tL] true,.own tn true,.map .str tI]⟩ .o .o))))) [.tmp 8]
def Z3W:Zbc:=⟨[.bx 0 0,dI,dI,dI],[.box [.sl 1,.mp 2,.dat tL] true,.own tn true,.map .str tI],1,[dB],[(0,.bx 0 0)],[.box [.sl 1,.mp 2,.dat tL] true,.own tn true,.map .str tI],fun (x:Int×Int×Int×List Int×TN×List Y1)=>(F79 x.1 x.2.1 x.2.2.1 x.2.2.2.1 x.2.2.2.2.1 x.2.2.2.2.2:Option Y10)⟩
theorem s79:ZdA pol P 79 Z3W:=mO (a:=a79) Tryz.func79 Zbf (imC s47 imN)
def q46a:List CS:=[.box [.sl 1,.mp 2,.dat tL] true,.own tn true,.map .str tI]
def a46:FA:=Zbe (Zaf pol) Tryz.f46 124 (.s .o (.s .o (.c 9 (.c 8 (.k [0,2,8,9] (.j ⟨[],[(0,.bx 0 0)],q46a⟩ (.s .o (.b (.j ⟨[2,8,9,29],[(0,.bx 0 0),(30,dB)],q46a⟩ (.s .o p0) (.k [0,2,8,9,29,30] (.s (.s .o (.k [0,8,9,10,11,12] (.j ⟨[8,10],[(0,.bx 0 0),(64,dB)],q46a⟩ .o (.k [0,8,10,64] p1)))) (.s .o (.s (.s .o (.c 13 (.k [0,2,8,13] (.j ⟨[8,13],[(0,.bx 0 0),(110,dB)],q46a⟩ .o (.k [0,8,13,110] p1))))) .o))))))) (.k [0] p0))))))) [.tmp 6,.tmp 7]
theorem ZKs:ZqA P pol (Zaf pol) 46 3 a46:=⟨⟨_,_,Tryz.func46,rfl,rfl,rfl,by kernel_rfl⟩,by decide⟩
theorem ZKt:a46.c.ok=true:=by kernel_rfl
def ZJi (n:Nat):Zbc:=⟨[.bx 0 0,dI,dI],[.box [.sl 1,.mp 2,.dat tL] true,.own tn true,.map .str tI],1,[dI,dB],[(0,.bx 0 0)],[.box [.sl 1,.mp 2,.dat tL] true,.own tn true,.map .str tI],fun (x:Int×Int×List Int×TN×List Y1)=>(E46 (N22 n) x.1 x.2.1 x.2.2.1 x.2.2.2.1 x.2.2.2.2:Option Y14)⟩
theorem ZKu (n:Nat) (hh:ZdA pol P 22 (ZDo n)):ZdA pol P 46 (ZJi n):=mOf (a:=a46) (sp:=ZJi n) ZKs rfl ZKt (by kernel_rfl) (by kernel_rfl) (by kernel_rfl) rfl rfl (by kernel_rfl) Zbf (imC hh (imC s77 (imC s78 (imC s79 imN)))) (fun x=>by kernel_rfl)
def q22a:List CS:=[.box [.sl 2,.mp 3,.dat tL] true,.own tI true,.own tn true,.map .str tI]
def a22:FA:=Zbe (Zaf pol) Tryz.f22 155 (.s .o (.j ⟨[1,2],[(0,.bx 0 0),(3,.sl 1)],q22a⟩ (.s .o (.b (.s .o (.s (.s .o (.c 10 (.c 9 (.k [0,1,2,3,9,10] (.j ⟨[1,2],[(0,.bx 0 0),(3,.sl 1),(53,dB)],q22a⟩ .o (.k [0,1,2,3,53] p1)))))) (.s .o (.s (.s .o (.c 11 (.k [0,1,2,3,11] (.s .o p1)))) (.s .o (.s (.s .o (.k [0,1,2,3,12,13] (.s .o p1))) (.s .o (.s (.s .o (.k [0,1,2,3,14,15,16] (.s (.s .o p1) (.k [0,1,2,3,14,15,16] (.s .o (.c 17 (.k [0,1,2,3,14,15,16,17] (.j ⟨[1,2,15],[(0,.bx 0 0),(3,.sl 1),(148,dB)],q22a⟩ .o (.k [0,1,2,3,15,148] p1))))))))) .o)))))))))) (.k [0,1,2,3] p0))) [.tmp 8]
theorem ZEY:ZqA P pol (Zaf pol) 22 4 a22:=⟨⟨_,_,Tryz.func22,rfl,rfl,rfl,by kernel_rfl⟩,by decide⟩
theorem ZEZ:a22.c.ok=true:=by kernel_rfl
def Z43:Zbc:=ZDo 3000
theorem ZET:∀ n,ZdA pol P 22 (ZDo n)
 | 0=>ino (by kernel_rfl) (by kernel_rfl) (by kernel_rfl) (fun _=>rfl)
 | n+1=>mOf (a:=a22) (sp:=ZDo (n+1)) ZEY rfl ZEZ (by kernel_rfl) (by kernel_rfl) (by kernel_rfl) rfl rfl (by kernel_rfl) Zbf (imC (ZET n) (imC s44 (imC s45 (imC (ZKu n (ZET n)) (imC s47 imN))))) (fun x=>by kernel_rfl)
theorem s22:ZdA pol P 22 Z43:=ZET 3000
def a48:FA:=Zbe (Zaf pol) Tryz.f48 54 (.s (.s .o (.k [0,1,2,3,4,14] p0)) (.k [0,1,2,3,4] (.s .o (.c 6 (.k [0,1,3,4,6,2] (.s .o (.s (.s .o (.k [0,1,3,4,6,7,23,24,25,2] (.b (.l ⟨[0,6,23,24],[(1,.bx 0 0),(2,.bx 1 0),(3,.bx 2 0),(4,.bx 3 0),(7,.sl 4),(25,dI)],[.box [.sl 5] true,.box [.bx 6 0] true,.box [.fn 48 [] [.bx 0 0,.bx 1 0,.bx 2 0,.bx 3 0]] true,.box [.sl 7] true,.own tI true,.own tI true,.box [.sl 8,.mp 9,.dat tL] true,.own tn true,.own tn true,.map .str tI]⟩ (.k [0,1,3,4,6,7,23,24,25,2] (.s .o (.s p0 (.k [0,1,3,4,6,7,23,24,25,2] (.s (.b (.s .o p0)) (.k [0,1,3,4,6,7,23,24,25,2] .o)))))))))) (.k [0,1,4,6,7,2,3] (.s .o (.k [4,6,7,1,2,3] .o)))))))))) []
theorem ZPZ:ZqA P pol (Zaf pol) 48 5 a48:=⟨⟨_,_,Tryz.func48,rfl,rfl,rfl,by kernel_rfl⟩,by decide⟩
theorem ZQa:a48.c.ok=true:=by kernel_rfl
def ZN2 (n:Nat):Zbc:=⟨[dI,.bx 0 0,.bx 1 0,.bx 2 0,.bx 3 0],[.box [.sl 4] true,.box [.bx 5 0] true,.box [.fn 48 [] [.bx 0 0,.bx 1 0,.bx 2 0,.bx 3 0]] true,.box [.sl 6] true,.own tI true,.box [.sl 7,.mp 8,.dat tL] true,.own tn true,.own tn true,.map .str tI],4,[],[(1,.bx 0 0),(2,.bx 1 0),(3,.bx 2 0),(4,.bx 3 0)],[.box [.sl 4] true,.box [.bx 5 0] true,.box [.fn 48 [] [.bx 0 0,.bx 1 0,.bx 2 0,.bx 3 0]] true,.box [.sl 6] true,.own tI true,.box [.sl 7,.mp 8,.dat tL] true,.own tn true,.own tn true,.map .str tI],fun (x:Int×List Int×List Int×TN×TN×List Y1)=>(N48 n x.1 x.2.1 x.2.2.1 x.2.2.2.1 x.2.2.2.2.1 x.2.2.2.2.2:Option Y19)⟩
def ZBL:Zbc:=ZN2 3000
theorem ZP9:∀ n,ZdA pol P 48 (ZN2 n)
 | 0=>ino (by kernel_rfl) (by kernel_rfl) (by kernel_rfl) (fun _=>rfl)
 | n+1=>mOf (a:=a48) (sp:=ZN2 (n+1)) ZPZ rfl ZQa (by kernel_rfl) (by kernel_rfl) (by kernel_rfl) rfl rfl (by kernel_rfl) Zbf (imC (ZP9 n) imN) (fun x=>by kernel_rfl)
theorem s48:ZdA pol P 48 ZBL:=ZP9 3000
def a23:FA:=Zbe (Zaf pol) Tryz.f23 44 (.s .o (.k [1,2,3] (.s .o (.k [1,2,3,9] (.s (.s .o (.b (.l ⟨[1,2,20],[(3,.bx 0 0),(9,.bx 1 0),(21,dI)],[.box [.bx 2 0] true,.box [.sl 3] true,.box [.sl 4,.mp 5,.dat tL] true,.own tI true,.own tn true,.map .str tI]⟩ (.k [1,2,3,9,20,21] (.s .o (.s p0 (.k [1,2,3,9,20,21] (.s (.b p0) (.k [1,2,3,9,20,21] .o))))))))) (.k [1,2,3,9] (.s .o (.s .o (.s .o (.s .o (.s .o p0))))))))))) [.tmp 6,.tmp 7,.tmp 8]
def Z46:Zbc:=⟨[.bx 0 0,dI,dI],[.box [.sl 1,.mp 2,.dat tL] true,.own tn true,.map .str tI],0,[.sl 0,dI,dI],[],[.own tn true],fun (x:Int×Int×List Int×TN×List Y1)=>(F23 x.1 x.2.1 x.2.2.1 x.2.2.2.1 x.2.2.2.2:Option (Int×Int×TN))⟩
theorem s23:ZdA pol P 23 Z46:=mO (a:=a23) Tryz.func23 Zbf (imC s48 imN)
def a11:FA:=Zbe (Zaf pol) Tryz.f11 107 (.s .o (.c 2 (.s (.s .o (.k [1,2,4,16,17] (.b (.l ⟨[1,2,16],[(4,.bx 0 0),(17,dI)],[.box [.dat .str,dI,.nils,dI,dI] true]⟩ (.k [1,2,4,16,17] (.s .o (.s p0 (.k [1,2,4,16,17] (.s (.b (.s .o (.s .o (.k [1,2,4,16,17,24] p1)))) (.k [1,2,4,16,17] .o)))))))))) (.k [1,2,4] (.s (.j ⟨[1,2],[(4,.bx 0 0),(40,dB)],[.box [.dat .str,dI,.nils,dI,dI] true]⟩ .o (.k [1,2,4,40] p1)) (.k [1,2,4] (.s .o (.s .o (.k [2,4,6,7] (.s (.s .o (.k [2,4,6,7,49,50,51] (.b (.l ⟨[2,49,50],[(4,.bx 0 0),(6,.bx 1 0),(7,.sl 2),(51,dI)],[.box [.dat .str,dI,.nils,dI,dI] true,.box [.sl 3,.mp 4,.dat tL] true,.own tI true,.own tn true,.map .str tI]⟩ (.k [2,4,6,7,49,50,51] (.s .o (.s p0 (.k [2,4,6,7,49,50,51] (.s (.b (.s .o (.c 9 (.k [2,4,6,7,8,9,49,50,51] (.s .o (.s (.s .o (.k [2,4,6,7,8,9,10,49,50,51,57,58,59] (.b (.l ⟨[2,8,9,49,50,51,57,58],[(4,.bx 0 0),(6,.bx 1 0),(7,.sl 2),(10,.sl 3),(59,dI)],[.box [.dat .str,dI,.nils,dI,dI] true,.box [.sl 4,.mp 5,.dat tL] true,.own tI true,.own tI true,.own tn true,.map .str tI]⟩ (.k [2,4,6,7,8,9,10,49,50,51,57,58,59] (.s .o (.s p0 (.k [2,4,6,7,8,9,10,49,50,51,57,58,59] (.s (.b p0) (.k [2,4,6,7,8,9,10,49,50,51,57,58,59] .o)))))))))) (.k [2,4,6,7,8,9,10,49,50,51] .o))))))) (.k [2,4,6,7,49,50,51] .o)))))))))) (.k [2,4,6,7] (.s .o (.k [2,4,6,7,13] (.s .o (.k [4,13] p0))))))))))))))) [.cell 4 30]
def Z5Y:FSp:=⟨[tD,tL],[tD],fun x=>F11 x.1 x.2⟩
theorem s11:Zbk pol P 11 Z5Y:=sO (a:=a11) Tryz.func11 (ZaM s20 Zbf) (imC s21 (imC s22 (imC s23 imN)))
def a42:FA:=Zbe (Zaf pol) Tryz.f42 45 (.s .o (.c 3 (.c 2 (.s (.j ⟨[2,3],[(26,dB)],[]⟩ .o (.k [2,3,26] p1)) (.k [2,3] (.s (.s .o (.b (.l ⟨[2,3],[(5,dI)],[]⟩ (.k [2,3,5] (.s (.s .o (.k [2,3,5,31] p0)) (.k [2,3,5] (.s (.b (.s .o (.k [2,3,5,44] p1))) (.k [2,3,5] .o)))))))) (.k [] p0))))))) [.tmp 4]
def Z4p:FSp:=⟨[tn,tn],[.bool],fun x=>F42 x.1 x.2⟩
theorem s42:Zbk pol P 42 Z4p:=sO (a:=a42) Tryz.func42 Zbf imN
def a27:FA:=Zbe (Zaf pol) Tryz.f27 27 (.s .o (.s (.s .o (.k [0,1,10] p1)) (.k [0,1] (.s (.s .o (.b (.l ⟨[0,1],[(5,dI)],[]⟩ (.k [0,1,5] (.s (.s .o (.k [0,1,5,14] p0)) (.k [0,1,5] (.s (.b (.s .o (.k [0,1,5,26] p1))) (.k [0,1,5] .o)))))))) (.k [] p0))))) [.tmp 4]
def Z6g:FSp:=⟨[tG,tG],[.bool],fun x=>F27 x.1 x.2⟩
theorem s27:Zbk pol P 27 Z6g:=sO (a:=a27) Tryz.func27 (ZaM s42 Zbf) imN
def a13:FA:=Zbe (Zaf pol) Tryz.f13 31 (.s .o (.c 3 (.c 2 (.j ⟨[],[(4,dB)],[]⟩ .o .o)))) [.tmp 4]
def Z5Z:FSp:=⟨[tD,tD],[.bool],fun x=>F13 x.1 x.2⟩
theorem s13:Zbk pol P 13 Z5Z:=sO (a:=a13) Tryz.func13 (ZaM s27 Zbf) imN
def Z4g:FA:=Zbe (Zaf pol) Tryz.f103 78 (.s .o (.s .o (.s (.s .o (.b (.l ⟨[0,1],[(7,dI),(8,dI),(9,dI),(10,dI)],[]⟩ (.k [0,1,7,8,9,10] (.s (.s .o (.k [0,1,7,8,9,10,20] p0)) (.k [0,1,7,8,9,10] (.s (.b (.s .o (.s .o (.k [0,1,7,8,9,10] (.j ⟨[0,1,7,9,10],[(8,dI)],[]⟩ (.s .o (.k [0,1,7,8,9,10,33] p0)) (.k [0,1,7,8,9,10] (.s .o (.k [0,1,7,8,9,10,11,12,13] (.s .o (.k [0,1,7,8,9,10,11,12,13,14,15,16] .o)))))))))) (.k [0,1,7,8,9,10] .o)))))))) (.k [7,8,9] p0)))) [.tmp 4,.tmp 5,.tmp 6]
theorem ZPd:ZqA P pol (Zaf pol) 103 2 Z4g:=⟨⟨_,_,Tryz.func103,rfl,rfl,rfl,by kernel_rfl⟩,by decide⟩
theorem ZPe:Z4g.c.ok=true:=by kernel_rfl
def ZMl (n:Nat):FSp:=⟨[tH,tI],[tI,tI,tI],fun x=>ZNT n x.1 x.2⟩
def Z13:FSp:=ZMl 1000
theorem ZOl:∀ n,Zbk pol P 103 (ZMl n)
 | 0=>fun x r h=>by cases h
 | n+1=>sOf (a:=Z4g) (sp:=ZMl (n+1)) ZPd (fun _=>rfl) ZPe rfl rfl (ZaM (ZOl n) Zbf) imN (fun x=>by kernel_rfl)
theorem ZyT:Zbk pol P 103 Z13:=ZOl 1000
def Z4j:FA:=Zbe (Zaf pol) Tryz.f105 22 (.s .o (.c 1 (.s .o (.s (.s .o (.b (.l ⟨[1],[(3,dI),(4,dI)],[]⟩ (.k [1,3,4] (.s (.s .o (.k [1,3,4,9] p0)) (.k [1,3,4] (.s (.b .o) (.k [1,3,4] .o)))))))) (.k [3] p0))))) [.tmp 2]
theorem ZPf:ZqA P pol (Zaf pol) 105 1 Z4j:=⟨⟨_,_,Tryz.func105,rfl,rfl,rfl,by kernel_rfl⟩,by decide⟩
theorem ZPg:Z4j.c.ok=true:=by kernel_rfl
def ZMm (n:Nat):FSp:=⟨[tE],[tI],fun x=>ZNO n x⟩
def Z15:FSp:=ZMm 1000
theorem ZOm:∀ n,Zbk pol P 105 (ZMm n)
 | 0=>fun x r h=>by cases h
 | n+1=>sOf (a:=Z4j) (sp:=ZMm (n+1)) ZPf (fun _=>rfl) ZPg rfl rfl (ZaM (ZOm n) Zbf) imN (fun x=>by kernel_rfl)
theorem Z4k:Zbk pol P 105 Z15:=ZOm 1000
def Z4h:FA:=Zbe (Zaf pol) Tryz.f104 50 (.s .o (.s (.s .o (.b (.l ⟨[0],[(3,dI)],[]⟩ (.k [0,3] (.s (.s .o (.k [0,3,9] p0)) (.k [0,3] (.s (.b (.s .o (.c 4 (.k [0,3,4] (.s (.j ⟨[0,3,4],[(35,dB)],[]⟩ .o (.k [0,3,4,35] p1)) (.k [0,3,4] (.s .o (.b (.l ⟨[0,3,4],[(5,dI)],[]⟩ (.k [0,3,4,5] (.s (.s .o (.k [0,3,4,5,40] p0)) (.k [0,3,4,5] (.s (.b (.s .o (.k [0,3,4,5,49] p1))) (.k [0,3,4,5] .o)))))))))))))) (.k [0,3] .o)))))))) (.k [] p0))) [.tmp 2]
theorem ZPh:ZqA P pol (Zaf pol) 104 1 Z4h:=⟨⟨_,_,Tryz.func104,rfl,rfl,rfl,by kernel_rfl⟩,by decide⟩
theorem ZPi:Z4h.c.ok=true:=by kernel_rfl
def ZMn (n:Nat):FSp:=⟨[tH],[.bool],fun x=>ZOB n x⟩
def Z14:FSp:=ZMn 1000
theorem ZOn:∀ n,Zbk pol P 104 (ZMn n)
 | 0=>fun x r h=>by cases h
 | n+1=>sOf (a:=Z4h) (sp:=ZMn (n+1)) ZPh (fun _=>rfl) ZPi rfl rfl (ZaM (ZOn n) (ZaM Z4k Zbf)) imN (fun x=>by kernel_rfl)
theorem Z4i:Zbk pol P 104 Z14:=ZOn 1000
def a62:FA:=Zbe (Zaf pol) Tryz.f62 94 (.s .o (.c 1 (.s (.j ⟨[1],[(18,dB)],[]⟩ .o (.k [1,18] p1)) (.k [1] (.s (.s .o (.b (.l ⟨[1],[(3,dI)],[]⟩ (.k [1,3] (.s (.s .o (.k [1,3,23] p0)) (.k [1,3] (.s (.b (.j ⟨[1,3],[(41,dB)],[]⟩ .o (.k [1,3,41] p1))) (.k [1,3] .o)))))))) (.k [1] (.s (.s .o (.b (.l ⟨[1],[(4,dI)],[]⟩ (.k [1,4] (.s (.s .o (.k [1,4,46] p0)) (.k [1,4] (.s (.b (.s .o (.c 5 (.k [1,4,5] (.s .o (.k [1,4,5,6,7,8] (.j ⟨[1,4],[(93,dB)],[]⟩ .o (.k [1,4,93] p1)))))))) (.k [1,4] .o)))))))) (.k [] p0)))))))) [.tmp 2]
def Z6f:FSp:=⟨[tF],[.bool],fun x=>F62 x⟩
theorem s62:Zbk pol P 62 Z6f:=sO (a:=a62) Tryz.func62 (ZaM ZyT (ZaM Z4i (ZaM Z4k Zbf))) imN
def ZQe:FA:=Zbe (Zaf pol) Tryz.f148 21 (.s .o (.j ⟨[],[(2,dB)],[]⟩ .o .o)) [.tmp 2]
def ZPj:FSp:=⟨[(.int .u8)],[.bool],fun x=>ZP6 x⟩
theorem ZQf:Zbk pol P 148 ZPj:=sO (a:=ZQe) Tryz.func148 Zbf imN
def ZQg:FA:=Zbe (Zaf pol) Tryz.f149 9 (.s .o (.j ⟨[],[(2,dB)],[]⟩ .o .o)) [.tmp 2]
def ZPk:FSp:=⟨[(.int .u8)],[.bool],fun x=>ZP7 x⟩
theorem ZQh:Zbk pol P 149 ZPk:=sO (a:=ZQg) Tryz.func149 Zbf imN
def ZQi:FA:=Zbe (Zaf pol) Tryz.f133 34 (.s .o (.s (.s .o (.b (.l ⟨[0],[(3,dI)],[]⟩ (.k [0,3] (.s (.s .o (.k [0,3,7] p0)) (.k [0,3] (.s (.b (.j ⟨[0,3],[(25,dB)],[]⟩ .o (.k [0,3,25] p1))) (.k [0,3] .o)))))))) (.k [0] (.j ⟨[],[(2,dB)],[]⟩ .o .o)))) [.tmp 2]
def ZPl:FSp:=⟨[.str],[.bool],fun x=>ZOO x⟩
theorem ZOL:Zbk pol P 133 ZPl:=sO (a:=ZQi) Tryz.func133 (ZaM ZQf (ZaM ZQh Zbf)) imN
def Z2V:FA:=Zbe (Zaf pol) Tryz.f134 18 (.s .o (.s .o (.s (.s .o (.b (.l ⟨[0],[(3,.sl 0),(4,dI)],[.own .str true]⟩ (.k [0,3,4] (.s (.s .o (.k [0,3,4,9] p0)) (.k [0,3,4] (.s (.b (.s .o (.k [0,3,4,17] p1))) (.k [0,3,4] .o)))))))) (.k [] p0)))) [.tmp 2]
def Z1c:FSp:=⟨[.str],[.bool],fun x=>ZgQ x⟩
theorem Z2W:Zbk pol P 134 Z1c:=sO (a:=Z2V) Tryz.func134 Zbf imN
def Z3s:FA:=Zbe (Zaf pol) Tryz.f106 10 (.s .o (.j ⟨[],[(2,dB)],[]⟩ .o .o)) [.tmp 2]
def Z1o:FSp:=⟨[.str],[.bool],fun x=>Z0Q x⟩
theorem Z3t:Zbk pol P 106 Z1o:=sO (a:=Z3s) Tryz.func106 (ZaM ZOL (ZaM Z2W Zbf)) imN
def ZQj:FA:=Zbe (Zaf pol) Tryz.f136 9 (.s .o (.j ⟨[],[(2,dB)],[]⟩ .o .o)) [.tmp 2]
def ZPm:FSp:=⟨[tI],[.bool],fun x=>ZOP x⟩
theorem ZQk:Zbk pol P 136 ZPm:=sO (a:=ZQj) Tryz.func136 Zbf imN
def Z3I:FA:=Zbe (Zaf pol) Tryz.f108 128 (.s .o (.c 1 (.s (.s .o (.b (.l ⟨[1],[(3,dI)],[]⟩ (.k [1,3] (.s (.s .o (.k [1,3,9] p0)) (.k [1,3] (.s (.b (.s .o (.k [1,3,18] p1))) (.k [1,3] .o)))))))) (.k [1] (.s .o (.k [1,4] (.s (.s .o (.b (.s .o (.s (.j ⟨[],[(2,dB)],[]⟩ .o .o) (.s .o (.s (.j ⟨[],[(2,dB)],[]⟩ .o .o) (.s .o (.s (.j ⟨[],[(2,dB)],[]⟩ .o .o) (.s .o (.s (.j ⟨[],[(2,dB)],[]⟩ .o .o) (.s .o (.s (.j ⟨[],[(2,dB)],[]⟩ .o .o) .o)))))))))))) (.k [] p0)))))))) [.tmp 2]
theorem ZPn:ZqA P pol (Zaf pol) 108 1 Z3I:=⟨⟨_,_,Tryz.func108,rfl,rfl,rfl,by kernel_rfl⟩,by decide⟩
theorem ZPo:Z3I.c.ok=true:=by kernel_rfl
def ZMo (n:Nat):FSp:=⟨[tE],[.bool],fun x=>ZOC n x⟩
def Z1t:FSp:=ZMo 1000
theorem ZOo:∀ n,Zbk pol P 108 (ZMo n)
 | 0=>fun x r h=>by cases h
 | n+1=>sOf (a:=Z3I) (sp:=ZMo (n+1)) ZPn (fun _=>rfl) ZPo rfl rfl (ZaM (ZOo n) (ZaM Z3t (ZaM ZQk Zbf))) imN (fun x=>by kernel_rfl)
theorem Z1u:Zbk pol P 108 Z1t:=ZOo 1000
def ZQl:FA:=Zbe (Zaf pol) Tryz.f150 27 (.s .o (.c 1 (.j ⟨[],[(2,dB)],[]⟩ .o .o))) [.tmp 2]
def ZPp:FSp:=⟨[tE],[.bool],fun x=>ZMH x⟩
theorem ZPA:Zbk pol P 150 ZPp:=sO (a:=ZQl) Tryz.func150 Zbf imN
def ZQm:FA:=Zbe (Zaf pol) Tryz.f151 27 (.s .o (.c 1 (.j ⟨[],[(2,dB)],[]⟩ .o .o))) [.tmp 2]
def ZPq:FSp:=⟨[tC],[.bool],fun x=>ZNz x⟩
theorem ZQn:Zbk pol P 151 ZPq:=sO (a:=ZQm) Tryz.func151 (ZaM ZPA Zbf) imN
def Z2X:FA:=Zbe (Zaf pol) Tryz.f135 202 (.s .o (.c 1 (.s (.s .o (.b (.l ⟨[1],[(3,dI)],[]⟩ (.k [1,3] (.s (.s .o (.k [1,3,9] p0)) (.k [1,3] (.s (.b (.s .o (.k [1,3,18] p1))) (.k [1,3] .o)))))))) (.k [1] (.j ⟨[1],[(4,dB)],[]⟩ .o (.k [1,4] (.s (.s .o (.b (.s .o (.s (.j ⟨[],[(2,dB)],[]⟩ .o .o) (.s .o (.s (.j ⟨[],[(2,dB)],[]⟩ .o .o) (.s .o (.s (.j ⟨[],[(2,dB)],[]⟩ .o .o) (.s .o (.s (.j ⟨[],[(2,dB)],[]⟩ .o .o) (.s .o (.s (.j ⟨[],[(2,dB)],[]⟩ .o .o) (.s .o (.s (.j ⟨[],[(2,dB)],[]⟩ .o .o) (.s .o (.s (.j ⟨[],[(2,dB)],[]⟩ .o .o) .o)))))))))))))))) (.k [] p0)))))))) [.tmp 2]
def Z1d:FSp:=⟨[tC],[.bool],fun x=>ZvY x⟩
theorem Z2Y:Zbk pol P 135 Z1d:=sO (a:=Z2X) Tryz.func135 (ZaM Z3t (ZaM Z1u (ZaM ZPA (ZaM ZQn Zbf)))) imN
def Z3M:FA:=Zbe (Zaf pol) Tryz.f107 34 (.s .o (.s (.s .o (.b (.l ⟨[0],[(3,dI)],[]⟩ (.k [0,3] (.s (.s .o (.k [0,3,7] p0)) (.k [0,3] (.s (.b (.j ⟨[0,3],[(33,dB)],[]⟩ .o (.k [0,3,33] p1))) (.k [0,3] .o)))))))) (.k [] p0))) [.tmp 2]
theorem ZPr:ZqA P pol (Zaf pol) 107 1 Z3M:=⟨⟨_,_,Tryz.func107,rfl,rfl,rfl,by kernel_rfl⟩,by decide⟩
theorem ZPs:Z3M.c.ok=true:=by kernel_rfl
def ZMp (n:Nat):FSp:=⟨[tH],[.bool],fun x=>ZOD n x⟩
def Z12:FSp:=ZMp 1000
theorem ZOp:∀ n,Zbk pol P 107 (ZMp n)
 | 0=>fun x r h=>by cases h
 | n+1=>sOf (a:=Z3M) (sp:=ZMp (n+1)) ZPr (fun _=>rfl) ZPs rfl rfl (ZaM (ZOp n) (ZaM Z2Y Zbf)) imN (fun x=>by kernel_rfl)
theorem Z3N:Zbk pol P 107 Z12:=ZOp 1000
def a63:FA:=Zbe (Zaf pol) Tryz.f63 66 (.s .o (.c 1 (.s (.s .o (.b (.l ⟨[1],[(3,dI)],[]⟩ (.k [1,3] (.s (.s .o (.k [1,3,12] p0)) (.k [1,3] (.s (.b (.s .o (.k [1,3,22] p1))) (.k [1,3] .o)))))))) (.k [1] (.s (.s .o (.b (.l ⟨[1],[(4,dI)],[]⟩ (.k [1,4] (.s (.s .o (.k [1,4,27] p0)) (.k [1,4] (.s (.b (.s .o (.c 5 (.k [1,4,5] (.s .o (.k [1,4,5,6] (.s (.s .o (.b (.l ⟨[1,4,5],[(6,.sl 0),(7,dI)],[.own .str true]⟩ (.k [1,4,5,6,7] (.s (.s .o (.k [1,4,5,6,7,47] p0)) (.k [1,4,5,6,7] (.s (.b (.s .o (.k [1,4,5,6,7,55] p1))) (.k [1,4,5,6,7] .o)))))))) (.k [1,4,5] (.j ⟨[1,4],[(65,dB)],[]⟩ .o (.k [1,4,65] p1)))))))))) (.k [1,4] .o)))))))) (.k [] p0)))))) [.tmp 2]
def Z6j:FSp:=⟨[tF],[.bool],fun x=>F63 x⟩
theorem s63:Zbk pol P 63 Z6j:=sO (a:=a63) Tryz.func63 (ZaM Z3t (ZaM Z3N (ZaM Z1u Zbf))) imN
def Z3J:FA:=Zbe (Zaf pol) Tryz.f109 18 (.s .o (.s (.s .o (.b (.l ⟨[0,1],[(5,dI)],[]⟩ (.k [0,1,5] (.s (.s .o (.k [0,1,5,9] p0)) (.k [0,1,5] (.s (.b (.s .o (.k [0,1,5,17] p1))) (.k [0,1,5] .o)))))))) (.k [] p0))) [.tmp 4]
def Z1v:FSp:=⟨[tS,.str],[.bool],fun x=>Z0r x.1 x.2⟩
theorem Z3K:Zbk pol P 109 Z1v:=sO (a:=Z3J) Tryz.func109 Zbf imN
def a64:FA:=Zbe (Zaf pol) Tryz.f64 85 (.s .o (.c 1 (.s .o (.s (.s .o (.b (.l ⟨[1,4],[(3,.sl 0),(5,dI)],[.own .str true]⟩ (.k [1,3,4,5] (.s (.s .o (.k [1,3,4,5,15] p0)) (.k [1,3,4,5] (.s (.b (.s (.s .o (.k [1,3,4,5,25] p1)) (.k [1,3,4,5] .o))) (.k [1,3,4,5] .o)))))))) (.k [1,3,4] (.s (.s .o (.b (.l ⟨[1],[(3,.sl 0),(4,.sl 1),(6,dI)],[.own .str true,.own .str true]⟩ (.k [1,3,4,6] (.s (.s .o (.k [1,3,4,6,39] p0)) (.k [1,3,4,6] (.s (.b (.s .o (.c 7 (.k [1,3,4,6,7] (.s (.s .o (.k [1,3,4,6,7,50] p1)) (.k [1,3,4,6,7] (.s .o (.k [1,3,4,6,7] (.s .o (.k [1,3,4,6,7,8] (.s .o (.k [1,3,4,6,8,9] (.s .o (.b (.l ⟨[1,6],[(3,.sl 0),(4,.sl 1),(8,.sl 2),(9,.sl 3),(10,dI)],[.own .str true,.own .str true,.own .str true,.own .str true]⟩ (.k [1,3,4,6,8,9,10] (.s (.s .o (.k [1,3,4,6,8,9,10,69] p0)) (.k [1,3,4,6,8,9,10] (.s (.b (.s (.s .o (.k [1,3,4,6,8,9,10,77] p1)) (.k [1,3,4,6,8,9,10] .o))) (.k [1,3,4,6,8,9,10] .o)))))))))))))))))))) (.k [1,3,4,6] .o)))))))) (.k [] p0))))))) [.tmp 2]
def Z6n:FSp:=⟨[tF],[.bool],fun x=>F64 x⟩
theorem s64:Zbk pol P 64 Z6n:=sO (a:=a64) Tryz.func64 (ZaM Z3K Zbf) imN
def Z3L:FA:=Zbe (Zaf pol) Tryz.f110 22 (.s .o (.c 2 (.s (.s .o (.b (.l ⟨[1,2],[(5,dI)],[]⟩ (.k [1,2,5] (.s (.s .o (.k [1,2,5,10] p0)) (.k [1,2,5] (.s (.b (.s .o (.k [1,2,5,20] p1))) (.k [1,2,5] .o)))))))) (.k [] p0)))) [.tmp 4]
def Z10:FSp:=⟨[tF,.str],[tI],fun x=>Z0s x.1 x.2⟩
theorem Z11:Zbk pol P 110 Z10:=sO (a:=Z3L) Tryz.func110 Zbf imN
def a66:FA:=Zbe (Zaf pol) Tryz.f66 43 (.s .o (.c 3 (.c 2 (.s (.s .o (.b (.l ⟨[2,3],[(5,dI)],[]⟩ (.k [2,3,5] (.s (.s .o (.k [2,3,5,10] p0)) (.k [2,3,5] (.s (.b (.s .o (.k [2,3,5,20] p1))) (.k [2,3,5] .o)))))))) (.k [2,3] (.j ⟨[],[(4,dB)],[]⟩ .o .o)))))) [.tmp 4]
theorem ZKh:ZqA P pol (Zaf pol) 66 2 a66:=⟨⟨_,_,Tryz.func66,rfl,rfl,rfl,by kernel_rfl⟩,by decide⟩
theorem ZKi:a66.c.ok=true:=by kernel_rfl
def ZIr (n:Nat):FSp:=⟨[tJ,tE],[.bool],fun x=>N66 n x.1 x.2⟩
def Z21:FSp:=ZIr 1000
theorem ZJW:∀ n,Zbk pol P 66 (ZIr n)
 | 0=>fun x r h=>by cases h
 | n+1=>sOf (a:=a66) (sp:=ZIr (n+1)) ZKh (fun _=>rfl) ZKi rfl rfl (ZaM (ZJW n) (ZaM Z3K Zbf)) imN (fun x=>by kernel_rfl)
theorem s66:Zbk pol P 66 Z21:=ZJW 1000
def Z4t:FA:=Zbe (Zaf pol) Tryz.f111 64 (.s .o (.c 3 (.c 2 (.s (.s .o (.b (.l ⟨[2,3],[(5,dI)],[]⟩ (.k [2,3,5] (.s (.s .o (.k [2,3,5,10] p0)) (.k [2,3,5] (.s (.b (.s .o (.k [2,3,5,20] p1))) (.k [2,3,5] .o)))))))) (.k [2,3] (.s (.j ⟨[2,3],[(32,dB)],[]⟩ .o (.k [2,3,32] p1)) (.k [2,3] (.s (.s .o (.b (.s .o (.s p0 (.s .o (.s (.j ⟨[],[(4,dB)],[]⟩ .o .o) (.s .o p1))))))) (.k [] p0))))))))) [.tmp 4]
def Z18:FSp:=⟨[tJ,tC],[.bool],fun x=>Z0t x.1 x.2⟩
theorem Z19:Zbk pol P 111 Z18:=sO (a:=Z4t) Tryz.func111 (ZaM s66 (ZaM Z3K (ZaM Z11 Zbf))) imN
def a65:FA:=Zbe (Zaf pol) Tryz.f65 59 (.s .o (.c 3 (.s (.s .o (.b (.l ⟨[1,2,3],[(7,dI)],[]⟩ (.k [1,2,3,7] (.s (.s .o (.k [1,2,3,7,12] p0)) (.k [1,2,3,7] (.s (.b (.s .o (.c 8 (.k [1,2,3,7,8] (.j ⟨[1,2,3,7,8],[],[]⟩ (.s .o (.s (.j ⟨[1,2,3,7,8],[(40,dB)],[]⟩ .o (.k [1,2,3,7,8,40] p1)) (.s .o (.k [1,2,3,7,8,44] p1)))) (.k [1,2,3,7,8] (.j ⟨[1,2,3,7],[(58,dB)],[]⟩ .o (.k [1,2,3,7,58] p1)))))))) (.k [1,2,3,7] .o)))))))) (.k [] p0)))) [.tmp 6]
theorem ZQo:ZqA P pol (Zaf pol) 65 3 a65:=⟨⟨_,_,Tryz.func65,rfl,rfl,rfl,by kernel_rfl⟩,by decide⟩
theorem ZQp:a65.c.ok=true:=by kernel_rfl
def ZN3 (n:Nat):FSp:=⟨[tJ,tH,.bool],[.bool],fun x=>N65 n x.1 x.2.1 x.2.2⟩
def Z20:FSp:=ZN3 1000
theorem ZPB:∀ n,Zbk pol P 65 (ZN3 n)
 | 0=>fun x r h=>by cases h
 | n+1=>sOf (a:=a65) (sp:=ZN3 (n+1)) ZQo (fun _=>rfl) ZQp rfl rfl (ZaM (ZPB n) (ZaM Z11 (ZaM Z19 Zbf))) imN (fun x=>by kernel_rfl)
theorem s65:Zbk pol P 65 Z20:=ZPB 1000
def q30a:List CS:=[.box [.sl 1,.sl 2,.dat tB,.dat tA] true,.own .str true,.own .str true]
def a30:FA:=Zbe (Zaf pol) Tryz.f30 86 (.s .o (.c 1 (.s (.b (.s .o (.s p0 (.s .o (.k [1,11] (.s p0 (.s .o p1))))))) (.k [1] (.s (.s .o (.b (.l ⟨[1],[(3,dI)],[]⟩ (.k [1,3] (.s (.s .o p0) (.k [1,3] (.s (.b (.s .o (.b (.l ⟨[1,3],[(4,dI)],[]⟩ (.k [1,3,4] (.s (.s .o (.k [1,3,4,26] p0)) (.k [1,3,4] (.s (.b (.s .o (.c 5 (.k [1,3,4,5] (.s .o (.k [1,3,4,5,6] (.s (.s .o (.b (.l ⟨[1,3,4,5],[(6,.bx 0 0),(7,dI)],q30a⟩ (.k [1,3,4,5,6,7] (.s (.s .o (.k [1,3,4,5,6,7,47] p0)) (.k [1,3,4,5,6,7] (.s (.b .o) (.k [1,3,4,5,6,7] .o)))))))) (.k [1,3,4,5,6] (.s (.j ⟨[1,3,4,5],[(6,.bx 0 0),(76,dB)],q30a⟩ .o (.k [1,3,4,5,6,76] p1)) (.k [1,3,4,5,6] (.j ⟨[1,3,4],[(85,dB)],[]⟩ .o (.k [1,3,4,85] p1)))))))))))) (.k [1,3,4] .o))))))))) (.k [1,3] .o)))))))) (.k [] p0)))))) [.tmp 2]
def Z6q:FSp:=⟨[tF],[tI],fun x=>F30 x⟩
theorem s30:Zbk pol P 30 Z6q:=sO (a:=a30) Tryz.func30 (ZaM s62 (ZaM s63 (ZaM s64 (ZaM s65 (ZaM s66 Zbf))))) imN
def a31:FA:=Zbe (Zaf pol) Tryz.f31 52 (.s .o (.s .o (.c 9 (.k [0,9] (.s (.s .o (.b (.l ⟨[],[(0,.bx 0 0),(9,.bx 1 0),(10,dI)],[.box [.pin,.pin,.sl 2,.pin,.pin,.pin,.pin] true,.box [dI,dI,.sl 3] false,.own tn true,.own tI true]⟩ (.k [0,9,10] (.s (.s .o (.k [0,9,10,23] p0)) (.k [0,9,10] (.s (.b (.s .o (.k [0,9,10,34] p1))) (.k [0,9,10] .o)))))))) (.k [0,9] (.s .o (.k [0] p0)))))))) [.tmp 8]
def Z6r:Zbc:=⟨[.bx 0 0,dI,dI,.sl 1],[.box [.pin,.pin,.sl 2,.pin,.pin,.pin,.pin] true,.own tI true,.own tn true],1,[dI],[(0,.bx 0 0)],[.box [.pin,.pin,.sl 1,.pin,.pin,.pin,.pin] true,.own tn true],fun (x:Int×Int×List Int×TN)=>(F31 x.1 x.2.1 x.2.2.1 x.2.2.2:Option (Int×TN))⟩
theorem s31:ZdA pol P 31 Z6r:=mO (a:=a31) Tryz.func31 (ZaM s42 Zbf) imN
def a68:FA:=Zbe (Zaf pol) Tryz.f68 25 (.s .o (.s (.s .o (.b (.l ⟨[1],[(0,.bx 0 0),(5,dI)],[.box [.pin,.pin,.pin,.sl 1,.pin,.pin,.pin] true,.own .str true]⟩ (.k [0,1,5] (.s (.s .o (.k [0,1,5,12] p0)) (.k [0,1,5] (.s (.b (.s .o (.k [0,1,5,23] p1))) (.k [0,1,5] .o)))))))) (.k [0] p0))) [.tmp 4]
def Z2C:Zbc:=⟨[.bx 0 0,.dat .str],[.box [.pin,.pin,.pin,.sl 1,.pin,.pin,.pin] true,.own .str true],1,[dI],[(0,.bx 0 0)],[.box [.pin,.pin,.pin,.sl 1,.pin,.pin,.pin] true,.own .str true],fun (x:ByteArray×List ByteArray)=>(F68 x.1 x.2:Option Y26)⟩
theorem s68:ZdA pol P 68 Z2C:=mO (a:=a68) Tryz.func68 Zbf imN
def q137a:List CS:=[.box [.dat tB,.dat tA,.sl 2,.sl 3,.sl 4,dI,dI] true,.own .bool true,.own tn true,.own .str true,.own tI true]
def ZPt:FA:=Zbe (Zaf pol) Tryz.f137 52 (.s .o (.b (.l ⟨[2],[(0,.bx 0 0),(1,.sl 1),(6,dI)],q137a⟩ (.k [0,1,2,6] (.s (.s .o (.k [0,1,2,6,10] p0)) (.k [0,1,2,6] (.s (.b (.j ⟨[2,6],[(0,.bx 0 0),(1,.sl 1)],q137a⟩ (.j ⟨[2,6],[(0,.bx 0 0),(1,.sl 1),(26,dB)],q137a⟩ .o (.k [0,1,2,6,26] p0)) (.k [0,1,2,6] (.s .o (.k [0,1,2,6] .o))))) (.k [0,1,2,6] .o)))))))) []
theorem ZPu:ZqA P pol (Zaf pol) 137 3 ZPt:=⟨⟨_,_,Tryz.func137,rfl,rfl,rfl,by kernel_rfl⟩,by decide⟩
theorem ZPv:ZPt.c.ok=true:=by kernel_rfl
def ZMq (n:Nat):Zbc:=⟨[.bx 0 0,.sl 1,.dat tH],[.box [.dat tB,.dat tA,.sl 2,.sl 3,.sl 4,dI,dI] true,.own .bool true,.own tn true,.own .str true,.own tI true],2,[],[(0,.bx 0 0),(1,.sl 1)],[.box [.dat tB,.dat tA,.sl 2,.sl 3,.sl 4,dI,dI] true,.own .bool true,.own tn true,.own .str true,.own tI true],fun (x:List SmT×(List Y1)×(List Y0)×Int×Int×List Bool×TN×List ByteArray×List Int)=>(ZNP n x.1 x.2.1 x.2.2.1 x.2.2.2.1 x.2.2.2.2.1 x.2.2.2.2.2.1 x.2.2.2.2.2.2.1 x.2.2.2.2.2.2.2.1 x.2.2.2.2.2.2.2.2:Option Y6)⟩
def ZPw:Zbc:=ZMq 1000
theorem ZOq:∀ n,ZdA pol P 137 (ZMq n)
 | 0=>ino (by kernel_rfl) (by kernel_rfl) (by kernel_rfl) (fun _=>rfl)
 | n+1=>mOf (a:=ZPt) (sp:=ZMq (n+1)) ZPu rfl ZPv (by kernel_rfl) (by kernel_rfl) (by kernel_rfl) rfl rfl (by kernel_rfl) Zbf (imC (ZOq n) (imC s68 imN)) (fun x=>by kernel_rfl)
theorem ZQq:ZdA pol P 137 ZPw:=ZOq 1000
def a69:FA:=Zbe (Zaf pol) Tryz.f69 28 (.s .o (.s (.s .o (.b (.l ⟨[1],[(0,.bx 0 0),(5,dI)],[.box [.dat tB,.pin,.pin,.pin,.pin,.pin,.pin] true]⟩ (.k [0,1,5] (.s (.s .o (.k [0,1,5,13] p0)) (.k [0,1,5] (.s (.b (.s .o (.k [0,1,5,26] p1))) (.k [0,1,5] .o)))))))) (.k [0] p0))) [.tmp 4]
def Z2F:Zbc:=⟨[.bx 0 0,.dat .str],[.box [.dat tB,.pin,.pin,.pin,.pin,.pin,.pin] true],1,[dI],[(0,.bx 0 0)],[.box [.dat tB,.pin,.pin,.pin,.pin,.pin,.pin] true],fun (x:ByteArray×List Y1)=>(F69 x.1 x.2:Option Y61)⟩
theorem s69:ZdA pol P 69 Z2F:=mO (a:=a69) Tryz.func69 Zbf imN
def a70:FA:=Zbe (Zaf pol) Tryz.f70 35 (.s .o (.k [0,2,6] (.s .o (.k [0,7] .o)))) []
def Z2E:Zbc:=⟨[.bx 0 0,dI,dI],[.box [.dat tB,.dat tA,.sl 1,.sl 2,.sl 3,dI,dI] true,.own tn true,.own .str true,.own tI true],1,[],[(0,.bx 0 0)],[.box [.dat tB,.dat tA,.sl 1,.sl 2,.sl 3,dI,dI] true,.own tn true,.own .str true,.own tI true],fun (x:Int×Int×(List Y1)×(List Y0)×Int×Int×TN×List ByteArray×List Int)=>(F70 x.1 x.2.1 x.2.2.1 x.2.2.2.1 x.2.2.2.2.1 x.2.2.2.2.2.1 x.2.2.2.2.2.2.1 x.2.2.2.2.2.2.2.1 x.2.2.2.2.2.2.2.2:Option Y2)⟩
theorem s70:ZdA pol P 70 Z2E:=mO (a:=a70) Tryz.func70 Zbf (imC s31 imN)
def a71:FA:=Zbe (Zaf pol) Tryz.f71 19 (.s .o (.s (.s .o p1) (.k [0,1,2,3] p0))) [.tmp 8]
def Z4a:Zbc:=⟨[.bx 0 0,dI,dI,dI],[.box [.pin,.pin,.sl 1,.pin,.pin,.pin,.pin] true,.own tn true],1,[dI],[(0,.bx 0 0)],[.box [.pin,.pin,.sl 1,.pin,.pin,.pin,.pin] true,.own tn true],fun (x:Int×Int×Int×TN)=>(F71 x.1 x.2.1 x.2.2.1 x.2.2.2:Option (Int×TN))⟩
theorem s71:ZdA pol P 71 Z4a:=mO (a:=a71) Tryz.func71 Zbf (imC s31 imN)
def q33a:List CS:=[.box [.dat tB,.dat tA,.sl 1,.sl 2,.sl 3,dI,dI] true,.own tn true,.own .str true,.own tI true]
def a33:FA:=Zbe (Zaf pol) Tryz.f33 166 (.s .o (.c 3 (.s (.s .o (.b (.s .o (.s p0 (.s .o (.s p0 (.s .o (.s (.s .o (.k [0,3,5] (.s .o (.k [0,5,6] (.s .o (.k [0,5,6] p0)))))) (.s .o (.s (.s .o (.k [0,3,7] (.s .o (.k [0,3,7,8] (.s .o (.k [0,3,7,8,9] (.s .o (.k [0,3,7,8,9,10] (.s .o (.k [0,3,7,9,10] (.s .o (.k [0,7,9,10,11] (.s .o (.k [0,7,10,12] (.s .o (.k [12,0] p0)))))))))))))))) .o)))))))))) (.k [0,3] (.s .o (.k [0,3,13] (.s (.s .o (.k [0,3,13,120] p1)) (.k [0,3,13] (.s .o (.k [0,3,13,14] (.j ⟨[3,13,14],[(0,.bx 0 0)],q33a⟩ (.j ⟨[3,13,14],[(0,.bx 0 0),(140,dB)],q33a⟩ .o (.k [0,3,13,14,140] (.s (.s .o (.s .o (.k [0,3,13,14,16] .o))) .o))) (.k [0,3,13,14] p0)))))))))))) [.tmp 4]
theorem ZQr:ZqA P pol (Zaf pol) 33 2 a33:=⟨⟨_,_,Tryz.func33,rfl,rfl,rfl,by kernel_rfl⟩,by decide⟩
theorem ZQs:a33.c.ok=true:=by kernel_rfl
def ZN4 (n:Nat):Zbc:=⟨[.bx 0 0,.agg [dI,dI,.dat .str,dI,.dat tN]],[.box [.dat tB,.dat tA,.sl 1,.sl 2,.sl 3,dI,dI] true,.own tn true,.own .str true,.own tI true],1,[dI],[(0,.bx 0 0)],[.box [.dat tB,.dat tA,.sl 1,.sl 2,.sl 3,dI,dI] true,.own tn true,.own .str true,.own tI true],fun (x:Int×Int×ByteArray×Int×List ExT×(List Y1)×(List Y0)×Int×Int×TN×List ByteArray×List Int)=>(N33 n x.1 x.2.1 x.2.2.1 x.2.2.2.1 x.2.2.2.2.1 x.2.2.2.2.2.1 x.2.2.2.2.2.2.1 x.2.2.2.2.2.2.2.1 x.2.2.2.2.2.2.2.2.1 x.2.2.2.2.2.2.2.2.2.1 x.2.2.2.2.2.2.2.2.2.2.1 x.2.2.2.2.2.2.2.2.2.2.2:Option Y7)⟩
def Z2G:Zbc:=ZN4 1000
theorem ZPC:∀ n,ZdA pol P 33 (ZN4 n)
 | 0=>ino (by kernel_rfl) (by kernel_rfl) (by kernel_rfl) (fun _=>rfl)
 | n+1=>mOf (a:=a33) (sp:=ZN4 (n+1)) ZQr rfl ZQs (by kernel_rfl) (by kernel_rfl) (by kernel_rfl) rfl rfl (by kernel_rfl) Zbf (imC (ZPC n) (imC s31 (imC s68 (imC s69 (imC s70 (imC s71 imN)))))) (fun x=>by kernel_rfl)
theorem s33:ZdA pol P 33 Z2G:=ZPC 1000
def q112a:List CS:=[.box [.dat tB,.dat tA,.sl 3,.sl 4,.sl 5,dI,dI] true,.own .bool true,.own tI true,.own tn true,.own .str true,.own tI true]
def q112b:List CS:=[.box [.dat tB,.dat tA,.sl 4,.sl 5,.sl 6,dI,dI] true,.own tI true,.own tI true,.own tI true,.own tn true,.own .str true,.own tI true]
def Z4r:FA:=Zbe (Zaf pol) Tryz.f112 197 (.s .o (.c 3 (.s .o (.k [0,3,4] (.s .o (.k [0,3,4] (.s .o (.k [0,3,4,5] (.s .o (.k [0,3,4,5,6] (.s .o (.k [0,3,4,5,6] (.s .o (.s (.s .o (.b (.l ⟨[3,4,5],[(0,.bx 0 0),(6,.sl 1),(7,.sl 2),(8,dI)],q112a⟩ (.k [0,3,4,5,6,7,8] (.s (.s .o (.k [0,3,4,5,6,7,8,48] p0)) (.k [0,3,4,5,6,7,8] (.j ⟨[3,4,5,8],[(0,.bx 0 0),(6,.sl 1),(7,.sl 2)],q112a⟩ (.b (.s .o (.k [0,3,4,5,6,7,8,54] p0))) (.k [0,3,4,5,6,7,8] .o)))))))) (.k [0,3,4,5,7] (.s .o (.k [0,3,4,5,7,9] (.s .o (.k [0,3,4,5,7,9,10] (.s .o (.s .o (.k [0,3,4,5,7,9,10,11] (.s (.s .o (.b (.l ⟨[3,4,5,10],[(0,.bx 0 0),(7,.sl 1),(9,.sl 2),(11,.sl 3),(12,dI)],q112b⟩ (.k [0,3,4,5,7,9,10,11,12] (.s (.s .o (.k [0,3,4,5,7,9,10,11,12,81] p0)) (.k [0,3,4,5,7,9,10,11,12] (.s (.b (.s .o (.k [0,3,4,5,7,9,10,11,12] .o))) (.k [0,3,4,5,7,9,10,11,12] .o)))))))) (.k [0,3,4,5,7,9,10,11] (.s .o (.k [0,3,4,5,7,9,10,11] (.s .o (.k [0,4,5,7,9,10,11,13] (.s .o (.k [0,4,5,7,9,10,11] (.s (.s .o (.b (.l ⟨[4,5,10],[(0,.bx 0 0),(7,.sl 1),(9,.sl 2),(11,.sl 3),(14,dI)],q112b⟩ (.k [0,4,5,7,9,10,11,14] (.s (.s .o (.k [0,4,5,7,9,10,11,14,129] p0)) (.k [0,4,5,7,9,10,11,14] (.s (.b .o) (.k [0,4,5,7,9,10,11,14] .o)))))))) (.k [0,4,5,7,9,10,11] (.s .o (.k [0,5,7,9,10,15] (.s .o (.k [0,5,7,9,10,15] (.s .o (.k [0,5,7,9,10,15,16] (.s .o (.k [0,5,7,9,15] (.s .o (.b (.l ⟨[5,15],[(0,.bx 0 0),(7,.sl 1),(9,.sl 2),(17,dI)],[.box [.dat tB,.dat tA,.sl 3,.sl 4,.sl 2,dI,dI] true,.own tI true,.own tI true,.own tn true,.own .str true]⟩ (.k [0,5,7,9,15,17] (.s (.s .o (.k [0,5,7,9,15,17,168] p0)) (.k [0,5,7,9,15,17] (.s (.b (.s .o (.k [0,5,7,9,15,17,18] .o))) (.k [0,5,7,9,15,17] .o)))))))))))))))))))))))))))))))))))))))))))))))) []
theorem ZPx:ZqA P pol (Zaf pol) 112 2 Z4r:=⟨⟨_,_,Tryz.func112,rfl,rfl,rfl,by kernel_rfl⟩,by decide⟩
theorem ZPy:Z4r.c.ok=true:=by kernel_rfl
def ZNp (n:Nat):Zbc:=⟨[.bx 0 0,.agg [dI,.dat .str,.dat .str,dI,dI,dI,.dat .str,dI,.dat tN,dI,dI,.dat .str,dI,.dat tN,.dat tN,.dat tH,.dat tH]],[.box [.dat tB,.dat tA,.sl 1,.sl 2,.sl 3,dI,dI] true,.own tn true,.own .str true,.own tI true],1,[],[(0,.bx 0 0)],[.box [.dat tB,.dat tA,.sl 1,.sl 2,.sl 3,dI,dI] true,.own tn true,.own .str true,.own tI true],fun (x:Int×ByteArray×ByteArray×Int×Int×Int×ByteArray×Int×List ExT×Int×Int×ByteArray×Int×List ExT×List ExT×List SmT×List SmT×(List Y1)×(List Y0)×Int×Int×TN×List ByteArray×List Int)=>(ZOQ (N32 n) x.1 x.2.1 x.2.2.1 x.2.2.2.1 x.2.2.2.2.1 x.2.2.2.2.2.1 x.2.2.2.2.2.2.1 x.2.2.2.2.2.2.2.1 x.2.2.2.2.2.2.2.2.1 x.2.2.2.2.2.2.2.2.2.1 x.2.2.2.2.2.2.2.2.2.2.1 x.2.2.2.2.2.2.2.2.2.2.2.1 x.2.2.2.2.2.2.2.2.2.2.2.2.1 x.2.2.2.2.2.2.2.2.2.2.2.2.2.1 x.2.2.2.2.2.2.2.2.2.2.2.2.2.2.1 x.2.2.2.2.2.2.2.2.2.2.2.2.2.2.2.1 x.2.2.2.2.2.2.2.2.2.2.2.2.2.2.2.2.1 x.2.2.2.2.2.2.2.2.2.2.2.2.2.2.2.2.2.1 x.2.2.2.2.2.2.2.2.2.2.2.2.2.2.2.2.2.2.1 x.2.2.2.2.2.2.2.2.2.2.2.2.2.2.2.2.2.2.2.1 x.2.2.2.2.2.2.2.2.2.2.2.2.2.2.2.2.2.2.2.2.1 x.2.2.2.2.2.2.2.2.2.2.2.2.2.2.2.2.2.2.2.2.2.1 x.2.2.2.2.2.2.2.2.2.2.2.2.2.2.2.2.2.2.2.2.2.2.1 x.2.2.2.2.2.2.2.2.2.2.2.2.2.2.2.2.2.2.2.2.2.2.2:Option Y2)⟩
theorem ZPz (n:Nat) (hh:ZdA pol P 32 (ZMr n)):ZdA pol P 112 (ZNp n):=mOf (a:=Z4r) (sp:=ZNp n) ZPx rfl ZPy (by kernel_rfl) (by kernel_rfl) (by kernel_rfl) rfl rfl (by kernel_rfl) Zbf (imC ZQq (imC s31 (imC hh (imC s33 (imC s71 imN))))) (fun x=>by kernel_rfl)
def q67a:List CS:=[.box [.dat tB,.dat tA,.sl 2,.sl 3,.sl 4,dI,dI] true,.own tI true,.own tn true,.own .str true,.own tI true]
def a67:FA:=Zbe (Zaf pol) Tryz.f67 241 (.s .o (.c 3 (.s .o (.b (.s .o (.s (.s .o (.k [0,3,4] .o)) (.s .o (.s (.s .o (.k [0,3,5] (.s .o (.k [0,3,5,6] (.s .o (.k [0,5,6,7] (.s .o (.k [0,5,6,7] .o)))))))) (.s .o (.s (.s .o (.k [0,8] .o)) (.s .o (.s p0 (.s .o (.s (.s .o (.s (.s .o (.b (.l ⟨[3],[(0,.bx 0 0),(10,.sl 1),(11,dI)],q67a⟩ (.k [0,3,10,11] (.s (.s .o (.k [0,3,10,11,108] p0)) (.k [0,3,10,11] (.s (.b .o) (.k [0,3,10,11] .o)))))))) (.k [0,3,10] (.s .o (.k [0,3] .o))))) (.s .o (.s (.s .o (.k [0,3,12] (.s .o (.k [0,3,12,13] (.s .o (.k [0,3,12,13,14] (.s .o (.k [0,3,12,13,14] (.s .o (.k [0,3,12,13,14,15] (.s .o (.k [0,3,12,13,14,15,16] (.s .o (.k [0,3,12,14,15,16] (.s .o (.k [0,3,12,15,16] (.s .o (.k [0,12,15,16] (.s (.s .o (.b (.l ⟨[12,16],[(0,.bx 0 0),(15,.sl 1),(17,dI)],q67a⟩ (.k [0,12,15,16,17] (.s (.s .o (.k [0,12,15,16,17,202] p0)) (.k [0,12,15,16,17] (.s (.b .o) (.k [0,12,15,16,17] .o)))))))) (.k [0,12,16] .o)))))))))))))))))))) (.s .o p0))))))))))))))))) []
theorem ZKf:ZqA P pol (Zaf pol) 67 2 a67:=⟨⟨_,_,Tryz.func67,rfl,rfl,rfl,by kernel_rfl⟩,by decide⟩
theorem ZKg:a67.c.ok=true:=by kernel_rfl
def ZOr (n:Nat):Zbc:=⟨[.bx 0 0,.dat tC],[.box [.dat tB,.dat tA,.sl 1,.sl 2,.sl 3,dI,dI] true,.own tn true,.own .str true,.own tI true],1,[],[(0,.bx 0 0)],[.box [.dat tB,.dat tA,.sl 1,.sl 2,.sl 3,dI,dI] true,.own tn true,.own .str true,.own tI true],fun (x:Y43×(List Y1)×(List Y0)×Int×Int×TN×List ByteArray×List Int)=>(E67 (N32 n) x.1 x.2.1 x.2.2.1 x.2.2.2.1 x.2.2.2.2.1 x.2.2.2.2.2.1 x.2.2.2.2.2.2.1 x.2.2.2.2.2.2.2:Option Y2)⟩
theorem ZQt (n:Nat) (hh:ZdA pol P 32 (ZMr n)):ZdA pol P 67 (ZOr n):=mOf (a:=a67) (sp:=ZOr n) ZKf rfl ZKg (by kernel_rfl) (by kernel_rfl) (by kernel_rfl) rfl rfl (by kernel_rfl) (ZaM Z11 Zbf) (imC (ZPz n hh) (imC s31 (imC hh (imC s33 (imC s68 (imC s69 (imC s70 (imC s71 imN)))))))) (fun x=>by kernel_rfl)
def a32:FA:=Zbe (Zaf pol) Tryz.f32 17 (.s .o (.b (.l ⟨[1],[(0,.bx 0 0),(4,dI)],[.box [.dat tB,.dat tA,.sl 1,.sl 2,.sl 3,dI,dI] true,.own tn true,.own .str true,.own tI true]⟩ (.k [0,1,4] (.s (.s .o (.k [0,1,4,8] p0)) (.k [0,1,4] (.s (.b .o) (.k [0,1,4] .o)))))))) []
theorem ZQu:ZqA P pol (Zaf pol) 32 2 a32:=⟨⟨_,_,Tryz.func32,rfl,rfl,rfl,by kernel_rfl⟩,by decide⟩
theorem ZQv:a32.c.ok=true:=by kernel_rfl
def Z5X:Zbc:=ZMr 1000
theorem ZP0:∀ n,ZdA pol P 32 (ZMr n)
 | 0=>ino (by kernel_rfl) (by kernel_rfl) (by kernel_rfl) (fun _=>rfl)
 | n+1=>mOf (a:=a32) (sp:=ZMr (n+1)) ZQu rfl ZQv (by kernel_rfl) (by kernel_rfl) (by kernel_rfl) rfl rfl (by kernel_rfl) Zbf (imC (ZP0 n) (imC (ZQt n (ZP0 n)) imN)) (fun x=>by kernel_rfl)
theorem s32:ZdA pol P 32 Z5X:=ZP0 1000
def q15a:List CS:=[.box [.nils,.nils] true,.box [.sl 3,.sl 4] true,.box [.dat tB,.dat tA,.sl 5,.sl 6,.sl 7,dI,dI] true,.own tR true,.own tD true,.own tn true,.own .str true,.own tI true]
def a15:FA:=Zbe (Zaf pol) Tryz.f15 144 (.s .o (.c 1 (.s (.s .o (.s .o p1)) (.k [1,2] (.s .o (.k [1,2,5] (.s (.s .o (.b (.l ⟨[1],[(2,.bx 0 0),(5,.bx 1 0),(6,dI)],[.box [.nils,.nils] true,.box [.sl 2,.sl 3] true,.own tR true,.own tD true]⟩ (.k [1,2,5,6] (.s (.s .o (.k [1,2,5,6,27] p0)) (.k [1,2,5,6] (.s (.b (.s .o (.c 7 (.k [1,2,5,6,7] (.s .o (.k [1,2,5,6,7,8] (.s .o (.k [1,2,5,6,7,8] (.s (.s .o (.b (.l ⟨[1,6,7],[(2,.bx 0 0),(5,.bx 1 0),(8,.bx 2 0),(9,dI)],q15a⟩ (.k [1,2,5,6,7,8,9] (.s (.s .o (.k [1,2,5,6,7,8,9,47] p0)) (.k [1,2,5,6,7,8,9] (.s (.b (.s .o (.k [1,2,5,6,7,8,9] .o))) (.k [1,2,5,6,7,8,9] .o)))))))) (.k [1,2,5,6,7,8] (.s (.s .o (.b (.l ⟨[1,6,7],[(2,.bx 0 0),(5,.bx 1 0),(8,.bx 2 0),(10,dI)],q15a⟩ (.k [1,2,5,6,7,8,10] (.s (.s .o (.k [1,2,5,6,7,8,10,80] p0)) (.k [1,2,5,6,7,8,10] (.s (.b (.s .o (.k [1,2,5,6,7,8,10] .o))) (.k [1,2,5,6,7,8,10] .o)))))))) (.k [1,2,5,6,7,8] (.s .o (.k [1,2,5,6,7,8] (.s .o (.k [1,2,5,6,7,8,11] (.s (.s .o (.k [1,2,5,6,7,8,11,121] p1)) (.k [1,2,5,6,7,8,11] .o)))))))))))))))))) (.k [1,2,5,6] .o)))))))) (.k [2,5] p0)))))))) [.cell 2 26,.tmp 3]
def ZBG:FSp:=⟨[tF],[tM,tI],fun x=>F15 x⟩
theorem s15:Zbk pol P 15 ZBG:=sO (a:=a15) Tryz.func15 (ZaM s30 Zbf) (imC s31 (imC s32 (imC s33 imN)))
def a34:FA:=Zbe (Zaf pol) Tryz.f34 25 (.s .o (.s (.s .o (.k [0,9] p1)) (.k [0] (.s .o (.k [0,3] (.s .o (.k [3,0] p0))))))) [.tmp 2]
def Z2H:Zbc:=⟨[.bx 0 0],[.box [.sl 1,dI] true,.own tI false],1,[dI],[(0,.bx 0 0)],[.box [.sl 1,dI] true,.own tI false],fun (x:Int×List Int)=>(F34 x.1 x.2:Option Y37)⟩
theorem s34:ZdA pol P 34 Z2H:=mO (a:=a34) Tryz.func34 Zbf imN
def a6:FA:=Zbe (Zaf pol) Tryz.f6 14 (.s .o (.s .o (.k [0,1] (.j ⟨[],[(0,dI)],[]⟩ (.s .o p0) (.k [0] p0))))) [.tmp 4]
def sp6:FSp:=⟨[tI,tI],[tI],fun x=>F6 x.1 x.2⟩
theorem s6:Zbk pol P 6 sp6:=sO (a:=a6) Tryz.func6 Zbf imN
def a37:FA:=Zbe (Zaf pol) Tryz.f37 25 (.s .o (.s .o (.s .o (.s (.b (.s .o (.s p0 (.s .o p1)))) (.k [1] p0))))) [.tmp 4]
def Z4b:FSp:=⟨[tI,tI],[tI],fun x=>F37 x.1 x.2⟩
theorem s37:Zbk pol P 37 Z4b:=sO (a:=a37) Tryz.func37 (ZaM s6 Zbf) imN
def a73:FA:=Zbe (Zaf pol) Tryz.f73 7 (.s .o (.s (.s .o p1) (.k [] p0))) [.tmp 2]
def Z33:FSp:=⟨[tI],[tS],fun x=>F73 x⟩
theorem s73:Zbk pol P 73 Z33:=sO (a:=a73) Tryz.func73 Zbf imN
def q36a:List CS:=[.box [.sl 2,dI] true,.box [dI,dI,.dat .str,dI,.nils] true,.own tI false]
def a36:FA:=Zbe (Zaf pol) Tryz.f36 115 (.s .o (.s .o (.s .o (.s .o (.s .o (.k [0,1,2,6,7,8,9,10] (.s (.b (.j ⟨[1,2,7,8,9,10],[(0,.bx 0 0),(6,.bx 1 0),(20,dB)],q36a⟩ .o (.k [0,1,2,6,7,8,9,10,20] (.s (.s (.j ⟨[7,8,10],[(0,.bx 0 0),(6,.bx 1 0),(37,dB)],q36a⟩ .o (.k [6,7,8,10,37,0] p1)) (.k [6,7,10,0] p0)) (.s .o (.s p0 (.s .o (.s p0 (.s .o p1))))))))) (.k [0,1,2,6,10] p0)))))))) [.cell 6 83]
theorem ZQw:ZqA P pol (Zaf pol) 36 3 a36:=⟨⟨_,_,Tryz.func36,rfl,rfl,rfl,by kernel_rfl⟩,by decide⟩
theorem ZQx:a36.c.ok=true:=by kernel_rfl
def ZN5 (n:Nat):Zbc:=⟨[.bx 0 0,dI,dI],[.box [.sl 1,dI] true,.own tI false],1,[.agg [dI,dI,.dat .str,dI,.sl 1]],[(0,.bx 0 0)],[.box [.sl 2,dI] true,.own (.tree .exp) true,.own tI false],fun (x:Int×Int×Int×List Int)=>(N36 n x.1 x.2.1 x.2.2.1 x.2.2.2:Option Y11)⟩
def Z2I:Zbc:=ZN5 1000
theorem ZPD:∀ n,ZdA pol P 36 (ZN5 n)
 | 0=>ino (by kernel_rfl) (by kernel_rfl) (by kernel_rfl) (fun _=>rfl)
 | n+1=>mOf (a:=a36) (sp:=ZN5 (n+1)) ZQw rfl ZQx (by kernel_rfl) (by kernel_rfl) (by kernel_rfl) rfl rfl (by kernel_rfl) (ZaM s6 (ZaM s37 (ZaM s73 Zbf))) (imC (ZPD n) (imC s34 imN)) (fun x=>by kernel_rfl)
theorem s36:ZdA pol P 36 Z2I:=ZPD 1000
def q72a:List CS:=[.box [.sl 2,dI] true,.box [dI,.dat .str,.dat .str,dI,dI,dI,.dat .str,dI,.nils,dI,dI,.dat .str,dI,.nils,.nils,.nils,.nils] true,.own tI false]
def a72:FA:=Zbe (Zaf pol) Tryz.f72 156 (.s .o (.s .o (.s .o (.s .o (.k [0,1,2,6,7,8,9] (.s .o (.j ⟨[1,2,8,9],[(0,.bx 0 0),(6,.bx 1 0),(10,dI)],q72a⟩ (.j ⟨[1,2,8,9,10],[(0,.bx 0 0),(6,.bx 1 0),(44,dB)],q72a⟩ .o (.k [0,1,2,6,8,9,10,44] p0)) (.k [0,1,2,6,8,9,10] (.s (.b (.s .o (.s p0 (.s .o (.s p0 (.s .o (.s (.s .o (.k [0,1,2,6,11] (.s .o (.k [0,1,2,6,11] (.s .o (.k [6,11,0] p0)))))) (.s .o (.s (.s .o (.k [0,1,2,6] (.s .o (.k [0,1,2,6,12] (.s .o (.k [6,12,0] p0)))))) (.s .o (.s p0 (.s .o (.s (.s .o (.k [0,1,6,9,13] (.s (.s .o (.b (.l ⟨[1,9],[(0,.bx 0 0),(6,.bx 1 0),(13,.bx 2 0),(14,dI)],[.box [.sl 3,dI] true,.box [dI,.dat .str,.dat .str,dI,dI,dI,.dat .str,dI,.nils,dI,dI,.dat .str,dI,.nils,.nils,.nils,.nils] true,.box [dI,.dat .str,.dat .str,dI,dI,dI,.dat .str,dI,.nils,dI,dI,.dat .str,dI,.nils,.sl 4,.nils,.nils] true,.own tI false,.own (.tree .exp) true]⟩ (.k [0,1,6,9,13,14] (.s (.s .o (.k [0,1,6,9,13,14,142] p0)) (.k [0,1,6,9,13,14] (.s (.b .o) (.k [0,1,6,9,13,14] .o)))))))) (.k [6,13,0] p0)))) .o))))))))))))) (.k [6,9,0] p0)))))))))) [.cell 6 149]
theorem ZQy:ZqA P pol (Zaf pol) 72 3 a72:=⟨⟨_,_,Tryz.func72,rfl,rfl,rfl,by kernel_rfl⟩,by decide⟩
theorem ZQz:a72.c.ok=true:=by kernel_rfl
def ZOs (n:Nat):Zbc:=⟨[.bx 0 0,dI,dI],[.box [.sl 1,dI] true,.own tI false],1,[.agg [dI,.dat .str,.dat .str,dI,dI,dI,.dat .str,dI,.sl 1,dI,dI,.dat .str,dI,.sl 2,.sl 3,.sl 4,.sl 5]],[(0,.bx 0 0)],[.box [.sl 6,dI] true,.own (.tree .exp) true,.own (.tree .exp) true,.own (.tree .exp) true,.own (.tree .stm) true,.own (.tree .stm) true,.own tI false],fun (x:Int×Int×Int×List Int)=>(E72 (N35 n) x.1 x.2.1 x.2.2.1 x.2.2.2:Option Y5)⟩
theorem ZQ0 (n:Nat) (hh:ZdA pol P 35 (ZMP n)):ZdA pol P 72 (ZOs n):=mOf (a:=a72) (sp:=ZOs n) ZQy rfl ZQz (by kernel_rfl) (by kernel_rfl) (by kernel_rfl) rfl rfl (by kernel_rfl) (ZaM s6 (ZaM s73 Zbf)) (imC s34 (imC hh (imC s36 imN))) (fun x=>by kernel_rfl)
def q35a:List CS:=[.box [.sl 2,dI] true,.own (.tree .stm) true,.own tI false]
def a35:FA:=Zbe (Zaf pol) Tryz.f35 36 (.s .o (.s .o (.s (.s .o (.k [0,1,2,9,10] (.b (.l ⟨[1,2],[(0,.bx 0 0),(9,.sl 1),(10,dI)],q35a⟩ (.k [0,1,2,9,10] (.s (.j ⟨[1,2,10],[(0,.bx 0 0),(9,.sl 1),(25,dB)],q35a⟩ .o (.k [0,1,2,9,10,25] p0)) (.k [0,1,2,9,10] (.s (.b .o) (.k [0,1,2,9,10] .o))))))))) (.k [9,0] p0)))) [.tmp 8]
theorem ZQ1:ZqA P pol (Zaf pol) 35 4 a35:=⟨⟨_,_,Tryz.func35,rfl,rfl,rfl,by kernel_rfl⟩,by decide⟩
theorem ZQ2:a35.c.ok=true:=by kernel_rfl
def Z2J:Zbc:=ZMP 1000
theorem ZP1:∀ n,ZdA pol P 35 (ZMP n)
 | 0=>ino (by kernel_rfl) (by kernel_rfl) (by kernel_rfl) (fun _=>rfl)
 | n+1=>mOf (a:=a35) (sp:=ZMP (n+1)) ZQ1 rfl ZQ2 (by kernel_rfl) (by kernel_rfl) (by kernel_rfl) rfl rfl (by kernel_rfl) (ZaM s6 Zbf) (imC (ZP1 n) (imC s34 (imC (ZQ0 n (ZP1 n)) imN))) (fun x=>by kernel_rfl)
theorem s35:ZdA pol P 35 Z2J:=ZP1 1000
def a16:FA:=Zbe (Zaf pol) Tryz.f16 61 (.s .o (.s .o (.k [2,3] (.s .o (.s .o (.k [2,3,5] (.s .o (.k [2,3,5] (.s .o (.k [2,3,5] (.s .o (.k [2,3,5] (.s .o (.k [2,3,5] (.s .o (.k [2,5] p0)))))))))))))))) [.cell 2 47]
def ZBN:FSp:=⟨[tL],[tF],fun x=>F16 x⟩
theorem s16:Zbk pol P 16 ZBN:=sO (a:=a16) Tryz.func16 (ZaM s6 Zbf) (imC s34 (imC s35 (imC s36 imN)))
def a5:FA:=Zbe (Zaf pol) Tryz.f5 12 (.s .o (.s .o (.c 3 (.k [2,3] p0)))) [.cell 2 26]
def sp5:FSp:=⟨[tL],[tM],fun x=>F5 x⟩
theorem s5:Zbk pol P 5 sp5:=sO (a:=a5) Tryz.func5 (ZaM s15 (ZaM s16 Zbf)) imN
def a38:FA:=Zbe (Zaf pol) Tryz.f38 67 (.s .o (.s (.b (.j ⟨[0],[(4,dB)],[]⟩ .o (.k [0,4] (.s p0 (.j ⟨[0],[(19,dB)],[]⟩ .o (.k [0,19] (.s p0 (.j ⟨[0],[(34,dB)],[]⟩ .o (.k [0,34] (.s p0 (.j ⟨[0],[(53,dB)],[]⟩ .o (.k [0,53] (.s p0 (.j ⟨[],[(60,dB)],[]⟩ .o (.k [60] p1))))))))))))))) (.k [] p0))) [.tmp 2,.tmp 3]
def Z35:FSp:=⟨[tI],[tI,.bool],fun x=>F38 x⟩
theorem s38:Zbk pol P 38 Z35:=sO (a:=a38) Tryz.func38 Zbf imN
def Z23:FA:=Zbe (Zaf pol) Tryz.f116 19 (.s .o (.s (.s .o (.b (.s .o (.s p0 (.s .o (.s p0 (.j ⟨[3],[(8,dB)],[]⟩ (.s .o p0) (.k [3,8] (.s p0 (.s .o (.s p0 (.s .o (.s p0 (.s .o (.s p0 (.s .o p1)))))))))))))))) (.k [] p0))) [.tmp 2]
def Z0S:FSp:=⟨[tI],[tI],fun x=>ZrF x⟩
theorem Z24:Zbk pol P 116 Z0S:=sO (a:=Z23) Tryz.func116 Zbf imN
def a81:FA:=Zbe (Zaf pol) Tryz.f81 29 (.s .o (.s (.s .o p1) (.k [0,1] (.s .o (.s (.s .o p1) (.k [0,1,5] (.j ⟨[],[(4,dB)],[]⟩ .o .o))))))) [.tmp 4]
def Z4o:FSp:=⟨[tI,tI],[.bool],fun x=>F81 x.1 x.2⟩
theorem s81:Zbk pol P 81 Z4o:=sO (a:=a81) Tryz.func81 (ZaM Z24 Zbf) imN
def a82:FA:=Zbe (Zaf pol) Tryz.f82 7 (.s .o (.s (.s .o p1) (.k [] p0))) [.tmp 4]
def Z4l:FSp:=⟨[.bool,tI],[tI],fun x=>F82 x.1 x.2⟩
theorem s82:Zbk pol P 82 Z4l:=sO (a:=a82) Tryz.func82 Zbf imN
def a83:FA:=Zbe (Zaf pol) Tryz.f83 15 (.s .o (.s (.s .o (.b (.l ⟨[0],[(3,dI)],[]⟩ (.k [0,3] (.s (.s .o (.k [0,3,7] p0)) (.k [0,3] (.s (.b (.s .o (.k [0,3,14] p1))) (.k [0,3] .o)))))))) (.k [] p0))) [.tmp 2]
def Z3H:FSp:=⟨[tL],[.bool],fun x=>F83 x⟩
theorem s83:Zbk pol P 83 Z3H:=sO (a:=a83) Tryz.func83 Zbf imN
def a49:FA:=Zbe (Zaf pol) Tryz.f49 221 (.s .o (.c 4 (.s .o (.k [0,2,4,7,8] (.s (.j ⟨[0,2,4],[(36,dB)],[]⟩ .o (.k [0,2,4,36] p1)) (.k [0,2,4] (.s (.s .o (.b (.s .o (.s (.s (.s .o (.k [44] p1)) (.k [] p0)) (.s .o (.s p0 (.s .o (.s (.s (.j ⟨[2],[(67,dB)],[]⟩ .o (.k [2,67] p1)) (.k [2] p0)) (.s .o (.s (.j ⟨[],[(6,dI)],[]⟩ .o .o) (.s .o (.s p0 (.s .o (.s (.s (.j ⟨[4],[(111,dB)],[]⟩ .o (.k [4,111] p1)) (.k [4] p0)) (.j ⟨[2,38],[(117,dB)],[]⟩ (.s .o p0) (.k [2,38,117] (.s (.j ⟨[],[(6,dI)],[]⟩ .o .o) (.s .o (.s (.j ⟨[],[(6,dI)],[]⟩ .o .o) (.s .o (.s (.j ⟨[],[(6,dI)],[]⟩ .o .o) (.s .o (.s (.s .o (.k [2,9] (.j ⟨[],[(6,dI)],[]⟩ .o .o))) .o))))))))))))))))))))))) (.k [2] p0)))))))) [.tmp 6]
def ZBM:FSp:=⟨[tG,tn,tL],[tI],fun x=>F49 x.1 x.2.1 x.2.2⟩
theorem s49:Zbk pol P 49 ZBM:=sO (a:=a49) Tryz.func49 (ZaM s38 (ZaM s81 (ZaM s82 (ZaM s83 Zbf)))) imN
def q24a:List CS:=[.own tI true,.own tI true]
def a24:FA:=Zbe (Zaf pol) Tryz.f24 69 (.s .o (.s .o (.s (.s .o (.b (.l ⟨[0],[(3,.sl 0),(4,dI)],[.own tI true]⟩ (.k [0,3,4] (.s (.s .o (.k [0,3,4,12] p0)) (.k [0,3,4] (.j ⟨[0,4],[(3,.sl 0)],[.own tI true]⟩ (.b (.s .o (.s .o (.j ⟨[0,4],[(3,.sl 0),(5,.sl 1),(6,dB)],q24a⟩ (.s .o (.b (.l ⟨[0,4],[(3,.sl 0),(5,.sl 1),(6,dB),(7,dI)],q24a⟩ (.k [0,3,4,5,6,7] (.s (.s .o (.k [0,3,4,5,6,7,22] p0)) (.k [0,3,4,5,6,7] (.s (.b (.s .o (.k [0,3,4,5,6,7,8] (.s (.j ⟨[0,4,6,7,8],[(3,.sl 0),(5,.sl 1),(46,dB)],q24a⟩ .o (.k [0,3,4,5,6,7,8,46] p1)) (.k [0,3,4,5,6,7,8] .o))))) (.k [0,3,4,5,6,7] .o)))))))) (.k [0,3,4,5,6] (.s .o p0)))))) (.k [0,3,4] .o)))))))) (.k [3] p0)))) [.tmp 2]
def Z2y:FSp:=⟨[tG],[tL],fun x=>F24 x⟩
theorem s24:Zbk pol P 24 Z2y:=sO (a:=a24) Tryz.func24 (ZaM s49 Zbf) imN
def a39:FA:=Zbe (Zaf pol) Tryz.f39 39 (.s .o (.s .o (.s .o (.s (.s .o (.b (.l ⟨[0,1,2,7],[(8,.sl 0),(9,dI)],[.own tI true]⟩ (.k [0,1,2,7,8,9] (.s (.s .o (.k [0,1,2,7,8,9,15] p0)) (.k [0,1,2,7,8,9] (.j ⟨[0,1,2,7,9],[(8,.sl 0)],[.own tI true]⟩ (.b (.s .o (.k [0,1,2,7,8,9,23] p0))) (.k [0,1,2,7,8,9] .o)))))))) (.k [2,8] p0))))) [.tmp 6]
def Z3F:FSp:=⟨[tG,tI,tI],[tI],fun x=>F39 x.1 x.2.1 x.2.2⟩
theorem s39:Zbk pol P 39 Z3F:=sO (a:=a39) Tryz.func39 (ZaM s6 (ZaM s24 Zbf)) imN
def a74:FA:=Zbe (Zaf pol) Tryz.f74 13 (.s .o (.s (.j ⟨[],[(12,dB)],[]⟩ .o (.k [12] p1)) (.k [] p0))) [.tmp 2]
def Z34:FSp:=⟨[tI],[tI],fun x=>F74 x⟩
theorem s74:Zbk pol P 74 Z34:=sO (a:=a74) Tryz.func74 Zbf imN
def a40:FA:=Zbe (Zaf pol) Tryz.f40 20 (.s .o (.s (.j ⟨[],[(19,dB)],[]⟩ .o (.k [19] p1)) (.k [] p0))) [.tmp 4]
def Z3X:FSp:=⟨[tI,tI],[tI],fun x=>F40 x.1 x.2⟩
theorem s40:Zbk pol P 40 Z3X:=sO (a:=a40) Tryz.func40 (ZaM s74 Zbf) imN
def a41:FA:=Zbe (Zaf pol) Tryz.f41 18 (.s .o (.c 3 (.s (.s .o (.b (.l ⟨[0,3],[(5,dI)],[]⟩ (.k [0,3,5] (.s (.s .o (.k [0,3,5,9] p0)) (.k [0,3,5] (.s (.b (.s .o (.k [0,3,5,17] p1))) (.k [0,3,5] .o)))))))) (.k [] p0)))) [.tmp 4]
def Z4d:FSp:=⟨[tG,tn],[.bool],fun x=>F41 x.1 x.2⟩
theorem s41:Zbk pol P 41 Z4d:=sO (a:=a41) Tryz.func41 (ZaM s42 Zbf) imN
def q17a:List CS:=[.own tn true,.box [.sl 3,dI] true,.box [dI,dI,.nils] true,.own tI true]
def q17b:List CS:=[.own tn true,.box [dI,dI,.sl 2] true,.own tI true]
def a17:FA:=Zbe (Zaf pol) Tryz.f17 147 (.s .o (.s .o (.k [0,1,5] (.s (.s .o (.b (.l ⟨[0,1],[(5,.sl 0),(6,dI)],[.own tn true]⟩ (.k [0,1,5,6] (.s (.j ⟨[0,1,6],[(5,.sl 0),(23,dB)],[.own tn true]⟩ .o (.k [0,1,5,6,23] p0)) (.k [0,1,5,6] (.j ⟨[0,1,6],[(5,.sl 0)],[.own tn true]⟩ (.b (.s .o (.k [0,1,5,6,7] (.s .o (.k [0,1,5,6,7,8] (.j ⟨[0,1,6],[(5,.sl 0),(7,.bx 1 0),(8,.bx 2 0)],q17a⟩ (.j ⟨[0,1,6],[(5,.sl 0),(7,.bx 1 0),(8,.bx 2 0),(60,dB)],q17a⟩ .o (.k [0,1,5,6,7,8,60] p0)) (.k [0,1,5,6,7,8] (.j ⟨[0,1,6],[(5,.sl 0),(7,.bx 1 0),(8,.bx 2 0)],q17a⟩ (.s .o (.k [0,1,5,6,7,8,76] p0)) (.k [0,1,5,6,7,8] (.s .o (.k [0,1,5,6,7,8,9] (.s (.s .o (.b (.l ⟨[0,1,6,9],[(5,.sl 0),(7,.bx 1 0),(8,.bx 2 0),(11,dI)],[.own tn true,.box [.sl 3,dI] true,.box [dI,dI,.sl 4] true,.own tI false,.own tI true]⟩ (.k [0,1,5,6,7,8,9,11] (.s (.s .o p0) (.k [0,1,5,6,7,8,9,11] (.s (.b .o) (.k [0,1,5,6,7,8,9,11] .o)))))))) (.k [0,1,5,6,8] (.j ⟨[0,1,6],[(5,.sl 0),(8,.bx 1 0)],q17b⟩ (.s .o p0) (.k [0,1,5,6,8] (.j ⟨[0,1,6],[(5,.sl 0),(8,.bx 1 0)],q17b⟩ (.j ⟨[0,1,6],[(5,.sl 0),(8,.bx 1 0),(130,dB)],q17b⟩ .o (.k [0,1,5,6,8,130] p0)) (.k [0,1,5,6,8] (.s .o (.k [0,1,5,6,8,141] p0))))))))))))))))))) (.k [0,1,5,6] .o)))))))) (.k [5] p0))))) [.tmp 4]
def ZBX:FSp:=⟨[tL,.bool],[tG],fun x=>F17 x.1 x.2⟩
theorem s17:Zbk pol P 17 ZBX:=sO (a:=a17) Tryz.func17 (ZaM s6 (ZaM s37 (ZaM s38 (ZaM s39 (ZaM s40 (ZaM s41 Zbf)))))) (imC s34 imN)
def a18:FA:=Zbe (Zaf pol) Tryz.f18 21 (.s .o (.s (.j ⟨[0,1],[(12,dB)],[]⟩ .o (.k [0,1,12] p1)) (.k [0,1] p0))) [.tmp 4]
def ZBO:FSp:=⟨[tG,tI],[tI],fun x=>F18 x.1 x.2⟩
theorem s18:Zbk pol P 18 ZBO:=sO (a:=a18) Tryz.func18 (ZaM s24 Zbf) imN
def a19:FA:=Zbe (Zaf pol) Tryz.f19 28 (.s .o (.c 3 (.s (.s .o (.b (.l ⟨[0,3],[(6,dI)],[]⟩ (.k [0,3,6] (.s (.s .o (.k [0,3,6,10] p0)) (.k [0,3,6] (.s (.b (.s .o (.k [0,3,6,18] p1))) (.k [0,3,6] .o)))))))) (.k [0,3] p0)))) [.tmp 4,.tmp 5]
def Z2L:FSp:=⟨[tG,tn],[tG,tI],fun x=>F19 x.1 x.2⟩
theorem s19:Zbk pol P 19 Z2L:=sO (a:=a19) Tryz.func19 (ZaM s42 Zbf) imN
def a7:FA:=Zbe (Zaf pol) Tryz.f7 214 (.s .o (.s .o (.s (.s .o (.b (.l ⟨[0,1],[(5,.dat tG),(6,dI)],[]⟩ (.k [0,1,5,6] (.s (.j ⟨[0,1,5,6],[(22,dB)],[]⟩ .o (.k [0,1,5,6,22] p0)) (.k [0,1,5,6] (.j ⟨[0,1,6],[(5,.dat tG)],[]⟩ (.b (.s .o (.s (.s .o (.b (.l ⟨[0,1,5,6],[(7,dI),(8,dI),(9,dI)],[]⟩ (.k [0,1,5,6,7,8,9] (.s (.s .o (.k [0,1,5,6,7,8,9,28] p0)) (.k [0,1,5,6,7,8,9] (.j ⟨[0,1,5,6,9],[(7,dI),(8,dI)],[]⟩ (.b (.j ⟨[0,1,5,6,8,9],[(7,dI)],[]⟩ (.j ⟨[0,1,5,6,7,8,9],[(44,dB)],[]⟩ .o (.k [0,1,5,6,7,8,9,44] p0)) (.k [0,1,5,6,7,8,9] (.j ⟨[0,1,5,6,7,8,9],[(60,dB)],[]⟩ .o (.k [0,1,5,6,7,8,9,60] p0))))) (.k [0,1,5,6,7,8,9] .o)))))))) (.k [0,1,5,6,7,8] (.s .o (.s .o (.k [0,1,5,6,7,8,66] (.b (.s .o (.s (.s .o (.k [0,1,5,6,7,10] (.s .o (.k [0,1,5,6,7,11] (.s .o (.k [0,1,5,6,11,12] (.s .o (.k [0,1,5,6,11,12] (.s .o (.k [0,1,5,6,10,11,12] (.s .o (.k [0,1,5,6,11,12] .o)))))))))))) (.s .o (.s (.s .o (.k [0,1,5,6,7,8,10] (.s .o (.k [0,1,5,6,7,8,11] (.s .o (.k [0,1,5,6,7,8,11] (.s .o (.k [0,1,5,6,8,11,12] (.s .o (.k [0,1,5,6,11,12] .o)))))))))) (.s .o (.k [0,1,5,6,7,8,10] (.s .o (.k [0,1,5,6,7,8,11] (.s .o (.k [0,1,5,6,8,11,12] .o)))))))))))))))))) (.k [0,1,5,6] .o)))))))) (.k [5] p0)))) [.tmp 4]
def sp7:FSp:=⟨[tL,tI],[tG],fun x=>F7 x.1 x.2⟩
theorem s7:Zbk pol P 7 sp7:=sO (a:=a7) Tryz.func7 (ZaM s6 (ZaM s17 (ZaM s18 (ZaM s19 Zbf)))) imN
def a8:FA:=Zbe (Zaf pol) Tryz.f8 19 (.s .o (.s (.s .o (.k [0,1,5] (.b (.l ⟨[0,1],[(5,dI)],[]⟩ (.k [0,1,5] (.s (.s .o p0) (.k [0,1,5] (.s (.b (.s .o (.k [0,1,5,17] p1))) (.k [0,1,5] .o))))))))) (.k [] p0))) [.tmp 4]
def sp8:FSp:=⟨[tG,tI],[tI],fun x=>F8 x.1 x.2⟩
theorem s8:Zbk pol P 8 sp8:=sO (a:=a8) Tryz.func8 (ZaM s18 Zbf) imN
def a4:FA:=Zbe (Zaf pol) Tryz.f4 53 (.s .o (.s .o (.c 7 (.k [0,1,2,7] (.s .o (.k [0,2,7,8] (.s .o (.j ⟨[],[(8,.bx 0 0),(9,.sl 1)],[.box [.dat .str,dI,.dat tG,dI,dI] true,.own tI false]⟩ (.s .o p1) (.k [8,9] (.s .o (.c 11 (.k [9,11] (.j ⟨[],[(6,dB)],[]⟩ .o .o))))))))))))) [.tmp 6]
def sp4:FSp:=⟨[tL,tI,.bool],[.bool],fun x=>F4 x.1 x.2.1 x.2.2⟩
theorem s4:Zbk pol P 4 sp4:=sO (a:=a4) Tryz.func4 (ZaM s5 (ZaM s6 (ZaM s7 (ZaM s8 (ZaM s10 (ZaM s11 (ZaM s13 (ZaM s14 Zbf)))))))) imN
end Go.Proofs.YtnhhmgpkldfpoaaGreatDoor
end
