import Derived.Test.YtnhhmgpkldfpoaaGreatDoorE2Run
set_option linter.unusedVariables false
open Go.IntKind (wrap)
open ByteArray (empty)
open Int (tmod tdiv toNat fdiv)
open List (replicate)
namespace Go.Dat
open Go.Eng
noncomputable section
abbrev TN:=List (Int×Int×List Int)
abbrev TS:=List (Int×Int×Int×List Int×List Int)
abbrev TI:=List (Int×Int×Int)
abbrev TP:=List (Int×Int)
abbrev TT:=TN×TS×TI×Int×Int×Int×Int
abbrev TQ:=TN×TS×Int×Int
abbrev Y0:=ByteArray×List ByteArray×List ByteArray×List SmT×Int×Int×ByteArray×Int×List ExT
abbrev Y1:=ByteArray×Int
abbrev Y2:=(List Y1)×(List Y0)×Int×Int×TN×List ByteArray×List Int
abbrev Y3:=Int×Int×ByteArray×Int×List ExT
abbrev Y4:=ByteArray×Int×TN×Int×Int
abbrev Y5:=Int×ByteArray×ByteArray×Int×Int×Int×ByteArray×Int×Int×Int×ByteArray×Int×Int×List ExT×List ExT×List ExT×List SmT×List SmT×List Int
abbrev Y6:=(List Y1)×(List Y0)×Int×Int×List Bool×TN×List ByteArray×List Int
abbrev Y7:=Int×(List Y1)×(List Y0)×Int×Int×TN×List ByteArray×List Int
abbrev Y8:=Int×List Int×TN×List Y1
abbrev Y9:=Int×List Int
abbrev Y10:=Bool×List Int×TN×List Y1
abbrev Y11:=Int×Int×ByteArray×Int×Int×List ExT×List Int
abbrev Y12:=List ByteArray×List ByteArray×(List Y1)×List Y0
abbrev Y13:=Int×List Int×List Int×ByteArray×Int×Int×Int×TN×TN
abbrev Y14:=Int×Bool×List Int×TN×List Y1
abbrev Y15:=Int×(List Y1)×(List Y0)×Int×Int×List Int×List Int×List Int×TN×List ByteArray×List Int
abbrev Y16:=Int×List Int×TN
abbrev Y17:=Int×(List Y1)×(List Y0)×Int×Int×(List Y1)×(List Y4)×TN×List ByteArray×List Int
abbrev Y18:=Bool×List Int×TN
abbrev Y19:=List Int×List Int×TN×TN×List Y1
abbrev Y20:=Int×(List Y1)×(List Y0)×Int×Int×List Bool×TN×List ByteArray×List Int
abbrev Y21:=Int×(List Y1)×(List Y0)×Int×Int×List Int×TN×List ByteArray×List Int
abbrev Y22:=Int×List SmT×List Int
abbrev Y23:=Int×Int×Int×ByteArray×ByteArray×Int×Int×Int×ByteArray×Int×Int×Int×ByteArray×Int×Int×ByteArray×ByteArray×Int×Int×Int×ByteArray×Int×Int×Int×ByteArray×Int×List Int×List ExT
abbrev Y24:=Int×(List Y1)×(List Y0)×Int×Int×List Bool×List Int×TN×List ByteArray×List Int
abbrev Y25:=Int×Int×Int
abbrev Y26:=Int×List ByteArray
abbrev Y27:=Y9⊕(List Int)
abbrev Y28:=Int×ByteArray×Int×Int×Int×List Int×List Int×TN×List Y1
abbrev Y29:=TN⊕((Int×TN)⊕TN)
abbrev Y30:=Int×Int×Bool×List Int×TN×List Y1
abbrev Y31:=Int×Bool×List Int×TN
abbrev Y32:=Int×ByteArray×Int×Int×Int×List Int×List Int×TN
abbrev Y33:=(Int×(List Y1)×List Y4)⊕(((List Y1)×List Y4)×Int)
abbrev Y34:=Int×Int×Int×ByteArray×ByteArray×Int×Int×Int×ByteArray×Int×Int×Int×ByteArray×Int×List Int
abbrev Y35:=Y25⊕(TN⊕((TN×Int)⊕TN))
abbrev Y36:=Int×ByteArray×Int×Int×Int
abbrev Y37:=Int×Int×List Int
abbrev Y38:=(Bool×Int×List Int×List Int)⊕((Bool×List Int×List Int)⊕((List Int)⊕Y27))
abbrev Y39:=Int×(List Y1)×(List Y0)×Int×Int×List Int×List Int×TN×List ByteArray
abbrev Y40:=Int×ByteArray×Int×Int×Int×List Int×List Int×List Int×TN×List Y1
abbrev Y41:=Int×List Int×List (ByteArray×Bool)
abbrev Y42:=Int×List Int×List Int×ByteArray×Int×Int×Int×List Int×TN×TN
abbrev Y43:=Int×ByteArray×ByteArray×Int×Y3×Y3×List ExT×List SmT×List SmT
abbrev Y44:=Int×List ByteArray×List ByteArray
abbrev Y45:=Int×List ByteArray×List ByteArray×List ByteArray×List ByteArray
abbrev Y46:=TN×Int×Int×List Int
abbrev Y47:=Int×ByteArray×Int×Int×Int×List Int×List Int×List Int×TN
abbrev Y48:=List Int×Int×Int×TN×List Int
abbrev Y49:=List Int×List Int×TN×List Y1
abbrev Y50:=List Int×TN×List Y1
abbrev Y51:=Int×(List Y4)×List (List Int)
abbrev Y52:=Int×(List Y1)×(List Y0)×List ByteArray×List ByteArray
abbrev Y53:=Int×Int×List SmT×List Int
abbrev Y54:=TN×Int×Int×Int×List Int
abbrev Y55:=Int×List Int×List Int×List Int×TN×TN×List Y1
abbrev Y56:=Bool×List Int
abbrev Y57:=Bool×Int×Int×Int×ByteArray×Int×List Int
abbrev Y58:=Int×List Int×List Int×List Int×TN×List Y1
abbrev Y59:=Int×TN×Int×Int×Int×List Int×List Int
abbrev Y60:=Int⊕(Int⊕Int)
abbrev Y61:=Int×List Y1
abbrev Y62:=Bool×List Int×Int×Int×List Int×TN
abbrev Y63:=Int×List Int×Int×Int×TN×List Int
abbrev Y64:=(Int×List Y4)⊕Bool
abbrev Y65:=Bool×List Int×List Int×TN×List Y1
abbrev Y66:=Int×Int×Int×Int
abbrev Y67:=Int×List Int×List Int×TN×List Y1
abbrev Y68:=(List Int×TN)⊕Y31
abbrev Y69:=Bool×ByteArray×Int×Int×Int
def GT1:List Int:=[1,10,100,1000,10000,100000,1000000,10000000,100000000,1000000000,10000000000,100000000000,1000000000000,10000000000000,100000000000000,1000000000000000,10000000000000000,100000000000000000,1000000000000000000,10000000000000000000]
def BS0:ByteArray:=ByteArray.mk #[48,49,50,51,52,53,54,55,56,57,97,98,99,100,101,102,103,104,105,106,107,108,109,110,111,112,113,114,115,116,117,118,119,120,121,122]
def BS1:ByteArray:=ByteArray.mk #[48,48,48,49,48,50,48,51,48,52,48,53,48,54,48,55,48,56,48,57,49,48,49,49,49,50,49,51,49,52,49,53,49,54,49,55,49,56,49,57,50,48,50,49,50,50,50,51,50,52,50,53,50,54,50,55,50,56,50,57,51,48,51,49,51,50,51,51,51,52,51,53,51,54,51,55,51,56,51,57,52,48,52,49,52,50,52,51,52,52,52,53,52,54,52,55,52,56,52,57,53,48,53,49,53,50,53,51,53,52,53,53,53,54,53,55,53,56,53,57,54,48,54,49,54,50,54,51,54,52,54,53,54,54,54,55,54,56,54,57,55,48,55,49,55,50,55,51,55,52,55,53,55,54,55,55,55,56,55,57,56,48,56,49,56,50,56,51,56,52,56,53,56,54,56,55,56,56,56,57,57,48,57,49,57,50,57,51,57,52,57,53,57,54,57,55,57,56,57,57]
def BS2:ByteArray:=ByteArray.mk #[0,1,2,2,3,3,3,3,4,4,4,4,4,4,4,4,5,5,5,5,5,5,5,5,5,5,5,5,5,5,5,5,6,6,6,6,6,6,6,6,6,6,6,6,6,6,6,6,6,6,6,6,6,6,6,6,6,6,6,6,6,6,6,6,7,7,7,7,7,7,7,7,7,7,7,7,7,7,7,7,7,7,7,7,7,7,7,7,7,7,7,7,7,7,7,7,7,7,7,7,7,7,7,7,7,7,7,7,7,7,7,7,7,7,7,7,7,7,7,7,7,7,7,7,7,7,7,7,8,8,8,8,8,8,8,8,8,8,8,8,8,8,8,8,8,8,8,8,8,8,8,8,8,8,8,8,8,8,8,8,8,8,8,8,8,8,8,8,8,8,8,8,8,8,8,8,8,8,8,8,8,8,8,8,8,8,8,8,8,8,8,8,8,8,8,8,8,8,8,8,8,8,8,8,8,8,8,8,8,8,8,8,8,8,8,8,8,8,8,8,8,8,8,8,8,8,8,8,8,8,8,8,8,8,8,8,8,8,8,8,8,8,8,8,8,8,8,8,8,8,8,8,8,8,8,8]
def F14:Option Bool:=some true
def Ztm (l1:List SmT) (deep2:Int) (rec103:(List SmT)->Int->Option Y25) (n7:Int) (most9:Int) (i10:Int):Int->Option (Y66⊕Y25):=fun w11=>
 (gI l1 i10).bind fun y13=>
 (rec103 ((ZGo y13).2.2.2.2.2.2.2.1) (wrap .i64 (deep2+1))).bind fun r14=>
 (gI l1 i10).bind fun y15=>
 (rec103 ((ZGo y15).2.2.2.2.2.2.2.2) (wrap .i64 (deep2+1))).bind fun r16=>
 some (.inl (wrap .i64 ((wrap .i64 ((wrap .i64 (n7+1))+r14.1))+r16.1),wrap .i64 ((wrap .i64 (w11+r14.2.1))+r16.2.1),if (if r16.2.2 > r14.2.2 then r16.2.2 else r14.2.2) > (if deep2 > most9 then deep2 else most9) then if r16.2.2 > r14.2.2 then r16.2.2 else r14.2.2 else if deep2 > most9 then deep2 else most9,wrap .i64 (i10+1)))
def ZLX (l1:List SmT) (deep2:Int) (rec103:(List SmT)->Int->Option Y25):Y66->Option (Y66⊕Y25):=fun (n7,w8,most9,i10)=>
 bif decide (i10 < (l1.length:Int)) then
 ((gI l1 i10).bind fun y12=>
 bif ((ZGo y12).1)==4 then
 some (.inl (wrap .i64 (w8+1)))
 else
 some (.inl w8)).bind (Sum.elim (Ztm l1 deep2 rec103 n7 most9 i10) some)
 else
 (some (n7,w8,most9)).map .inr
def ZPE (rec103:(List SmT)->Int->Option Y25) (l1:List SmT) (deep2:Int):Option Y25:=
 Zao (ZLX l1 deep2 rec103) (0,0,0,0)
def ZNT (n:Nat):(List SmT)->Int->Option Y25:=Nat.rec (motive:=fun _=>(List SmT)->Int->Option Y25) (fun _ _=>none) (fun _ ih=>ZPE ih) n
def ZxP (l1:List SmT) (deep2:Int):Option Y25:=ZNT 1000 l1 deep2
def Ztu (e1:Int×Int×ByteArray×Int×List ExT) (rec105:Y3->Option Int):(Int×Int)->Option ((Int×Int)⊕Int):=fun (most4,i5)=>
 bif decide (i5 < (e1.2.2.2.2.length:Int)) then
 (gI e1.2.2.2.2 i5).bind fun y6=>
 (rec105 (ZGt y6)).bind fun r7=>
 some (.inl (if (wrap .i64 (1+r7)) > most4 then wrap .i64 (1+r7) else most4,wrap .i64 (i5+1)))
 else
 (some most4).map .inr
def ZPF (rec105:Y3->Option Int) (e1:Int×Int×ByteArray×Int×List ExT):Option Int:=
 Zao (Ztu e1 rec105) (0,0)
def ZNO (n:Nat):Y3->Option Int:=Nat.rec (motive:=fun _=>Y3->Option Int) (fun _=>none) (fun _ ih=>ZPF ih) n
def Z0q (e1:Int×Int×ByteArray×Int×List ExT):Option Int:=ZNO 1000 e1
def ZNb (i3:Int) (y4:SmT):Int->Option (Int⊕(Int⊕Bool)):=fun k11=>
 bif decide (k11 < (List.length ((ZGo y4).2.2.2.2.2.2.1):Int)) then
 (gI ((ZGo y4).2.2.2.2.2.2.1) k11).bind fun y12=>
 (Z0q (ZGt y12)).bind fun r13=>
 bif decide (r13 > 20) then
 ((some true).map .inr).map .inr
 else
 some (.inl (wrap .i64 (k11+1)))
 else
 (some (.inl (wrap .i64 (i3+1)))).map .inr
def Ztn (i3:Int) (y4:SmT):Bool->Option (Int⊕Bool):=fun x5=>
 bif x5 then
 (some true).map .inr
 else
 Zao (ZNb i3 y4) 0
def Zto (l1:List SmT) (rec104:(List SmT)->Option Bool):Int->Option (Int⊕Bool):=fun i3=>
 bif decide (i3 < (l1.length:Int)) then
 (gI l1 i3).bind fun y4=>
 ((Z0q (((ZGo y4).2.2.2.2.1).1,((ZGo y4).2.2.2.2.1).2.1,((ZGo y4).2.2.2.2.1).2.2.1,((ZGo y4).2.2.2.2.1).2.2.2.1,((ZGo y4).2.2.2.2.1).2.2.2.2)).bind fun r6=>
 bif decide (r6 > 20) then
 some (.inl true)
 else
 (Z0q (((ZGo y4).2.2.2.2.2.1).1,((ZGo y4).2.2.2.2.2.1).2.1,((ZGo y4).2.2.2.2.2.1).2.2.1,((ZGo y4).2.2.2.2.2.1).2.2.2.1,((ZGo y4).2.2.2.2.2.1).2.2.2.2)).bind fun r7=>
 bif decide (r7 > 20) then
 some (.inl true)
 else
 (rec104 ((ZGo y4).2.2.2.2.2.2.2.1)).bind fun r8=>
 bif r8 then
 some (.inl true)
 else
 (rec104 ((ZGo y4).2.2.2.2.2.2.2.2)).bind fun r9=>
 some (.inl r9)).bind (Sum.elim (Ztn i3 y4) some)
 else
 (some false).map .inr
def ZPG (rec104:(List SmT)->Option Bool) (l1:List SmT):Option Bool:=
 Zao (Zto l1 rec104) 0
def ZOB (n:Nat):(List SmT)->Option Bool:=Nat.rec (motive:=fun _=>(List SmT)->Option Bool) (fun _=>none) (fun _ ih=>ZPG ih) n
def ZxQ (l1:List SmT):Option Bool:=ZOB 1000 l1
def ZA5 (i4:Int):Bool->Option (Int⊕Bool):=fun x5=>
 bif x5 then
 (some true).map .inr
 else
 some (.inl (wrap .i64 (i4+1)))
def ZA4 (i9:Int):Bool->Option (Int⊕Bool):=fun x12=>
 bif x12 then
 (some true).map .inr
 else
 some (.inl (wrap .i64 (i9+1)))
def ZNU (p1:(List Y1)×List Y0):Int->Option (Int⊕Bool):=fun i9=>
 bif decide (i9 < (p1.2.length:Int)) then
 (gI p1.2 i9).bind fun y10=>
 (ZxP y10.2.2.2.1 0).bind fun r11=>
 (bif decide ((y10.2.1.length:Int) > 6) then
 some (.inl true)
 else
 bif decide ((y10.2.2.1.length:Int) > 8) then
 some (.inl true)
 else
 bif decide (r11.1 > 200) then
 some (.inl true)
 else
 bif decide (r11.2.1 > 16) then
 some (.inl true)
 else
 bif decide (r11.2.2 > 20) then
 some (.inl true)
 else
 (ZxQ y10.2.2.2.1).bind fun r13=>
 bif r13 then
 some (.inl true)
 else
 (Z0q y10.2.2.2.2).bind fun r14=>
 some (.inl (decide (r14 > 20)))).bind (Sum.elim (ZA4 i9) some)
 else
 (some false).map .inr
def ZA6 (p1:(List Y1)×List Y0):Int->Option (Int⊕Bool):=fun i4=>
 bif decide (i4 < (p1.1.length:Int)) then
 ((gI p1.1 i4).bind fun y6=>
 bif decide (y6.2 < 1) then
 some (.inl true)
 else
 (gI p1.1 i4).bind fun y7=>
 some (.inl (decide (y7.2 > 16)))).bind (Sum.elim (ZA5 i4) some)
 else
 (Zao (ZNU p1) 0).map .inr
def Z8W (p1:(List Y1)×List Y0):Bool->Option Bool:=fun x2=>
 bif x2 then
 some true
 else
 Zao (ZA6 p1) 0
def F62 (p1:(List Y1)×List Y0):Option Bool:=
 (bif decide ((p1.1.length:Int) > 4) then
 some (.inl true)
 else
 some (.inl (decide ((p1.2.length:Int) > 8)))).bind (Sum.elim (Z8W p1) some)
def ZNV:Bool->Option Bool:=fun x2=>
 some x2
def ZP6 (c1:Int):Option Bool:=
 (bif decide (c1>=97) then
 bif decide (c1<=122) then
 some (.inl true)
 else
 bif decide (c1>=65) then
 bif decide (c1<=90) then
 some (.inl true)
 else
 some (.inl (c1==95))
 else
 some (.inl (c1==95))
 else
 bif decide (c1>=65) then
 bif decide (c1<=90) then
 some (.inl true)
 else
 some (.inl (c1==95))
 else
 some (.inl (c1==95))).bind (Sum.elim ZNV some)
def ZNW:Bool->Option Bool:=fun x2=>
 some x2
def ZP7 (c1:Int):Option Bool:=
 (bif decide (c1>=48) then
 some (.inl (decide (c1<=57)))
 else
 some (.inl false)).bind (Sum.elim ZNW some)
def ZNX (i3:Int):Bool->Option (Int⊕Bool):=fun x4=>
 bif x4 then
 (some false).map .inr
 else
 some (.inl (wrap .i64 (i3+1)))
def ZNY:Bool->Option Bool:=fun x9=>
 some x9
def ZNc (s1:ByteArray):Int->Option (Int⊕Bool):=fun i3=>
 bif decide (i3 < (s1.size:Int)) then
 ((gB s1 i3).bind fun b5=>
 (ZP6 b5).bind fun r6=>
 bif !r6 then
 (gB s1 i3).bind fun b7=>
 (ZP7 b7).bind fun r8=>
 bif !r8 then
 some (.inl true)
 else
 some (.inl (i3==0))
 else
 some (.inl false)).bind (Sum.elim (ZNX i3) some)
 else
 ((bif decide ((s1.size:Int)>=1) then
 some (.inl (decide ((s1.size:Int)<=16)))
 else
 some (.inl false)).bind (Sum.elim ZNY some)).map .inr
def ZOO (s1:ByteArray):Option Bool:=
 Zao (ZNc s1) 0
def ZsZ (s1:ByteArray):Y26->Option (Y26⊕Bool):=fun (i4,l5)=>
 bif decide (i4 < (l5.length:Int)) then
 (gI l5 i4).bind fun y6=>
 (gI l5 i4).bind fun y7=>
 bif y7.toList==s1.toList then
 (some true).map .inr
 else
 some (.inl (wrap .i64 (i4+1),l5))
 else
 (some false).map .inr
def ZgQ (s1:ByteArray):Option Bool:=
 Zao (ZsZ s1) (0,([(ByteArray.mk #[97,114,114,97,121]),(ByteArray.mk #[102,117,110,99]),(ByteArray.mk #[118,97,114]),(ByteArray.mk #[114,101,116,117,114,110]),(ByteArray.mk #[105,102]),(ByteArray.mk #[101,108,115,101]),(ByteArray.mk #[119,104,105,108,101]),(ByteArray.mk #[111,117,116]),(ByteArray.mk #[116,114,97,112])]:List ByteArray))
def Ztf:Bool->Option Bool:=fun x2=>
 some x2
def Z0Q (s1:ByteArray):Option Bool:=
 ((ZOO s1).bind fun r3=>
 bif r3 then
 (ZgQ s1).bind fun r4=>
 some (.inl (!r4))
 else
 some (.inl false)).bind (Sum.elim Ztf some)
def ZNd:Bool->Option Bool:=fun x2=>
 some x2
def ZOP (op1:Int):Option Bool:=
 (bif decide (op1>=4) then
 some (.inl (decide (op1<=18)))
 else
 some (.inl false)).bind (Sum.elim ZNd some)
def ZCW:Bool->Option Bool:=fun x6=>
 some x6
def ZCV:Bool->Option Bool:=fun x7=>
 some x7
def ZCU:Bool->Option Bool:=fun x9=>
 some x9
def ZCT:Bool->Option Bool:=fun x11=>
 some x11
def ZCS:Bool->Option Bool:=fun x13=>
 some x13
def ZLY (e1:Int×Int×ByteArray×Int×List ExT) (rec108:Y3->Option Bool):Int->Option (Int⊕Bool):=fun i3=>
 bif decide (i3 < (e1.2.2.2.2.length:Int)) then
 (gI e1.2.2.2.2 i3).bind fun y4=>
 (rec108 (ZGt y4)).bind fun r5=>
 bif !r5 then
 (some false).map .inr
 else
 some (.inl (wrap .i64 (i3+1)))
 else
 (bif e1.1==1 then
 (bif (e1.2.2.2.2.length:Int)==0 then
 bif e1.2.2.1.toList==(ByteArray.mk #[]).toList then
 some (.inl (e1.2.2.2.1==0))
 else
 some (.inl false)
 else
 some (.inl false)).bind (Sum.elim ZCW some)
 else
 bif e1.1==2 then
 (bif (e1.2.2.2.2.length:Int)==0 then
 bif e1.2.1==0 then
 bif e1.2.2.2.1==0 then
 (Z0Q e1.2.2.1).bind fun r8=>
 some (.inl r8)
 else
 some (.inl false)
 else
 some (.inl false)
 else
 some (.inl false)).bind (Sum.elim ZCV some)
 else
 bif e1.1==3 then
 (bif (e1.2.2.2.2.length:Int)==1 then
 bif e1.2.1==0 then
 bif e1.2.2.2.1==0 then
 (Z0Q e1.2.2.1).bind fun r10=>
 some (.inl r10)
 else
 some (.inl false)
 else
 some (.inl false)
 else
 some (.inl false)).bind (Sum.elim ZCU some)
 else
 bif e1.1==4 then
 (bif e1.2.1==0 then
 bif e1.2.2.1.toList==(ByteArray.mk #[]).toList then
 bif (e1.2.2.2.2.length:Int)==2 then
 (ZOP e1.2.2.2.1).bind fun r12=>
 bif r12 then
 some (.inl true)
 else
 bif (e1.2.2.2.2.length:Int)==1 then
 bif e1.2.2.2.1==20 then
 some (.inl true)
 else
 some (.inl (e1.2.2.2.1==21))
 else
 some (.inl false)
 else
 bif (e1.2.2.2.2.length:Int)==1 then
 bif e1.2.2.2.1==20 then
 some (.inl true)
 else
 some (.inl (e1.2.2.2.1==21))
 else
 some (.inl false)
 else
 some (.inl false)
 else
 some (.inl false)).bind (Sum.elim ZCT some)
 else
 bif e1.1==5 then
 (bif (e1.2.2.2.2.length:Int)==3 then
 bif e1.2.1==0 then
 bif e1.2.2.1.toList==(ByteArray.mk #[]).toList then
 some (.inl (e1.2.2.2.1==0))
 else
 some (.inl false)
 else
 some (.inl false)
 else
 some (.inl false)).bind (Sum.elim ZCS some)
 else
 some false).map .inr
def ZPH (rec108:Y3->Option Bool) (e1:Int×Int×ByteArray×Int×List ExT):Option Bool:=
 Zao (ZLY e1 rec108) 0
def ZOC (n:Nat):Y3->Option Bool:=Nat.rec (motive:=fun _=>Y3->Option Bool) (fun _=>none) (fun _ ih=>ZPH ih) n
def ZuR (e1:Int×Int×ByteArray×Int×List ExT):Option Bool:=ZOC 1000 e1
def ZNe:Bool->Option Bool:=fun x2=>
 some x2
def ZMH (e1:Int×Int×ByteArray×Int×List ExT):Option Bool:=
 (bif e1.1==0 then
 bif e1.2.1==0 then
 bif e1.2.2.1.toList==(ByteArray.mk #[]).toList then
 bif e1.2.2.2.1==0 then
 some (.inl ((e1.2.2.2.2.length:Int)==0))
 else
 some (.inl false)
 else
 some (.inl false)
 else
 some (.inl false)
 else
 some (.inl false)).bind (Sum.elim ZNe some)
def ZLJ:Bool->Option Bool:=fun x2=>
 some x2
def ZNz (s1:Int×ByteArray×ByteArray×Int×Y3×Y3×List ExT×List SmT×List SmT):Option Bool:=
 (bif s1.2.1.toList==(ByteArray.mk #[]).toList then
 bif s1.2.2.1.toList==(ByteArray.mk #[]).toList then
 bif s1.2.2.2.1==0 then
 (ZMH s1.2.2.2.2.1).bind fun r3=>
 bif r3 then
 some (.inl ((s1.2.2.2.2.2.2.1.length:Int)==0))
 else
 some (.inl false)
 else
 some (.inl false)
 else
 some (.inl false)
 else
 some (.inl false)).bind (Sum.elim ZLJ some)
def Zp7:Bool->Option Bool:=fun x7=>
 some x7
def Zta:Bool->Option Bool:=fun x11=>
 some x11
def ZgR:Bool->Option Bool:=fun x15=>
 some x15
def ZNf:Bool->Option Bool:=fun x18=>
 some x18
def ZNg:Bool->Option Bool:=fun x21=>
 some x21
def ZLZ:Bool->Option Bool:=fun x24=>
 some x24
def ZNh:Bool->Option Bool:=fun x29=>
 some x29
def Zp8 (s1:Int×ByteArray×ByteArray×Int×Y3×Y3×List ExT×List SmT×List SmT):Bool->Option Bool:=fun flat6=>
 bif s1.1==1 then
 (bif flat6 then
 (Z0Q s1.2.1).bind fun r8=>
 bif r8 then
 bif s1.2.2.1.toList==(ByteArray.mk #[]).toList then
 bif s1.2.2.2.1==0 then
 (ZMH s1.2.2.2.2.1).bind fun r9=>
 bif r9 then
 bif (s1.2.2.2.2.2.2.1.length:Int)==0 then
 (ZuR s1.2.2.2.2.2.1).bind fun r10=>
 some (.inl r10)
 else
 some (.inl false)
 else
 some (.inl false)
 else
 some (.inl false)
 else
 some (.inl false)
 else
 some (.inl false)
 else
 some (.inl false)).bind (Sum.elim Zp7 some)
 else
 bif s1.1==2 then
 (bif flat6 then
 (Z0Q s1.2.1).bind fun r12=>
 bif r12 then
 bif s1.2.2.1.toList==(ByteArray.mk #[]).toList then
 bif s1.2.2.2.1==0 then
 (ZuR s1.2.2.2.2.1).bind fun r13=>
 bif r13 then
 bif (s1.2.2.2.2.2.2.1.length:Int)==0 then
 (ZuR s1.2.2.2.2.2.1).bind fun r14=>
 some (.inl r14)
 else
 some (.inl false)
 else
 some (.inl false)
 else
 some (.inl false)
 else
 some (.inl false)
 else
 some (.inl false)
 else
 some (.inl false)).bind (Sum.elim Zta some)
 else
 bif s1.1==3 then
 ((ZNz s1).bind fun r16=>
 bif r16 then
 (ZuR s1.2.2.2.2.2.1).bind fun r17=>
 some (.inl r17)
 else
 some (.inl false)).bind (Sum.elim ZgR some)
 else
 bif s1.1==4 then
 ((ZNz s1).bind fun r19=>
 bif r19 then
 (ZuR s1.2.2.2.2.2.1).bind fun r20=>
 bif r20 then
 some (.inl ((s1.2.2.2.2.2.2.2.2.length:Int)==0))
 else
 some (.inl false)
 else
 some (.inl false)).bind (Sum.elim ZNf some)
 else
 bif s1.1==5 then
 (bif flat6 then
 (ZNz s1).bind fun r22=>
 bif r22 then
 (ZuR s1.2.2.2.2.2.1).bind fun r23=>
 some (.inl r23)
 else
 some (.inl false)
 else
 some (.inl false)).bind (Sum.elim ZNg some)
 else
 bif s1.1==6 then
 (bif flat6 then
 (Z0Q s1.2.1).bind fun r25=>
 bif r25 then
 (Z0Q s1.2.2.1).bind fun r26=>
 bif r26 then
 bif s1.2.2.2.1==0 then
 (ZMH s1.2.2.2.2.1).bind fun r27=>
 bif r27 then
 (ZMH s1.2.2.2.2.2.1).bind fun r28=>
 some (.inl r28)
 else
 some (.inl false)
 else
 some (.inl false)
 else
 some (.inl false)
 else
 some (.inl false)
 else
 some (.inl false)).bind (Sum.elim ZLZ some)
 else
 bif s1.1==7 then
 (bif flat6 then
 bif s1.2.1.toList==(ByteArray.mk #[]).toList then
 bif s1.2.2.1.toList==(ByteArray.mk #[]).toList then
 bif decide (s1.2.2.2.1>=0) then
 bif decide (s1.2.2.2.1<=1000000) then
 (ZMH s1.2.2.2.2.1).bind fun r30=>
 bif r30 then
 (ZMH s1.2.2.2.2.2.1).bind fun r31=>
 bif r31 then
 some (.inl ((s1.2.2.2.2.2.2.1.length:Int)==0))
 else
 some (.inl false)
 else
 some (.inl false)
 else
 some (.inl false)
 else
 some (.inl false)
 else
 some (.inl false)
 else
 some (.inl false)
 else
 some (.inl false)).bind (Sum.elim ZNh some)
 else
 some false
def ZNi (s1:Int×ByteArray×ByteArray×Int×Y3×Y3×List ExT×List SmT×List SmT):Int->Option (Int⊕Bool):=fun i3=>
 bif decide (i3 < (s1.2.2.2.2.2.2.1.length:Int)) then
 (gI s1.2.2.2.2.2.2.1 i3).bind fun y4=>
 (ZuR (ZGt y4)).bind fun r5=>
 bif !r5 then
 (some false).map .inr
 else
 some (.inl (wrap .i64 (i3+1)))
 else
 ((bif (s1.2.2.2.2.2.2.2.1.length:Int)==0 then
 some (.inl ((s1.2.2.2.2.2.2.2.2.length:Int)==0))
 else
 some (.inl false)).bind (Sum.elim (Zp8 s1) some)).map .inr
def ZvY (s1:Int×ByteArray×ByteArray×Int×Y3×Y3×List ExT×List SmT×List SmT):Option Bool:=
 Zao (ZNi s1) 0
def ZHx (i3:Int):Bool->Option (Int⊕Bool):=fun x4=>
 bif x4 then
 (some false).map .inr
 else
 some (.inl (wrap .i64 (i3+1)))
def ZMa (l1:List SmT) (rec107:(List SmT)->Option Bool):Int->Option (Int⊕Bool):=fun i3=>
 bif decide (i3 < (l1.length:Int)) then
 ((gI l1 i3).bind fun y5=>
 (ZvY (ZGo y5)).bind fun r6=>
 bif !r6 then
 some (.inl true)
 else
 (gI l1 i3).bind fun y7=>
 (rec107 ((ZGo y7).2.2.2.2.2.2.2.1)).bind fun r8=>
 bif !r8 then
 some (.inl true)
 else
 (gI l1 i3).bind fun y9=>
 (rec107 ((ZGo y9).2.2.2.2.2.2.2.2)).bind fun r10=>
 some (.inl (!r10))).bind (Sum.elim (ZHx i3) some)
 else
 (some true).map .inr
def ZPI (rec107:(List SmT)->Option Bool) (l1:List SmT):Option Bool:=
 Zao (ZMa l1 rec107) 0
def ZOD (n:Nat):(List SmT)->Option Bool:=Nat.rec (motive:=fun _=>(List SmT)->Option Bool) (fun _=>none) (fun _ ih=>ZPI ih) n
def ZuT (l1:List SmT):Option Bool:=ZOD 1000 l1
def Z52 (i7:Int):Bool->Option (Int⊕Bool):=fun x16=>
 bif x16 then
 (some false).map .inr
 else
 some (.inl (wrap .i64 (i7+1)))
def ZA3 (i7:Int) (y8:ByteArray×List ByteArray×List ByteArray×List SmT×Int×Int×ByteArray×Int×List ExT):Y26->Option (Y26⊕(Int⊕Bool)):=fun (k11,l12)=>
 bif decide (k11 < (l12.length:Int)) then
 (gI l12 k11).bind fun y13=>
 (gI l12 k11).bind fun y14=>
 (Z0Q y14).bind fun r15=>
 bif !r15 then
 ((some false).map .inr).map .inr
 else
 some (.inl (wrap .i64 (k11+1),l12))
 else
 (((ZuT y8.2.2.2.1).bind fun r17=>
 bif !r17 then
 some (.inl true)
 else
 (ZuR y8.2.2.2.2).bind fun r18=>
 some (.inl (!r18))).bind (Sum.elim (Z52 i7) some)).map .inr
def ZA1 (p1:(List Y1)×List Y0):Int->Option (Int⊕Bool):=fun i7=>
 bif decide (i7 < (p1.2.length:Int)) then
 (gI p1.2 i7).bind fun y8=>
 bif decide (List.length ([y8.1]:List ByteArray)+y8.2.1.length<=1000000) then
 bif decide (List.length (([y8.1]:List ByteArray)++y8.2.1)+y8.2.2.1.length<=1000000) then
 Zao (ZA3 i7 y8) (0,(([y8.1]:List ByteArray)++y8.2.1)++y8.2.2.1)
 else none
 else none
 else
 (some true).map .inr
def Z54 (p1:(List Y1)×List Y0):Int->Option (Int⊕Bool):=fun i3=>
 bif decide (i3 < (p1.1.length:Int)) then
 (gI p1.1 i3).bind fun y4=>
 (Z0Q y4.1).bind fun r5=>
 bif !r5 then
 (some false).map .inr
 else
 some (.inl (wrap .i64 (i3+1)))
 else
 (Zao (ZA1 p1) 0).map .inr
def F63 (p1:(List Y1)×List Y0):Option Bool:=
 Zao (Z54 p1) 0
def Ztz (l1:List ByteArray) (s2:ByteArray):Int->Option (Int⊕Bool):=fun i4=>
 bif decide (i4 < (l1.length:Int)) then
 (gI l1 i4).bind fun y5=>
 bif y5.toList==s2.toList then
 (some true).map .inr
 else
 some (.inl (wrap .i64 (i4+1)))
 else
 (some false).map .inr
def Z0r (l1:List ByteArray) (s2:ByteArray):Option Bool:=
 Zao (Ztz l1 s2) 0
def ZKO (i15:Int):Y45->Option (Y45⊕(Y44⊕Bool)):=fun (k25,arrays26,funcs27,seen28,l29)=>
 bif decide (k25 < (l29.length:Int)) then
 (gI l29 k25).bind fun y30=>
 (gI l29 k25).bind fun y31=>
 (Z0r seen28 y31).bind fun r32=>
 bif r32 then
 ((some true).map .inr).map .inr
 else
 (gI l29 k25).bind fun y33=>
 (gI l29 k25).bind fun y34=>
 bif decide (seen28.length+List.length ([y34]:List ByteArray)<=1000000) then
 some (.inl (wrap .i64 (k25+1),arrays26,funcs27,seen28++([y34]:List ByteArray),l29))
 else none
 else
 (some (.inl (wrap .i64 (i15+1),arrays26,funcs27))).map .inr
def ZLA (p1:(List Y1)×List Y0):Y44->Option (Y44⊕Bool):=fun (i15,arrays16,funcs17)=>
 bif decide (i15 < (p1.2.length:Int)) then
 (gI p1.2 i15).bind fun y18=>
 (Z0r funcs17 y18.1).bind fun r19=>
 bif r19 then
 (some true).map .inr
 else
 bif decide (funcs17.length+List.length ([y18.1]:List ByteArray)<=1000000) then
 bif decide (List.length ([]:List ByteArray)+arrays16.length<=1000000) then
 bif decide (List.length ([]:List ByteArray)+y18.2.1.length<=1000000) then
 bif decide (List.length (([]:List ByteArray)++y18.2.1)+y18.2.2.1.length<=1000000) then
 Zao (ZKO i15) (0,arrays16,funcs17++([y18.1]:List ByteArray),([]:List ByteArray)++arrays16,(([]:List ByteArray)++y18.2.1)++y18.2.2.1)
 else none
 else none
 else none
 else none
 else
 (some false).map .inr
def Z58 (p1:(List Y1)×List Y0):Y26->Option (Y26⊕Bool):=fun (i5,arrays6)=>
 bif decide (i5 < (p1.1.length:Int)) then
 (gI p1.1 i5).bind fun y7=>
 (Z0r arrays6 y7.1).bind fun r8=>
 bif r8 then
 (some true).map .inr
 else
 (gI p1.1 i5).bind fun y9=>
 bif decide (arrays6.length+List.length ([y9.1]:List ByteArray)<=1000000) then
 some (.inl (wrap .i64 (i5+1),arrays6++([y9.1]:List ByteArray)))
 else none
 else
 (Zao (ZLA p1) (0,arrays6,[])).map .inr
def F64 (p1:(List Y1)×List Y0):Option Bool:=
 Zao (Z58 p1) (0,[])
def Zt1 (p1:(List Y1)×List Y0) (s2:ByteArray):Int->Option (Int⊕Int):=fun i4=>
 bif decide (i4 < (p1.2.length:Int)) then
 (gI p1.2 i4).bind fun y5=>
 bif y5.1.toList==s2.toList then
 (some i4).map .inr
 else
 some (.inl (wrap .i64 (i4+1)))
 else
 (some (-1)).map .inr
def Z0s (p1:(List Y1)×List Y0) (s2:ByteArray):Option Int:=
 Zao (Zt1 p1 s2) 0
def ZwJ:Bool->Option Bool:=fun x7=>
 some x7
def ZIn (x1:List ByteArray×List ByteArray×(List Y1)×List Y0) (e2:Int×Int×ByteArray×Int×List ExT) (rec66:Y12->Y3->Option Bool):Int->Option (Int⊕Bool):=fun i4=>
 bif decide (i4 < (e2.2.2.2.2.length:Int)) then
 (gI e2.2.2.2.2 i4).bind fun y5=>
 (rec66 x1 (ZGt y5)).bind fun r6=>
 bif !r6 then
 (some false).map .inr
 else
 some (.inl (wrap .i64 (i4+1)))
 else
 ((bif e2.1 != 2 then
 bif e2.1 != 3 then
 some (.inl true)
 else
 (Z0r x1.2.1 e2.2.2.1).bind fun r8=>
 some (.inl r8)
 else
 (Z0r x1.1 e2.2.2.1).bind fun r9=>
 bif r9 then
 bif e2.1 != 3 then
 some (.inl true)
 else
 (Z0r x1.2.1 e2.2.2.1).bind fun r10=>
 some (.inl r10)
 else
 some (.inl false)).bind (Sum.elim ZwJ some)).map .inr
def G66 (rec66:Y12->Y3->Option Bool) (x1:List ByteArray×List ByteArray×(List Y1)×List Y0) (e2:Int×Int×ByteArray×Int×List ExT):Option Bool:=
 Zao (ZIn x1 e2 rec66) 0
def N66 (n:Nat):Y12->Y3->Option Bool:=Nat.rec (motive:=fun _=>Y12->Y3->Option Bool) (fun _ _=>none) (fun _ ih=>G66 ih) n
def F66 (x1:List ByteArray×List ByteArray×(List Y1)×List Y0) (e2:Int×Int×ByteArray×Int×List ExT):Option Bool:=N66 1000 x1 e2
def ZMb:Bool->Option Bool:=fun x11=>
 some x11
def ZNj (x1:List ByteArray×List ByteArray×(List Y1)×List Y0) (s2:Int×ByteArray×ByteArray×Int×Y3×Y3×List ExT×List SmT×List SmT):Bool->Option Bool:=fun x7=>
 bif x7 then
 some false
 else
 bif s2.1==1 then
 (Z0r x1.1 s2.2.1).bind fun r10=>
 some r10
 else
 bif s2.1==6 then
 ((Z0r x1.1 s2.2.1).bind fun r12=>
 bif r12 then
 (Z0s x1.2.2 s2.2.2.1).bind fun r13=>
 some (.inl (decide (r13>=0)))
 else
 some (.inl false)).bind (Sum.elim ZMb some)
 else
 bif s2.1==2 then
 (Z0r x1.2.1 s2.2.1).bind fun r14=>
 some r14
 else
 some true
def Zt3 (x1:List ByteArray×List ByteArray×(List Y1)×List Y0) (s2:Int×ByteArray×ByteArray×Int×Y3×Y3×List ExT×List SmT×List SmT):Int->Option (Int⊕Bool):=fun i4=>
 bif decide (i4 < (s2.2.2.2.2.2.2.1.length:Int)) then
 (gI s2.2.2.2.2.2.2.1 i4).bind fun y5=>
 (F66 x1 (ZGt y5)).bind fun r6=>
 bif !r6 then
 (some false).map .inr
 else
 some (.inl (wrap .i64 (i4+1)))
 else
 (((F66 x1 s2.2.2.2.2.1).bind fun r8=>
 bif !r8 then
 some (.inl true)
 else
 (F66 x1 s2.2.2.2.2.2.1).bind fun r9=>
 some (.inl (!r9))).bind (Sum.elim (ZNj x1 s2) some)).map .inr
def Z0t (x1:List ByteArray×List ByteArray×(List Y1)×List Y0) (s2:Int×ByteArray×ByteArray×Int×Y3×Y3×List ExT×List SmT×List SmT):Option Bool:=
 Zao (Zt3 x1 s2) 0
def ZAh:Bool->Option (Unit⊕(Int⊕Bool)):=fun x7=>
 bif x7 then
 ((some false).map .inr).map .inr
 else
 some (.inl ())
def ZNZ (i5:Int):Bool->Option (Int⊕Bool):=fun x11=>
 bif x11 then
 (some false).map .inr
 else
 some (.inl (wrap .i64 (i5+1)))
def ZAj (x1:List ByteArray×List ByteArray×(List Y1)×List Y0) (counts3:Bool) (rec65:Y12->(List SmT)->Bool->Option Bool) (i5:Int) (y6:SmT):Unit->Option (Int⊕Bool):=fun _=>
 ((rec65 x1 ((ZGo y6).2.2.2.2.2.2.2.1) counts3).bind fun r12=>
 bif !r12 then
 some (.inl true)
 else
 (rec65 x1 ((ZGo y6).2.2.2.2.2.2.2.2) counts3).bind fun r13=>
 some (.inl (!r13))).bind (Sum.elim (ZNZ i5) some)
def ZAi (x1:List ByteArray×List ByteArray×(List Y1)×List Y0) (l2:List SmT) (counts3:Bool) (rec65:Y12->(List SmT)->Bool->Option Bool):Int->Option (Int⊕Bool):=fun i5=>
 bif decide (i5 < (l2.length:Int)) then
 (gI l2 i5).bind fun y6=>
 (bif counts3 then
 (bif ((ZGo y6).1)==6 then
 (Z0s x1.2.2 ((ZGo y6).2.2.1)).bind fun r8=>
 (gI x1.2.2.2 r8).bind fun y9=>
 some (.inl ((List.length ((ZGo y6).2.2.2.2.2.2.1):Int) != (y9.2.1.length:Int)))
 else
 some (.inl false)).bind (Sum.elim ZAh some)
 else
 (Z0t x1 ((ZGo y6).1,(ZGo y6).2.1,(ZGo y6).2.2.1,(ZGo y6).2.2.2.1,(((ZGo y6).2.2.2.2.1).1,((ZGo y6).2.2.2.2.1).2.1,((ZGo y6).2.2.2.2.1).2.2.1,((ZGo y6).2.2.2.2.1).2.2.2.1,((ZGo y6).2.2.2.2.1).2.2.2.2),(((ZGo y6).2.2.2.2.2.1).1,((ZGo y6).2.2.2.2.2.1).2.1,((ZGo y6).2.2.2.2.2.1).2.2.1,((ZGo y6).2.2.2.2.2.1).2.2.2.1,((ZGo y6).2.2.2.2.2.1).2.2.2.2),(ZGo y6).2.2.2.2.2.2.1,(ZGo y6).2.2.2.2.2.2.2.1,(ZGo y6).2.2.2.2.2.2.2.2)).bind fun r10=>
 bif !r10 then
 ((some false).map .inr).map .inr
 else
 some (.inl ())).bind (Sum.elim (ZAj x1 counts3 rec65 i5 y6) some)
 else
 (some true).map .inr
def G65 (rec65:Y12->(List SmT)->Bool->Option Bool) (x1:List ByteArray×List ByteArray×(List Y1)×List Y0) (l2:List SmT) (counts3:Bool):Option Bool:=
 Zao (ZAi x1 l2 counts3 rec65) 0
def N65 (n:Nat):Y12->(List SmT)->Bool->Option Bool:=Nat.rec (motive:=fun _=>Y12->(List SmT)->Bool->Option Bool) (fun _ _ _=>none) (fun _ ih=>G65 ih) n
def F65 (x1:List ByteArray×List ByteArray×(List Y1)×List Y0) (l2:List SmT) (counts3:Bool):Option Bool:=N65 1000 x1 l2 counts3
def ZOa (i8:Int):Bool->Option Y60:=fun x32=>
 bif x32 then
 ((some 5).map .inr).map .inr
 else
 some (.inl (wrap .i64 (i8+1)))
def Z5A (round6:Int) (i8:Int) (y9:ByteArray×List ByteArray×List ByteArray×List SmT×Int×Int×ByteArray×Int×List ExT):(Bool×(List Y1)×(List Y0)×List ByteArray×List ByteArray)->Option Y60:=fun (x25,x26,x27,l28,l29)=>
 bif x25 then
 ((some 3).map .inr).map .inr
 else
 (bif round6==1 then
 (F65 (l28,l29,(x26,x27)) y9.2.2.2.1 true).bind fun r33=>
 some (.inl (!r33))
 else
 some (.inl false)).bind (Sum.elim (ZOa i8) some)
def ZOb (p1:(List Y1)×List Y0) (round6:Int) (i8:Int) (y9:ByteArray×List ByteArray×List ByteArray×List SmT×Int×Int×ByteArray×Int×List ExT):Y52->Option (Y52⊕Y60):=fun (k19,x20,x21,l22,l23)=>
 bif decide (k19 < (p1.1.length:Int)) then
 (gI p1.1 k19).bind fun y24=>
 bif decide (l23.length+List.length ([y24.1]:List ByteArray)<=1000000) then
 some (.inl (wrap .i64 (k19+1),x20,x21,l22,l23++([y24.1]:List ByteArray)))
 else none
 else
 ((bif round6==0 then
 (F65 (l22,l23,(x20,x21)) y9.2.2.2.1 false).bind fun r30=>
 bif !r30 then
 some (.inl (true,x20,x21,l22,l23))
 else
 (F66 (l22,l23,(x20,x21)) y9.2.2.2.2).bind fun r31=>
 some (.inl (!r31,x20,x21,l22,l23))
 else
 some (.inl (false,x20,x21,l22,l23))).bind (Sum.elim (Z5A round6 i8 y9) some)).map .inr
def ZOc (p1:(List Y1)×List Y0) (round6:Int):Int->Option Y60:=fun i8=>
 bif decide (i8 < (p1.2.length:Int)) then
 (gI p1.2 i8).bind fun y9=>
 bif decide (List.length ([]:List ByteArray)+y9.2.1.length<=1000000) then
 bif decide (List.length (([]:List ByteArray)++y9.2.1)+y9.2.2.1.length<=1000000) then
 Zao (ZOb p1 round6 i8 y9) (0,p1.1,p1.2,(([]:List ByteArray)++y9.2.1)++y9.2.2.1,[])
 else none
 else none
 else
 (some (.inl (wrap .i64 (round6+1)))).map .inr
def Z8H (p1:(List Y1)×List Y0):Int->Option (Int⊕Int):=fun round6=>
 bif decide (round6 < 2) then
 Zao (ZOc p1 round6) 0
 else
 (some 0).map .inr
def F30 (p1:(List Y1)×List Y0):Option Int:=
 (F62 p1).bind fun r2=>
 bif r2 then
 some 6
 else
 (F63 p1).bind fun r3=>
 bif !r3 then
 some 2
 else
 (F64 p1).bind fun r4=>
 bif r4 then
 some 4
 else
 Zao (Z8H p1) 0
def Zyc (a1:Int×Int×List Int) (b2:Int×Int×List Int):Int->Option (Int⊕Bool):=fun i5=>
 bif decide (i5 < (a1.2.2.length:Int)) then
 (gI a1.2.2 i5).bind fun y6=>
 (gI b2.2.2 i5).bind fun y7=>
 bif y6 != y7 then
 (some false).map .inr
 else
 some (.inl (wrap .i64 (i5+1)))
 else
 (some true).map .inr
def ZuM (a1:Int×Int×List Int) (b2:Int×Int×List Int):Bool->Option Bool:=fun x3=>
 bif x3 then
 some false
 else
 Zao (Zyc a1 b2) 0
def F42 (a1:Int×Int×List Int) (b2:Int×Int×List Int):Option Bool:=
 (bif a1.1 != b2.1 then
 some (.inl true)
 else
 bif a1.2.1 != b2.2.1 then
 some (.inl true)
 else
 some (.inl ((a1.2.2.length:Int) != (b2.2.2.length:Int)))).bind (Sum.elim (ZuM a1 b2) some)
def Z90:(Int×Int×Int×TN×List Int)->Option ((Int×Int×Int×TN×List Int)⊕(Int×TN)):=fun (i10,n11,n12,l13,l14)=>
 bif decide (i10 < (l13.length:Int)) then
 (gI l13 i10).bind fun y15=>
 (gI l13 i10).bind fun y16=>
 (F42 y16 (n11,n12,l14)).bind fun r17=>
 bif r17 then
 (some (i10,l13)).map .inr
 else
 some (.inl (wrap .i64 (i10+1),n11,n12,l13,l14))
 else
 (bif decide (l13.length+List.length ([(n11,n12,l14)]:TN)<=1000000) then
 some (wrap .i64 ((List.length (l13++([(n11,n12,l14)]:TN)):Int) - 1),l13++([(n11,n12,l14)]:TN))
 else none).map .inr
def F31 (op1:Int) (imm2:Int) (kids3:List Int) (l4:TN):Option (Int×TN):=
 bif decide (List.length ([]:List Int)+kids3.length<=1000000) then
 Zao Z90 (0,op1,imm2,l4,([]:List Int)++kids3)
 else none
def ZEa (s1:ByteArray):Y26->Option (Y26⊕Y26):=fun (i5,l6)=>
 bif decide (i5 < (l6.length:Int)) then
 (gI l6 i5).bind fun y7=>
 (gI l6 i5).bind fun y8=>
 bif y8.toList==s1.toList then
 (some (i5,l6)).map .inr
 else
 some (.inl (wrap .i64 (i5+1),l6))
 else
 (some (0,l6)).map .inr
def F68 (s1:ByteArray) (l2:List ByteArray):Option Y26:=
 Zao (ZEa s1) (0,l2)
def Z92 (s1:ByteArray):Y61->Option (Y61⊕Y61):=fun (i5,x6)=>
 bif decide (i5 < (x6.length:Int)) then
 (gI x6 i5).bind fun y7=>
 bif y7.1.toList==s1.toList then
 (some (i5,x6)).map .inr
 else
 some (.inl (wrap .i64 (i5+1),x6))
 else
 (some (0,x6)).map .inr
def F69 (s1:ByteArray) (x2:List Y1):Option Y61:=
 Zao (Z92 s1) (0,x2)
def F70 (a1:Int) (i2:Int) (x3:List Y1) (x4:List Y0) (x5:Int) (x6:Int) (l7:TN) (l8:List ByteArray) (l9:List Int):Option Y2:=
 (gI x3 a1).bind fun y10=>
 (F31 1 y10.2 [] l7).bind fun r11=>
 (F31 19 0 ([i2,r11.1]:List Int) r11.2).bind fun r12=>
 (F31 27 2 ([x5,r12.1]:List Int) r12.2).bind fun r13=>
 some (x3,x4,r13.1,x6,r13.2,l8,l9)
def F71 (c1:Int) (a2:Int) (b3:Int) (l4:TN):Option (Int×TN):=
 bif a2==b3 then
 some (a2,l4)
 else
 (F31 22 0 ([c1,a2,b3]:List Int) l4).bind fun r5=>
 some r5
def Zu9 (r34:Int×(List Y1)×(List Y0)×Int×Int×TN×List ByteArray×List Int):(Bool×(List Y1)×(List Y0)×Int×Int×TN×List ByteArray×List Int)->Option (Y2⊕Y7):=fun (x42,x43,x44,x45,x46,l47,l48,l49)=>
 bif x42 then
 (F31 1 0 [] l47).bind fun r50=>
 (F31 16 0 ([r34.1,r50.1]:List Int) r50.2).bind fun r51=>
 (F31 27 1 ([x45,r51.1]:List Int) r51.2).bind fun r52=>
 some (.inl (x43,x44,r52.1,x46,r52.2,l48,l49))
 else
 some (.inl (x43,x44,x45,x46,l47,l48,l49))
def ZrM (e4:Int) (r31:Int×(List Y1)×(List Y0)×Int×Int×TN×List ByteArray×List Int) (r34:Int×(List Y1)×(List Y0)×Int×Int×TN×List ByteArray×List Int):Y2->Option Y7:=fun (x35,x36,x37,x38,l39,l40,l41)=>
 (F31 e4 0 ([r31.1,r34.1]:List Int) l39).bind fun r53=>
 some (r53.1,x35,x36,x37,x38,r53.2,l40,l41)
def G33 (rec33:Int->Int->ByteArray->Int->(List ExT)->(List Y1)->(List Y0)->Int->Int->TN->(List ByteArray)->(List Int)->Option Y7) (e1:Int) (e2:Int) (e3:ByteArray) (e4:Int) (e5:List ExT) (x6:List Y1) (x7:List Y0) (x8:Int) (x9:Int) (l10:TN) (l11:List ByteArray) (l12:List Int):Option Y7:=
 bif e1==1 then
 (F31 1 e2 [] l10).bind fun r13=>
 some (r13.1,x6,x7,x8,x9,r13.2,l11,l12)
 else
 bif e1==2 then
 (F68 e3 l11).bind fun r14=>
 (gI l12 r14.1).bind fun y15=>
 (gI l12 r14.1).bind fun y16=>
 some (y16,x6,x7,x8,x9,l10,r14.2,l12)
 else
 bif e1==3 then
 (gI e5 0).bind fun y17=>
 (rec33 ((ZGt y17).1) ((ZGt y17).2.1) ((ZGt y17).2.2.1) ((ZGt y17).2.2.2.1) ((ZGt y17).2.2.2.2) x6 x7 x8 x9 l10 l11 l12).bind fun r18=>
 (F69 e3 r18.2.1).bind fun r19=>
 (F70 r19.1 r18.1 r19.2 r18.2.2.1 r18.2.2.2.1 r18.2.2.2.2.1 r18.2.2.2.2.2.1 r18.2.2.2.2.2.2.1 r18.2.2.2.2.2.2.2).bind fun r20=>
 (F31 23 r19.1 ([r20.2.2.1,r18.1]:List Int) r20.2.2.2.2.1).bind fun r21=>
 some (r21.1,r20.1,r20.2.1,r20.2.2.1,r20.2.2.2.1,r21.2,r20.2.2.2.2.2.1,r20.2.2.2.2.2.2)
 else
 bif e1==5 then
 (gI e5 0).bind fun y22=>
 (rec33 ((ZGt y22).1) ((ZGt y22).2.1) ((ZGt y22).2.2.1) ((ZGt y22).2.2.2.1) ((ZGt y22).2.2.2.2) x6 x7 x8 x9 l10 l11 l12).bind fun r23=>
 (gI e5 1).bind fun y24=>
 (rec33 ((ZGt y24).1) ((ZGt y24).2.1) ((ZGt y24).2.2.1) ((ZGt y24).2.2.2.1) ((ZGt y24).2.2.2.2) r23.2.1 r23.2.2.1 r23.2.2.2.1 r23.2.2.2.2.1 r23.2.2.2.2.2.1 r23.2.2.2.2.2.2.1 r23.2.2.2.2.2.2.2).bind fun r25=>
 (gI e5 2).bind fun y26=>
 (rec33 ((ZGt y26).1) ((ZGt y26).2.1) ((ZGt y26).2.2.1) ((ZGt y26).2.2.2.1) ((ZGt y26).2.2.2.2) r25.2.1 r25.2.2.1 r23.2.2.2.1 r25.2.2.2.2.1 r25.2.2.2.2.2.1 r25.2.2.2.2.2.2.1 r25.2.2.2.2.2.2.2).bind fun r27=>
 (F71 r23.1 r25.1 r27.1 r27.2.2.2.2.2.1).bind fun r28=>
 (F71 r23.1 r25.2.2.2.1 r27.2.2.2.1 r28.2).bind fun r29=>
 some (r28.1,r27.2.1,r27.2.2.1,r29.1,r27.2.2.2.2.1,r29.2,r27.2.2.2.2.2.2.1,r27.2.2.2.2.2.2.2)
 else
 (gI e5 0).bind fun y30=>
 (rec33 ((ZGt y30).1) ((ZGt y30).2.1) ((ZGt y30).2.2.1) ((ZGt y30).2.2.2.1) ((ZGt y30).2.2.2.2) x6 x7 x8 x9 l10 l11 l12).bind fun r31=>
 bif (e5.length:Int)==1 then
 (F31 e4 0 ([r31.1]:List Int) r31.2.2.2.2.2.1).bind fun r32=>
 some (r32.1,r31.2.1,r31.2.2.1,r31.2.2.2.1,r31.2.2.2.2.1,r32.2,r31.2.2.2.2.2.2.1,r31.2.2.2.2.2.2.2)
 else
 (gI e5 1).bind fun y33=>
 (rec33 ((ZGt y33).1) ((ZGt y33).2.1) ((ZGt y33).2.2.1) ((ZGt y33).2.2.2.1) ((ZGt y33).2.2.2.2) r31.2.1 r31.2.2.1 r31.2.2.2.1 r31.2.2.2.2.1 r31.2.2.2.2.2.1 r31.2.2.2.2.2.2.1 r31.2.2.2.2.2.2.2).bind fun r34=>
 ((bif e4==7 then
 some (.inl (true,r34.2.1,r34.2.2.1,r34.2.2.2.1,r34.2.2.2.2.1,r34.2.2.2.2.2.1,r34.2.2.2.2.2.2.1,r34.2.2.2.2.2.2.2))
 else
 some (.inl (e4==8,r34.2.1,r34.2.2.1,r34.2.2.2.1,r34.2.2.2.2.1,r34.2.2.2.2.2.1,r34.2.2.2.2.2.2.1,r34.2.2.2.2.2.2.2))).bind (Sum.elim (Zu9 r34) some)).bind (Sum.elim (ZrM e4 r31 r34) some)
def N33 (n:Nat):Int->Int->ByteArray->Int->(List ExT)->(List Y1)->(List Y0)->Int->Int->TN->(List ByteArray)->(List Int)->Option Y7:=Nat.rec (motive:=fun _=>Int->Int->ByteArray->Int->(List ExT)->(List Y1)->(List Y0)->Int->Int->TN->(List ByteArray)->(List Int)->Option Y7) (fun _ _ _ _ _ _ _ _ _ _ _ _=>none) (fun _ ih=>G33 ih) n
def F33 (e1:Int) (e2:Int) (e3:ByteArray) (e4:Int) (e5:List ExT) (x6:List Y1) (x7:List Y0) (x8:Int) (x9:Int) (l10:TN) (l11:List ByteArray) (l12:List Int):Option Y7:=N33 1000 e1 e2 e3 e4 e5 x6 x7 x8 x9 l10 l11 l12
def ZLK (l1:List SmT) (i19:Int):(Bool×(List Y1)×(List Y0)×Int×Int×List Bool×TN×List ByteArray×List Int)->Option (Y6⊕(Y20⊕Y6)):=fun (x36,x37,x38,x39,x40,in41,l42,l43,l44)=>
 bif x36 then
 (gI l1 i19).bind fun y47=>
 (F68 ((ZGo y47).2.1) l43).bind fun r48=>
 (gI in41 r48.1).bind fun y49=>
 (gI in41 r48.1).bind fun y50=>
 some (.inl (x37,x38,x39,x40,Zaq in41 r48.1 true,l42,r48.2,l44))
 else
 some (.inl (x37,x38,x39,x40,in41,l42,l43,l44))
def ZLL (rec137:(List SmT)->(List Y1)->(List Y0)->Int->Int->(List Bool)->TN->(List ByteArray)->(List Int)->Option Y6) (l1:List SmT) (i19:Int):Y6->Option (Y20⊕Y6):=fun (x28,x29,x30,x31,in32,l33,l34,l35)=>
 (gI l1 i19).bind fun y51=>
 (rec137 ((ZGo y51).2.2.2.2.2.2.2.1) x28 x29 x30 x31 in32 l33 l34 l35).bind fun r52=>
 (gI l1 i19).bind fun y53=>
 (rec137 ((ZGo y53).2.2.2.2.2.2.2.2) r52.1 r52.2.1 r52.2.2.1 r52.2.2.2.1 r52.2.2.2.2.1 r52.2.2.2.2.2.1 r52.2.2.2.2.2.2.1 r52.2.2.2.2.2.2.2).bind fun r54=>
 some (.inl (wrap .i64 (i19+1),r54.1,r54.2.1,r54.2.2.1,r54.2.2.2.1,r54.2.2.2.2.1,r54.2.2.2.2.2.1,r54.2.2.2.2.2.2.1,r54.2.2.2.2.2.2.2))
def ZMc (rec137:(List SmT)->(List Y1)->(List Y0)->Int->Int->(List Bool)->TN->(List ByteArray)->(List Int)->Option Y6) (l1:List SmT):Y20->Option (Y20⊕Y6):=fun (i19,x20,x21,x22,x23,in24,l25,l26,l27)=>
 bif decide (i19 < (l1.length:Int)) then
 (((gI l1 i19).bind fun y45=>
 bif ((ZGo y45).1)==1 then
 some (.inl (true,x20,x21,x22,x23,in24,l25,l26,l27))
 else
 (gI l1 i19).bind fun y46=>
 some (.inl (((ZGo y46).1)==6,x20,x21,x22,x23,in24,l25,l26,l27))).bind (Sum.elim (ZLK l1 i19) some)).bind (Sum.elim (ZLL rec137 l1 i19) some)
 else
 (some (x20,x21,x22,x23,in24,l25,l26,l27)).map .inr
def ZPJ (rec137:(List SmT)->(List Y1)->(List Y0)->Int->Int->(List Bool)->TN->(List ByteArray)->(List Int)->Option Y6) (l1:List SmT) (x2:List Y1) (x3:List Y0) (x4:Int) (x5:Int) (in6:List Bool) (l7:TN) (l8:List ByteArray) (l9:List Int):Option Y6:=
 Zao (ZMc rec137 l1) (0,x2,x3,x4,x5,in6,l7,l8,l9)
def ZNP (n:Nat):(List SmT)->(List Y1)->(List Y0)->Int->Int->(List Bool)->TN->(List ByteArray)->(List Int)->Option Y6:=Nat.rec (motive:=fun _=>(List SmT)->(List Y1)->(List Y0)->Int->Int->(List Bool)->TN->(List ByteArray)->(List Int)->Option Y6) (fun _ _ _ _ _ _ _ _ _=>none) (fun _ ih=>ZPJ ih) n
def ZPK (l1:List SmT) (x2:List Y1) (x3:List Y0) (x4:Int) (x5:Int) (in6:List Bool) (l7:TN) (l8:List ByteArray) (l9:List Int):Option Y6:=ZNP 1000 l1 x2 x3 x4 x5 in6 l7 l8 l9
def ZCj (i46:Int):((List Y1)×(List Y0)×Int×Int×List Bool×List Int×TN×List ByteArray×List Int)->Option (Y24⊕Y2):=fun (x56,x57,x58,x59,in60,which61,l62,l63,l64)=>
 some (.inl (wrap .i64 (i46+1),x56,x57,x58,x59,in60,which61,l62,l63,l64))
def ZMd (r25:Int×(List Y1)×(List Y0)×Int×Int×TN×List ByteArray×List Int) (r127:Int×TN):Y39->Option (Y39⊕Y2):=fun (j139,x140,x141,x142,x143,which144,old145,l146,l147)=>
 bif decide (j139 < (which144.length:Int)) then
 (F31 25 (wrap .i64 (1+j139)) ([r127.1]:List Int) l146).bind fun r148=>
 (gI which144 j139).bind fun y149=>
 (gI which144 j139).bind fun y150=>
 (gI which144 j139).bind fun y151=>
 (gI which144 j139).bind fun y152=>
 (gI old145 y152).bind fun y153=>
 (gI old145 y152).bind fun y154=>
 (F71 r25.1 r148.1 y154 r148.2).bind fun r155=>
 (gI old145 y150).bind fun y156=>
 (gI old145 y150).bind fun y157=>
 some (.inl (wrap .i64 (j139+1),x140,x141,x142,x143,which144,Zaq old145 y150 r155.1,r155.2,l147))
 else
 (some (x140,x141,x142,x143,l146,l147,old145)).map .inr
def ZNk (x21:Int) (r25:Int×(List Y1)×(List Y0)×Int×Int×TN×List ByteArray×List Int) (x49:Int):Y15->Option (Y15⊕Y2):=fun (j112,x113,x114,x115,x116,which117,old118,kids119,l120,l121,l122)=>
 bif decide (j112 < (which117.length:Int)) then
 (gI which117 j112).bind fun y123=>
 (gI which117 j112).bind fun y124=>
 (gI l122 y124).bind fun y125=>
 (gI l122 y124).bind fun y126=>
 bif decide (kids119.length+List.length ([y126]:List Int)<=1000000) then
 some (.inl (wrap .i64 (j112+1),x113,x114,x115,x116,which117,old118,kids119++([y126]:List Int),l120,l121,l122))
 else none
 else
 ((F31 31 x21 kids119 l120).bind fun r127=>
 (F31 25 0 ([r127.1]:List Int) r127.2).bind fun r128=>
 (F71 r25.1 r128.1 x49 r128.2).bind fun r129=>
 Zao (ZMd r25 r127) (0,x113,x114,r129.1,x116,which117,old118,r129.2,l121)).map .inr
def ZNl (s10:Int) (s11:Int) (s12:ByteArray) (s13:Int) (s14:List ExT) (s16:List SmT) (x21:Int) (r25:Int×(List Y1)×(List Y0)×Int×Int×TN×List ByteArray×List Int) (x49:Int) (rec32:(List SmT)->(List Y1)->(List Y0)->Int->Int->TN->(List ByteArray)->(List Int)->Option Y2):Y15->Option (Y15⊕Y2):=fun (j79,x80,x81,x82,x83,which84,old85,kids86,l87,l88,l89)=>
 bif decide (j79 < (which84.length:Int)) then
 (gI which84 j79).bind fun y90=>
 (gI which84 j79).bind fun y91=>
 (gI old85 y91).bind fun y92=>
 (gI old85 y91).bind fun y93=>
 bif decide (kids86.length+List.length ([y93]:List Int)<=1000000) then
 (gI which84 j79).bind fun y94=>
 (gI which84 j79).bind fun y95=>
 (F31 3 (wrap .i64 ((wrap .i64 ((wrap .i64 (16 * x21))+1))+j79)) [] l87).bind fun r96=>
 (gI l89 y95).bind fun y97=>
 (gI l89 y95).bind fun y98=>
 some (.inl (wrap .i64 (j79+1),x80,x81,x82,x83,which84,old85,kids86++([y93]:List Int),r96.2,l88,Zaq l89 y95 r96.1))
 else none
 else
 ((rec32 s16 x80 x81 x82 x83 l87 l88 l89).bind fun r99=>
 (F33 s10 s11 s12 s13 s14 r99.1 r99.2.1 r99.2.2.1 r99.2.2.2.1 r99.2.2.2.2.1 r99.2.2.2.2.2.1 r99.2.2.2.2.2.2).bind fun r100=>
 bif decide (kids86.length+List.length ([r100.1,r100.2.2.2.1]:List Int)<=1000000) then
 Zao (ZNk x21 r25 x49) (0,r100.2.1,r100.2.2.1,r100.2.2.2.1,r100.2.2.2.2.1,which84,old85,kids86++([r100.1,r100.2.2.2.1]:List Int),r100.2.2.2.2.2.1,r100.2.2.2.2.2.2.1,r100.2.2.2.2.2.2.2)
 else none).map .inr
def ZNm (s10:Int) (s11:Int) (s12:ByteArray) (s13:Int) (s14:List ExT) (s16:List SmT) (x21:Int) (r25:Int×(List Y1)×(List Y0)×Int×Int×TN×List ByteArray×List Int) (rec32:(List SmT)->(List Y1)->(List Y0)->Int->Int->TN->(List ByteArray)->(List Int)->Option Y2):Y24->Option (Y24⊕Y2):=fun (i46,x47,x48,x49,x50,in51,which52,l53,l54,l55)=>
 bif decide (i46 < (in51.length:Int)) then
 ((gI in51 i46).bind fun y65=>
 (gI in51 i46).bind fun y66=>
 bif y66 then
 bif decide (which52.length+List.length ([i46]:List Int)<=1000000) then
 some (.inl (x47,x48,x49,x50,in51,which52++([i46]:List Int),l53,l54,l55))
 else none
 else
 some (.inl (x47,x48,x49,x50,in51,which52,l53,l54,l55))).bind (Sum.elim (ZCj i46) some)
 else
 (bif decide (List.length ([]:List Int)+l55.length<=1000000) then
 (F31 3 (wrap .i64 (16 * x21)) [] l53).bind fun r67=>
 Zao (ZNl s10 s11 s12 s13 s14 s16 x21 r25 x49 rec32) (0,x47,x48,r67.1,x50,which52,([]:List Int)++l55,([x49]:List Int),r67.2,l54,l55)
 else none).map .inr
def ZOQ (rec32:(List SmT)->(List Y1)->(List Y0)->Int->Int->TN->(List ByteArray)->(List Int)->Option Y2) (s1:Int) (s2:ByteArray) (s3:ByteArray) (s4:Int) (s5:Int) (s6:Int) (s7:ByteArray) (s8:Int) (s9:List ExT) (s10:Int) (s11:Int) (s12:ByteArray) (s13:Int) (s14:List ExT) (s15:List ExT) (s16:List SmT) (s17:List SmT) (x18:List Y1) (x19:List Y0) (x20:Int) (x21:Int) (l22:TN) (l23:List ByteArray) (l24:List Int):Option Y2:=
 (F33 s10 s11 s12 s13 s14 x18 x19 x20 (wrap .i64 (x21+1)) l22 l23 l24).bind fun r25=>
 bif decide ((0:Int)<=(r25.2.2.2.2.2.2.2.length:Int)/\((r25.2.2.2.2.2.2.2.length:Int):Int)=(r25.2.2.2.2.2.2.2.length:Int)/\((r25.2.2.2.2.2.2.2.length:Int):Int)<=1000000) then
 (ZPK s16 r25.2.1 r25.2.2.1 r25.2.2.2.1 r25.2.2.2.2.1 (replicate (toNat (r25.2.2.2.2.2.2.2.length:Int)) false:List Bool) r25.2.2.2.2.2.1 r25.2.2.2.2.2.2.1 r25.2.2.2.2.2.2.2).bind fun r26=>
 Zao (ZNm s10 s11 s12 s13 s14 s16 x21 r25 rec32) (0,r26.1,r26.2.1,r26.2.2.1,r26.2.2.2.1,r26.2.2.2.2.1,[],r26.2.2.2.2.2.1,r26.2.2.2.2.2.2.1,r26.2.2.2.2.2.2.2)
 else none
def ZwL (s1:Int×ByteArray×ByteArray×Int×Y3×Y3×List ExT×List SmT×List SmT):Y21->Option (Y21⊕Y2):=fun (k39,x40,x41,x42,x43,args44,l45,l46,l47)=>
 bif decide (k39 < (s1.2.2.2.2.2.2.1.length:Int)) then
 (gI s1.2.2.2.2.2.2.1 k39).bind fun y48=>
 (F33 ((ZGt y48).1) ((ZGt y48).2.1) ((ZGt y48).2.2.1) ((ZGt y48).2.2.2.1) ((ZGt y48).2.2.2.2) x40 x41 x42 x43 l45 l46 l47).bind fun r49=>
 bif decide (args44.length+List.length ([r49.1]:List Int)<=1000000) then
 some (.inl (wrap .i64 (k39+1),r49.2.1,r49.2.2.1,r49.2.2.2.1,r49.2.2.2.2.1,args44++([r49.1]:List Int),r49.2.2.2.2.2.1,r49.2.2.2.2.2.2.1,r49.2.2.2.2.2.2.2))
 else none
 else
 ((Z0s (x40,x41) s1.2.2.1).bind fun r50=>
 bif decide (List.length ([x42]:List Int)+args44.length<=1000000) then
 (F31 30 r50 (([x42]:List Int)++args44) l45).bind fun r51=>
 (F68 s1.2.1 l46).bind fun r52=>
 (F31 24 0 ([r51.1]:List Int) r51.2).bind fun r53=>
 (gI l47 r52.1).bind fun y54=>
 (gI l47 r52.1).bind fun y55=>
 some (x40,x41,r51.1,x43,r53.2,r52.2,Zaq l47 r52.1 r53.1)
 else none).map .inr
def ZDg (r56:Int×(List Y1)×(List Y0)×Int×Int×TN×List ByteArray×List Int) (r57:(List Y1)×(List Y0)×Int×Int×TN×List ByteArray×List Int):Y21->Option (Y21⊕Y2):=fun (k68,x69,x70,x71,x72,a73,l74,l75,l76)=>
 bif decide (k68 < (l76.length:Int)) then
 (gI a73 k68).bind fun y77=>
 (gI a73 k68).bind fun y78=>
 (gI l76 k68).bind fun y79=>
 (gI l76 k68).bind fun y80=>
 (F71 r56.1 y78 y80 l74).bind fun r81=>
 (gI l76 k68).bind fun y82=>
 (gI l76 k68).bind fun y83=>
 some (.inl (wrap .i64 (k68+1),x69,x70,x71,x72,a73,r81.2,l75,Zaq l76 k68 r81.1))
 else
 ((F71 r56.1 r57.2.2.1 x71 l74).bind fun r84=>
 some (x69,x70,r84.1,x72,r84.2,l75,l76)).map .inr
def E67 (rec32:(List SmT)->(List Y1)->(List Y0)->Int->Int->TN->(List ByteArray)->(List Int)->Option Y2) (s1:Int×ByteArray×ByteArray×Int×Y3×Y3×List ExT×List SmT×List SmT) (x2:List Y1) (x3:List Y0) (x4:Int) (x5:Int) (l6:TN) (l7:List ByteArray) (l8:List Int):Option Y2:=
 bif s1.1==1 then
 (F33 s1.2.2.2.2.2.1.1 s1.2.2.2.2.2.1.2.1 s1.2.2.2.2.2.1.2.2.1 s1.2.2.2.2.2.1.2.2.2.1 s1.2.2.2.2.2.1.2.2.2.2 x2 x3 x4 x5 l6 l7 l8).bind fun r9=>
 (F68 s1.2.1 r9.2.2.2.2.2.2.1).bind fun r10=>
 (gI r9.2.2.2.2.2.2.2 r10.1).bind fun y11=>
 (gI r9.2.2.2.2.2.2.2 r10.1).bind fun y12=>
 some (r9.2.1,r9.2.2.1,r9.2.2.2.1,r9.2.2.2.2.1,r9.2.2.2.2.2.1,r10.2,Zaq r9.2.2.2.2.2.2.2 r10.1 r9.1)
 else
 bif s1.1==2 then
 (F33 s1.2.2.2.2.1.1 s1.2.2.2.2.1.2.1 s1.2.2.2.2.1.2.2.1 s1.2.2.2.2.1.2.2.2.1 s1.2.2.2.2.1.2.2.2.2 x2 x3 x4 x5 l6 l7 l8).bind fun r13=>
 (F33 s1.2.2.2.2.2.1.1 s1.2.2.2.2.2.1.2.1 s1.2.2.2.2.2.1.2.2.1 s1.2.2.2.2.2.1.2.2.2.1 s1.2.2.2.2.2.1.2.2.2.2 r13.2.1 r13.2.2.1 r13.2.2.2.1 r13.2.2.2.2.1 r13.2.2.2.2.2.1 r13.2.2.2.2.2.2.1 r13.2.2.2.2.2.2.2).bind fun r14=>
 (F69 s1.2.1 r14.2.1).bind fun r15=>
 (F70 r15.1 r13.1 r15.2 r14.2.2.1 r14.2.2.2.1 r14.2.2.2.2.1 r14.2.2.2.2.2.1 r14.2.2.2.2.2.2.1 r14.2.2.2.2.2.2.2).bind fun r16=>
 (F31 28 r15.1 ([r16.2.2.1,r13.1,r14.1]:List Int) r16.2.2.2.2.1).bind fun r17=>
 some (r16.1,r16.2.1,r17.1,r16.2.2.2.1,r17.2,r16.2.2.2.2.2.1,r16.2.2.2.2.2.2)
 else
 bif s1.1==5 then
 (F33 s1.2.2.2.2.2.1.1 s1.2.2.2.2.2.1.2.1 s1.2.2.2.2.2.1.2.2.1 s1.2.2.2.2.2.1.2.2.2.1 s1.2.2.2.2.2.1.2.2.2.2 x2 x3 x4 x5 l6 l7 l8).bind fun r18=>
 (F31 29 0 ([r18.2.2.2.1,r18.1]:List Int) r18.2.2.2.2.2.1).bind fun r19=>
 some (r18.2.1,r18.2.2.1,r19.1,r18.2.2.2.2.1,r19.2,r18.2.2.2.2.2.2.1,r18.2.2.2.2.2.2.2)
 else
 bif s1.1==7 then
 (F31 1 0 [] l6).bind fun r20=>
 (F31 27 (wrap .i64 (16+s1.2.2.2.1)) ([x4,r20.1]:List Int) r20.2).bind fun r21=>
 some (x2,x3,r21.1,x5,r21.2,l7,l8)
 else
 bif s1.1==6 then
 Zao (ZwL s1) (0,x2,x3,x4,x5,[],l6,l7,l8)
 else
 bif s1.1==3 then
 (F33 s1.2.2.2.2.2.1.1 s1.2.2.2.2.2.1.2.1 s1.2.2.2.2.2.1.2.2.1 s1.2.2.2.2.2.1.2.2.2.1 s1.2.2.2.2.2.1.2.2.2.2 x2 x3 x4 x5 l6 l7 l8).bind fun r56=>
 bif decide (List.length ([]:List Int)+r56.2.2.2.2.2.2.2.length<=1000000) then
 (rec32 s1.2.2.2.2.2.2.2.1 r56.2.1 r56.2.2.1 r56.2.2.2.1 r56.2.2.2.2.1 r56.2.2.2.2.2.1 r56.2.2.2.2.2.2.1 r56.2.2.2.2.2.2.2).bind fun r57=>
 (rec32 s1.2.2.2.2.2.2.2.2 r57.1 r57.2.1 r56.2.2.2.1 r57.2.2.2.1 r57.2.2.2.2.1 r57.2.2.2.2.2.1 (([]:List Int)++r56.2.2.2.2.2.2.2)).bind fun r58=>
 Zao (ZDg r56 r57) (0,r58.1,r58.2.1,r58.2.2.1,r58.2.2.2.1,r57.2.2.2.2.2.2,r58.2.2.2.2.1,r58.2.2.2.2.2.1,r58.2.2.2.2.2.2)
 else none
 else
 bif s1.1==4 then
 (ZOQ rec32 s1.1 s1.2.1 s1.2.2.1 s1.2.2.2.1 s1.2.2.2.2.1.1 s1.2.2.2.2.1.2.1 s1.2.2.2.2.1.2.2.1 s1.2.2.2.2.1.2.2.2.1 s1.2.2.2.2.1.2.2.2.2 s1.2.2.2.2.2.1.1 s1.2.2.2.2.2.1.2.1 s1.2.2.2.2.2.1.2.2.1 s1.2.2.2.2.2.1.2.2.2.1 s1.2.2.2.2.2.1.2.2.2.2 s1.2.2.2.2.2.2.1 s1.2.2.2.2.2.2.2.1 s1.2.2.2.2.2.2.2.2 x2 x3 x4 x5 l6 l7 l8).bind fun r85=>
 some r85
 else
 some (x2,x3,x4,x5,l6,l7,l8)
def Z99 (rec32:(List SmT)->(List Y1)->(List Y0)->Int->Int->TN->(List ByteArray)->(List Int)->Option Y2) (l1:List SmT):Y7->Option (Y7⊕Y2):=fun (i17,x18,x19,x20,x21,l22,l23,l24)=>
 bif decide (i17 < (l1.length:Int)) then
 (gI l1 i17).bind fun y25=>
 (E67 rec32 (ZGo y25) x18 x19 x20 x21 l22 l23 l24).bind fun r26=>
 some (.inl (wrap .i64 (i17+1),r26.1,r26.2.1,r26.2.2.1,r26.2.2.2.1,r26.2.2.2.2.1,r26.2.2.2.2.2.1,r26.2.2.2.2.2.2))
 else
 (some (x18,x19,x20,x21,l22,l23,l24)).map .inr
def G32 (rec32:(List SmT)->(List Y1)->(List Y0)->Int->Int->TN->(List ByteArray)->(List Int)->Option Y2) (l1:List SmT) (x2:List Y1) (x3:List Y0) (x4:Int) (x5:Int) (l6:TN) (l7:List ByteArray) (l8:List Int):Option Y2:=
 Zao (Z99 rec32 l1) (0,x2,x3,x4,x5,l6,l7,l8)
def N32 (n:Nat):(List SmT)->(List Y1)->(List Y0)->Int->Int->TN->(List ByteArray)->(List Int)->Option Y2:=Nat.rec (motive:=fun _=>(List SmT)->(List Y1)->(List Y0)->Int->Int->TN->(List ByteArray)->(List Int)->Option Y2) (fun _ _ _ _ _ _ _ _=>none) (fun _ ih=>G32 ih) n
def F32 (l1:List SmT) (x2:List Y1) (x3:List Y0) (x4:Int) (x5:Int) (l6:TN) (l7:List ByteArray) (l8:List Int):Option Y2:=N32 1000 l1 x2 x3 x4 x5 l6 l7 l8
def ZOd (i8:Int) (y11:ByteArray×List ByteArray×List ByteArray×List SmT×Int×Int×ByteArray×Int×List ExT):Y17->Option (Y17⊕Y33):=fun (k53,x54,x55,x56,x57,l58,l59,l60,l61,l62)=>
 bif decide (k53 < (y11.2.2.1.length:Int)) then
 (gI y11.2.2.1 k53).bind fun y63=>
 bif decide (l61.length+List.length ([y63]:List ByteArray)<=1000000) then
 (F31 1 0 [] l60).bind fun r64=>
 bif decide (l62.length+List.length ([r64.1]:List Int)<=1000000) then
 some (.inl (wrap .i64 (k53+1),x54,x55,x56,x57,l58,l59,r64.2,l61++([y63]:List ByteArray),l62++([r64.1]:List Int)))
 else none
 else none
 else
 ((F32 y11.2.2.2.1 x54 x55 x56 x57 l60 l61 l62).bind fun r65=>
 (F33 y11.2.2.2.2.1 y11.2.2.2.2.2.1 y11.2.2.2.2.2.2.1 y11.2.2.2.2.2.2.2.1 y11.2.2.2.2.2.2.2.2 r65.1 r65.2.1 r65.2.2.1 r65.2.2.2.1 r65.2.2.2.2.1 r65.2.2.2.2.2.1 r65.2.2.2.2.2.2).bind fun r66=>
 bif decide ((r66.2.2.2.2.2.1.length:Int) > 2000) then
 (some (([],[]),6)).map .inr
 else
 bif decide (l59.length+List.length ([(y11.1,(y11.2.1.length:Int),r66.2.2.2.2.2.1,r66.1,r66.2.2.2.1)]:List Y4)<=1000000) then
 some (.inl (wrap .i64 (i8+1),l58,l59++([(y11.1,(y11.2.1.length:Int),r66.2.2.2.2.2.1,r66.1,r66.2.2.2.1)]:List Y4)))
 else none).map .inr
def ZJa (i8:Int) (y11:ByteArray×List ByteArray×List ByteArray×List SmT×Int×Int×ByteArray×Int×List ExT):Y17->Option (Y17⊕Y33):=fun (k31,x32,x33,x34,x35,l36,l37,l38,l39,l40)=>
 bif decide (k31 < (y11.2.1.length:Int)) then
 (gI y11.2.1 k31).bind fun y41=>
 bif decide (l39.length+List.length ([y41]:List ByteArray)<=1000000) then
 (F31 2 k31 [] l38).bind fun r42=>
 bif decide (l40.length+List.length ([r42.1]:List Int)<=1000000) then
 some (.inl (wrap .i64 (k31+1),x32,x33,x34,x35,l36,l37,r42.2,l39++([y41]:List ByteArray),l40++([r42.1]:List Int)))
 else none
 else none
 else
 (Zao (ZOd i8 y11) (0,x32,x33,x34,x35,l36,l37,l38,l39,l40)).map .inr
def ZJb (p1:(List Y1)×List Y0):(Int×(List Y1)×List Y4)->Option Y33:=fun (i8,l9,l10)=>
 bif decide (i8 < (p1.2.length:Int)) then
 (gI p1.2 i8).bind fun y11=>
 (F31 26 0 [] []).bind fun r12=>
 Zao (ZJa i8 y11) (0,p1.1,p1.2,r12.1,0,l9,l10,r12.2,[],[])
 else
 (some ((l9,l10),0)).map .inr
def F15 (p1:(List Y1)×List Y0):Option (((List Y1)×List Y4)×Int):=
 (F30 p1).bind fun r2=>
 bif r2 != 0 then
 some (([],[]),r2)
 else
 bif decide (List.length ([]:List Y1)+p1.1.length<=1000000) then
 Zao (ZJb p1) (0,([]:List Y1)++p1.1,[])
 else none
def Z6J:Int->Option Int:=fun n3=>
 some n3
def F6 (n1:Int) (m2:Int):Option Int:=
 bif decide (m2=0) then none else
 (bif decide ((tmod n1 m2) < 0) then
 some (.inl (wrap .i64 ((tmod n1 m2)+m2)))
 else
 some (.inl (tmod n1 m2))).bind (Sum.elim Z6J some)
def F37 (n1:Int) (raw2:Int):Option Int:=
 (F6 n1 24).bind fun r3=>
 bif decide (r3 < 10) then
 (gI ([0,1,(-1),2,(-9223372036854775808),9223372036854775807,4294967296,(-2147483648),63,64]:List Int) r3).bind fun y4=>
 (gI ([0,1,(-1),2,(-9223372036854775808),9223372036854775807,4294967296,(-2147483648),63,64]:List Int) r3).bind fun y5=>
 some y5
 else
 bif decide (r3 < 22) then
 (F6 (wrap .i64 (tdiv n1 24)) 17).bind fun r6=>
 some (wrap .i64 (r6 - 6))
 else
 some raw2
def F73 (f1:Int):Option (List ByteArray):=
 bif f1==0 then
 some ([(ByteArray.mk #[120]),(ByteArray.mk #[121]),(ByteArray.mk #[105]),(ByteArray.mk #[106])]:List ByteArray)
 else
 some ([(ByteArray.mk #[110]),(ByteArray.mk #[105])]:List ByteArray)
def F34 (x1:Int) (l2:List Int):Option Y37:=
 bif (l2.length:Int)==0 then
 some (0,x1,l2)
 else
 (gI l2 0).bind fun y3=>
 (gI l2 0).bind fun y4=>
 bif decide ((0:Int)<=1/\(1:Int)<=(l2.length:Int)/\(l2.length:Int)<=(l2.length:Int)) then
 some (y4,x1,slI l2 1 (l2.length:Int))
 else none
def ZD8 (r5:Int×Int×List Int) (r6:List ByteArray) (r8:Int):Y57->Option Y11:=fun (x16,x17,l18,l19,l20,l21,l22)=>
 bif x16 then
 bif decide ((r6.length:Int)=0) then none else
 (gI r6 (tmod r8 (r6.length:Int))).bind fun y23=>
 some (2,0,y23,0,x17,[],l22)
 else
 (F37 r8 r5.1).bind fun r24=>
 some (1,r24,empty,0,x17,[],l22)
def Z9P (rec36:Int->Int->Int->(List Int)->Option Y11) (f1:Int) (deep2:Int) (r5:Int×Int×List Int) (r6:List ByteArray) (r7:Int) (r8:Int):Y57->Option Y11:=fun (x9,x10,l11,l12,l13,l14,l15)=>
 bif x9 then
 (bif (tmod r7 2)==0 then
 some (.inl (true,x10,l11,l12,l13,l14,l15))
 else
 bif decide (deep2 > 3) then
 some (.inl (decide (r7 > 8),x10,l11,l12,l13,l14,l15))
 else
 some (.inl (false,x10,l11,l12,l13,l14,l15))).bind (Sum.elim (ZD8 r5 r6 r8) some)
 else
 bif decide (r7 < 6) then
 (gI ([(ByteArray.mk #[97]),(ByteArray.mk #[98])]:List ByteArray) (tmod r8 2)).bind fun y25=>
 (gI ([(ByteArray.mk #[97]),(ByteArray.mk #[98])]:List ByteArray) (tmod r8 2)).bind fun y26=>
 (rec36 f1 (wrap .i64 (deep2+1)) x10 l15).bind fun r27=>
 some (3,0,y26,0,r27.2.2.2.2.1,([ExT.mk r27.1 r27.2.1 r27.2.2.1 r27.2.2.2.1 r27.2.2.2.2.2.1]:List ExT),r27.2.2.2.2.2.2)
 else
 bif decide (r7 < 7) then
 (rec36 f1 (wrap .i64 (deep2+1)) x10 l15).bind fun r28=>
 (rec36 f1 (wrap .i64 (deep2+1)) r28.2.2.2.2.1 r28.2.2.2.2.2.2).bind fun r29=>
 (rec36 f1 (wrap .i64 (deep2+1)) r29.2.2.2.2.1 r29.2.2.2.2.2.2).bind fun r30=>
 some (5,0,empty,0,r30.2.2.2.2.1,([ExT.mk r28.1 r28.2.1 r28.2.2.1 r28.2.2.2.1 r28.2.2.2.2.2.1,ExT.mk r29.1 r29.2.1 r29.2.2.1 r29.2.2.2.1 r29.2.2.2.2.2.1,ExT.mk r30.1 r30.2.1 r30.2.2.1 r30.2.2.2.1 r30.2.2.2.2.2.1]:List ExT),r30.2.2.2.2.2.2)
 else
 bif decide (r7 < 9) then
 (gI ([20,21]:List Int) (tmod r8 2)).bind fun y31=>
 (gI ([20,21]:List Int) (tmod r8 2)).bind fun y32=>
 (rec36 f1 (wrap .i64 (deep2+1)) x10 l15).bind fun r33=>
 some (4,0,empty,y32,r33.2.2.2.2.1,([ExT.mk r33.1 r33.2.1 r33.2.2.1 r33.2.2.2.1 r33.2.2.2.2.2.1]:List ExT),r33.2.2.2.2.2.2)
 else
 (rec36 f1 (wrap .i64 (deep2+1)) x10 l15).bind fun r34=>
 (rec36 f1 (wrap .i64 (deep2+1)) r34.2.2.2.2.1 r34.2.2.2.2.2.2).bind fun r35=>
 some (4,0,empty,wrap .i64 (4+(tmod r8 15)),r35.2.2.2.2.1,([ExT.mk r34.1 r34.2.1 r34.2.2.1 r34.2.2.2.1 r34.2.2.2.2.2.1,ExT.mk r35.1 r35.2.1 r35.2.2.1 r35.2.2.2.1 r35.2.2.2.2.2.1]:List ExT),r35.2.2.2.2.2.2)
def G36 (rec36:Int->Int->Int->(List Int)->Option Y11) (f1:Int) (deep2:Int) (x3:Int) (l4:List Int):Option Y11:=
 (F34 x3 l4).bind fun r5=>
 (F73 f1).bind fun r6=>
 (F6 r5.1 16).bind fun r7=>
 (F6 (wrap .i64 (tdiv r5.1 16)) 1000).bind fun r8=>
 (bif decide (r7 < 4) then
 some (.inl (true,r5.2.1,0,0,empty,0,r5.2.2))
 else
 some (.inl (decide (deep2 > 3),r5.2.1,0,0,empty,0,r5.2.2))).bind (Sum.elim (Z9P rec36 f1 deep2 r5 r6 r7 r8) some)
def N36 (n:Nat):Int->Int->Int->(List Int)->Option Y11:=Nat.rec (motive:=fun _=>Int->Int->Int->(List Int)->Option Y11) (fun _ _ _ _=>none) (fun _ ih=>G36 ih) n
def F36 (f1:Int) (deep2:Int) (x3:Int) (l4:List Int):Option Y11:=N36 1000 f1 deep2 x3 l4
def Zxq (r8:Int):(Bool×Int×Int×ByteArray×ByteArray×Int×Int×Int×ByteArray×Int×Int×Int×ByteArray×Int×List Int)->Option (Y34⊕Y5):=fun (x24,x25,l26,l27,l28,l29,l30,l31,l32,l33,l34,l35,l36,l37,l38)=>
 bif x24 then
 some (.inl (0,x25,l26,l27,l28,l29,l30,l31,l32,l33,l34,l35,l36,l37,l38))
 else
 some (.inl (r8,x25,l26,l27,l28,l29,l30,l31,l32,l33,l34,l35,l36,l37,l38))
def Zxr (f1:Int) (r7:Int):Y23->Option (Y23⊕Y5):=fun (j109,x110,l111,l112,l113,l114,l115,l116,l117,l118,l119,l120,l121,l122,s123,s124,s125,s126,s127,s128,s129,s130,s131,s132,ZOL,Z2W,l135,l136)=>
 bif decide (j109 < (wrap .i64 (2 - (tmod r7 2)))) then
 (F36 f1 2 x110 l135).bind fun r137=>
 bif decide (l136.length+List.length ([ExT.mk r137.1 r137.2.1 r137.2.2.1 r137.2.2.2.1 r137.2.2.2.2.2.1]:List ExT)<=1000000) then
 some (.inl (wrap .i64 (j109+1),r137.2.2.2.2.1,l111,l112,l113,l114,l115,l116,l117,l118,l119,l120,l121,l122,s123,s124,s125,s126,s127,s128,s129,s130,s131,s132,ZOL,Z2W,r137.2.2.2.2.2.2,l136++([ExT.mk r137.1 r137.2.1 r137.2.2.1 r137.2.2.2.1 r137.2.2.2.2.2.1]:List ExT)))
 else none
 else
 (some (s123,s124,s125,s126,s127,s128,s129,s130,s131,s132,ZOL,Z2W,x110,[],[],l136,[],[],l135)).map .inr
def Zxs (f1:Int) (deep2:Int) (r6:List ByteArray) (r7:Int) (rec35:Int->Int->Int->Int->(List Int)->Option Y22):Y34->Option Y5:=fun (k9,x10,l11,l12,l13,l14,l15,l16,l17,l18,l19,l20,l21,l22,l23)=>
 bif decide (k9 < 6) then
 bif decide ((r6.length:Int)=0) then none else
 (gI r6 (tmod r7 (r6.length:Int))).bind fun y39=>
 (F36 f1 0 x10 l23).bind fun r40=>
 some (1,y39,empty,0,0,0,empty,0,r40.1,r40.2.1,r40.2.2.1,r40.2.2.2.1,r40.2.2.2.2.1,[],r40.2.2.2.2.2.1,[],[],[],r40.2.2.2.2.2.2)
 else
 bif decide (k9 < 8) then
 (gI ([(ByteArray.mk #[97]),(ByteArray.mk #[98])]:List ByteArray) (tmod r7 2)).bind fun y41=>
 (gI ([(ByteArray.mk #[97]),(ByteArray.mk #[98])]:List ByteArray) (tmod r7 2)).bind fun y42=>
 (F36 f1 2 x10 l23).bind fun r43=>
 (F36 f1 1 r43.2.2.2.2.1 r43.2.2.2.2.2.2).bind fun r44=>
 some (2,y42,empty,0,r43.1,r43.2.1,r43.2.2.1,r43.2.2.2.1,r44.1,r44.2.1,r44.2.2.1,r44.2.2.2.1,r44.2.2.2.2.1,r43.2.2.2.2.2.1,r44.2.2.2.2.2.1,[],[],[],r44.2.2.2.2.2.2)
 else
 bif decide (k9 < 10) then
 (F36 f1 1 x10 l23).bind fun r45=>
 (rec35 f1 (wrap .i64 (deep2+1)) 3 r45.2.2.2.2.1 r45.2.2.2.2.2.2).bind fun r46=>
 (rec35 f1 (wrap .i64 (deep2+1)) 2 r46.1 r46.2.2).bind fun r47=>
 some (3,empty,empty,0,0,0,empty,0,r45.1,r45.2.1,r45.2.2.1,r45.2.2.2.1,r47.1,[],r45.2.2.2.2.2.1,[],r46.2.1,r47.2.1,r47.2.2)
 else
 bif decide (k9 < 12) then
 (F36 f1 1 (wrap .i64 (x10+1)) l23).bind fun r48=>
 (rec35 f1 (wrap .i64 (deep2+1)) 3 r48.2.2.2.2.1 r48.2.2.2.2.2.2).bind fun r49=>
 some (4,empty,empty,0,0,0,empty,0,r48.1,r48.2.1,r48.2.2.1,r48.2.2.2.1,r49.1,[],r48.2.2.2.2.2.1,[],r49.2.1,[],r49.2.2)
 else
 bif decide (k9 < 14) then
 (F36 f1 1 x10 l23).bind fun r50=>
 some (5,empty,empty,0,0,0,empty,0,r50.1,r50.2.1,r50.2.2.1,r50.2.2.2.1,r50.2.2.2.2.1,[],r50.2.2.2.2.2.1,[],[],[],r50.2.2.2.2.2.2)
 else
 bif decide (k9 < 15) then
 bif decide ((r6.length:Int)=0) then none else
 (gI r6 (tmod r7 (r6.length:Int))).bind fun y51=>
 (gI ([(ByteArray.mk #[102]),(ByteArray.mk #[103])]:List ByteArray) (tmod r7 2)).bind fun y52=>
 (gI ([(ByteArray.mk #[102]),(ByteArray.mk #[103])]:List ByteArray) (tmod r7 2)).bind fun y53=>
 Zao (Zxr f1 r7) (0,x10,l11,l12,l13,l14,l15,l16,l17,l18,l19,l20,l21,l22,6,y51,y53,0,0,0,empty,0,0,0,empty,0,l23,[])
 else
 some (7,empty,empty,r7,0,0,empty,0,0,0,empty,0,x10,[],[],[],[],[],l23)
def E72 (rec35:Int->Int->Int->Int->(List Int)->Option Y22) (f1:Int) (deep2:Int) (x3:Int) (l4:List Int):Option Y5:=
 (F34 x3 l4).bind fun r5=>
 (F73 f1).bind fun r6=>
 (F6 (wrap .i64 (tdiv r5.1 16)) 1000).bind fun r7=>
 (F6 r5.1 16).bind fun r8=>
 ((bif decide (deep2 > 2) then
 bif decide (r8>=8) then
 bif decide (r8 < 12) then
 some (.inl (true,r5.2.1,0,empty,empty,0,0,0,empty,0,0,0,empty,0,r5.2.2))
 else
 bif decide (r5.2.1>=10) then
 some (.inl (decide (r8>=10),r5.2.1,0,empty,empty,0,0,0,empty,0,0,0,empty,0,r5.2.2))
 else
 some (.inl (false,r5.2.1,0,empty,empty,0,0,0,empty,0,0,0,empty,0,r5.2.2))
 else
 bif decide (r5.2.1>=10) then
 some (.inl (decide (r8>=10),r5.2.1,0,empty,empty,0,0,0,empty,0,0,0,empty,0,r5.2.2))
 else
 some (.inl (false,r5.2.1,0,empty,empty,0,0,0,empty,0,0,0,empty,0,r5.2.2))
 else
 bif decide (r5.2.1>=10) then
 some (.inl (decide (r8>=10),r5.2.1,0,empty,empty,0,0,0,empty,0,0,0,empty,0,r5.2.2))
 else
 some (.inl (false,r5.2.1,0,empty,empty,0,0,0,empty,0,0,0,empty,0,r5.2.2))).bind (Sum.elim (Zxq r8) some)).bind (Sum.elim (Zxs f1 deep2 r6 r7 rec35) some)
def Z8P (rec35:Int->Int->Int->Int->(List Int)->Option Y22) (f1:Int) (deep2:Int) (k15:Int):(Bool×Int×List SmT×List Int)->Option (Y53⊕Y22):=fun (x19,x20,out21,l22)=>
 bif x19 then
 (E72 rec35 f1 deep2 x20 l22).bind fun r23=>
 bif decide (out21.length+List.length ([SmT.mk r23.1 r23.2.1 r23.2.2.1 r23.2.2.2.1 (r23.2.2.2.2.1,r23.2.2.2.2.2.1,r23.2.2.2.2.2.2.1,r23.2.2.2.2.2.2.2.1,r23.2.2.2.2.2.2.2.2.2.2.2.2.2.1) (r23.2.2.2.2.2.2.2.2.1,r23.2.2.2.2.2.2.2.2.2.1,r23.2.2.2.2.2.2.2.2.2.2.1,r23.2.2.2.2.2.2.2.2.2.2.2.1,r23.2.2.2.2.2.2.2.2.2.2.2.2.2.2.1) r23.2.2.2.2.2.2.2.2.2.2.2.2.2.2.2.1 r23.2.2.2.2.2.2.2.2.2.2.2.2.2.2.2.2.1 r23.2.2.2.2.2.2.2.2.2.2.2.2.2.2.2.2.2.1]:List SmT)<=1000000) then
 some (.inl (wrap .i64 (k15 - 1),r23.2.2.2.2.2.2.2.2.2.2.2.2.1,out21++([SmT.mk r23.1 r23.2.1 r23.2.2.1 r23.2.2.2.1 (r23.2.2.2.2.1,r23.2.2.2.2.2.1,r23.2.2.2.2.2.2.1,r23.2.2.2.2.2.2.2.1,r23.2.2.2.2.2.2.2.2.2.2.2.2.2.1) (r23.2.2.2.2.2.2.2.2.1,r23.2.2.2.2.2.2.2.2.2.1,r23.2.2.2.2.2.2.2.2.2.2.1,r23.2.2.2.2.2.2.2.2.2.2.2.1,r23.2.2.2.2.2.2.2.2.2.2.2.2.2.2.1) r23.2.2.2.2.2.2.2.2.2.2.2.2.2.2.2.1 r23.2.2.2.2.2.2.2.2.2.2.2.2.2.2.2.2.1 r23.2.2.2.2.2.2.2.2.2.2.2.2.2.2.2.2.2.1]:List SmT),r23.2.2.2.2.2.2.2.2.2.2.2.2.2.2.2.2.2.2))
 else none
 else
 (some (x20,out21,l22)).map .inr
def Z8Q (rec35:Int->Int->Int->Int->(List Int)->Option Y22) (f1:Int) (deep2:Int):Y53->Option (Y53⊕Y22):=fun (k15,x16,out17,l18)=>
 (bif decide (k15 > 0) then
 some (.inl (decide ((l18.length:Int) > 0),x16,out17,l18))
 else
 some (.inl (false,x16,out17,l18))).bind (Sum.elim (Z8P rec35 f1 deep2 k15) some)
def G35 (rec35:Int->Int->Int->Int->(List Int)->Option Y22) (f1:Int) (deep2:Int) (most3:Int) (x4:Int) (l5:List Int):Option Y22:=
 (F34 x4 l5).bind fun r6=>
 (F6 r6.1 (wrap .i64 (most3+1))).bind fun r7=>
 Zao (Z8Q rec35 f1 deep2) (r7,r6.2.1,[],r6.2.2)
def N35 (n:Nat):Int->Int->Int->Int->(List Int)->Option Y22:=Nat.rec (motive:=fun _=>Int->Int->Int->Int->(List Int)->Option Y22) (fun _ _ _ _ _=>none) (fun _ ih=>G35 ih) n
def F35 (f1:Int) (deep2:Int) (most3:Int) (x4:Int) (l5:List Int):Option Y22:=N35 1000 f1 deep2 most3 x4 l5
def F16 (l1:List Int):Option ((List Y1)×List Y0):=
 bif decide ((0:Int)<=0/\(0:Int)<=(if 60 < (l1.length:Int) then 60 else (l1.length:Int))/\(if 60 < (l1.length:Int) then 60 else (l1.length:Int))<=(l1.length:Int)) then
 bif decide (List.length ([]:List Int)+List.length (slI l1 0 (if 60 < (l1.length:Int) then 60 else (l1.length:Int)))<=1000000) then
 (F34 0 (([]:List Int)++(slI l1 0 (if 60 < (l1.length:Int) then 60 else (l1.length:Int))))).bind fun r2=>
 (F6 r2.1 4).bind fun r3=>
 (F6 (wrap .i64 (tdiv r2.1 4)) 4).bind fun r4=>
 (F35 0 0 5 r2.2.1 r2.2.2).bind fun r5=>
 (gI ([((ByteArray.mk #[102]),([(ByteArray.mk #[120]),(ByteArray.mk #[121])]:List ByteArray),([(ByteArray.mk #[105]),(ByteArray.mk #[106])]:List ByteArray),[],(0,0,empty,0,[])),((ByteArray.mk #[103]),([(ByteArray.mk #[110])]:List ByteArray),([(ByteArray.mk #[105])]:List ByteArray),[],(0,0,empty,0,[]))]:List Y0) 0).bind fun y6=>
 (gI ([((ByteArray.mk #[102]),([(ByteArray.mk #[120]),(ByteArray.mk #[121])]:List ByteArray),([(ByteArray.mk #[105]),(ByteArray.mk #[106])]:List ByteArray),[],(0,0,empty,0,[])),((ByteArray.mk #[103]),([(ByteArray.mk #[110])]:List ByteArray),([(ByteArray.mk #[105])]:List ByteArray),[],(0,0,empty,0,[]))]:List Y0) 0).bind fun y7=>
 (F36 0 1 r5.1 r5.2.2).bind fun r8=>
 (gI (Zaq ([((ByteArray.mk #[102]),([(ByteArray.mk #[120]),(ByteArray.mk #[121])]:List ByteArray),([(ByteArray.mk #[105]),(ByteArray.mk #[106])]:List ByteArray),[],(0,0,empty,0,[])),((ByteArray.mk #[103]),([(ByteArray.mk #[110])]:List ByteArray),([(ByteArray.mk #[105])]:List ByteArray),[],(0,0,empty,0,[]))]:List Y0) 0 (y7.1,y7.2.1,y7.2.2.1,r5.2.1,y7.2.2.2.2)) 0).bind fun y9=>
 (gI (Zaq ([((ByteArray.mk #[102]),([(ByteArray.mk #[120]),(ByteArray.mk #[121])]:List ByteArray),([(ByteArray.mk #[105]),(ByteArray.mk #[106])]:List ByteArray),[],(0,0,empty,0,[])),((ByteArray.mk #[103]),([(ByteArray.mk #[110])]:List ByteArray),([(ByteArray.mk #[105])]:List ByteArray),[],(0,0,empty,0,[]))]:List Y0) 0 (y7.1,y7.2.1,y7.2.2.1,r5.2.1,y7.2.2.2.2)) 0).bind fun y10=>
 (F35 1 1 3 r8.2.2.2.2.1 r8.2.2.2.2.2.2).bind fun r11=>
 (gI (Zaq (Zaq ([((ByteArray.mk #[102]),([(ByteArray.mk #[120]),(ByteArray.mk #[121])]:List ByteArray),([(ByteArray.mk #[105]),(ByteArray.mk #[106])]:List ByteArray),[],(0,0,empty,0,[])),((ByteArray.mk #[103]),([(ByteArray.mk #[110])]:List ByteArray),([(ByteArray.mk #[105])]:List ByteArray),[],(0,0,empty,0,[]))]:List Y0) 0 (y7.1,y7.2.1,y7.2.2.1,r5.2.1,y7.2.2.2.2)) 0 (y10.1,y10.2.1,y10.2.2.1,y10.2.2.2.1,(r8.1,r8.2.1,r8.2.2.1,r8.2.2.2.1,r8.2.2.2.2.2.1))) 1).bind fun y12=>
 (gI (Zaq (Zaq ([((ByteArray.mk #[102]),([(ByteArray.mk #[120]),(ByteArray.mk #[121])]:List ByteArray),([(ByteArray.mk #[105]),(ByteArray.mk #[106])]:List ByteArray),[],(0,0,empty,0,[])),((ByteArray.mk #[103]),([(ByteArray.mk #[110])]:List ByteArray),([(ByteArray.mk #[105])]:List ByteArray),[],(0,0,empty,0,[]))]:List Y0) 0 (y7.1,y7.2.1,y7.2.2.1,r5.2.1,y7.2.2.2.2)) 0 (y10.1,y10.2.1,y10.2.2.1,y10.2.2.2.1,(r8.1,r8.2.1,r8.2.2.1,r8.2.2.2.1,r8.2.2.2.2.2.1))) 1).bind fun y13=>
 (F36 1 1 r11.1 r11.2.2).bind fun r14=>
 (gI (Zaq (Zaq (Zaq ([((ByteArray.mk #[102]),([(ByteArray.mk #[120]),(ByteArray.mk #[121])]:List ByteArray),([(ByteArray.mk #[105]),(ByteArray.mk #[106])]:List ByteArray),[],(0,0,empty,0,[])),((ByteArray.mk #[103]),([(ByteArray.mk #[110])]:List ByteArray),([(ByteArray.mk #[105])]:List ByteArray),[],(0,0,empty,0,[]))]:List Y0) 0 (y7.1,y7.2.1,y7.2.2.1,r5.2.1,y7.2.2.2.2)) 0 (y10.1,y10.2.1,y10.2.2.1,y10.2.2.2.1,(r8.1,r8.2.1,r8.2.2.1,r8.2.2.2.1,r8.2.2.2.2.2.1))) 1 (y13.1,y13.2.1,y13.2.2.1,r11.2.1,y13.2.2.2.2)) 1).bind fun y15=>
 (gI (Zaq (Zaq (Zaq ([((ByteArray.mk #[102]),([(ByteArray.mk #[120]),(ByteArray.mk #[121])]:List ByteArray),([(ByteArray.mk #[105]),(ByteArray.mk #[106])]:List ByteArray),[],(0,0,empty,0,[])),((ByteArray.mk #[103]),([(ByteArray.mk #[110])]:List ByteArray),([(ByteArray.mk #[105])]:List ByteArray),[],(0,0,empty,0,[]))]:List Y0) 0 (y7.1,y7.2.1,y7.2.2.1,r5.2.1,y7.2.2.2.2)) 0 (y10.1,y10.2.1,y10.2.2.1,y10.2.2.2.1,(r8.1,r8.2.1,r8.2.2.1,r8.2.2.2.1,r8.2.2.2.2.2.1))) 1 (y13.1,y13.2.1,y13.2.2.1,r11.2.1,y13.2.2.2.2)) 1).bind fun y16=>
 some (([((ByteArray.mk #[97]),wrap .i64 (1+r3)),((ByteArray.mk #[98]),wrap .i64 (1+r4))]:List Y1),Zaq (Zaq (Zaq (Zaq ([((ByteArray.mk #[102]),([(ByteArray.mk #[120]),(ByteArray.mk #[121])]:List ByteArray),([(ByteArray.mk #[105]),(ByteArray.mk #[106])]:List ByteArray),[],(0,0,empty,0,[])),((ByteArray.mk #[103]),([(ByteArray.mk #[110])]:List ByteArray),([(ByteArray.mk #[105])]:List ByteArray),[],(0,0,empty,0,[]))]:List Y0) 0 (y7.1,y7.2.1,y7.2.2.1,r5.2.1,y7.2.2.2.2)) 0 (y10.1,y10.2.1,y10.2.2.1,y10.2.2.2.1,(r8.1,r8.2.1,r8.2.2.1,r8.2.2.2.1,r8.2.2.2.2.2.1))) 1 (y13.1,y13.2.1,y13.2.2.1,r11.2.1,y13.2.2.2.2)) 1 (y16.1,y16.2.1,y16.2.2.1,y16.2.2.2.1,(r14.1,r14.2.1,r14.2.2.1,r14.2.2.2.1,r14.2.2.2.2.2.1)))
 else none
 else none
def F5 (l1:List Int):Option ((List Y1)×List Y4):=
 (F16 l1).bind fun r2=>
 (F15 r2).bind fun r3=>
 some r3.1
def ZOe:Bool->Option (Int×Bool):=fun x6=>
 bif x6 then
 some ((-1),true)
 else
 some (0,false)
def ZOf (op1:Int):Bool->Option (Int×Bool):=fun x5=>
 bif x5 then
 some (3,true)
 else
 (bif op1==30 then
 some (.inl true)
 else
 some (.inl (op1==31))).bind (Sum.elim ZOe some)
def ZDc (op1:Int):Bool->Option (Int×Bool):=fun x4=>
 bif x4 then
 some (2,true)
 else
 (bif op1==22 then
 some (.inl true)
 else
 some (.inl (op1==28))).bind (Sum.elim (ZOf op1) some)
def Zx0 (op1:Int):Bool->Option (Int×Bool):=fun x3=>
 bif x3 then
 some (1,true)
 else
 (bif decide (op1>=4) then
 bif decide (op1<=19) then
 some (.inl true)
 else
 bif op1==23 then
 some (.inl true)
 else
 bif op1==27 then
 some (.inl true)
 else
 some (.inl (op1==29))
 else
 bif op1==23 then
 some (.inl true)
 else
 bif op1==27 then
 some (.inl true)
 else
 some (.inl (op1==29))).bind (Sum.elim (ZDc op1) some)
def Zx1 (op1:Int):Bool->Option (Int×Bool):=fun x2=>
 bif x2 then
 some (0,true)
 else
 (bif op1==20 then
 some (.inl true)
 else
 bif op1==21 then
 some (.inl true)
 else
 bif op1==24 then
 some (.inl true)
 else
 some (.inl (op1==25))).bind (Sum.elim (Zx0 op1) some)
def F38 (op1:Int):Option (Int×Bool):=
 (bif op1==1 then
 some (.inl true)
 else
 bif op1==2 then
 some (.inl true)
 else
 bif op1==3 then
 some (.inl true)
 else
 some (.inl (op1==26))).bind (Sum.elim (Zx1 op1) some)
def Zkh (op1:Int):Bool->Option Int:=fun x2=>
 bif x2 then
 some 3
 else
 bif op1==27 then
 some 1000016
 else
 bif op1==30 then
 some 7
 else
 bif op1==31 then
 some 15
 else
 bif op1==25 then
 some 15
 else
 some (-1)
def ZrF (op1:Int):Option Int:=
 bif op1==2 then
 some 5
 else
 bif op1==3 then
 some 255
 else
 (bif op1==23 then
 some (.inl true)
 else
 some (.inl (op1==28))).bind (Sum.elim (Zkh op1) some)
def ZuL:Bool->Option Bool:=fun x4=>
 some x4
def F81 (op1:Int) (n2:Int):Option Bool:=
 bif op1==1 then
 some true
 else
 (ZrF op1).bind fun r3=>
 bif decide (r3 < 0) then
 some (n2==0)
 else
 (bif decide (n2>=0) then
 bif decide (n2<=r3) then
 bif op1 != 27 then
 some (.inl true)
 else
 some (.inl (decide (n2 > 0)))
 else
 some (.inl false)
 else
 some (.inl false)).bind (Sum.elim ZuL some)
def F82 (ok1:Bool) (n2:Int):Option Int:=
 bif ok1 then
 some n2
 else
 some 0
def ZDI (k1:List Int):Int->Option (Int⊕Bool):=fun i3=>
 bif decide (i3 < (k1.length:Int)) then
 (gI k1 i3).bind fun y4=>
 bif y4 != 1 then
 (some false).map .inr
 else
 some (.inl (wrap .i64 (i3+1)))
 else
 (some true).map .inr
def F83 (k1:List Int):Option Bool:=
 Zao (ZDI k1) 0
def ZKI (k3:List Int):Bool->Option Int:=fun x8=>
 bif x8 then
 some 0
 else
 (gI k3 1).bind fun y13=>
 some y13
def ZKB:Int->Option Int:=fun x14=>
 some x14
def ZKJ (n2:Int×Int×List Int):Bool->Option Int:=fun x21=>
 bif x21 then
 some 0
 else
 (F82 (n2.2.1==0) 1).bind fun r25=>
 some (wrap .i64 (r25+1))
def ZKC:Int->Option Int:=fun x27=>
 some x27
def ZKD:Int->Option Int:=fun x32=>
 some x32
def ZKK:Int->Option Int:=fun x39=>
 some x39
def ZKU:Int->Option Int:=fun x46=>
 some x46
def ZKA (n2:Int×Int×List Int) (k3:List Int):Bool->Option Int:=fun x26=>
 bif x26 then
 ((gI k3 0).bind fun y28=>
 bif y28==2 then
 (gI k3 1).bind fun y29=>
 (F82 (y29==1) 2).bind fun r30=>
 some (.inl r30)
 else
 (F82 false 2).bind fun r31=>
 some (.inl r31)).bind (Sum.elim ZKC some)
 else
 bif n2.1==28 then
 ((gI k3 0).bind fun y33=>
 bif y33==2 then
 (gI k3 1).bind fun y34=>
 bif y34==1 then
 (gI k3 2).bind fun y35=>
 (F82 (y35==1) 2).bind fun r36=>
 some (.inl r36)
 else
 (F82 false 2).bind fun r37=>
 some (.inl r37)
 else
 (F82 false 2).bind fun r38=>
 some (.inl r38)).bind (Sum.elim ZKD some)
 else
 bif n2.1==30 then
 (bif decide ((k3.length:Int)>=1) then
 bif decide ((k3.length:Int)<=7) then
 (gI k3 0).bind fun y40=>
 bif y40==2 then
 bif decide ((0:Int)<=1/\(1:Int)<=(k3.length:Int)/\(k3.length:Int)<=(k3.length:Int)) then
 (F83 (slI k3 1 (k3.length:Int))).bind fun r41=>
 (F82 r41 2).bind fun r42=>
 some (.inl r42)
 else none
 else
 (F82 false 2).bind fun r43=>
 some (.inl r43)
 else
 (F82 false 2).bind fun r44=>
 some (.inl r44)
 else
 (F82 false 2).bind fun r45=>
 some (.inl r45)).bind (Sum.elim ZKK some)
 else
 bif n2.1==31 then
 (bif (tmod (k3.length:Int) 2)==1 then
 bif decide ((wrap .i64 (tdiv (k3.length:Int) 2))>=1) then
 bif decide ((wrap .i64 (tdiv (k3.length:Int) 2))<=16) then
 (gI k3 0).bind fun y47=>
 bif y47==2 then
 bif decide ((0:Int)<=1/\(1:Int)<=wrap .i64 ((wrap .i64 (tdiv (k3.length:Int) 2))+1)/\wrap .i64 ((wrap .i64 (tdiv (k3.length:Int) 2))+1)<=(k3.length:Int)) then
 (F83 (slI k3 1 (wrap .i64 ((wrap .i64 (tdiv (k3.length:Int) 2))+1)))).bind fun r48=>
 bif r48 then
 (gI k3 (wrap .i64 ((wrap .i64 (tdiv (k3.length:Int) 2))+1))).bind fun y49=>
 bif y49==2 then
 bif decide ((0:Int)<=wrap .i64 ((wrap .i64 (tdiv (k3.length:Int) 2))+2)/\(wrap .i64 ((wrap .i64 (tdiv (k3.length:Int) 2))+2):Int)<=(k3.length:Int)/\(k3.length:Int)<=(k3.length:Int)) then
 (F83 (slI k3 (wrap .i64 ((wrap .i64 (tdiv (k3.length:Int) 2))+2)) (k3.length:Int))).bind fun r50=>
 (F82 r50 3).bind fun r51=>
 some (.inl r51)
 else none
 else
 (F82 false 3).bind fun r52=>
 some (.inl r52)
 else
 (F82 false 3).bind fun r53=>
 some (.inl r53)
 else none
 else
 (F82 false 3).bind fun r54=>
 some (.inl r54)
 else
 (F82 false 3).bind fun r55=>
 some (.inl r55)
 else
 (F82 false 3).bind fun r56=>
 some (.inl r56)
 else
 (F82 false 3).bind fun r57=>
 some (.inl r57)).bind (Sum.elim ZKU some)
 else
 (F83 k3).bind fun r58=>
 (F82 r58 1).bind fun r59=>
 some r59
def Z93 (l1:TN) (n2:Int×Int×List Int) (k3:List Int):Bool->Option Int:=fun x5=>
 bif x5 then
 some 0
 else
 bif n2.1==3 then
 bif (tmod n2.2.1 16)==0 then
 some 2
 else
 some 1
 else
 bif n2.1==26 then
 some 2
 else
 bif n2.1==22 then
 ((gI k3 0).bind fun y9=>
 bif y9 != 1 then
 some (.inl true)
 else
 (gI k3 1).bind fun y10=>
 (gI k3 2).bind fun y11=>
 bif y10 != y11 then
 some (.inl true)
 else
 (gI k3 1).bind fun y12=>
 some (.inl (y12==3))).bind (Sum.elim (ZKI k3) some)
 else
 bif n2.1==23 then
 ((gI k3 0).bind fun y15=>
 bif y15==2 then
 (gI k3 1).bind fun y16=>
 (F82 (y16==1) 1).bind fun r17=>
 some (.inl r17)
 else
 (F82 false 1).bind fun r18=>
 some (.inl r18)).bind (Sum.elim ZKB some)
 else
 bif n2.1==24 then
 (gI k3 0).bind fun y19=>
 (F82 (y19==2) 1).bind fun r20=>
 some r20
 else
 bif n2.1==25 then
 ((gI k3 0).bind fun y22=>
 bif y22 != 3 then
 some (.inl true)
 else
 (gI n2.2.2 0).bind fun y23=>
 (gI l1 y23).bind fun y24=>
 some (.inl (decide (n2.2.1>=(wrap .i64 (tdiv (y24.2.2.length:Int) 2)))))).bind (Sum.elim (ZKJ n2) some)
 else
 (bif n2.1==27 then
 some (.inl true)
 else
 some (.inl (n2.1==29))).bind (Sum.elim (ZKA n2 k3) some)
def F49 (l1:TN) (n2:Int×Int×List Int) (k3:List Int):Option Int:=
 (F38 n2.1).bind fun r4=>
 (bif !r4.2 then
 some (.inl true)
 else
 bif decide (r4.1>=0) then
 bif (n2.2.2.length:Int) != r4.1 then
 some (.inl true)
 else
 (F81 n2.1 n2.2.1).bind fun r6=>
 some (.inl (!r6))
 else
 (F81 n2.1 n2.2.1).bind fun r7=>
 some (.inl (!r7))).bind (Sum.elim (Z93 l1 n2 k3) some)
def ZOg (ok18:Bool) (j19:Int) (y24:Int):(Bool×List Int×List Int)->Option Y38:=fun (x25,out26,k27)=>
 bif x25 then
 (some (.inl (false,out26,k27))).map .inr
 else
 (gI out26 y24).bind fun y30=>
 (gI out26 y24).bind fun y31=>
 bif decide (k27.length+List.length ([y31]:List Int)<=1000000) then
 some (.inl (ok18,wrap .i64 (j19+1),out26,k27++([y31]:List Int)))
 else none
def ZDl (l1:TN) (i5:Int):(Bool×Int×List Int×List Int)->Option Y38:=fun (ok18,j19,out20,k21)=>
 (gI l1 i5).bind fun y22=>
 bif decide (j19 < (y22.2.2.length:Int)) then
 (gI l1 i5).bind fun y23=>
 (gI y23.2.2 j19).bind fun y24=>
 (bif decide (y24 < 0) then
 some (.inl (true,out20,k21))
 else
 bif decide (y24>=i5) then
 some (.inl (true,out20,k21))
 else
 (gI out20 y24).bind fun y28=>
 (gI out20 y24).bind fun y29=>
 some (.inl (y29==0,out20,k21))).bind (Sum.elim (ZOg ok18 j19 y24) some)
 else
 (some (.inl (ok18,out20,k21))).map .inr
def ZAo (l1:TN) (i5:Int):(Bool×List Int×List Int)->Option ((List Int)⊕Y27):=fun (ok8,out9,k10)=>
 bif ok8 then
 (gI l1 i5).bind fun y32=>
 (F49 l1 y32 k10).bind fun r33=>
 bif decide (out9.length+List.length ([r33]:List Int)<=1000000) then
 some (.inl (out9++([r33]:List Int)))
 else none
 else
 bif decide (out9.length+List.length ([0]:List Int)<=1000000) then
 some (.inl (out9++([0]:List Int)))
 else none
def ZAq (i5:Int):(List Int)->Option Y27:=fun out7=>
 some (.inl (wrap .i64 (i5+1),out7))
def ZAp (l1:TN):Y9->Option Y27:=fun (i5,out6)=>
 bif decide (i5 < (l1.length:Int)) then
 ((Zao (ZDl l1 i5) (true,0,out6,[])).bind (Sum.elim (ZAo l1 i5) some)).bind (Sum.elim (ZAq i5) some)
 else
 (some out6).map .inr
def F24 (l1:TN):Option (List Int):=
 Zao (ZAp l1) (0,[])
def ZuI (i8:Int):(List Int)->Option (Y9⊕Int):=fun all10=>
 some (.inl (wrap .i64 (i8+1),all10))
def ZxG (l1:TN) (sort2:Int) (n3:Int) (r4:List Int):Y9->Option (Y9⊕Int):=fun (i8,all9)=>
 bif decide (i8 < (l1.length:Int)) then
 ((gI r4 i8).bind fun y11=>
 bif y11==sort2 then
 bif decide (all9.length+List.length ([i8]:List Int)<=1000000) then
 some (.inl (all9++([i8]:List Int)))
 else none
 else
 some (.inl all9)).bind (Sum.elim (ZuI i8) some)
 else
 ((F6 n3 (all9.length:Int)).bind fun r12=>
 (gI all9 (wrap .i64 ((wrap .i64 ((all9.length:Int) - 1)) - r12))).bind fun y13=>
 (gI all9 (wrap .i64 ((wrap .i64 ((all9.length:Int) - 1)) - r12))).bind fun y14=>
 some y14).map .inr
def F39 (l1:TN) (sort2:Int) (n3:Int):Option Int:=
 (F24 l1).bind fun r4=>
 Zao (ZxG l1 sort2 n3 r4) (0,[])
def Z8R:Bool->Option Int:=fun x2=>
 bif x2 then
 some 2
 else
 some 1
def F74 (op1:Int):Option Int:=
 (bif op1==27 then
 some (.inl true)
 else
 bif op1==28 then
 some (.inl true)
 else
 some (.inl (op1==29))).bind (Sum.elim Z8R some)
def ZwX:Bool->Option Int:=fun x3=>
 bif x3 then
 some 2
 else
 some 1
def F40 (op1:Int) (k2:Int):Option Int:=
 (bif k2==0 then
 (F74 op1).bind fun r4=>
 bif r4==2 then
 some (.inl true)
 else
 bif op1==23 then
 some (.inl true)
 else
 some (.inl (op1==24))
 else
 some (.inl false)).bind (Sum.elim ZwX some)
def ZuJ (l1:TN) (n2:Int×Int×List Int):Int->Option (Int⊕Bool):=fun i4=>
 bif decide (i4 < (l1.length:Int)) then
 (gI l1 i4).bind fun y5=>
 (F42 y5 n2).bind fun r6=>
 bif r6 then
 (some true).map .inr
 else
 some (.inl (wrap .i64 (i4+1)))
 else
 (some false).map .inr
def F41 (l1:TN) (n2:Int×Int×List Int):Option Bool:=
 Zao (ZuJ l1 n2) 0
def ZMI (l1:List Int) (i5:Int):(Bool×TN×Int×Int×Int×List Int)->Option (Y54⊕Y29):=fun (x20,out21,x22,n23,n24,l25)=>
 bif x20 then
 (gI l1 i5).bind fun y28=>
 (F6 (wrap .i64 (tdiv y28 9)) 5).bind fun r29=>
 (gI ([23,27,28,29,24]:List Int) r29).bind fun y30=>
 (gI ([23,27,28,29,24]:List Int) r29).bind fun y31=>
 some (.inl (out21,x22,y31,n24,l25))
 else
 some (.inl (out21,x22,n23,n24,l25))
def ZMJ (l1:List Int) (i5:Int):(Bool×TN×Int×Int×List Int)->Option (Y46⊕Y29):=fun (x76,out77,n78,n79,l80)=>
 bif x76 then
 (gI l1 i5).bind fun y81=>
 (F6 (wrap .i64 (tdiv y81 5)) 2).bind fun r82=>
 some (.inl (out77,n78,r82,l80))
 else
 some (.inl (out77,n78,n79,l80))
def ZMK:Y46->Option Y29:=fun (out72,n73,n74,l75)=>
 (F41 out72 (n73,n74,l75)).bind fun r83=>
 bif !r83 then
 bif decide (out72.length+List.length ([(n73,n74,l75)]:TN)<=1000000) then
 some (.inl (out72++([(n73,n74,l75)]:TN)))
 else none
 else
 some (.inl out72)
def ZN0 (l1:List Int) (i5:Int):Y46->Option Y29:=fun (out66,n67,n68,l69)=>
 ((bif n67==23 then
 some (.inl (true,out66,n67,n68,l69))
 else
 some (.inl (n67==28,out66,n67,n68,l69))).bind (Sum.elim (ZMJ l1 i5) some)).bind (Sum.elim ZMK some)
def ZOh (l1:List Int) (i5:Int) (r42:Int×Bool):Y59->Option (Y59⊕Y29):=fun (j56,out57,x58,n59,n60,l61,l62)=>
 bif decide (j56 < r42.1) then
 (F40 n59 j56).bind fun r63=>
 (F34 x58 l61).bind fun r64=>
 (F39 out57 r63 r64.1).bind fun r65=>
 bif decide (l62.length+List.length ([r65]:List Int)<=1000000) then
 some (.inl (wrap .i64 (j56+1),out57,r64.2.1,n59,n60,r64.2.2,l62++([r65]:List Int)))
 else none
 else
 ((bif n59==27 then
 (gI l1 i5).bind fun y70=>
 (F6 (wrap .i64 (tdiv y70 5)) 2).bind fun r71=>
 some (.inl (out57,n59,wrap .i64 (1+r71),l62))
 else
 some (.inl (out57,n59,n60,l62))).bind (Sum.elim (ZN0 l1 i5) some)).map .inr
def ZN1 (l1:List Int) (i5:Int):Y54->Option Y29:=fun (out32,x33,n34,n35,l36)=>
 (F38 n34).bind fun r42=>
 Zao (ZOh l1 i5 r42) (0,out32,x33,n34,n35,l36,[])
def ZML (l1:List Int) (i5:Int):Y54->Option Y29:=fun (out15,x16,n17,n18,l19)=>
 ((gI l1 i5).bind fun y37=>
 (F6 y37 11).bind fun r38=>
 bif r38==0 then
 (gI l1 i5).bind fun y39=>
 (gI l1 i5).bind fun y40=>
 (F37 (wrap .i64 (tdiv y39 11)) y40).bind fun r41=>
 some (.inl (out15,x16,1,r41,l19))
 else
 some (.inl (out15,x16,n17,n18,l19))).bind (Sum.elim (ZN1 l1 i5) some)
def Z8m (i5:Int):TN->Option ((Int×TN)⊕TN):=fun out9=>
 some (.inl (wrap .i64 (i5+1),out9))
def Z8T (l1:List Int) (values2:Bool) (i5:Int):(Bool×TN)->Option ((Int×TN)⊕TN):=fun (x7,out8)=>
 bif x7 then
 ((gI l1 i5).bind fun y10=>
 (gI l1 i5).bind fun y11=>
 (gI l1 i5).bind fun y12=>
 (gI l1 i5).bind fun y13=>
 (F6 y13 19).bind fun r14=>
 ((bif !values2 then
 (gI l1 i5).bind fun y26=>
 (F6 y26 9).bind fun r27=>
 some (.inl (decide (r27 > 5),out8,0,wrap .i64 (4+r14),0,([wrap .i64 (tdiv y10 7),wrap .i64 (tdiv y11 101),wrap .i64 (tdiv y12 1009)]:List Int)))
 else
 some (.inl (false,out8,0,wrap .i64 (4+r14),0,([wrap .i64 (tdiv y10 7),wrap .i64 (tdiv y11 101),wrap .i64 (tdiv y12 1009)]:List Int)))).bind (Sum.elim (ZMI l1 i5) some)).bind (Sum.elim (ZML l1 i5) some)).bind (Sum.elim (Z8m i5) some)
 else
 (some out8).map .inr
def ZAd (l1:List Int) (values2:Bool):(Int×TN)->Option ((Int×TN)⊕TN):=fun (i5,out6)=>
 (bif decide (i5 < (l1.length:Int)) then
 some (.inl (decide (i5 < 14),out6))
 else
 some (.inl (false,out6))).bind (Sum.elim (Z8T l1 values2 i5) some)
def F17 (l1:List Int) (values2:Bool):Option TN:=
 Zao (ZAd l1 values2) (0,([(2,0,[]),(2,1,[]),(26,0,[])]:TN))
def ZJd (l1:TN) (i2:Int):Bool->Option Int:=fun x3=>
 bif x3 then
 some 0
 else
 bif decide ((0:Int)<=0/\(0:Int)<=wrap .i64 (i2+1)/\wrap .i64 (i2+1)<=(l1.length:Int)) then
 (F24 (slI l1 0 (wrap .i64 (i2+1)))).bind fun r4=>
 (gI r4 i2).bind fun y5=>
 some y5
 else none
def F18 (l1:TN) (i2:Int):Option Int:=
 (bif decide (i2 < 0) then
 some (.inl true)
 else
 some (.inl (decide (i2>=(l1.length:Int))))).bind (Sum.elim (ZJd l1 i2) some)
def ZuP (l1:TN) (n2:Int×Int×List Int):Int->Option (Int⊕(TN×Int)):=fun i4=>
 bif decide (i4 < (l1.length:Int)) then
 (gI l1 i4).bind fun y5=>
 (F42 y5 n2).bind fun r6=>
 bif r6 then
 (some (l1,i4)).map .inr
 else
 some (.inl (wrap .i64 (i4+1)))
 else
 (bif decide (l1.length<=1000000) then
 bif decide (l1.length+List.length ([n2]:TN)<=1000000) then
 some (l1++([n2]:TN),(l1.length:Int))
 else none
 else none).map .inr
def F19 (l1:TN) (n2:Int×Int×List Int):Option (TN×Int):=
 Zao (ZuP l1 n2) 0
def ZOR (v13:Int) (i15:Int):Bool->Option (Int⊕((Int×Int)⊕Y35)):=fun x19=>
 bif x19 then
 some (.inl i15)
 else
 some (.inl v13)
def ZOS (s14:Int) (i15:Int) (v18:Int):Bool->Option ((Int×Int)⊕Y35):=fun x23=>
 bif x23 then
 some (.inl (v18,i15))
 else
 some (.inl (v18,s14))
def ZOT (l1:List Int) (n6:TN) (k7:Int) (s14:Int) (i15:Int):Int->Option ((Int×Int)⊕Y35):=fun v18=>
 ((F18 n6 i15).bind fun r24=>
 bif r24==2 then
 (gI l1 k7).bind fun y25=>
 (F6 (wrap .i64 ((wrap .i64 (tdiv y25 3))+i15)) 3).bind fun r26=>
 some (.inl (r26 != 0))
 else
 some (.inl false)).bind (Sum.elim (ZOS s14 i15 v18) some)
def ZOE (i15:Int):(Int×Int)->Option Y35:=fun (v16,s17)=>
 some (.inl (v16,s17,wrap .i64 (i15+1)))
def ZOF (l1:List Int) (size2:Int) (n6:TN) (k7:Int):Y25->Option Y35:=fun (v13,s14,i15)=>
 bif decide (i15 < (n6.length:Int)) then
 ((((F18 n6 i15).bind fun r20=>
 bif r20==1 then
 (gI l1 k7).bind fun y21=>
 (F6 (wrap .i64 (y21+i15)) 3).bind fun r22=>
 some (.inl (r22 != 0))
 else
 some (.inl false)).bind (Sum.elim (ZOR v13 i15) some)).bind (Sum.elim (ZOT l1 n6 k7 s14 i15) some)).bind (Sum.elim (ZOE i15) some)
 else
 ((gI l1 k7).bind fun y27=>
 (F6 y27 3).bind fun r28=>
 bif r28==0 then
 (F19 n6 (1,0,[])).bind fun r29=>
 (F19 r29.1 (15,0,([v13,r29.2]:List Int))).bind fun r30=>
 (F19 r30.1 (4,0,([v13,r30.2]:List Int))).bind fun r31=>
 (F19 r31.1 (8,0,([0,r31.2]:List Int))).bind fun r32=>
 (F19 r32.1 (1,(-1),[])).bind fun r33=>
 (F19 r33.1 (4,0,([r30.2,r33.2]:List Int))).bind fun r34=>
 (F19 r34.1 (9,0,([r32.2,r34.2]:List Int))).bind fun r35=>
 some (.inl r35.1)
 else
 bif r28==1 then
 (F19 n6 (1,size2,[])).bind fun r36=>
 (F19 r36.1 (19,0,([v13,r36.2]:List Int))).bind fun r37=>
 (F19 r37.1 (20,0,([r37.2]:List Int))).bind fun r38=>
 (F19 r38.1 (9,0,([v13,r38.2]:List Int))).bind fun r39=>
 (F19 r39.1 (23,0,([s14,r39.2]:List Int))).bind fun r40=>
 (F19 r40.1 (9,0,([r40.2,r38.2]:List Int))).bind fun r41=>
 some (.inl r41.1)
 else
 (F19 n6 (1,size2,[])).bind fun r42=>
 (F19 r42.1 (19,0,([v13,r42.2]:List Int))).bind fun r43=>
 (F19 r43.1 (28,0,([s14,v13,0]:List Int))).bind fun r44=>
 (F19 r44.1 (22,0,([r43.2,r44.2,s14]:List Int))).bind fun r45=>
 some (.inl r45.1)).map .inr
def Z2b (k7:Int):TN->Option ((TN×Int)⊕TN):=fun n9=>
 some (.inl (n9,wrap .i64 (k7+1)))
def Z0f (l1:List Int) (size2:Int) (n6:TN) (k7:Int):Bool->Option ((TN×Int)⊕TN):=fun x8=>
 bif x8 then
 (Zao (ZOF l1 size2 n6 k7) (0,2,0)).bind (Sum.elim (Z2b k7) some)
 else
 (some n6).map .inr
def Z2c (l1:List Int) (size2:Int):(TN×Int)->Option ((TN×Int)⊕TN):=fun (n6,k7)=>
 (bif decide (k7 < (l1.length:Int)) then
 some (.inl (decide (k7 < 4)))
 else
 some (.inl false)).bind (Sum.elim (Z0f l1 size2 n6 k7) some)
def F7 (l1:List Int) (size2:Int):Option TN:=
 (F17 l1 false).bind fun r3=>
 Zao (Z2c l1 size2) (r3,0)
def Z5G (n1:TN) (sort2:Int):Int->Option (Int⊕Int):=fun i4=>
 bif decide (i4>=0) then
 (F18 n1 i4).bind fun r5=>
 bif r5==sort2 then
 (some i4).map .inr
 else
 some (.inl (wrap .i64 (i4 - 1)))
 else
 (some 0).map .inr
def F8 (n1:TN) (sort2:Int):Option Int:=
 Zao (Z5G n1 sort2) (wrap .i64 ((n1.length:Int) - 1))
def Z8V (u1:(List Y1)×List Y4):Y9->Option Y27:=fun (i5,l6)=>
 bif decide (i5 < (u1.1.length:Int)) then
 (gI u1.1 i5).bind fun y7=>
 bif decide (l6.length+List.length ([y7.2]:List Int)<=1000000) then
 some (.inl (wrap .i64 (i5+1),l6++([y7.2]:List Int)))
 else none
 else
 (some l6).map .inr
def F10 (u1:(List Y1)×List Y4):Option (List Int):=
 Zao (Z8V u1) (0,[])
def ZsQ:Bool->Option (Int×Bool):=fun x7=>
 bif x7 then
 some (2,true)
 else
 some (0,false)
def ZsR (op1:Int):Bool->Option (Int×Bool):=fun x6=>
 bif x6 then
 some ((-1),true)
 else
 (bif decide (op1>=4) then
 some (.inl (decide (op1<=19)))
 else
 some (.inl false)).bind (Sum.elim ZsQ some)
def ZsS (op1:Int):Bool->Option (Int×Bool):=fun x5=>
 bif x5 then
 some (3,true)
 else
 (bif op1==30 then
 some (.inl true)
 else
 some (.inl (op1==31))).bind (Sum.elim (ZsR op1) some)
def ZsT (op1:Int):Bool->Option (Int×Bool):=fun x4=>
 bif x4 then
 some (2,true)
 else
 (bif op1==22 then
 some (.inl true)
 else
 some (.inl (op1==28))).bind (Sum.elim (ZsS op1) some)
def ZsU (op1:Int):Bool->Option (Int×Bool):=fun x3=>
 bif x3 then
 some (1,true)
 else
 (bif op1==23 then
 some (.inl true)
 else
 bif op1==27 then
 some (.inl true)
 else
 some (.inl (op1==29))).bind (Sum.elim (ZsT op1) some)
def ZsV (op1:Int):Bool->Option (Int×Bool):=fun x2=>
 bif x2 then
 some (0,true)
 else
 (bif op1==20 then
 some (.inl true)
 else
 bif op1==21 then
 some (.inl true)
 else
 bif op1==24 then
 some (.inl true)
 else
 some (.inl (op1==25))).bind (Sum.elim (ZsU op1) some)
def Z0j (op1:Int):Option (Int×Bool):=
 (bif op1==1 then
 some (.inl true)
 else
 bif op1==2 then
 some (.inl true)
 else
 bif op1==3 then
 some (.inl true)
 else
 some (.inl (op1==26))).bind (Sum.elim (ZsV op1) some)
def ZsW (kids1:Int):Option Int:=
 some (wrap .i64 (tdiv (wrap .i64 (kids1 - 1)) 2))
def ZsX (s1:List Int) (ZjW:List Int):Int->Option (Int⊕Bool):=fun i4=>
 bif decide (i4 < (s1.length:Int)) then
 (gI s1 i4).bind fun y5=>
 (gI ZjW i4).bind fun y6=>
 bif y5 != y6 then
 (some false).map .inr
 else
 some (.inl (wrap .i64 (i4+1)))
 else
 (some true).map .inr
def ZvX (s1:List Int) (ZjW:List Int):Option Bool:=
 Zao (ZsX s1 ZjW) 0
def ZsY (kids1:Int):Y9->Option Y27:=fun (i5,l6)=>
 bif decide (i5 < kids1) then
 bif decide (l6.length+List.length ([1]:List Int)<=1000000) then
 some (.inl (wrap .i64 (i5+1),l6++([1]:List Int)))
 else none
 else
 ((ZsW kids1).bind fun r7=>
 (gI l6 0).bind fun y8=>
 (gI l6 0).bind fun y9=>
 (gI (Zaq l6 0 2) (wrap .i64 (r7+1))).bind fun y10=>
 (gI (Zaq l6 0 2) (wrap .i64 (r7+1))).bind fun y11=>
 some (Zaq (Zaq l6 0 2) (wrap .i64 (r7+1)) 2)).map .inr
def Zxm (kids1:Int):Option (List Int):=
 Zao (ZsY kids1) (0,[])
def Ze2 (op1:Int):Bool->Option (List Int):=fun x2=>
 bif x2 then
 some ([2,1]:List Int)
 else
 bif op1==28 then
 some ([2,1,1]:List Int)
 else
 bif op1==24 then
 some ([2]:List Int)
 else
 bif op1==25 then
 some ([3]:List Int)
 else
 some ([1,1]:List Int)
def Zp6 (op1:Int):Option (List Int):=
 bif op1==22 then
 some ([1,1,1]:List Int)
 else
 (bif op1==23 then
 some (.inl true)
 else
 bif op1==27 then
 some (.inl true)
 else
 some (.inl (op1==29))).bind (Sum.elim (Ze2 op1) some)
def Zt6:Bool->Option Bool:=fun x5=>
 some x5
def Zt9 (s2:List Int):Int->Option (Int⊕Bool):=fun x12=>
 bif decide (x12 < (List.length (slI s2 1 (s2.length:Int)):Int)) then
 (gI (slI s2 1 (s2.length:Int)) x12).bind fun y13=>
 bif y13 != 1 then
 (some false).map .inr
 else
 some (.inl (wrap .i64 (x12+1)))
 else
 (some true).map .inr
def ZpE (s2:List Int):Bool->Option Bool:=fun x9=>
 bif x9 then
 some false
 else
 bif decide ((0:Int)<=1/\(1:Int)<=(s2.length:Int)/\(s2.length:Int)<=(s2.length:Int)) then
 Zao (Zt9 s2) 0
 else none
def Zt7:Bool->Option Bool:=fun x16=>
 some x16
def Zt4 (n1:Int×Int×List Int) (s2:List Int):Bool->Option Bool:=fun x14=>
 bif x14 then
 ((gI s2 0).bind fun y17=>
 bif y17==1 then
 (gI s2 2).bind fun y18=>
 some (.inl (y18==2))
 else
 some (.inl false)).bind (Sum.elim Zt7 some)
 else
 (Zp6 n1.1).bind fun r19=>
 (ZvX s2 r19).bind fun r20=>
 some r20
def ZhR (n1:Int×Int×List Int) (s2:List Int):Bool->Option Bool:=fun x4=>
 bif x4 then
 some false
 else
 bif n1.1==31 then
 (bif decide ((s2.length:Int)>=3) then
 bif (tmod (s2.length:Int) 2)==1 then
 (ZsW (s2.length:Int)).bind fun r6=>
 bif decide (r6<=16) then
 (Zxm (s2.length:Int)).bind fun r7=>
 (ZvX s2 r7).bind fun r8=>
 some (.inl r8)
 else
 some (.inl false)
 else
 some (.inl false)
 else
 some (.inl false)).bind (Sum.elim Zt6 some)
 else
 bif n1.1==30 then
 (bif decide ((s2.length:Int) < 1) then
 some (.inl true)
 else
 bif decide ((s2.length:Int) > 7) then
 some (.inl true)
 else
 (gI s2 0).bind fun y10=>
 some (.inl (y10 != 2))).bind (Sum.elim (ZpE s2) some)
 else
 (bif n1.1==22 then
 (gI s2 1).bind fun y15=>
 some (.inl (y15==2))
 else
 some (.inl false)).bind (Sum.elim (Zt4 n1 s2) some)
def Z0u (n1:Int×Int×List Int) (s2:List Int):Option Bool:=
 (Z0j n1.1).bind fun r3=>
 (bif !r3.2 then
 some (.inl true)
 else
 bif decide (r3.1>=0) then
 some (.inl (r3.1 != (s2.length:Int)))
 else
 some (.inl false)).bind (Sum.elim (ZhR n1 s2) some)
def ZNn:Bool->Option (Int⊕Bool):=fun x5=>
 (some x5).map .inr
def ZMe (l1:TN) (n2:Int×Int×List Int):Bool->Option (Int⊕Bool):=fun x4=>
 bif x4 then
 some (.inl 3)
 else
 bif n2.1==27 then
 (bif decide (n2.2.1>=1) then
 some (.inl (decide (n2.2.1<=1000016)))
 else
 some (.inl false)).bind (Sum.elim ZNn some)
 else
 bif n2.1==30 then
 some (.inl 7)
 else
 bif n2.1==31 then
 some (.inl 15)
 else
 bif n2.1==25 then
 (gI n2.2.2 0).bind fun y6=>
 (gI l1 y6).bind fun y7=>
 (ZsW (y7.2.2.length:Int)).bind fun r8=>
 some (.inl (wrap .i64 (r8 - 1)))
 else
 some (.inl 0)
def ZLj:Bool->Option Bool:=fun x9=>
 some x9
def Zte (n2:Int×Int×List Int):Int->Option Bool:=fun most3=>
 (bif decide (n2.2.1>=0) then
 some (.inl (decide (n2.2.1<=most3)))
 else
 some (.inl false)).bind (Sum.elim ZLj some)
def Z0m (l1:TN) (n2:Int×Int×List Int):Option Bool:=
 (bif n2.1==1 then
 (some true).map .inr
 else
 bif n2.1==2 then
 some (.inl 5)
 else
 bif n2.1==3 then
 some (.inl 255)
 else
 (bif n2.1==23 then
 some (.inl true)
 else
 some (.inl (n2.1==28))).bind (Sum.elim (ZMe l1 n2) some)).bind (Sum.elim (Zte n2) some)
def ZxE (known3:List Int) (x8:Int) (y10:Int):Y56->Option (Y9⊕Int):=fun (x11,s12)=>
 bif x11 then
 (some 0).map .inr
 else
 (gI known3 y10).bind fun y14=>
 bif decide (s12.length+List.length ([y14]:List Int)<=1000000) then
 some (.inl (wrap .i64 (x8+1),s12++([y14]:List Int)))
 else none
def Zx9 (y4:Int×Int×List Int):Y56->Option (Unit⊕Int):=fun (x19,s20)=>
 bif x19 then
 (some 2).map .inr
 else
 bif y4.1==22 then
 (gI s20 1).bind fun y21=>
 (gI s20 1).bind fun y22=>
 (some y22).map .inr
 else
 bif y4.1==3 then
 bif (tmod y4.2.1 16)==0 then
 (some 2).map .inr
 else
 some (.inl ())
 else
 bif y4.1==25 then
 bif y4.2.1==0 then
 (some 2).map .inr
 else
 some (.inl ())
 else
 some (.inl ())
def ZxA:Unit->Option Int:=fun _=>
 some 1
def Zx8 (y4:Int×Int×List Int):Y56->Option Int:=fun (x15,s16)=>
 bif x15 then
 some 0
 else
 (bif y4.1==31 then
 (some 3).map .inr
 else
 (bif y4.1==26 then
 some (.inl (true,s16))
 else
 bif y4.1==27 then
 some (.inl (true,s16))
 else
 bif y4.1==28 then
 some (.inl (true,s16))
 else
 bif y4.1==29 then
 some (.inl (true,s16))
 else
 some (.inl (y4.1==30,s16))).bind (Sum.elim (Zx9 y4) some)).bind (Sum.elim ZxA some)
def ZxD (l1:TN) (i2:Int) (known3:List Int) (y4:Int×Int×List Int):Y9->Option (Y9⊕Int):=fun (x8,s9)=>
 bif decide (x8 < (y4.2.2.length:Int)) then
 (gI y4.2.2 x8).bind fun y10=>
 (bif decide (y10 < 0) then
 some (.inl (true,s9))
 else
 bif decide (y10>=i2) then
 some (.inl (true,s9))
 else
 (gI known3 y10).bind fun y13=>
 some (.inl (y13==0,s9))).bind (Sum.elim (ZxE known3 x8 y10) some)
 else
 (((Z0u y4 s9).bind fun r17=>
 bif !r17 then
 some (.inl (true,s9))
 else
 (Z0m l1 y4).bind fun r18=>
 some (.inl (!r18,s9))).bind (Sum.elim (Zx8 y4) some)).map .inr
def F75 (l1:TN) (i2:Int) (known3:List Int):Option Int:=
 (gI l1 i2).bind fun y4=>
 Zao (ZxD l1 i2 known3 y4) (0,[])
def Z5y (l1:TN):Y9->Option Y27:=fun (x4,s5)=>
 bif decide (x4 < (l1.length:Int)) then
 (F75 l1 x4 s5).bind fun r6=>
 (gI s5 x4).bind fun y7=>
 (gI s5 x4).bind fun y8=>
 some (.inl (wrap .i64 (x4+1),Zaq s5 x4 r6))
 else
 (some s5).map .inr
def F43 (l1:TN):Option (List Int):=
 bif decide ((0:Int)<=(l1.length:Int)/\((l1.length:Int):Int)=(l1.length:Int)/\((l1.length:Int):Int)<=1000000) then
 Zao (Z5y l1) (0,(replicate (toNat (l1.length:Int)) 0:List Int))
 else none
def Zy1 (l1:TN) (i2:Int):Bool->Option Int:=fun x3=>
 bif x3 then
 some 0
 else
 bif decide ((0:Int)<=0/\(0:Int)<=wrap .i64 (i2+1)/\wrap .i64 (i2+1)<=(l1.length:Int)) then
 (F43 (slI l1 0 (wrap .i64 (i2+1)))).bind fun r4=>
 (gI r4 i2).bind fun y5=>
 some y5
 else none
def F20 (l1:TN) (i2:Int):Option Int:=
 (bif decide (i2 < 0) then
 some (.inl true)
 else
 some (.inl (decide (i2>=(l1.length:Int))))).bind (Sum.elim (Zy1 l1 i2) some)
def ZOG (i1:Int):Option ByteArray:=
 bif decide (i1 < 10) then
 bif decide ((0:Int)<=i1/\(i1:Int)<=wrap .i64 (i1+1)/\wrap .i64 (i1+1)<=(BS0.size:Int)) then
 some (slB BS0 i1 (wrap .i64 (i1+1)))
 else none
 else
 bif decide ((0:Int)<=wrap .i64 (i1 * 2)/\(wrap .i64 (i1 * 2):Int)<=wrap .i64 ((wrap .i64 (i1 * 2))+2)/\wrap .i64 ((wrap .i64 (i1 * 2))+2)<=(BS1.size:Int)) then
 some (slB BS1 (wrap .i64 (i1 * 2)) (wrap .i64 ((wrap .i64 (i1 * 2))+2)))
 else none
def ZOU (x1:Int):Option Int:=
 some (fdiv (wrap .i64 (x1 * 78913)) (2 ^ (min (toNat 18) (IntKind.bits .i64))))
def ZMf:(Int×Int)->Option Int:=fun (x6,n7)=>
 (gB BS2 (wrap .u8 x6)).bind fun b8=>
 some (wrap .i64 (n7+(wrap .i64 b8)))
def ZMg:(Int×Int)->Option Int:=fun (x4,n5)=>
 (bif decide (x4>=256) then
 some (.inl (fdiv x4 (2 ^ (min (toNat 8) (IntKind.bits .u64))),wrap .i64 (n5+8)))
 else
 some (.inl (x4,n5))).bind (Sum.elim ZMf some)
def ZMh:(Int×Int)->Option Int:=fun (x2,n3)=>
 (bif decide (x2>=65536) then
 some (.inl (fdiv x2 (2 ^ (min (toNat 16) (IntKind.bits .u64))),wrap .i64 (n3+16)))
 else
 some (.inl (x2,n3))).bind (Sum.elim ZMg some)
def ZOH (x1:Int):Option Int:=
 (bif decide (x1>=4294967296) then
 some (.inl (fdiv x1 (2 ^ (min (toNat 32) (IntKind.bits .u64))),32))
 else
 some (.inl (x1,0))).bind (Sum.elim ZMh some)
def ZOV (b1:Bool):Option Int:=
 bif b1 then
 some 1
 else
 some 0
def ZOI (d1:Int):Option Int:=
 (ZOH d1).bind fun r2=>
 (ZOU r2).bind fun r3=>
 (gI GT1 r3).bind fun y4=>
 (ZOV (decide (d1>=y4))).bind fun r5=>
 some (wrap .i64 (r3+r5))
def F21 (lens1:List Int):Option (List Int×List Y1):=
 some (lens1,([]:List Y1))
def ZMi:Y37->Option (List Int):=fun (nd48,x49,a50)=>
 bif decide (nd48 > 0) then
 (gI a50 0).bind fun y57=>
 (gI a50 0).bind fun y58=>
 some (Zaq a50 0 (wrap .u8 (wrap .u32 (48+x49))))
 else
 some a50
def ZMj:Y37->Option (List Int):=fun (nd33,x34,a35)=>
 (bif decide (nd33>=2) then
 (gB BS1 (wrap .u32 ((wrap .u32 ((tmod x34 100) * 2))+1))).bind fun b51=>
 (gB BS1 (wrap .u32 ((tmod x34 100) * 2))).bind fun b52=>
 (gI a35 (wrap .i64 (nd33 - 1))).bind fun y53=>
 (gI a35 (wrap .i64 (nd33 - 1))).bind fun y54=>
 (gI (Zaq a35 (wrap .i64 (nd33 - 1)) b51) (wrap .i64 (nd33 - 2))).bind fun y55=>
 (gI (Zaq a35 (wrap .i64 (nd33 - 1)) b51) (wrap .i64 (nd33 - 2))).bind fun y56=>
 some (.inl (wrap .i64 (nd33 - 2),wrap .u32 (tdiv x34 100),Zaq (Zaq a35 (wrap .i64 (nd33 - 1)) b51) (wrap .i64 (nd33 - 2)) b52))
 else
 some (.inl (nd33,x34,a35))).bind (Sum.elim ZMi some)
def ZLo:Y37->Option (Y37⊕(List Int)):=fun (u6,nd7,a8)=>
 bif decide (nd7>=8) then
 (gB BS1 (wrap .u32 ((wrap .u32 ((tmod (tmod (wrap .u32 (tmod u6 100000000)) 10000) 100) * 2))+1))).bind fun b9=>
 (gB BS1 (wrap .u32 ((tmod (tmod (wrap .u32 (tmod u6 100000000)) 10000) 100) * 2))).bind fun b10=>
 (gI a8 (wrap .i64 (nd7 - 1))).bind fun y11=>
 (gI a8 (wrap .i64 (nd7 - 1))).bind fun y12=>
 (gI (Zaq a8 (wrap .i64 (nd7 - 1)) b9) (wrap .i64 (nd7 - 2))).bind fun y13=>
 (gI (Zaq a8 (wrap .i64 (nd7 - 1)) b9) (wrap .i64 (nd7 - 2))).bind fun y14=>
 (gB BS1 (wrap .u32 ((wrap .u32 ((wrap .u32 (tdiv (tmod (wrap .u32 (tmod u6 100000000)) 10000) 100)) * 2))+1))).bind fun b15=>
 (gB BS1 (wrap .u32 ((wrap .u32 (tdiv (tmod (wrap .u32 (tmod u6 100000000)) 10000) 100)) * 2))).bind fun b16=>
 (gI (Zaq (Zaq a8 (wrap .i64 (nd7 - 1)) b9) (wrap .i64 (nd7 - 2)) b10) (wrap .i64 (nd7 - 3))).bind fun y17=>
 (gI (Zaq (Zaq a8 (wrap .i64 (nd7 - 1)) b9) (wrap .i64 (nd7 - 2)) b10) (wrap .i64 (nd7 - 3))).bind fun y18=>
 (gI (Zaq (Zaq (Zaq a8 (wrap .i64 (nd7 - 1)) b9) (wrap .i64 (nd7 - 2)) b10) (wrap .i64 (nd7 - 3)) b15) (wrap .i64 (nd7 - 4))).bind fun y19=>
 (gI (Zaq (Zaq (Zaq a8 (wrap .i64 (nd7 - 1)) b9) (wrap .i64 (nd7 - 2)) b10) (wrap .i64 (nd7 - 3)) b15) (wrap .i64 (nd7 - 4))).bind fun y20=>
 (gB BS1 (wrap .u32 ((wrap .u32 ((tmod (wrap .u32 (tdiv (wrap .u32 (tmod u6 100000000)) 10000)) 100) * 2))+1))).bind fun b21=>
 (gB BS1 (wrap .u32 ((tmod (wrap .u32 (tdiv (wrap .u32 (tmod u6 100000000)) 10000)) 100) * 2))).bind fun b22=>
 (gI (Zaq (Zaq (Zaq (Zaq a8 (wrap .i64 (nd7 - 1)) b9) (wrap .i64 (nd7 - 2)) b10) (wrap .i64 (nd7 - 3)) b15) (wrap .i64 (nd7 - 4)) b16) (wrap .i64 (nd7 - 5))).bind fun y23=>
 (gI (Zaq (Zaq (Zaq (Zaq a8 (wrap .i64 (nd7 - 1)) b9) (wrap .i64 (nd7 - 2)) b10) (wrap .i64 (nd7 - 3)) b15) (wrap .i64 (nd7 - 4)) b16) (wrap .i64 (nd7 - 5))).bind fun y24=>
 (gI (Zaq (Zaq (Zaq (Zaq (Zaq a8 (wrap .i64 (nd7 - 1)) b9) (wrap .i64 (nd7 - 2)) b10) (wrap .i64 (nd7 - 3)) b15) (wrap .i64 (nd7 - 4)) b16) (wrap .i64 (nd7 - 5)) b21) (wrap .i64 (nd7 - 6))).bind fun y25=>
 (gI (Zaq (Zaq (Zaq (Zaq (Zaq a8 (wrap .i64 (nd7 - 1)) b9) (wrap .i64 (nd7 - 2)) b10) (wrap .i64 (nd7 - 3)) b15) (wrap .i64 (nd7 - 4)) b16) (wrap .i64 (nd7 - 5)) b21) (wrap .i64 (nd7 - 6))).bind fun y26=>
 (gB BS1 (wrap .u32 ((wrap .u32 ((wrap .u32 (tdiv (wrap .u32 (tdiv (wrap .u32 (tmod u6 100000000)) 10000)) 100)) * 2))+1))).bind fun b27=>
 (gB BS1 (wrap .u32 ((wrap .u32 (tdiv (wrap .u32 (tdiv (wrap .u32 (tmod u6 100000000)) 10000)) 100)) * 2))).bind fun b28=>
 (gI (Zaq (Zaq (Zaq (Zaq (Zaq (Zaq a8 (wrap .i64 (nd7 - 1)) b9) (wrap .i64 (nd7 - 2)) b10) (wrap .i64 (nd7 - 3)) b15) (wrap .i64 (nd7 - 4)) b16) (wrap .i64 (nd7 - 5)) b21) (wrap .i64 (nd7 - 6)) b22) (wrap .i64 (nd7 - 7))).bind fun y29=>
 (gI (Zaq (Zaq (Zaq (Zaq (Zaq (Zaq a8 (wrap .i64 (nd7 - 1)) b9) (wrap .i64 (nd7 - 2)) b10) (wrap .i64 (nd7 - 3)) b15) (wrap .i64 (nd7 - 4)) b16) (wrap .i64 (nd7 - 5)) b21) (wrap .i64 (nd7 - 6)) b22) (wrap .i64 (nd7 - 7))).bind fun y30=>
 (gI (Zaq (Zaq (Zaq (Zaq (Zaq (Zaq (Zaq a8 (wrap .i64 (nd7 - 1)) b9) (wrap .i64 (nd7 - 2)) b10) (wrap .i64 (nd7 - 3)) b15) (wrap .i64 (nd7 - 4)) b16) (wrap .i64 (nd7 - 5)) b21) (wrap .i64 (nd7 - 6)) b22) (wrap .i64 (nd7 - 7)) b27) (wrap .i64 (nd7 - 8))).bind fun y31=>
 (gI (Zaq (Zaq (Zaq (Zaq (Zaq (Zaq (Zaq a8 (wrap .i64 (nd7 - 1)) b9) (wrap .i64 (nd7 - 2)) b10) (wrap .i64 (nd7 - 3)) b15) (wrap .i64 (nd7 - 4)) b16) (wrap .i64 (nd7 - 5)) b21) (wrap .i64 (nd7 - 6)) b22) (wrap .i64 (nd7 - 7)) b27) (wrap .i64 (nd7 - 8))).bind fun y32=>
 some (.inl (wrap .u64 (tdiv u6 100000000),wrap .i64 (nd7 - 8),Zaq (Zaq (Zaq (Zaq (Zaq (Zaq (Zaq (Zaq a8 (wrap .i64 (nd7 - 1)) b9) (wrap .i64 (nd7 - 2)) b10) (wrap .i64 (nd7 - 3)) b15) (wrap .i64 (nd7 - 4)) b16) (wrap .i64 (nd7 - 5)) b21) (wrap .i64 (nd7 - 6)) b22) (wrap .i64 (nd7 - 7)) b27) (wrap .i64 (nd7 - 8)) b28))
 else
 ((bif decide (nd7>=4) then
 (gB BS1 (wrap .u32 ((wrap .u32 ((tmod (tmod (wrap .u32 u6) 10000) 100) * 2))+1))).bind fun b36=>
 (gB BS1 (wrap .u32 ((tmod (tmod (wrap .u32 u6) 10000) 100) * 2))).bind fun b37=>
 (gI a8 (wrap .i64 (nd7 - 1))).bind fun y38=>
 (gI a8 (wrap .i64 (nd7 - 1))).bind fun y39=>
 (gI (Zaq a8 (wrap .i64 (nd7 - 1)) b36) (wrap .i64 (nd7 - 2))).bind fun y40=>
 (gI (Zaq a8 (wrap .i64 (nd7 - 1)) b36) (wrap .i64 (nd7 - 2))).bind fun y41=>
 (gB BS1 (wrap .u32 ((wrap .u32 ((wrap .u32 (tdiv (tmod (wrap .u32 u6) 10000) 100)) * 2))+1))).bind fun b42=>
 (gB BS1 (wrap .u32 ((wrap .u32 (tdiv (tmod (wrap .u32 u6) 10000) 100)) * 2))).bind fun b43=>
 (gI (Zaq (Zaq a8 (wrap .i64 (nd7 - 1)) b36) (wrap .i64 (nd7 - 2)) b37) (wrap .i64 (nd7 - 3))).bind fun y44=>
 (gI (Zaq (Zaq a8 (wrap .i64 (nd7 - 1)) b36) (wrap .i64 (nd7 - 2)) b37) (wrap .i64 (nd7 - 3))).bind fun y45=>
 (gI (Zaq (Zaq (Zaq a8 (wrap .i64 (nd7 - 1)) b36) (wrap .i64 (nd7 - 2)) b37) (wrap .i64 (nd7 - 3)) b42) (wrap .i64 (nd7 - 4))).bind fun y46=>
 (gI (Zaq (Zaq (Zaq a8 (wrap .i64 (nd7 - 1)) b36) (wrap .i64 (nd7 - 2)) b37) (wrap .i64 (nd7 - 3)) b42) (wrap .i64 (nd7 - 4))).bind fun y47=>
 some (.inl (wrap .i64 (nd7 - 4),wrap .u32 (tdiv (wrap .u32 u6) 10000),Zaq (Zaq (Zaq (Zaq a8 (wrap .i64 (nd7 - 1)) b36) (wrap .i64 (nd7 - 2)) b37) (wrap .i64 (nd7 - 3)) b42) (wrap .i64 (nd7 - 4)) b43))
 else
 some (.inl (nd7,wrap .u32 u6,a8))).bind (Sum.elim ZMj some)).map .inr
def ZOJ (u1:Int) (a2:List Int):Option (List Int):=
 Zao ZLo (u1,(a2.length:Int),a2)
def ZOK (i1:Int) (base2:Int) (dst3:List Int):Option (List Int):=
 bif base2==10 then
 bif decide (i1 < 100) then
 (ZOG (wrap .i64 i1)).bind fun r4=>
 bif decide (dst3.length+List.length (toB r4)<=1000000) then
 some (dst3++(toB r4))
 else none
 else
 (ZOI i1).bind fun r5=>
 bif decide ((0:Int)<=r5/\r5<=(24:Int)) then
 (ZOJ i1 (slI (replicate 24 0:List Int) 0 r5)).bind fun r6=>
 bif decide (r5=r5) then
 bif decide (dst3.length+r6.length<=1000000) then
 some (dst3++r6)
 else none
 else none
 else none
 else
 none
def ZNo (base2:Int):Y9->Option (List Int):=fun (u4,dst5)=>
 (ZOK u4 base2 dst5).bind fun r6=>
 some r6
def ZvZ (i1:Int) (base2:Int) (dst3:List Int):Option (List Int):=
 (bif decide (i1 < 0) then
 bif decide (dst3.length+List.length ([45]:List Int)<=1000000) then
 some (.inl (wrap .u64 (0 - (wrap .u64 i1)),dst3++([45]:List Int)))
 else none
 else
 some (.inl (wrap .u64 i1,dst3))).bind (Sum.elim (ZNo base2) some)
def F76 (i1:Int) (base2:Int) (dst3:List Int):Option (List Int):=
 (ZvZ i1 base2 dst3).bind fun r4=>
 some r4
def ZDT (op1:Int) (imm2:Int) (kids4:List Int):Y58->Option (Y58⊕Y8):=fun (x15,p16,kids17,b18,l19,l20)=>
 bif decide (x15 < (kids4.length:Int)) then
 (gI kids17 x15).bind fun y21=>
 (gI kids17 x15).bind fun y22=>
 bif decide (b18.length+List.length ([32]:List Int)<=1000000) then
 (F76 y22 10 (b18++([32]:List Int))).bind fun r23=>
 some (.inl (wrap .i64 (x15+1),p16,kids17,r23,l19,l20))
 else none
 else
 (bif Option.isSome (Zc3 (ZaS .str) l20 (ofB b18)) then
 some (Option.getD (Zc3 (ZaS .str) l20 (ofB b18)) 0,p16,l19,l20)
 else
 bif decide (List.length ([]:List Int)+kids17.length<=1000000) then
 bif decide (l19.length+List.length ([(op1,imm2,([]:List Int)++kids17)]:TN)<=1000000) then
 some (wrap .i64 ((List.length (l19++([(op1,imm2,([]:List Int)++kids17)]:TN)):Int) - 1),p16,l19++([(op1,imm2,([]:List Int)++kids17)]:TN),ZfQ (ZaS .str) l20 (ofB b18) (l19.length:Int))
 else none
 else none).map .inr
def F44 (op1:Int) (imm2:Int) (p3:List Int) (kids4:List Int) (l5:TN) (l6:List Y1):Option Y8:=
 (F76 op1 10 []).bind fun r7=>
 bif decide (r7.length+List.length ([32]:List Int)<=1000000) then
 (F76 imm2 10 (r7++([32]:List Int))).bind fun r8=>
 Zao (ZDT op1 imm2 kids4) (0,p3,kids4,r8,l5,l6)
 else none
def F45 (n1:Int) (p2:List Int) (l3:TN) (l4:List Y1):Option Y8:=
 (F44 1 n1 p2 [] l3 l4).bind fun r5=>
 some r5
def Z7J:Y10->Option Y10:=fun (x8,p9,l10,l11)=>
 some (x8,p9,l10,l11)
def F78 (i1:Int) (n2:Int) (p3:List Int) (l4:TN) (l5:List Y1):Option Y10:=
 (gI l4 i1).bind fun y6=>
 (gI l4 i1).bind fun y7=>
 (bif y7.1==1 then
 some (.inl (y7.2.1==n2,p3,l4,l5))
 else
 some (.inl (false,p3,l4,l5))).bind (Sum.elim Z7J some)
def ZwR (k11:Int) (y15:Int) (y16:Int):Y10->Option (Y8⊕Y30):=fun (x19,p20,l21,l22)=>
 bif x19 then
 (some (y15,y16,true,p20,l21,l22)).map .inr
 else
 some (.inl (wrap .i64 (k11+1),p20,l21,l22))
def ZAy (y6:Int×Int×List Int):Y8->Option (Y8⊕Y30):=fun (k11,p12,l13,l14)=>
 bif decide (k11 < 2) then
 (gI y6.2.2 k11).bind fun y15=>
 (gI y6.2.2 (wrap .i64 (1 - k11))).bind fun y16=>
 (gI l13 y16).bind fun y17=>
 (gI l13 y16).bind fun y18=>
 (bif y18.1==15 then
 (gI y18.2.2 0).bind fun y23=>
 bif y23==y15 then
 (gI y18.2.2 1).bind fun y24=>
 (F78 y24 0 p12 l13 l14).bind fun r25=>
 some (.inl r25)
 else
 some (.inl (false,p12,l13,l14))
 else
 some (.inl (false,p12,l13,l14))).bind (Sum.elim (ZwR k11 y15 y16) some)
 else
 (some (0,0,false,p12,l13,l14)).map .inr
def F77 (d1:Int) (p2:List Int) (l3:TN) (l4:List Y1):Option Y30:=
 (gI l3 d1).bind fun y5=>
 (gI l3 d1).bind fun y6=>
 bif y6.1 != 4 then
 some (0,0,false,p2,l3,l4)
 else
 Zao (ZAy y6) (0,p2,l3,l4)
def ZxJ (k1:Int):Y10->Option Y14:=fun (x5,p6,l7,l8)=>
 bif x5 then
 some (0,false,p6,l7,l8)
 else
 (gI p6 k1).bind fun y10=>
 some (y10,true,p6,l7,l8)
def F80 (k1:Int) (p2:List Int) (l3:TN) (l4:List Y1):Option Y14:=
 (bif decide (k1 < 0) then
 some (.inl (true,p2,l3,l4))
 else
 bif decide (k1>=(p2.length:Int)) then
 some (.inl (true,p2,l3,l4))
 else
 (gI p2 k1).bind fun y9=>
 some (.inl (decide (y9 < 0),p2,l3,l4))).bind (Sum.elim (ZxJ k1) some)
def Z9y:Y10->Option Y10:=fun (x10,p11,l12,l13)=>
 some (x10,p11,l12,l13)
def F47 (c1:Int) (i2:Int) (k3:Int) (p4:List Int) (l5:TN) (l6:List Y1):Option Y10:=
 (gI l5 c1).bind fun y7=>
 (gI l5 c1).bind fun y8=>
 (F80 k3 p4 l5 l6).bind fun r9=>
 (bif r9.2.1 then
 bif y8.1==19 then
 (gI y8.2.2 0).bind fun y14=>
 bif y14==i2 then
 (gI y8.2.2 1).bind fun y15=>
 (F78 y15 r9.1 r9.2.2.1 r9.2.2.2.1 r9.2.2.2.2).bind fun r16=>
 some (.inl r16)
 else
 some (.inl (false,r9.2.2.1,r9.2.2.2.1,r9.2.2.2.2))
 else
 some (.inl (false,r9.2.2.1,r9.2.2.2.1,r9.2.2.2.2))
 else
 some (.inl (false,r9.2.2.1,r9.2.2.2.1,r9.2.2.2.2))).bind (Sum.elim Z9y some)
def ZwU:Y10->Option Y10:=fun (x9,p10,l11,l12)=>
 some (x9,p10,l11,l12)
def F79 (m1:Int) (i2:Int) (k3:Int) (p4:List Int) (l5:TN) (l6:List Y1):Option Y10:=
 (gI l5 m1).bind fun y7=>
 (gI l5 m1).bind fun y8=>
 (bif y8.1==20 then
 (gI y8.2.2 0).bind fun y13=>
 (F47 y13 i2 k3 p4 l5 l6).bind fun r14=>
 some (.inl r14)
 else
 some (.inl (false,p4,l5,l6))).bind (Sum.elim ZwU some)
def ZMk (y7:Int×Int×List Int) (r18:Int×Int×Bool×List Int×TN×List Y1) (rec22:Int->Int->(List Int)->(List Int)->TN->(List Y1)->Option Y8):Y10->Option (Y50⊕Y14):=fun (x19,p20,l21,l22)=>
 bif x19 then
 (gI y7.2.2 0).bind fun y26=>
 (rec22 y7.1 y7.2.1 p20 ([y26,r18.1]:List Int) l21 l22).bind fun r27=>
 (some (r27.1,true,r27.2.1,r27.2.2.1,r27.2.2.2)).map .inr
 else
 some (.inl (p20,l21,l22))
def ZMM (y7:Int×Int×List Int) (rec22:Int->Int->(List Int)->(List Int)->TN->(List Y1)->Option Y8) (y30:Int×Int×List Int):Y10->Option (Y50⊕Y14):=fun (x31,p32,l33,l34)=>
 bif x31 then
 (gI y7.2.2 0).bind fun y38=>
 (gI y30.2.2 0).bind fun y39=>
 (rec22 23 y7.2.1 p32 ([y38,y39]:List Int) l33 l34).bind fun r40=>
 (some (r40.1,true,r40.2.1,r40.2.2.1,r40.2.2.2)).map .inr
 else
 some (.inl (p32,l33,l34))
def ZEc (m2:Int) (y7:Int×Int×List Int) (y9:Int×Int×List Int) (rec22:Int->Int->(List Int)->(List Int)->TN->(List Y1)->Option Y8):Y10->Option (Y50⊕Y14):=fun (x13,p14,l15,l16)=>
 bif x13 then
 (gI y7.2.2 1).bind fun y17=>
 (F77 y17 p14 l15 l16).bind fun r18=>
 (bif r18.2.2.1 then
 bif y9.1==4 then
 (gI y9.2.2 0).bind fun y23=>
 bif y23==r18.2.1 then
 (gI y9.2.2 1).bind fun y24=>
 (F78 y24 (-1) r18.2.2.2.1 r18.2.2.2.2.1 r18.2.2.2.2.2).bind fun r25=>
 some (.inl r25)
 else
 some (.inl (false,r18.2.2.2.1,r18.2.2.2.2.1,r18.2.2.2.2.2))
 else
 some (.inl (false,r18.2.2.2.1,r18.2.2.2.2.1,r18.2.2.2.2.2))
 else
 some (.inl (false,r18.2.2.2.1,r18.2.2.2.2.1,r18.2.2.2.2.2))).bind (Sum.elim (ZMk y7 r18 rec22) some)
 else
 bif y7.1==23 then
 (gI y7.2.2 1).bind fun y28=>
 (gI l15 y28).bind fun y29=>
 (gI l15 y28).bind fun y30=>
 (bif y30.1==9 then
 (gI y30.2.2 1).bind fun y35=>
 bif y35==m2 then
 (gI y30.2.2 0).bind fun y36=>
 (F79 m2 y36 y7.2.1 p14 l15 l16).bind fun r37=>
 some (.inl r37)
 else
 some (.inl (false,p14,l15,l16))
 else
 some (.inl (false,p14,l15,l16))).bind (Sum.elim (ZMM y7 rec22 y30) some)
 else
 some (.inl (p14,l15,l16))
def Z9w:Y50->Option Y14:=fun (p10,l11,l12)=>
 some (0,false,p10,l11,l12)
def E46 (rec22:Int->Int->(List Int)->(List Int)->TN->(List Y1)->Option Y8) (x1:Int) (m2:Int) (p3:List Int) (l4:TN) (l5:List Y1):Option Y14:=
 (gI l4 x1).bind fun y6=>
 (gI l4 x1).bind fun y7=>
 (gI l4 m2).bind fun y8=>
 (gI l4 m2).bind fun y9=>
 ((bif y7.1==7 then
 some (.inl (true,p3,l4,l5))
 else
 some (.inl (y7.1==8,p3,l4,l5))).bind (Sum.elim (ZEc m2 y7 y9 rec22) some)).bind (Sum.elim Z9w some)
def ZDZ (op1:Int) (imm2:Int):Y65->Option (Y49⊕Y8):=fun (x19,p20,kids21,l22,l23)=>
 bif x19 then
 (gI kids21 1).bind fun y24=>
 (gI kids21 1).bind fun y25=>
 (gI kids21 0).bind fun y26=>
 (gI kids21 0).bind fun y27=>
 (F44 op1 imm2 p20 ([y25,y27]:List Int) l22 l23).bind fun r28=>
 (some r28).map .inr
 else
 some (.inl (p20,kids21,l22,l23))
def ZMN (y45:Int):Y65->Option (Y49⊕Y8):=fun (x50,p51,kids52,l53,l54)=>
 bif x50 then
 (some (y45,p51,l53,l54)).map .inr
 else
 some (.inl (p51,kids52,l53,l54))
def ZCF (op1:Int) (imm2:Int):Y49->Option Y8:=fun (p7,kids8,l9,l10)=>
 (F44 op1 imm2 p7 kids8 l9 l10).bind fun r58=>
 some r58
def G22 (rec22:Int->Int->(List Int)->(List Int)->TN->(List Y1)->Option Y8) (op1:Int) (imm2:Int) (p3:List Int) (kids4:List Int) (l5:TN) (l6:List Y1):Option Y8:=
 (bif op1==4 then
 (gI kids4 0).bind fun y11=>
 (gI kids4 0).bind fun y12=>
 (gI l5 y12).bind fun y13=>
 (gI l5 y12).bind fun y14=>
 (gI kids4 1).bind fun y15=>
 (gI kids4 1).bind fun y16=>
 (gI l5 y16).bind fun y17=>
 (gI l5 y16).bind fun y18=>
 (bif y14.1==1 then
 bif y18.1 != 1 then
 some (.inl (true,p3,kids4,l5,l6))
 else
 some (.inl (decide (y14.2.1 > y18.2.1),p3,kids4,l5,l6))
 else
 some (.inl (false,p3,kids4,l5,l6))).bind (Sum.elim (ZDZ op1 imm2) some)
 else
 bif op1==5 then
 (gI kids4 1).bind fun y29=>
 (gI kids4 1).bind fun y30=>
 (gI l5 y30).bind fun y31=>
 (gI l5 y30).bind fun y32=>
 bif y32.1==1 then
 (gI kids4 0).bind fun y33=>
 (gI kids4 0).bind fun y34=>
 (F45 (wrap .i64 (0 - y32.2.1)) p3 l5 l6).bind fun r35=>
 (rec22 4 0 r35.2.1 ([y34,r35.1]:List Int) r35.2.2.1 r35.2.2.2).bind fun r36=>
 (some r36).map .inr
 else
 some (.inl (p3,kids4,l5,l6))
 else
 bif op1==9 then
 (gI kids4 0).bind fun y37=>
 (gI kids4 0).bind fun y38=>
 (gI kids4 1).bind fun y39=>
 (gI kids4 1).bind fun y40=>
 (E46 rec22 y38 y40 p3 l5 l6).bind fun r41=>
 bif r41.2.1 then
 (some (r41.1,r41.2.2.1,r41.2.2.2.1,r41.2.2.2.2)).map .inr
 else
 some (.inl (r41.2.2.1,kids4,r41.2.2.2.1,r41.2.2.2.2))
 else
 bif op1==22 then
 (gI kids4 0).bind fun y42=>
 (gI kids4 0).bind fun y43=>
 (gI kids4 1).bind fun y44=>
 (gI kids4 1).bind fun y45=>
 (gI kids4 2).bind fun y46=>
 (gI kids4 2).bind fun y47=>
 bif y45==y47 then
 (some (y45,p3,l5,l6)).map .inr
 else
 (gI l5 y45).bind fun y48=>
 (gI l5 y45).bind fun y49=>
 (bif y49.1==28 then
 (gI y49.2.2 0).bind fun y55=>
 bif y55==y47 then
 (gI y49.2.2 1).bind fun y56=>
 (F47 y43 y56 y49.2.1 p3 l5 l6).bind fun r57=>
 some (.inl (r57.1,r57.2.1,kids4,r57.2.2.1,r57.2.2.2))
 else
 some (.inl (false,p3,kids4,l5,l6))
 else
 some (.inl (false,p3,kids4,l5,l6))).bind (Sum.elim (ZMN y45) some)
 else
 some (.inl (p3,kids4,l5,l6))).bind (Sum.elim (ZCF op1 imm2) some)
def N22 (n:Nat):Int->Int->(List Int)->(List Int)->TN->(List Y1)->Option Y8:=Nat.rec (motive:=fun _=>Int->Int->(List Int)->(List Int)->TN->(List Y1)->Option Y8) (fun _ _ _ _ _ _=>none) (fun _ ih=>G22 ih) n
def F22 (op1:Int) (imm2:Int) (p3:List Int) (kids4:List Int) (l5:TN) (l6:List Y1):Option Y8:=N22 3000 op1 imm2 p3 kids4 l5 l6
def ZIM (rec48:Int->(List Int)->(List Int)->TN->TN->(List Y1)->Option Y19) (i1:Int) (y10:Int×Int×List Int):Y55->Option (Y55⊕Y19):=fun (x24,kids25,l26,l27,l28,l29,l30)=>
 bif decide (x24 < (y10.2.2.length:Int)) then
 (gI y10.2.2 x24).bind fun y31=>
 (rec48 y31 l26 l27 l28 l29 l30).bind fun r32=>
 (gI r32.1 y31).bind fun y33=>
 (gI r32.1 y31).bind fun y34=>
 bif decide (kids25.length+List.length ([y34]:List Int)<=1000000) then
 some (.inl (wrap .i64 (x24+1),kids25++([y34]:List Int),r32.1,r32.2.1,r32.2.2.1,r32.2.2.2.1,r32.2.2.2.2))
 else none
 else
 ((gI l26 i1).bind fun y35=>
 (gI l26 i1).bind fun y36=>
 bif decide (l28.length+List.length ([(y10.1,y10.2.1,kids25)]:TN)<=1000000) then
 some (Zaq l26 i1 (l28.length:Int),l27,l28++([(y10.1,y10.2.1,kids25)]:TN),l29,l30)
 else none).map .inr
def G48 (rec48:Int->(List Int)->(List Int)->TN->TN->(List Y1)->Option Y19) (i1:Int) (l2:List Int) (l3:List Int) (l4:TN) (l5:TN) (l6:List Y1):Option Y19:=
 (gI l2 i1).bind fun y7=>
 (gI l2 i1).bind fun y8=>
 bif decide (y8>=0) then
 some (l2,l3,l4,l5,l6)
 else
 (gI l5 i1).bind fun y9=>
 (gI l5 i1).bind fun y10=>
 Zao (ZIM rec48 i1 y10) (0,[],l2,l3,l4,l5,l6)
def N48 (n:Nat):Int->(List Int)->(List Int)->TN->TN->(List Y1)->Option Y19:=Nat.rec (motive:=fun _=>Int->(List Int)->(List Int)->TN->TN->(List Y1)->Option Y19) (fun _ _ _ _ _ _=>none) (fun _ ih=>G48 ih) n
def F48 (i1:Int) (l2:List Int) (l3:List Int) (l4:TN) (l5:TN) (l6:List Y1):Option Y19:=N48 3000 i1 l2 l3 l4 l5 l6
def ZyL (value1:Int) (state2:Int) (l4:TN):Y67->Option (Y67⊕(Int×Int×TN)):=fun (x11,l12,l13,l14,l15)=>
 bif decide (x11 < (List.length (replicate (toNat (l4.length:Int)) 0:List Int):Int)) then
 (gI l13 x11).bind fun y16=>
 (gI l13 x11).bind fun y17=>
 some (.inl (wrap .i64 (x11+1),l12,Zaq l13 x11 (-1),l14,l15))
 else
 ((F48 value1 l13 l12 [] l14 l15).bind fun r18=>
 (F48 state2 r18.1 r18.2.1 r18.2.2.1 r18.2.2.2.1 r18.2.2.2.2).bind fun r19=>
 (gI r19.1 value1).bind fun y20=>
 (gI r19.1 value1).bind fun y21=>
 (gI r19.1 state2).bind fun y22=>
 (gI r19.1 state2).bind fun y23=>
 some (y21,y23,r19.2.2.1)).map .inr
def F23 (value1:Int) (state2:Int) (p3:List Int) (l4:TN) (l5:List Y1):Option (Int×Int×TN):=
 bif decide ((0:Int)<=(l4.length:Int)/\((l4.length:Int):Int)=(l4.length:Int)/\((l4.length:Int):Int)<=1000000) then
 Zao (ZyL value1 state2 l4) (0,p3,(replicate (toNat (l4.length:Int)) 0:List Int),l4,l5)
 else none
def ZOi (x39:Int) (y48:Int×Int×List Int):Y40->Option (Y40⊕(Y28⊕Y4)):=fun (x68,l69,l70,l71,l72,p73,num74,kids75,l76,l77)=>
 bif decide (x68 < (y48.2.2.length:Int)) then
 (gI y48.2.2 x68).bind fun y78=>
 (gI num74 y78).bind fun y79=>
 (gI num74 y78).bind fun y80=>
 bif decide (kids75.length+List.length ([y80]:List Int)<=1000000) then
 some (.inl (wrap .i64 (x68+1),l69,l70,l71,l72,p73,num74,kids75++([y80]:List Int),l76,l77))
 else none
 else
 ((F22 y48.1 y48.2.1 p73 kids75 l76 l77).bind fun r81=>
 (gI num74 x39).bind fun y82=>
 (gI num74 x39).bind fun y83=>
 some (.inl (wrap .i64 (x39+1),l69,l70,l71,l72,r81.2.1,Zaq num74 x39 r81.1,r81.2.2.1,r81.2.2.2))).map .inr
def ZFZ (g1:ByteArray×Int×TN×Int×Int):Y28->Option (Y28⊕Y4):=fun (x39,l40,l41,l42,l43,p44,num45,l46,l47)=>
 bif decide (x39 < (g1.2.2.1.length:Int)) then
 (gI g1.2.2.1 x39).bind fun y48=>
 Zao (ZOi x39 y48) (0,l40,l41,l42,l43,p44,num45,[],l46,l47)
 else
 ((gI num45 g1.2.2.2.1).bind fun y84=>
 (gI num45 g1.2.2.2.1).bind fun y85=>
 (gI num45 g1.2.2.2.2).bind fun y86=>
 (gI num45 g1.2.2.2.2).bind fun y87=>
 (F23 y85 y87 p44 l46 l47).bind fun r88=>
 some (g1.1,g1.2.1,r88.2.2,r88.1,r88.2.1)).map .inr
def ZGa (g1:ByteArray×Int×TN×Int×Int) (lens2:List Int):Y69->Option Y4:=fun (x14,l15,l16,l17,l18)=>
 bif x14 then
 some (empty,0,[],0,0)
 else
 (F21 lens2).bind fun r21=>
 bif decide ((0:Int)<=(g1.2.2.1.length:Int)/\((g1.2.2.1.length:Int):Int)=(g1.2.2.1.length:Int)/\((g1.2.2.1.length:Int):Int)<=1000000) then
 Zao (ZFZ g1) (0,l15,l16,l17,l18,r21.1,(replicate (toNat (g1.2.2.1.length:Int)) 0:List Int),[],r21.2)
 else none
def ZGg (g1:ByteArray×Int×TN×Int×Int) (lens2:List Int):Y36->Option (Y36⊕Y4):=fun (x8,l9,l10,l11,l12)=>
 bif decide (x8 < (g1.2.2.1.length:Int)) then
 (F20 g1.2.2.1 x8).bind fun r13=>
 bif r13==0 then
 (some (empty,0,[],0,0)).map .inr
 else
 some (.inl (wrap .i64 (x8+1),l9,l10,l11,l12))
 else
 (((F20 g1.2.2.1 g1.2.2.2.1).bind fun r19=>
 bif r19 != 1 then
 some (.inl (true,l9,l10,l11,l12))
 else
 (F20 g1.2.2.1 g1.2.2.2.2).bind fun r20=>
 some (.inl (r20 != 2,l9,l10,l11,l12))).bind (Sum.elim (ZGa g1 lens2) some)).map .inr
def F11 (g1:ByteArray×Int×TN×Int×Int) (lens2:List Int):Option Y4:=
 Zao (ZGg g1 lens2) (0,empty,0,0,0)
def Z8F (a1:TN) (b2:TN):Int->Option (Int⊕Bool):=fun i4=>
 bif decide (i4 < (a1.length:Int)) then
 (gI a1 i4).bind fun y5=>
 (gI b2 i4).bind fun y6=>
 (F42 y5 y6).bind fun r7=>
 bif !r7 then
 (some false).map .inr
 else
 some (.inl (wrap .i64 (i4+1)))
 else
 (some true).map .inr
def F27 (a1:TN) (b2:TN):Option Bool:=
 bif (a1.length:Int) != (b2.length:Int) then
 some false
 else
 Zao (Z8F a1 b2) 0
def Z8l:Bool->Option Bool:=fun x3=>
 some x3
def F13 (a1:ByteArray×Int×TN×Int×Int) (b2:ByteArray×Int×TN×Int×Int):Option Bool:=
 (bif a1.2.1==b2.2.1 then
 bif a1.2.2.2.1==b2.2.2.2.1 then
 bif a1.2.2.2.2==b2.2.2.2.2 then
 (F27 a1.2.2.1 b2.2.2.1).bind fun r4=>
 some (.inl r4)
 else
 some (.inl false)
 else
 some (.inl false)
 else
 some (.inl false)).bind (Sum.elim Z8l some)
def ZEQ:Bool->Option Bool:=fun x18=>
 some x18
def Z2d:(ByteArray×Int×TN×Int×Int×List Int)->Option Bool:=fun (g8,g9,g10,g11,g12,lens13)=>
 (F11 (g8,g9,g10,g11,g12) lens13).bind fun r17=>
 (bif decide ((r17.2.2.1.length:Int) > 0) then
 (F11 r17 lens13).bind fun r19=>
 (F13 r17 r19).bind fun r20=>
 bif r20 then
 (F14).bind fun r21=>
 some (.inl r21)
 else
 some (.inl false)
 else
 some (.inl false)).bind (Sum.elim ZEQ some)
def F4 (l1:List Int) (f2:Int) (deep3:Bool):Option Bool:=
 bif decide ((0:Int)<=0/\(0:Int)<=(if 36 < (l1.length:Int) then 36 else (l1.length:Int))/\(if 36 < (l1.length:Int) then 36 else (l1.length:Int))<=(l1.length:Int)) then
 (F5 (slI l1 0 (if 36 < (l1.length:Int) then 36 else (l1.length:Int)))).bind fun r4=>
 (F6 f2 2).bind fun r5=>
 (gI r4.2 r5).bind fun y6=>
 (F10 r4).bind fun r7=>
 (bif deep3 then
 (F7 l1 3).bind fun r14=>
 (F8 r14 1).bind fun r15=>
 (F8 r14 2).bind fun r16=>
 some (.inl (empty,2,r14,r15,r16,([3,2]:List Int)))
 else
 some (.inl (y6.1,y6.2.1,y6.2.2.1,y6.2.2.2.1,y6.2.2.2.2,r7))).bind (Sum.elim Z2d some)
 else none
end
end Go.Dat
