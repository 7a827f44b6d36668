/-
  What the program's functions compute, as plain functions. Printed by program.
-/
import Derived.Test.YteejallmbdngcaaGreatDoorE2Run
namespace Go.Dat
open Go.Eng
noncomputable section
abbrev TN:=List (Int×Int×List Int)
abbrev TS:=List (Int×Int×Int×List Int×List Int)
abbrev TI:=List (Int×Int×Int)
abbrev TP:=List (Int×Int)
abbrev TT:=TN×TS×TI×Int×Int×Int×Int
abbrev TQ:=TN×TS×Int×Int
abbrev Y0:=ByteArray×List ByteArray×List ByteArray×List SmT×Int×Int×ByteArray×Int×List ExT
abbrev Y1:=List (ByteArray×Int)
abbrev Y2:=Y1×(List Y0)×Int×Int×TN×List ByteArray×List Int
abbrev Y3:=Int×Int×ByteArray×Int×List ExT
abbrev Y4:=Int×ByteArray×ByteArray×Int×Int×Int×ByteArray×Int×Int×Int×ByteArray×Int×Int×List ExT×List ExT×List ExT×List SmT×List SmT×List Int
abbrev Y5:=Y1×(List Y0)×Int×Int×List Bool×TN×List ByteArray×List Int
abbrev Y6:=Int×Y1×(List Y0)×Int×Int×TN×List ByteArray×List Int
abbrev Y7:=Int×List Int
abbrev Y8:=Int×Int×ByteArray×Int×Int×List ExT×List Int
abbrev Y9:=ByteArray×Int×TN×Int×Int
abbrev Y10:=List ByteArray×List ByteArray×Y1×List Y0
abbrev Y11:=ByteArray×Int
abbrev Y12:=Int×Y1×(List Y0)×Int×Int×List Int×List Int×List Int×TN×List ByteArray×List Int
abbrev Y13:=Int×List (List Bool)×List Bool
abbrev Y14:=Int×Y1×(List Y0)×Int×Int×Y1×(List Y9)×TN×List ByteArray×List Int
abbrev Y15:=Int×List SmT×List Int
abbrev Y16:=Int×Y1×(List Y0)×Int×Int×List Bool×TN×List ByteArray×List Int
abbrev Y17:=Int×Y1×(List Y0)×Int×Int×List Int×TN×List ByteArray×List Int
abbrev Y18:=Int×Int×Int×ByteArray×ByteArray×Int×Int×Int×ByteArray×Int×Int×Int×ByteArray×Int×Int×ByteArray×ByteArray×Int×Int×Int×ByteArray×Int×Int×Int×ByteArray×Int×List Int×List ExT
abbrev Y19:=(Int×List (List Bool))⊕(List (List Bool))
abbrev Y20:=Y7⊕(List Int)
abbrev Y21:=Int×List ByteArray
abbrev Y22:=Int×Y1×(List Y0)×Int×Int×List Bool×List Int×TN×List ByteArray×List Int
abbrev Y23:=Bool×List Int
abbrev Y24:=Int×Int×Int×ByteArray×ByteArray×Int×Int×Int×ByteArray×Int×Int×Int×ByteArray×Int×List Int
abbrev Y25:=Int×Int×Int
abbrev Y26:=Bool×List Int×List Int
abbrev Y27:=Int×List Int×List Int
abbrev Y28:=Int×Int×List Int
abbrev Y29:=(Int×Y1×List Y9)⊕((Y1×List Y9)×Int)
abbrev Y30:=Int×List Int×List (ByteArray×Bool)
abbrev Y31:=Int×Y1×(List Y0)×Int×Int×List Int×List Int×TN×List ByteArray
abbrev Y32:=Int×ByteArray×ByteArray×Int×Y3×Y3×List ExT×List SmT×List SmT
abbrev Y33:=Int×List ByteArray×List ByteArray
abbrev Y34:=Int×List ByteArray×List ByteArray×List ByteArray×List ByteArray
abbrev Y35:=Unit⊕(Int⊕Bool)
abbrev Y36:=(Bool×Int×List Int×List Int)⊕(Y26⊕((List Int)⊕Y20))
abbrev Y37:=Bool×Int×List Int×List Y11
abbrev Y38:=Int×Int×List SmT×List Int
abbrev Y39:=Int×Y1×(List Y0)×List ByteArray×List ByteArray
abbrev Y40:=List (List Bool)×List Bool
abbrev Y41:=ByteArray×Bool×List Int
abbrev Y42:=Bool×Int×Int×Int×ByteArray×Int×List Int
abbrev Y43:=Int×List Y11
abbrev Y44:=Int⊕(Int⊕Int)
abbrev Y45:=Int×Int×Int×Int
set_option linter.unusedVariables false
def GT0:List Int:=[1,10,100,1000,10000,100000,1000000,10000000,100000000,1000000000,10000000000,100000000000,1000000000000,10000000000000,100000000000000,1000000000000000,10000000000000000,100000000000000000,1000000000000000000,10000000000000000000]
def BS0:ByteArray:=ByteArray.mk #[48,49,50,51,52,53,54,55,56,57,97,98,99,100,101,102,103,104,105,106,107,108,109,110,111,112,113,114,115,116,117,118,119,120,121,122]
def BS1:ByteArray:=ByteArray.mk #[48,48,48,49,48,50,48,51,48,52,48,53,48,54,48,55,48,56,48,57,49,48,49,49,49,50,49,51,49,52,49,53,49,54,49,55,49,56,49,57,50,48,50,49,50,50,50,51,50,52,50,53,50,54,50,55,50,56,50,57,51,48,51,49,51,50,51,51,51,52,51,53,51,54,51,55,51,56,51,57,52,48,52,49,52,50,52,51,52,52,52,53,52,54,52,55,52,56,52,57,53,48,53,49,53,50,53,51,53,52,53,53,53,54,53,55,53,56,53,57,54,48,54,49,54,50,54,51,54,52,54,53,54,54,54,55,54,56,54,57,55,48,55,49,55,50,55,51,55,52,55,53,55,54,55,55,55,56,55,57,56,48,56,49,56,50,56,51,56,52,56,53,56,54,56,55,56,56,56,57,57,48,57,49,57,50,57,51,57,52,57,53,57,54,57,55,57,56,57,57]
def BS2:ByteArray:=ByteArray.mk #[0,1,2,2,3,3,3,3,4,4,4,4,4,4,4,4,5,5,5,5,5,5,5,5,5,5,5,5,5,5,5,5,6,6,6,6,6,6,6,6,6,6,6,6,6,6,6,6,6,6,6,6,6,6,6,6,6,6,6,6,6,6,6,6,7,7,7,7,7,7,7,7,7,7,7,7,7,7,7,7,7,7,7,7,7,7,7,7,7,7,7,7,7,7,7,7,7,7,7,7,7,7,7,7,7,7,7,7,7,7,7,7,7,7,7,7,7,7,7,7,7,7,7,7,7,7,7,7,8,8,8,8,8,8,8,8,8,8,8,8,8,8,8,8,8,8,8,8,8,8,8,8,8,8,8,8,8,8,8,8,8,8,8,8,8,8,8,8,8,8,8,8,8,8,8,8,8,8,8,8,8,8,8,8,8,8,8,8,8,8,8,8,8,8,8,8,8,8,8,8,8,8,8,8,8,8,8,8,8,8,8,8,8,8,8,8,8,8,8,8,8,8,8,8,8,8,8,8,8,8,8,8,8,8,8,8,8,8,8,8,8,8,8,8,8,8,8,8,8,8,8,8,8,8,8,8]
def F9:Option Bool:=some true
def Z8W (l1:List SmT) (deep2:Int) (rec62:(List SmT)->Int->Option Y25) (n7:Int) (most9:Int) (i10:Int):Int->Option (Y45⊕Y25):=fun w11=>
 (gI l1 i10).bind fun y13=>
 (rec62 ((ZGo y13).2.2.2.2.2.2.2.1) (IntKind.wrap .i64 (deep2+1))).bind fun r14=>
 (gI l1 i10).bind fun y15=>
 (rec62 ((ZGo y15).2.2.2.2.2.2.2.2) (IntKind.wrap .i64 (deep2+1))).bind fun r16=>
 some (.inl (IntKind.wrap .i64 ((IntKind.wrap .i64 ((IntKind.wrap .i64 (n7+1))+r14.1))+r16.1),IntKind.wrap .i64 ((IntKind.wrap .i64 (w11+r14.2.1))+r16.2.1),if (if r16.2.2 > r14.2.2 then r16.2.2 else r14.2.2) > (if deep2 > most9 then deep2 else most9) then if r16.2.2 > r14.2.2 then r16.2.2 else r14.2.2 else if deep2 > most9 then deep2 else most9,IntKind.wrap .i64 (i10+1)))
def ZA6 (l1:List SmT) (deep2:Int) (rec62:(List SmT)->Int->Option Y25):Y45->Option (Y45⊕Y25):=fun (n7,w8,most9,i10)=>
 bif decide (i10 < (l1.length:Int)) then
 ((gI l1 i10).bind fun y12=>
 bif ((ZGo y12).1)==4 then
 some (.inl (IntKind.wrap .i64 (w8+1)))
 else
 some (.inl w8)).bind (Sum.elim (Z8W l1 deep2 rec62 n7 most9 i10) some)
 else
 (some (n7,w8,most9)).map .inr
def G62 (rec62:(List SmT)->Int->Option Y25) (l1:List SmT) (deep2:Int):Option Y25:=
 Zao (ZA6 l1 deep2 rec62) (0,0,0,0)
def N62 (n:Nat):(List SmT)->Int->Option Y25:=Nat.rec (motive:=fun _=>(List SmT)->Int->Option Y25) (fun _ _=>none) (fun _ ih=>G62 ih) n
def F62 (l1:List SmT) (deep2:Int):Option Y25:=N62 1000 l1 deep2
def Z58 (e1:Int×Int×ByteArray×Int×List ExT) (rec64:Y3->Option Int):(Int×Int)->Option ((Int×Int)⊕Int):=fun (most4,i5)=>
 bif decide (i5 < (e1.2.2.2.2.length:Int)) then
 (gI e1.2.2.2.2 i5).bind fun y6=>
 (rec64 (ZGt y6)).bind fun r7=>
 some (.inl (if (IntKind.wrap .i64 (1+r7)) > most4 then IntKind.wrap .i64 (1+r7) else most4,IntKind.wrap .i64 (i5+1)))
 else
 (some most4).map .inr
def G64 (rec64:Y3->Option Int) (e1:Int×Int×ByteArray×Int×List ExT):Option Int:=
 Zao (Z58 e1 rec64) (0,0)
def N64 (n:Nat):Y3->Option Int:=Nat.rec (motive:=fun _=>Y3->Option Int) (fun _=>none) (fun _ ih=>G64 ih) n
def F64 (e1:Int×Int×ByteArray×Int×List ExT):Option Int:=N64 1000 e1
def ZA1 (i3:Int) (y4:SmT):Int->Option (Int⊕(Int⊕Bool)):=fun k11=>
 bif decide (k11 < (List.length ((ZGo y4).2.2.2.2.2.2.1):Int)) then
 (gI ((ZGo y4).2.2.2.2.2.2.1) k11).bind fun y12=>
 (F64 (ZGt y12)).bind fun r13=>
 bif decide (r13 > 20) then
 ((some true).map .inr).map .inr
 else
 some (.inl (IntKind.wrap .i64 (k11+1)))
 else
 (some (.inl (IntKind.wrap .i64 (i3+1)))).map .inr
def Z52 (i3:Int) (y4:SmT):Bool->Option (Int⊕Bool):=fun x5=>
 bif x5 then
 (some true).map .inr
 else
 Zao (ZA1 i3 y4) 0
def Z54 (l1:List SmT) (rec63:(List SmT)->Option Bool):Int->Option (Int⊕Bool):=fun i3=>
 bif decide (i3 < (l1.length:Int)) then
 (gI l1 i3).bind fun y4=>
 ((F64 (((ZGo y4).2.2.2.2.1).1,((ZGo y4).2.2.2.2.1).2.1,((ZGo y4).2.2.2.2.1).2.2.1,((ZGo y4).2.2.2.2.1).2.2.2.1,((ZGo y4).2.2.2.2.1).2.2.2.2)).bind fun r6=>
 bif decide (r6 > 20) then
 some (.inl true)
 else
 (F64 (((ZGo y4).2.2.2.2.2.1).1,((ZGo y4).2.2.2.2.2.1).2.1,((ZGo y4).2.2.2.2.2.1).2.2.1,((ZGo y4).2.2.2.2.2.1).2.2.2.1,((ZGo y4).2.2.2.2.2.1).2.2.2.2)).bind fun r7=>
 bif decide (r7 > 20) then
 some (.inl true)
 else
 (rec63 ((ZGo y4).2.2.2.2.2.2.2.1)).bind fun r8=>
 bif r8 then
 some (.inl true)
 else
 (rec63 ((ZGo y4).2.2.2.2.2.2.2.2)).bind fun r9=>
 some (.inl r9)).bind (Sum.elim (Z52 i3 y4) some)
 else
 (some false).map .inr
def G63 (rec63:(List SmT)->Option Bool) (l1:List SmT):Option Bool:=
 Zao (Z54 l1 rec63) 0
def N63 (n:Nat):(List SmT)->Option Bool:=Nat.rec (motive:=fun _=>(List SmT)->Option Bool) (fun _=>none) (fun _ ih=>G63 ih) n
def F63 (l1:List SmT):Option Bool:=N63 1000 l1
def ZxK (i4:Int):Bool->Option (Int⊕Bool):=fun x5=>
 bif x5 then
 (some true).map .inr
 else
 some (.inl (IntKind.wrap .i64 (i4+1)))
def ZAl (i9:Int):Bool->Option (Int⊕Bool):=fun x12=>
 bif x12 then
 (some true).map .inr
 else
 some (.inl (IntKind.wrap .i64 (i9+1)))
def ZxL (p1:Y1×List Y0):Int->Option (Int⊕Bool):=fun i9=>
 bif decide (i9 < (p1.2.length:Int)) then
 (gI p1.2 i9).bind fun y10=>
 (F62 y10.2.2.2.1 0).bind fun r11=>
 (bif decide ((y10.2.1.length:Int) > 6) then
 some (.inl true)
 else
 bif decide ((y10.2.2.1.length:Int) > 8) then
 some (.inl true)
 else
 bif decide (r11.1 > 200) then
 some (.inl true)
 else
 bif decide (r11.2.1 > 16) then
 some (.inl true)
 else
 bif decide (r11.2.2 > 20) then
 some (.inl true)
 else
 (F63 y10.2.2.2.1).bind fun r13=>
 bif r13 then
 some (.inl true)
 else
 (F64 y10.2.2.2.2).bind fun r14=>
 some (.inl (decide (r14 > 20)))).bind (Sum.elim (ZAl i9) some)
 else
 (some false).map .inr
def ZuJ (p1:Y1×List Y0):Int->Option (Int⊕Bool):=fun i4=>
 bif decide (i4 < (p1.1.length:Int)) then
 ((gI p1.1 i4).bind fun y6=>
 bif decide (y6.2 < 1) then
 some (.inl true)
 else
 (gI p1.1 i4).bind fun y7=>
 some (.inl (decide (y7.2 > 16)))).bind (Sum.elim (ZxK i4) some)
 else
 (Zao (ZxL p1) 0).map .inr
def ZxM (p1:Y1×List Y0):Bool->Option Bool:=fun x2=>
 bif x2 then
 some true
 else
 Zao (ZuJ p1) 0
def F41 (p1:Y1×List Y0):Option Bool:=
 (bif decide ((p1.1.length:Int) > 4) then
 some (.inl true)
 else
 some (.inl (decide ((p1.2.length:Int) > 8)))).bind (Sum.elim (ZxM p1) some)
def ZwM:Bool->Option Bool:=fun x2=>
 some x2
def F93 (c1:Int):Option Bool:=
 (bif decide (c1>=97) then
 bif decide (c1<=122) then
 some (.inl true)
 else
 bif decide (c1>=65) then
 bif decide (c1<=90) then
 some (.inl true)
 else
 some (.inl (c1==95))
 else
 some (.inl (c1==95))
 else
 bif decide (c1>=65) then
 bif decide (c1<=90) then
 some (.inl true)
 else
 some (.inl (c1==95))
 else
 some (.inl (c1==95))).bind (Sum.elim ZwM some)
def Zxb:Bool->Option Bool:=fun x2=>
 some x2
def F94 (c1:Int):Option Bool:=
 (bif decide (c1>=48) then
 some (.inl (decide (c1<=57)))
 else
 some (.inl false)).bind (Sum.elim Zxb some)
def Zyh (i3:Int):Bool->Option (Int⊕Bool):=fun x4=>
 bif x4 then
 (some false).map .inr
 else
 some (.inl (IntKind.wrap .i64 (i3+1)))
def Zyg:Bool->Option Bool:=fun x9=>
 some x9
def ZDI (s1:ByteArray):Int->Option (Int⊕Bool):=fun i3=>
 bif decide (i3 < (s1.size:Int)) then
 ((gB s1 i3).bind fun b5=>
 (F93 b5).bind fun r6=>
 bif !r6 then
 (gB s1 i3).bind fun b7=>
 (F94 b7).bind fun r8=>
 bif !r8 then
 some (.inl true)
 else
 some (.inl (i3==0))
 else
 some (.inl false)).bind (Sum.elim (Zyh i3) some)
 else
 ((bif decide ((s1.size:Int)>=1) then
 some (.inl (decide ((s1.size:Int)<=16)))
 else
 some (.inl false)).bind (Sum.elim Zyg some)).map .inr
def F83 (s1:ByteArray):Option Bool:=
 Zao (ZDI s1) 0
def Zx6 (s1:ByteArray):Y21->Option (Y21⊕Bool):=fun (i4,l5)=>
 bif decide (i4 < (l5.length:Int)) then
 (gI l5 i4).bind fun y6=>
 (gI l5 i4).bind fun y7=>
 bif y7.toList==s1.toList then
 (some true).map .inr
 else
 some (.inl (IntKind.wrap .i64 (i4+1),l5))
 else
 (some false).map .inr
def F84 (s1:ByteArray):Option Bool:=
 Zao (Zx6 s1) (0,([(ByteArray.mk #[97,114,114,97,121]),(ByteArray.mk #[102,117,110,99]),(ByteArray.mk #[118,97,114]),(ByteArray.mk #[114,101,116,117,114,110]),(ByteArray.mk #[105,102]),(ByteArray.mk #[101,108,115,101]),(ByteArray.mk #[119,104,105,108,101]),(ByteArray.mk #[111,117,116]),(ByteArray.mk #[116,114,97,112])]:List ByteArray))
def ZAj:Bool->Option Bool:=fun x2=>
 some x2
def F65 (s1:ByteArray):Option Bool:=
 ((F83 s1).bind fun r3=>
 bif r3 then
 (F84 s1).bind fun r4=>
 some (.inl (!r4))
 else
 some (.inl false)).bind (Sum.elim ZAj some)
def Zu6:Bool->Option Bool:=fun x2=>
 some x2
def F86 (op1:Int):Option Bool:=
 (bif decide (op1>=4) then
 some (.inl (decide (op1<=18)))
 else
 some (.inl false)).bind (Sum.elim Zu6 some)
def ZwK:Bool->Option Bool:=fun x6=>
 some x6
def ZDO:Bool->Option Bool:=fun x7=>
 some x7
def ZDf:Bool->Option Bool:=fun x9=>
 some x9
def ZDM:Bool->Option Bool:=fun x11=>
 some x11
def ZDP:Bool->Option Bool:=fun x13=>
 some x13
def ZwL (e1:Int×Int×ByteArray×Int×List ExT) (rec67:Y3->Option Bool):Int->Option (Int⊕Bool):=fun i3=>
 bif decide (i3 < (e1.2.2.2.2.length:Int)) then
 (gI e1.2.2.2.2 i3).bind fun y4=>
 (rec67 (ZGt y4)).bind fun r5=>
 bif !r5 then
 (some false).map .inr
 else
 some (.inl (IntKind.wrap .i64 (i3+1)))
 else
 (bif e1.1==1 then
 (bif (e1.2.2.2.2.length:Int)==0 then
 bif e1.2.2.1.toList==(ByteArray.mk #[]).toList then
 some (.inl (e1.2.2.2.1==0))
 else
 some (.inl false)
 else
 some (.inl false)).bind (Sum.elim ZwK some)
 else
 bif e1.1==2 then
 (bif (e1.2.2.2.2.length:Int)==0 then
 bif e1.2.1==0 then
 bif e1.2.2.2.1==0 then
 (F65 e1.2.2.1).bind fun r8=>
 some (.inl r8)
 else
 some (.inl false)
 else
 some (.inl false)
 else
 some (.inl false)).bind (Sum.elim ZDO some)
 else
 bif e1.1==3 then
 (bif (e1.2.2.2.2.length:Int)==1 then
 bif e1.2.1==0 then
 bif e1.2.2.2.1==0 then
 (F65 e1.2.2.1).bind fun r10=>
 some (.inl r10)
 else
 some (.inl false)
 else
 some (.inl false)
 else
 some (.inl false)).bind (Sum.elim ZDf some)
 else
 bif e1.1==4 then
 (bif e1.2.1==0 then
 bif e1.2.2.1.toList==(ByteArray.mk #[]).toList then
 bif (e1.2.2.2.2.length:Int)==2 then
 (F86 e1.2.2.2.1).bind fun r12=>
 bif r12 then
 some (.inl true)
 else
 bif (e1.2.2.2.2.length:Int)==1 then
 bif e1.2.2.2.1==20 then
 some (.inl true)
 else
 some (.inl (e1.2.2.2.1==21))
 else
 some (.inl false)
 else
 bif (e1.2.2.2.2.length:Int)==1 then
 bif e1.2.2.2.1==20 then
 some (.inl true)
 else
 some (.inl (e1.2.2.2.1==21))
 else
 some (.inl false)
 else
 some (.inl false)
 else
 some (.inl false)).bind (Sum.elim ZDM some)
 else
 bif e1.1==5 then
 (bif (e1.2.2.2.2.length:Int)==3 then
 bif e1.2.1==0 then
 bif e1.2.2.1.toList==(ByteArray.mk #[]).toList then
 some (.inl (e1.2.2.2.1==0))
 else
 some (.inl false)
 else
 some (.inl false)
 else
 some (.inl false)).bind (Sum.elim ZDP some)
 else
 some false).map .inr
def G67 (rec67:Y3->Option Bool) (e1:Int×Int×ByteArray×Int×List ExT):Option Bool:=
 Zao (ZwL e1 rec67) 0
def N67 (n:Nat):Y3->Option Bool:=Nat.rec (motive:=fun _=>Y3->Option Bool) (fun _=>none) (fun _ ih=>G67 ih) n
def F67 (e1:Int×Int×ByteArray×Int×List ExT):Option Bool:=N67 1000 e1
def Zxa:Bool->Option Bool:=fun x2=>
 some x2
def F95 (e1:Int×Int×ByteArray×Int×List ExT):Option Bool:=
 (bif e1.1==0 then
 bif e1.2.1==0 then
 bif e1.2.2.1.toList==(ByteArray.mk #[]).toList then
 bif e1.2.2.2.1==0 then
 some (.inl ((e1.2.2.2.2.length:Int)==0))
 else
 some (.inl false)
 else
 some (.inl false)
 else
 some (.inl false)
 else
 some (.inl false)).bind (Sum.elim Zxa some)
def Zxn:Bool->Option Bool:=fun x2=>
 some x2
def F96 (s1:Int×ByteArray×ByteArray×Int×Y3×Y3×List ExT×List SmT×List SmT):Option Bool:=
 (bif s1.2.1.toList==(ByteArray.mk #[]).toList then
 bif s1.2.2.1.toList==(ByteArray.mk #[]).toList then
 bif s1.2.2.2.1==0 then
 (F95 s1.2.2.2.2.1).bind fun r3=>
 bif r3 then
 some (.inl ((s1.2.2.2.2.2.2.1.length:Int)==0))
 else
 some (.inl false)
 else
 some (.inl false)
 else
 some (.inl false)
 else
 some (.inl false)).bind (Sum.elim Zxn some)
def ZIB:Bool->Option Bool:=fun x7=>
 some x7
def ZIC:Bool->Option Bool:=fun x11=>
 some x11
def ZID:Bool->Option Bool:=fun x15=>
 some x15
def ZIE:Bool->Option Bool:=fun x18=>
 some x18
def ZIF:Bool->Option Bool:=fun x21=>
 some x21
def ZIm:Bool->Option Bool:=fun x24=>
 some x24
def ZIG:Bool->Option Bool:=fun x29=>
 some x29
def ZGU (s1:Int×ByteArray×ByteArray×Int×Y3×Y3×List ExT×List SmT×List SmT):Bool->Option Bool:=fun flat6=>
 bif s1.1==1 then
 (bif flat6 then
 (F65 s1.2.1).bind fun r8=>
 bif r8 then
 bif s1.2.2.1.toList==(ByteArray.mk #[]).toList then
 bif s1.2.2.2.1==0 then
 (F95 s1.2.2.2.2.1).bind fun r9=>
 bif r9 then
 bif (s1.2.2.2.2.2.2.1.length:Int)==0 then
 (F67 s1.2.2.2.2.2.1).bind fun r10=>
 some (.inl r10)
 else
 some (.inl false)
 else
 some (.inl false)
 else
 some (.inl false)
 else
 some (.inl false)
 else
 some (.inl false)
 else
 some (.inl false)).bind (Sum.elim ZIB some)
 else
 bif s1.1==2 then
 (bif flat6 then
 (F65 s1.2.1).bind fun r12=>
 bif r12 then
 bif s1.2.2.1.toList==(ByteArray.mk #[]).toList then
 bif s1.2.2.2.1==0 then
 (F67 s1.2.2.2.2.1).bind fun r13=>
 bif r13 then
 bif (s1.2.2.2.2.2.2.1.length:Int)==0 then
 (F67 s1.2.2.2.2.2.1).bind fun r14=>
 some (.inl r14)
 else
 some (.inl false)
 else
 some (.inl false)
 else
 some (.inl false)
 else
 some (.inl false)
 else
 some (.inl false)
 else
 some (.inl false)).bind (Sum.elim ZIC some)
 else
 bif s1.1==3 then
 ((F96 s1).bind fun r16=>
 bif r16 then
 (F67 s1.2.2.2.2.2.1).bind fun r17=>
 some (.inl r17)
 else
 some (.inl false)).bind (Sum.elim ZID some)
 else
 bif s1.1==4 then
 ((F96 s1).bind fun r19=>
 bif r19 then
 (F67 s1.2.2.2.2.2.1).bind fun r20=>
 bif r20 then
 some (.inl ((s1.2.2.2.2.2.2.2.2.length:Int)==0))
 else
 some (.inl false)
 else
 some (.inl false)).bind (Sum.elim ZIE some)
 else
 bif s1.1==5 then
 (bif flat6 then
 (F96 s1).bind fun r22=>
 bif r22 then
 (F67 s1.2.2.2.2.2.1).bind fun r23=>
 some (.inl r23)
 else
 some (.inl false)
 else
 some (.inl false)).bind (Sum.elim ZIF some)
 else
 bif s1.1==6 then
 (bif flat6 then
 (F65 s1.2.1).bind fun r25=>
 bif r25 then
 (F65 s1.2.2.1).bind fun r26=>
 bif r26 then
 bif s1.2.2.2.1==0 then
 (F95 s1.2.2.2.2.1).bind fun r27=>
 bif r27 then
 (F95 s1.2.2.2.2.2.1).bind fun r28=>
 some (.inl r28)
 else
 some (.inl false)
 else
 some (.inl false)
 else
 some (.inl false)
 else
 some (.inl false)
 else
 some (.inl false)).bind (Sum.elim ZIm some)
 else
 bif s1.1==7 then
 (bif flat6 then
 bif s1.2.1.toList==(ByteArray.mk #[]).toList then
 bif s1.2.2.1.toList==(ByteArray.mk #[]).toList then
 bif decide (s1.2.2.2.1>=0) then
 bif decide (s1.2.2.2.1<=1000000) then
 (F95 s1.2.2.2.2.1).bind fun r30=>
 bif r30 then
 (F95 s1.2.2.2.2.2.1).bind fun r31=>
 bif r31 then
 some (.inl ((s1.2.2.2.2.2.2.1.length:Int)==0))
 else
 some (.inl false)
 else
 some (.inl false)
 else
 some (.inl false)
 else
 some (.inl false)
 else
 some (.inl false)
 else
 some (.inl false)
 else
 some (.inl false)).bind (Sum.elim ZIG some)
 else
 some false
def ZIH (s1:Int×ByteArray×ByteArray×Int×Y3×Y3×List ExT×List SmT×List SmT):Int->Option (Int⊕Bool):=fun i3=>
 bif decide (i3 < (s1.2.2.2.2.2.2.1.length:Int)) then
 (gI s1.2.2.2.2.2.2.1 i3).bind fun y4=>
 (F67 (ZGt y4)).bind fun r5=>
 bif !r5 then
 (some false).map .inr
 else
 some (.inl (IntKind.wrap .i64 (i3+1)))
 else
 ((bif (s1.2.2.2.2.2.2.2.1.length:Int)==0 then
 some (.inl ((s1.2.2.2.2.2.2.2.2.length:Int)==0))
 else
 some (.inl false)).bind (Sum.elim (ZGU s1) some)).map .inr
def F85 (s1:Int×ByteArray×ByteArray×Int×Y3×Y3×List ExT×List SmT×List SmT):Option Bool:=
 Zao (ZIH s1) 0
def ZwJ (i3:Int):Bool->Option (Int⊕Bool):=fun x4=>
 bif x4 then
 (some false).map .inr
 else
 some (.inl (IntKind.wrap .i64 (i3+1)))
def ZIn (l1:List SmT) (rec66:(List SmT)->Option Bool):Int->Option (Int⊕Bool):=fun i3=>
 bif decide (i3 < (l1.length:Int)) then
 ((gI l1 i3).bind fun y5=>
 (F85 (ZGo y5)).bind fun r6=>
 bif !r6 then
 some (.inl true)
 else
 (gI l1 i3).bind fun y7=>
 (rec66 ((ZGo y7).2.2.2.2.2.2.2.1)).bind fun r8=>
 bif !r8 then
 some (.inl true)
 else
 (gI l1 i3).bind fun y9=>
 (rec66 ((ZGo y9).2.2.2.2.2.2.2.2)).bind fun r10=>
 some (.inl (!r10))).bind (Sum.elim (ZwJ i3) some)
 else
 (some true).map .inr
def G66 (rec66:(List SmT)->Option Bool) (l1:List SmT):Option Bool:=
 Zao (ZIn l1 rec66) 0
def N66 (n:Nat):(List SmT)->Option Bool:=Nat.rec (motive:=fun _=>(List SmT)->Option Bool) (fun _=>none) (fun _ ih=>G66 ih) n
def F66 (l1:List SmT):Option Bool:=N66 1000 l1
def ZuM (i7:Int):Bool->Option (Int⊕Bool):=fun x16=>
 bif x16 then
 (some false).map .inr
 else
 some (.inl (IntKind.wrap .i64 (i7+1)))
def ZII (i7:Int) (y8:ByteArray×List ByteArray×List ByteArray×List SmT×Int×Int×ByteArray×Int×List ExT):Y21->Option (Y21⊕(Int⊕Bool)):=fun (k11,l12)=>
 bif decide (k11 < (l12.length:Int)) then
 (gI l12 k11).bind fun y13=>
 (gI l12 k11).bind fun y14=>
 (F65 y14).bind fun r15=>
 bif !r15 then
 ((some false).map .inr).map .inr
 else
 some (.inl (IntKind.wrap .i64 (k11+1),l12))
 else
 (((F66 y8.2.2.2.1).bind fun r17=>
 bif !r17 then
 some (.inl true)
 else
 (F67 y8.2.2.2.2).bind fun r18=>
 some (.inl (!r18))).bind (Sum.elim (ZuM i7) some)).map .inr
def ZIJ (p1:Y1×List Y0):Int->Option (Int⊕Bool):=fun i7=>
 bif decide (i7 < (p1.2.length:Int)) then
 (gI p1.2 i7).bind fun y8=>
 bif decide (List.length ([y8.1]:List ByteArray)+y8.2.1.length<=1000000) then
 bif decide (List.length (([y8.1]:List ByteArray)++y8.2.1)+y8.2.2.1.length<=1000000) then
 Zao (ZII i7 y8) (0,(([y8.1]:List ByteArray)++y8.2.1)++y8.2.2.1)
 else none
 else none
 else
 (some true).map .inr
def Zyc (p1:Y1×List Y0):Int->Option (Int⊕Bool):=fun i3=>
 bif decide (i3 < (p1.1.length:Int)) then
 (gI p1.1 i3).bind fun y4=>
 (F65 y4.1).bind fun r5=>
 bif !r5 then
 (some false).map .inr
 else
 some (.inl (IntKind.wrap .i64 (i3+1)))
 else
 (Zao (ZIJ p1) 0).map .inr
def F42 (p1:Y1×List Y0):Option Bool:=
 Zao (Zyc p1) 0
def ZEa (l1:List ByteArray) (s2:ByteArray):Int->Option (Int⊕Bool):=fun i4=>
 bif decide (i4 < (l1.length:Int)) then
 (gI l1 i4).bind fun y5=>
 bif y5.toList==s2.toList then
 (some true).map .inr
 else
 some (.inl (IntKind.wrap .i64 (i4+1)))
 else
 (some false).map .inr
def F68 (l1:List ByteArray) (s2:ByteArray):Option Bool:=
 Zao (ZEa l1 s2) 0
def ZDR (i15:Int):Y34->Option (Y34⊕(Y33⊕Bool)):=fun (k25,arrays26,funcs27,seen28,l29)=>
 bif decide (k25 < (l29.length:Int)) then
 (gI l29 k25).bind fun y30=>
 (gI l29 k25).bind fun y31=>
 (F68 seen28 y31).bind fun r32=>
 bif r32 then
 ((some true).map .inr).map .inr
 else
 (gI l29 k25).bind fun y33=>
 (gI l29 k25).bind fun y34=>
 bif decide (seen28.length+List.length ([y34]:List ByteArray)<=1000000) then
 some (.inl (IntKind.wrap .i64 (k25+1),arrays26,funcs27,seen28++([y34]:List ByteArray),l29))
 else none
 else
 (some (.inl (IntKind.wrap .i64 (i15+1),arrays26,funcs27))).map .inr
def Z7K (p1:Y1×List Y0):Y33->Option (Y33⊕Bool):=fun (i15,arrays16,funcs17)=>
 bif decide (i15 < (p1.2.length:Int)) then
 (gI p1.2 i15).bind fun y18=>
 (F68 funcs17 y18.1).bind fun r19=>
 bif r19 then
 (some true).map .inr
 else
 bif decide (funcs17.length+List.length ([y18.1]:List ByteArray)<=1000000) then
 bif decide (List.length ([]:List ByteArray)+arrays16.length<=1000000) then
 bif decide (List.length ([]:List ByteArray)+y18.2.1.length<=1000000) then
 bif decide (List.length (([]:List ByteArray)++y18.2.1)+y18.2.2.1.length<=1000000) then
 Zao (ZDR i15) (0,arrays16,funcs17++([y18.1]:List ByteArray),([]:List ByteArray)++arrays16,(([]:List ByteArray)++y18.2.1)++y18.2.2.1)
 else none
 else none
 else none
 else none
 else
 (some false).map .inr
def Z5y (p1:Y1×List Y0):Y21->Option (Y21⊕Bool):=fun (i5,arrays6)=>
 bif decide (i5 < (p1.1.length:Int)) then
 (gI p1.1 i5).bind fun y7=>
 (F68 arrays6 y7.1).bind fun r8=>
 bif r8 then
 (some true).map .inr
 else
 (gI p1.1 i5).bind fun y9=>
 bif decide (arrays6.length+List.length ([y9.1]:List ByteArray)<=1000000) then
 some (.inl (IntKind.wrap .i64 (i5+1),arrays6++([y9.1]:List ByteArray)))
 else none
 else
 (Zao (Z7K p1) (0,arrays6,[])).map .inr
def F43 (p1:Y1×List Y0):Option Bool:=
 Zao (Z5y p1) (0,[])
def Z92 (p1:Y1×List Y0) (s2:ByteArray):Int->Option (Int⊕Int):=fun i4=>
 bif decide (i4 < (p1.2.length:Int)) then
 (gI p1.2 i4).bind fun y5=>
 bif y5.1.toList==s2.toList then
 (some i4).map .inr
 else
 some (.inl (IntKind.wrap .i64 (i4+1)))
 else
 (some (-1)).map .inr
def F69 (p1:Y1×List Y0) (s2:ByteArray):Option Int:=
 Zao (Z92 p1 s2) 0
def Z8G:Bool->Option Bool:=fun x7=>
 some x7
def Z8k (x1:List ByteArray×List ByteArray×Y1×List Y0) (e2:Int×Int×ByteArray×Int×List ExT) (rec45:Y10->Y3->Option Bool):Int->Option (Int⊕Bool):=fun i4=>
 bif decide (i4 < (e2.2.2.2.2.length:Int)) then
 (gI e2.2.2.2.2 i4).bind fun y5=>
 (rec45 x1 (ZGt y5)).bind fun r6=>
 bif !r6 then
 (some false).map .inr
 else
 some (.inl (IntKind.wrap .i64 (i4+1)))
 else
 ((bif e2.1 != 2 then
 bif e2.1 != 3 then
 some (.inl true)
 else
 (F68 x1.2.1 e2.2.2.1).bind fun r8=>
 some (.inl r8)
 else
 (F68 x1.1 e2.2.2.1).bind fun r9=>
 bif r9 then
 bif e2.1 != 3 then
 some (.inl true)
 else
 (F68 x1.2.1 e2.2.2.1).bind fun r10=>
 some (.inl r10)
 else
 some (.inl false)).bind (Sum.elim Z8G some)).map .inr
def G45 (rec45:Y10->Y3->Option Bool) (x1:List ByteArray×List ByteArray×Y1×List Y0) (e2:Int×Int×ByteArray×Int×List ExT):Option Bool:=
 Zao (Z8k x1 e2 rec45) 0
def N45 (n:Nat):Y10->Y3->Option Bool:=Nat.rec (motive:=fun _=>Y10->Y3->Option Bool) (fun _ _=>none) (fun _ ih=>G45 ih) n
def F45 (x1:List ByteArray×List ByteArray×Y1×List Y0) (e2:Int×Int×ByteArray×Int×List ExT):Option Bool:=N45 1000 x1 e2
def ZIo:Bool->Option Bool:=fun x11=>
 some x11
def Z9v (x1:List ByteArray×List ByteArray×Y1×List Y0) (s2:Int×ByteArray×ByteArray×Int×Y3×Y3×List ExT×List SmT×List SmT):Bool->Option Bool:=fun x7=>
 bif x7 then
 some false
 else
 bif s2.1==1 then
 (F68 x1.1 s2.2.1).bind fun r10=>
 some r10
 else
 bif s2.1==6 then
 ((F68 x1.1 s2.2.1).bind fun r12=>
 bif r12 then
 (F69 x1.2.2 s2.2.2.1).bind fun r13=>
 some (.inl (decide (r13>=0)))
 else
 some (.inl false)).bind (Sum.elim ZIo some)
 else
 bif s2.1==2 then
 (F68 x1.2.1 s2.2.1).bind fun r14=>
 some r14
 else
 some true
def ZwN (x1:List ByteArray×List ByteArray×Y1×List Y0) (s2:Int×ByteArray×ByteArray×Int×Y3×Y3×List ExT×List SmT×List SmT):Int->Option (Int⊕Bool):=fun i4=>
 bif decide (i4 < (s2.2.2.2.2.2.2.1.length:Int)) then
 (gI s2.2.2.2.2.2.2.1 i4).bind fun y5=>
 (F45 x1 (ZGt y5)).bind fun r6=>
 bif !r6 then
 (some false).map .inr
 else
 some (.inl (IntKind.wrap .i64 (i4+1)))
 else
 (((F45 x1 s2.2.2.2.2.1).bind fun r8=>
 bif !r8 then
 some (.inl true)
 else
 (F45 x1 s2.2.2.2.2.2.1).bind fun r9=>
 some (.inl (!r9))).bind (Sum.elim (Z9v x1 s2) some)).map .inr
def F70 (x1:List ByteArray×List ByteArray×Y1×List Y0) (s2:Int×ByteArray×ByteArray×Int×Y3×Y3×List ExT×List SmT×List SmT):Option Bool:=
 Zao (ZwN x1 s2) 0
def Zym:Bool->Option Y35:=fun x7=>
 bif x7 then
 ((some false).map .inr).map .inr
 else
 some (.inl ())
def Zyl (i5:Int):Bool->Option (Int⊕Bool):=fun x11=>
 bif x11 then
 (some false).map .inr
 else
 some (.inl (IntKind.wrap .i64 (i5+1)))
def Zyn (x1:List ByteArray×List ByteArray×Y1×List Y0) (counts3:Bool) (rec44:Y10->(List SmT)->Bool->Option Bool) (i5:Int) (y6:SmT):Unit->Option (Int⊕Bool):=fun _=>
 ((rec44 x1 ((ZGo y6).2.2.2.2.2.2.2.1) counts3).bind fun r12=>
 bif !r12 then
 some (.inl true)
 else
 (rec44 x1 ((ZGo y6).2.2.2.2.2.2.2.2) counts3).bind fun r13=>
 some (.inl (!r13))).bind (Sum.elim (Zyl i5) some)
def ZDT (x1:List ByteArray×List ByteArray×Y1×List Y0) (l2:List SmT) (counts3:Bool) (rec44:Y10->(List SmT)->Bool->Option Bool):Int->Option (Int⊕Bool):=fun i5=>
 bif decide (i5 < (l2.length:Int)) then
 (gI l2 i5).bind fun y6=>
 (bif counts3 then
 (bif ((ZGo y6).1)==6 then
 (F69 x1.2.2 ((ZGo y6).2.2.1)).bind fun r8=>
 (gI x1.2.2.2 r8).bind fun y9=>
 some (.inl ((List.length ((ZGo y6).2.2.2.2.2.2.1):Int) != (y9.2.1.length:Int)))
 else
 some (.inl false)).bind (Sum.elim Zym some)
 else
 (F70 x1 ((ZGo y6).1,(ZGo y6).2.1,(ZGo y6).2.2.1,(ZGo y6).2.2.2.1,(((ZGo y6).2.2.2.2.1).1,((ZGo y6).2.2.2.2.1).2.1,((ZGo y6).2.2.2.2.1).2.2.1,((ZGo y6).2.2.2.2.1).2.2.2.1,((ZGo y6).2.2.2.2.1).2.2.2.2),(((ZGo y6).2.2.2.2.2.1).1,((ZGo y6).2.2.2.2.2.1).2.1,((ZGo y6).2.2.2.2.2.1).2.2.1,((ZGo y6).2.2.2.2.2.1).2.2.2.1,((ZGo y6).2.2.2.2.2.1).2.2.2.2),(ZGo y6).2.2.2.2.2.2.1,(ZGo y6).2.2.2.2.2.2.2.1,(ZGo y6).2.2.2.2.2.2.2.2)).bind fun r10=>
 bif !r10 then
 ((some false).map .inr).map .inr
 else
 some (.inl ())).bind (Sum.elim (Zyn x1 counts3 rec44 i5 y6) some)
 else
 (some true).map .inr
def G44 (rec44:Y10->(List SmT)->Bool->Option Bool) (x1:List ByteArray×List ByteArray×Y1×List Y0) (l2:List SmT) (counts3:Bool):Option Bool:=
 Zao (ZDT x1 l2 counts3 rec44) 0
def N44 (n:Nat):Y10->(List SmT)->Bool->Option Bool:=Nat.rec (motive:=fun _=>Y10->(List SmT)->Bool->Option Bool) (fun _ _ _=>none) (fun _ ih=>G44 ih) n
def F44 (x1:List ByteArray×List ByteArray×Y1×List Y0) (l2:List SmT) (counts3:Bool):Option Bool:=N44 1000 x1 l2 counts3
def ZIK (i8:Int):Bool->Option Y44:=fun x32=>
 bif x32 then
 ((some 5).map .inr).map .inr
 else
 some (.inl (IntKind.wrap .i64 (i8+1)))
def Z51 (round6:Int) (i8:Int) (y9:ByteArray×List ByteArray×List ByteArray×List SmT×Int×Int×ByteArray×Int×List ExT):(Bool×Y1×(List Y0)×List ByteArray×List ByteArray)->Option Y44:=fun (x25,x26,x27,l28,l29)=>
 bif x25 then
 ((some 3).map .inr).map .inr
 else
 (bif round6==1 then
 (F44 (l28,l29,(x26,x27)) y9.2.2.2.1 true).bind fun r33=>
 some (.inl (!r33))
 else
 some (.inl false)).bind (Sum.elim (ZIK i8) some)
def ZIL (p1:Y1×List Y0) (round6:Int) (i8:Int) (y9:ByteArray×List ByteArray×List ByteArray×List SmT×Int×Int×ByteArray×Int×List ExT):Y39->Option (Y39⊕Y44):=fun (k19,x20,x21,l22,l23)=>
 bif decide (k19 < (p1.1.length:Int)) then
 (gI p1.1 k19).bind fun y24=>
 bif decide (l23.length+List.length ([y24.1]:List ByteArray)<=1000000) then
 some (.inl (IntKind.wrap .i64 (k19+1),x20,x21,l22,l23++([y24.1]:List ByteArray)))
 else none
 else
 ((bif round6==0 then
 (F44 (l22,l23,(x20,x21)) y9.2.2.2.1 false).bind fun r30=>
 bif !r30 then
 some (.inl (true,x20,x21,l22,l23))
 else
 (F45 (l22,l23,(x20,x21)) y9.2.2.2.2).bind fun r31=>
 some (.inl (!r31,x20,x21,l22,l23))
 else
 some (.inl (false,x20,x21,l22,l23))).bind (Sum.elim (Z51 round6 i8 y9) some)).map .inr
def ZEr (p1:Y1×List Y0) (round6:Int):Int->Option Y44:=fun i8=>
 bif decide (i8 < (p1.2.length:Int)) then
 (gI p1.2 i8).bind fun y9=>
 bif decide (List.length ([]:List ByteArray)+y9.2.1.length<=1000000) then
 bif decide (List.length (([]:List ByteArray)++y9.2.1)+y9.2.2.1.length<=1000000) then
 Zao (ZIL p1 round6 i8 y9) (0,p1.1,p1.2,(([]:List ByteArray)++y9.2.1)++y9.2.2.1,[])
 else none
 else none
 else
 (some (.inl (IntKind.wrap .i64 (round6+1)))).map .inr
def Z50 (p1:Y1×List Y0):Int->Option (Int⊕Int):=fun round6=>
 bif decide (round6 < 2) then
 Zao (ZEr p1 round6) 0
 else
 (some 0).map .inr
def F25 (p1:Y1×List Y0):Option Int:=
 (F41 p1).bind fun r2=>
 bif r2 then
 some 6
 else
 (F42 p1).bind fun r3=>
 bif !r3 then
 some 2
 else
 (F43 p1).bind fun r4=>
 bif r4 then
 some 4
 else
 Zao (Z50 p1) 0
def Z9Q (a1:Int×Int×List Int) (b2:Int×Int×List Int):Int->Option (Int⊕Bool):=fun i5=>
 bif decide (i5 < (a1.2.2.length:Int)) then
 (gI a1.2.2 i5).bind fun y6=>
 (gI b2.2.2 i5).bind fun y7=>
 bif y6 != y7 then
 (some false).map .inr
 else
 some (.inl (IntKind.wrap .i64 (i5+1)))
 else
 (some true).map .inr
def Z9P (a1:Int×Int×List Int) (b2:Int×Int×List Int):Bool->Option Bool:=fun x3=>
 bif x3 then
 some false
 else
 Zao (Z9Q a1 b2) 0
def F36 (a1:Int×Int×List Int) (b2:Int×Int×List Int):Option Bool:=
 (bif a1.1 != b2.1 then
 some (.inl true)
 else
 bif a1.2.1 != b2.2.1 then
 some (.inl true)
 else
 some (.inl ((a1.2.2.length:Int) != (b2.2.2.length:Int)))).bind (Sum.elim (Z9P a1 b2) some)
def ZEx:(Int×Int×Int×TN×List Int)->Option ((Int×Int×Int×TN×List Int)⊕(Int×TN)):=fun (i10,n11,n12,l13,l14)=>
 bif decide (i10 < (l13.length:Int)) then
 (gI l13 i10).bind fun y15=>
 (gI l13 i10).bind fun y16=>
 (F36 y16 (n11,n12,l14)).bind fun r17=>
 bif r17 then
 (some (i10,l13)).map .inr
 else
 some (.inl (IntKind.wrap .i64 (i10+1),n11,n12,l13,l14))
 else
 (bif decide (l13.length+List.length ([(n11,n12,l14)]:TN)<=1000000) then
 some (IntKind.wrap .i64 ((List.length (l13++([(n11,n12,l14)]:TN)):Int) - 1),l13++([(n11,n12,l14)]:TN))
 else none).map .inr
def F26 (op1:Int) (imm2:Int) (kids3:List Int) (l4:TN):Option (Int×TN):=
 bif decide (List.length ([]:List Int)+kids3.length<=1000000) then
 Zao ZEx (0,op1,imm2,l4,([]:List Int)++kids3)
 else none
def ZEh (s1:ByteArray):Y21->Option (Y21⊕Y21):=fun (i5,l6)=>
 bif decide (i5 < (l6.length:Int)) then
 (gI l6 i5).bind fun y7=>
 (gI l6 i5).bind fun y8=>
 bif y8.toList==s1.toList then
 (some (i5,l6)).map .inr
 else
 some (.inl (IntKind.wrap .i64 (i5+1),l6))
 else
 (some (0,l6)).map .inr
def F47 (s1:ByteArray) (l2:List ByteArray):Option Y21:=
 Zao (ZEh s1) (0,l2)
def ZIM (s1:ByteArray):Y43->Option (Y43⊕Y43):=fun (i5,x6)=>
 bif decide (i5 < (x6.length:Int)) then
 (gI x6 i5).bind fun y7=>
 bif y7.1.toList==s1.toList then
 (some (i5,x6)).map .inr
 else
 some (.inl (IntKind.wrap .i64 (i5+1),x6))
 else
 (some (0,x6)).map .inr
def F48 (s1:ByteArray) (x2:List Y11):Option Y43:=
 Zao (ZIM s1) (0,x2)
def F49 (a1:Int) (i2:Int) (x3:List Y11) (x4:List Y0) (x5:Int) (x6:Int) (l7:TN) (l8:List ByteArray) (l9:List Int):Option Y2:=
 (gI x3 a1).bind fun y10=>
 (F26 1 y10.2 [] l7).bind fun r11=>
 (F26 19 0 ([i2,r11.1]:List Int) r11.2).bind fun r12=>
 (F26 27 2 ([x5,r12.1]:List Int) r12.2).bind fun r13=>
 some (x3,x4,r13.1,x6,r13.2,l8,l9)
def F50 (c1:Int) (a2:Int) (b3:Int) (l4:TN):Option (Int×TN):=
 bif a2==b3 then
 some (a2,l4)
 else
 (F26 22 0 ([c1,a2,b3]:List Int) l4).bind fun r5=>
 some r5
def ZHM (r34:Int×Y1×(List Y0)×Int×Int×TN×List ByteArray×List Int):(Bool×Y1×(List Y0)×Int×Int×TN×List ByteArray×List Int)->Option (Y2⊕Y6):=fun (x42,x43,x44,x45,x46,l47,l48,l49)=>
 bif x42 then
 (F26 1 0 [] l47).bind fun r50=>
 (F26 16 0 ([r34.1,r50.1]:List Int) r50.2).bind fun r51=>
 (F26 27 1 ([x45,r51.1]:List Int) r51.2).bind fun r52=>
 some (.inl (x43,x44,r52.1,x46,r52.2,l48,l49))
 else
 some (.inl (x43,x44,x45,x46,l47,l48,l49))
def Z5J (e4:Int) (r31:Int×Y1×(List Y0)×Int×Int×TN×List ByteArray×List Int) (r34:Int×Y1×(List Y0)×Int×Int×TN×List ByteArray×List Int):Y2->Option Y6:=fun (x35,x36,x37,x38,l39,l40,l41)=>
 (F26 e4 0 ([r31.1,r34.1]:List Int) l39).bind fun r53=>
 some (r53.1,x35,x36,x37,x38,r53.2,l40,l41)
def G28 (rec28:Int->Int->ByteArray->Int->(List ExT)->Y1->(List Y0)->Int->Int->TN->(List ByteArray)->(List Int)->Option Y6) (e1:Int) (e2:Int) (e3:ByteArray) (e4:Int) (e5:List ExT) (x6:List Y11) (x7:List Y0) (x8:Int) (x9:Int) (l10:TN) (l11:List ByteArray) (l12:List Int):Option Y6:=
 bif e1==1 then
 (F26 1 e2 [] l10).bind fun r13=>
 some (r13.1,x6,x7,x8,x9,r13.2,l11,l12)
 else
 bif e1==2 then
 (F47 e3 l11).bind fun r14=>
 (gI l12 r14.1).bind fun y15=>
 (gI l12 r14.1).bind fun y16=>
 some (y16,x6,x7,x8,x9,l10,r14.2,l12)
 else
 bif e1==3 then
 (gI e5 0).bind fun y17=>
 (rec28 ((ZGt y17).1) ((ZGt y17).2.1) ((ZGt y17).2.2.1) ((ZGt y17).2.2.2.1) ((ZGt y17).2.2.2.2) x6 x7 x8 x9 l10 l11 l12).bind fun r18=>
 (F48 e3 r18.2.1).bind fun r19=>
 (F49 r19.1 r18.1 r19.2 r18.2.2.1 r18.2.2.2.1 r18.2.2.2.2.1 r18.2.2.2.2.2.1 r18.2.2.2.2.2.2.1 r18.2.2.2.2.2.2.2).bind fun r20=>
 (F26 23 r19.1 ([r20.2.2.1,r18.1]:List Int) r20.2.2.2.2.1).bind fun r21=>
 some (r21.1,r20.1,r20.2.1,r20.2.2.1,r20.2.2.2.1,r21.2,r20.2.2.2.2.2.1,r20.2.2.2.2.2.2)
 else
 bif e1==5 then
 (gI e5 0).bind fun y22=>
 (rec28 ((ZGt y22).1) ((ZGt y22).2.1) ((ZGt y22).2.2.1) ((ZGt y22).2.2.2.1) ((ZGt y22).2.2.2.2) x6 x7 x8 x9 l10 l11 l12).bind fun r23=>
 (gI e5 1).bind fun y24=>
 (rec28 ((ZGt y24).1) ((ZGt y24).2.1) ((ZGt y24).2.2.1) ((ZGt y24).2.2.2.1) ((ZGt y24).2.2.2.2) r23.2.1 r23.2.2.1 r23.2.2.2.1 r23.2.2.2.2.1 r23.2.2.2.2.2.1 r23.2.2.2.2.2.2.1 r23.2.2.2.2.2.2.2).bind fun r25=>
 (gI e5 2).bind fun y26=>
 (rec28 ((ZGt y26).1) ((ZGt y26).2.1) ((ZGt y26).2.2.1) ((ZGt y26).2.2.2.1) ((ZGt y26).2.2.2.2) r25.2.1 r25.2.2.1 r23.2.2.2.1 r25.2.2.2.2.1 r25.2.2.2.2.2.1 r25.2.2.2.2.2.2.1 r25.2.2.2.2.2.2.2).bind fun r27=>
 (F50 r23.1 r25.1 r27.1 r27.2.2.2.2.2.1).bind fun r28=>
 (F50 r23.1 r25.2.2.2.1 r27.2.2.2.1 r28.2).bind fun r29=>
 some (r28.1,r27.2.1,r27.2.2.1,r29.1,r27.2.2.2.2.1,r29.2,r27.2.2.2.2.2.2.1,r27.2.2.2.2.2.2.2)
 else
 (gI e5 0).bind fun y30=>
 (rec28 ((ZGt y30).1) ((ZGt y30).2.1) ((ZGt y30).2.2.1) ((ZGt y30).2.2.2.1) ((ZGt y30).2.2.2.2) x6 x7 x8 x9 l10 l11 l12).bind fun r31=>
 bif (e5.length:Int)==1 then
 (F26 e4 0 ([r31.1]:List Int) r31.2.2.2.2.2.1).bind fun r32=>
 some (r32.1,r31.2.1,r31.2.2.1,r31.2.2.2.1,r31.2.2.2.2.1,r32.2,r31.2.2.2.2.2.2.1,r31.2.2.2.2.2.2.2)
 else
 (gI e5 1).bind fun y33=>
 (rec28 ((ZGt y33).1) ((ZGt y33).2.1) ((ZGt y33).2.2.1) ((ZGt y33).2.2.2.1) ((ZGt y33).2.2.2.2) r31.2.1 r31.2.2.1 r31.2.2.2.1 r31.2.2.2.2.1 r31.2.2.2.2.2.1 r31.2.2.2.2.2.2.1 r31.2.2.2.2.2.2.2).bind fun r34=>
 ((bif e4==7 then
 some (.inl (true,r34.2.1,r34.2.2.1,r34.2.2.2.1,r34.2.2.2.2.1,r34.2.2.2.2.2.1,r34.2.2.2.2.2.2.1,r34.2.2.2.2.2.2.2))
 else
 some (.inl (e4==8,r34.2.1,r34.2.2.1,r34.2.2.2.1,r34.2.2.2.2.1,r34.2.2.2.2.2.1,r34.2.2.2.2.2.2.1,r34.2.2.2.2.2.2.2))).bind (Sum.elim (ZHM r34) some)).bind (Sum.elim (Z5J e4 r31 r34) some)
def N28 (n:Nat):Int->Int->ByteArray->Int->(List ExT)->Y1->(List Y0)->Int->Int->TN->(List ByteArray)->(List Int)->Option Y6:=Nat.rec (motive:=fun _=>Int->Int->ByteArray->Int->(List ExT)->Y1->(List Y0)->Int->Int->TN->(List ByteArray)->(List Int)->Option Y6) (fun _ _ _ _ _ _ _ _ _ _ _ _=>none) (fun _ ih=>G28 ih) n
def F28 (e1:Int) (e2:Int) (e3:ByteArray) (e4:Int) (e5:List ExT) (x6:List Y11) (x7:List Y0) (x8:Int) (x9:Int) (l10:TN) (l11:List ByteArray) (l12:List Int):Option Y6:=N28 1000 e1 e2 e3 e4 e5 x6 x7 x8 x9 l10 l11 l12
def Z8K (l1:List SmT) (i19:Int):(Bool×Y1×(List Y0)×Int×Int×List Bool×TN×List ByteArray×List Int)->Option (Y5⊕(Y16⊕Y5)):=fun (x36,x37,x38,x39,x40,in41,l42,l43,l44)=>
 bif x36 then
 (gI l1 i19).bind fun y47=>
 (F47 ((ZGo y47).2.1) l43).bind fun r48=>
 (gI in41 r48.1).bind fun y49=>
 (gI in41 r48.1).bind fun y50=>
 some (.inl (x37,x38,x39,x40,Zaq in41 r48.1 true,l42,r48.2,l44))
 else
 some (.inl (x37,x38,x39,x40,in41,l42,l43,l44))
def Zyp (rec87:(List SmT)->Y1->(List Y0)->Int->Int->(List Bool)->TN->(List ByteArray)->(List Int)->Option Y5) (l1:List SmT) (i19:Int):Y5->Option (Y16⊕Y5):=fun (x28,x29,x30,x31,in32,l33,l34,l35)=>
 (gI l1 i19).bind fun y51=>
 (rec87 ((ZGo y51).2.2.2.2.2.2.2.1) x28 x29 x30 x31 in32 l33 l34 l35).bind fun r52=>
 (gI l1 i19).bind fun y53=>
 (rec87 ((ZGo y53).2.2.2.2.2.2.2.2) r52.1 r52.2.1 r52.2.2.1 r52.2.2.2.1 r52.2.2.2.2.1 r52.2.2.2.2.2.1 r52.2.2.2.2.2.2.1 r52.2.2.2.2.2.2.2).bind fun r54=>
 some (.inl (IntKind.wrap .i64 (i19+1),r54.1,r54.2.1,r54.2.2.1,r54.2.2.2.1,r54.2.2.2.2.1,r54.2.2.2.2.2.1,r54.2.2.2.2.2.2.1,r54.2.2.2.2.2.2.2))
def Z7H (rec87:(List SmT)->Y1->(List Y0)->Int->Int->(List Bool)->TN->(List ByteArray)->(List Int)->Option Y5) (l1:List SmT):Y16->Option (Y16⊕Y5):=fun (i19,x20,x21,x22,x23,in24,l25,l26,l27)=>
 bif decide (i19 < (l1.length:Int)) then
 (((gI l1 i19).bind fun y45=>
 bif ((ZGo y45).1)==1 then
 some (.inl (true,x20,x21,x22,x23,in24,l25,l26,l27))
 else
 (gI l1 i19).bind fun y46=>
 some (.inl (((ZGo y46).1)==6,x20,x21,x22,x23,in24,l25,l26,l27))).bind (Sum.elim (Z8K l1 i19) some)).bind (Sum.elim (Zyp rec87 l1 i19) some)
 else
 (some (x20,x21,x22,x23,in24,l25,l26,l27)).map .inr
def G87 (rec87:(List SmT)->Y1->(List Y0)->Int->Int->(List Bool)->TN->(List ByteArray)->(List Int)->Option Y5) (l1:List SmT) (x2:List Y11) (x3:List Y0) (x4:Int) (x5:Int) (in6:List Bool) (l7:TN) (l8:List ByteArray) (l9:List Int):Option Y5:=
 Zao (Z7H rec87 l1) (0,x2,x3,x4,x5,in6,l7,l8,l9)
def N87 (n:Nat):(List SmT)->Y1->(List Y0)->Int->Int->(List Bool)->TN->(List ByteArray)->(List Int)->Option Y5:=Nat.rec (motive:=fun _=>(List SmT)->Y1->(List Y0)->Int->Int->(List Bool)->TN->(List ByteArray)->(List Int)->Option Y5) (fun _ _ _ _ _ _ _ _ _=>none) (fun _ ih=>G87 ih) n
def F87 (l1:List SmT) (x2:List Y11) (x3:List Y0) (x4:Int) (x5:Int) (in6:List Bool) (l7:TN) (l8:List ByteArray) (l9:List Int):Option Y5:=N87 1000 l1 x2 x3 x4 x5 in6 l7 l8 l9
def Zxe (i46:Int):(Y1×(List Y0)×Int×Int×List Bool×List Int×TN×List ByteArray×List Int)->Option (Y22⊕Y2):=fun (x56,x57,x58,x59,in60,which61,l62,l63,l64)=>
 some (.inl (IntKind.wrap .i64 (i46+1),x56,x57,x58,x59,in60,which61,l62,l63,l64))
def ZuB (r25:Int×Y1×(List Y0)×Int×Int×TN×List ByteArray×List Int) (r127:Int×TN):Y31->Option (Y31⊕Y2):=fun (j139,x140,x141,x142,x143,which144,old145,l146,l147)=>
 bif decide (j139 < (which144.length:Int)) then
 (F26 25 (IntKind.wrap .i64 (1+j139)) ([r127.1]:List Int) l146).bind fun r148=>
 (gI which144 j139).bind fun y149=>
 (gI which144 j139).bind fun y150=>
 (gI which144 j139).bind fun y151=>
 (gI which144 j139).bind fun y152=>
 (gI old145 y152).bind fun y153=>
 (gI old145 y152).bind fun y154=>
 (F50 r25.1 r148.1 y154 r148.2).bind fun r155=>
 (gI old145 y150).bind fun y156=>
 (gI old145 y150).bind fun y157=>
 some (.inl (IntKind.wrap .i64 (j139+1),x140,x141,x142,x143,which144,Zaq old145 y150 r155.1,r155.2,l147))
 else
 (some (x140,x141,x142,x143,l146,l147,old145)).map .inr
def Zxi (x21:Int) (r25:Int×Y1×(List Y0)×Int×Int×TN×List ByteArray×List Int) (x49:Int):Y12->Option (Y12⊕Y2):=fun (j112,x113,x114,x115,x116,which117,old118,kids119,l120,l121,l122)=>
 bif decide (j112 < (which117.length:Int)) then
 (gI which117 j112).bind fun y123=>
 (gI which117 j112).bind fun y124=>
 (gI l122 y124).bind fun y125=>
 (gI l122 y124).bind fun y126=>
 bif decide (kids119.length+List.length ([y126]:List Int)<=1000000) then
 some (.inl (IntKind.wrap .i64 (j112+1),x113,x114,x115,x116,which117,old118,kids119++([y126]:List Int),l120,l121,l122))
 else none
 else
 ((F26 31 x21 kids119 l120).bind fun r127=>
 (F26 25 0 ([r127.1]:List Int) r127.2).bind fun r128=>
 (F50 r25.1 r128.1 x49 r128.2).bind fun r129=>
 Zao (ZuB r25 r127) (0,x113,x114,r129.1,x116,which117,old118,r129.2,l121)).map .inr
def Zxj (s10:Int) (s11:Int) (s12:ByteArray) (s13:Int) (s14:List ExT) (s16:List SmT) (x21:Int) (r25:Int×Y1×(List Y0)×Int×Int×TN×List ByteArray×List Int) (x49:Int) (rec27:(List SmT)->Y1->(List Y0)->Int->Int->TN->(List ByteArray)->(List Int)->Option Y2):Y12->Option (Y12⊕Y2):=fun (j79,x80,x81,x82,x83,which84,old85,kids86,l87,l88,l89)=>
 bif decide (j79 < (which84.length:Int)) then
 (gI which84 j79).bind fun y90=>
 (gI which84 j79).bind fun y91=>
 (gI old85 y91).bind fun y92=>
 (gI old85 y91).bind fun y93=>
 bif decide (kids86.length+List.length ([y93]:List Int)<=1000000) then
 (gI which84 j79).bind fun y94=>
 (gI which84 j79).bind fun y95=>
 (F26 3 (IntKind.wrap .i64 ((IntKind.wrap .i64 ((IntKind.wrap .i64 (16 * x21))+1))+j79)) [] l87).bind fun r96=>
 (gI l89 y95).bind fun y97=>
 (gI l89 y95).bind fun y98=>
 some (.inl (IntKind.wrap .i64 (j79+1),x80,x81,x82,x83,which84,old85,kids86++([y93]:List Int),r96.2,l88,Zaq l89 y95 r96.1))
 else none
 else
 ((rec27 s16 x80 x81 x82 x83 l87 l88 l89).bind fun r99=>
 (F28 s10 s11 s12 s13 s14 r99.1 r99.2.1 r99.2.2.1 r99.2.2.2.1 r99.2.2.2.2.1 r99.2.2.2.2.2.1 r99.2.2.2.2.2.2).bind fun r100=>
 bif decide (kids86.length+List.length ([r100.1,r100.2.2.2.1]:List Int)<=1000000) then
 Zao (Zxi x21 r25 x49) (0,r100.2.1,r100.2.2.1,r100.2.2.2.1,r100.2.2.2.2.1,which84,old85,kids86++([r100.1,r100.2.2.2.1]:List Int),r100.2.2.2.2.2.1,r100.2.2.2.2.2.2.1,r100.2.2.2.2.2.2.2)
 else none).map .inr
def Zxk (s10:Int) (s11:Int) (s12:ByteArray) (s13:Int) (s14:List ExT) (s16:List SmT) (x21:Int) (r25:Int×Y1×(List Y0)×Int×Int×TN×List ByteArray×List Int) (rec27:(List SmT)->Y1->(List Y0)->Int->Int->TN->(List ByteArray)->(List Int)->Option Y2):Y22->Option (Y22⊕Y2):=fun (i46,x47,x48,x49,x50,in51,which52,l53,l54,l55)=>
 bif decide (i46 < (in51.length:Int)) then
 ((gI in51 i46).bind fun y65=>
 (gI in51 i46).bind fun y66=>
 bif y66 then
 bif decide (which52.length+List.length ([i46]:List Int)<=1000000) then
 some (.inl (x47,x48,x49,x50,in51,which52++([i46]:List Int),l53,l54,l55))
 else none
 else
 some (.inl (x47,x48,x49,x50,in51,which52,l53,l54,l55))).bind (Sum.elim (Zxe i46) some)
 else
 (bif decide (List.length ([]:List Int)+l55.length<=1000000) then
 (F26 3 (IntKind.wrap .i64 (16 * x21)) [] l53).bind fun r67=>
 Zao (Zxj s10 s11 s12 s13 s14 s16 x21 r25 x49 rec27) (0,x47,x48,r67.1,x50,which52,([]:List Int)++l55,([x49]:List Int),r67.2,l54,l55)
 else none).map .inr
def E71 (rec27:(List SmT)->Y1->(List Y0)->Int->Int->TN->(List ByteArray)->(List Int)->Option Y2) (s1:Int) (s2:ByteArray) (s3:ByteArray) (s4:Int) (s5:Int) (s6:Int) (s7:ByteArray) (s8:Int) (s9:List ExT) (s10:Int) (s11:Int) (s12:ByteArray) (s13:Int) (s14:List ExT) (s15:List ExT) (s16:List SmT) (s17:List SmT) (x18:List Y11) (x19:List Y0) (x20:Int) (x21:Int) (l22:TN) (l23:List ByteArray) (l24:List Int):Option Y2:=
 (F28 s10 s11 s12 s13 s14 x18 x19 x20 (IntKind.wrap .i64 (x21+1)) l22 l23 l24).bind fun r25=>
 bif decide ((0:Int)<=(r25.2.2.2.2.2.2.2.length:Int)/\((r25.2.2.2.2.2.2.2.length:Int):Int)=(r25.2.2.2.2.2.2.2.length:Int)/\((r25.2.2.2.2.2.2.2.length:Int):Int)<=1000000) then
 (F87 s16 r25.2.1 r25.2.2.1 r25.2.2.2.1 r25.2.2.2.2.1 (List.replicate (Int.toNat (r25.2.2.2.2.2.2.2.length:Int)) false:List Bool) r25.2.2.2.2.2.1 r25.2.2.2.2.2.2.1 r25.2.2.2.2.2.2.2).bind fun r26=>
 Zao (Zxk s10 s11 s12 s13 s14 s16 x21 r25 rec27) (0,r26.1,r26.2.1,r26.2.2.1,r26.2.2.2.1,r26.2.2.2.2.1,[],r26.2.2.2.2.2.1,r26.2.2.2.2.2.2.1,r26.2.2.2.2.2.2.2)
 else none
def Z9x (s1:Int×ByteArray×ByteArray×Int×Y3×Y3×List ExT×List SmT×List SmT):Y17->Option (Y17⊕Y2):=fun (k39,x40,x41,x42,x43,args44,l45,l46,l47)=>
 bif decide (k39 < (s1.2.2.2.2.2.2.1.length:Int)) then
 (gI s1.2.2.2.2.2.2.1 k39).bind fun y48=>
 (F28 ((ZGt y48).1) ((ZGt y48).2.1) ((ZGt y48).2.2.1) ((ZGt y48).2.2.2.1) ((ZGt y48).2.2.2.2) x40 x41 x42 x43 l45 l46 l47).bind fun r49=>
 bif decide (args44.length+List.length ([r49.1]:List Int)<=1000000) then
 some (.inl (IntKind.wrap .i64 (k39+1),r49.2.1,r49.2.2.1,r49.2.2.2.1,r49.2.2.2.2.1,args44++([r49.1]:List Int),r49.2.2.2.2.2.1,r49.2.2.2.2.2.2.1,r49.2.2.2.2.2.2.2))
 else none
 else
 ((F69 (x40,x41) s1.2.2.1).bind fun r50=>
 bif decide (List.length ([x42]:List Int)+args44.length<=1000000) then
 (F26 30 r50 (([x42]:List Int)++args44) l45).bind fun r51=>
 (F47 s1.2.1 l46).bind fun r52=>
 (F26 24 0 ([r51.1]:List Int) r51.2).bind fun r53=>
 (gI l47 r52.1).bind fun y54=>
 (gI l47 r52.1).bind fun y55=>
 some (x40,x41,r51.1,x43,r53.2,r52.2,Zaq l47 r52.1 r53.1)
 else none).map .inr
def ZIN (r56:Int×Y1×(List Y0)×Int×Int×TN×List ByteArray×List Int) (r57:Y1×(List Y0)×Int×Int×TN×List ByteArray×List Int):Y17->Option (Y17⊕Y2):=fun (k68,x69,x70,x71,x72,a73,l74,l75,l76)=>
 bif decide (k68 < (l76.length:Int)) then
 (gI a73 k68).bind fun y77=>
 (gI a73 k68).bind fun y78=>
 (gI l76 k68).bind fun y79=>
 (gI l76 k68).bind fun y80=>
 (F50 r56.1 y78 y80 l74).bind fun r81=>
 (gI l76 k68).bind fun y82=>
 (gI l76 k68).bind fun y83=>
 some (.inl (IntKind.wrap .i64 (k68+1),x69,x70,x71,x72,a73,r81.2,l75,Zaq l76 k68 r81.1))
 else
 ((F50 r56.1 r57.2.2.1 x71 l74).bind fun r84=>
 some (x69,x70,r84.1,x72,r84.2,l75,l76)).map .inr
def E46 (rec27:(List SmT)->Y1->(List Y0)->Int->Int->TN->(List ByteArray)->(List Int)->Option Y2) (s1:Int×ByteArray×ByteArray×Int×Y3×Y3×List ExT×List SmT×List SmT) (x2:List Y11) (x3:List Y0) (x4:Int) (x5:Int) (l6:TN) (l7:List ByteArray) (l8:List Int):Option Y2:=
 bif s1.1==1 then
 (F28 s1.2.2.2.2.2.1.1 s1.2.2.2.2.2.1.2.1 s1.2.2.2.2.2.1.2.2.1 s1.2.2.2.2.2.1.2.2.2.1 s1.2.2.2.2.2.1.2.2.2.2 x2 x3 x4 x5 l6 l7 l8).bind fun r9=>
 (F47 s1.2.1 r9.2.2.2.2.2.2.1).bind fun r10=>
 (gI r9.2.2.2.2.2.2.2 r10.1).bind fun y11=>
 (gI r9.2.2.2.2.2.2.2 r10.1).bind fun y12=>
 some (r9.2.1,r9.2.2.1,r9.2.2.2.1,r9.2.2.2.2.1,r9.2.2.2.2.2.1,r10.2,Zaq r9.2.2.2.2.2.2.2 r10.1 r9.1)
 else
 bif s1.1==2 then
 (F28 s1.2.2.2.2.1.1 s1.2.2.2.2.1.2.1 s1.2.2.2.2.1.2.2.1 s1.2.2.2.2.1.2.2.2.1 s1.2.2.2.2.1.2.2.2.2 x2 x3 x4 x5 l6 l7 l8).bind fun r13=>
 (F28 s1.2.2.2.2.2.1.1 s1.2.2.2.2.2.1.2.1 s1.2.2.2.2.2.1.2.2.1 s1.2.2.2.2.2.1.2.2.2.1 s1.2.2.2.2.2.1.2.2.2.2 r13.2.1 r13.2.2.1 r13.2.2.2.1 r13.2.2.2.2.1 r13.2.2.2.2.2.1 r13.2.2.2.2.2.2.1 r13.2.2.2.2.2.2.2).bind fun r14=>
 (F48 s1.2.1 r14.2.1).bind fun r15=>
 (F49 r15.1 r13.1 r15.2 r14.2.2.1 r14.2.2.2.1 r14.2.2.2.2.1 r14.2.2.2.2.2.1 r14.2.2.2.2.2.2.1 r14.2.2.2.2.2.2.2).bind fun r16=>
 (F26 28 r15.1 ([r16.2.2.1,r13.1,r14.1]:List Int) r16.2.2.2.2.1).bind fun r17=>
 some (r16.1,r16.2.1,r17.1,r16.2.2.2.1,r17.2,r16.2.2.2.2.2.1,r16.2.2.2.2.2.2)
 else
 bif s1.1==5 then
 (F28 s1.2.2.2.2.2.1.1 s1.2.2.2.2.2.1.2.1 s1.2.2.2.2.2.1.2.2.1 s1.2.2.2.2.2.1.2.2.2.1 s1.2.2.2.2.2.1.2.2.2.2 x2 x3 x4 x5 l6 l7 l8).bind fun r18=>
 (F26 29 0 ([r18.2.2.2.1,r18.1]:List Int) r18.2.2.2.2.2.1).bind fun r19=>
 some (r18.2.1,r18.2.2.1,r19.1,r18.2.2.2.2.1,r19.2,r18.2.2.2.2.2.2.1,r18.2.2.2.2.2.2.2)
 else
 bif s1.1==7 then
 (F26 1 0 [] l6).bind fun r20=>
 (F26 27 (IntKind.wrap .i64 (16+s1.2.2.2.1)) ([x4,r20.1]:List Int) r20.2).bind fun r21=>
 some (x2,x3,r21.1,x5,r21.2,l7,l8)
 else
 bif s1.1==6 then
 Zao (Z9x s1) (0,x2,x3,x4,x5,[],l6,l7,l8)
 else
 bif s1.1==3 then
 (F28 s1.2.2.2.2.2.1.1 s1.2.2.2.2.2.1.2.1 s1.2.2.2.2.2.1.2.2.1 s1.2.2.2.2.2.1.2.2.2.1 s1.2.2.2.2.2.1.2.2.2.2 x2 x3 x4 x5 l6 l7 l8).bind fun r56=>
 bif decide (List.length ([]:List Int)+r56.2.2.2.2.2.2.2.length<=1000000) then
 (rec27 s1.2.2.2.2.2.2.2.1 r56.2.1 r56.2.2.1 r56.2.2.2.1 r56.2.2.2.2.1 r56.2.2.2.2.2.1 r56.2.2.2.2.2.2.1 r56.2.2.2.2.2.2.2).bind fun r57=>
 (rec27 s1.2.2.2.2.2.2.2.2 r57.1 r57.2.1 r56.2.2.2.1 r57.2.2.2.1 r57.2.2.2.2.1 r57.2.2.2.2.2.1 (([]:List Int)++r56.2.2.2.2.2.2.2)).bind fun r58=>
 Zao (ZIN r56 r57) (0,r58.1,r58.2.1,r58.2.2.1,r58.2.2.2.1,r57.2.2.2.2.2.2,r58.2.2.2.2.1,r58.2.2.2.2.2.1,r58.2.2.2.2.2.2)
 else none
 else
 bif s1.1==4 then
 (E71 rec27 s1.1 s1.2.1 s1.2.2.1 s1.2.2.2.1 s1.2.2.2.2.1.1 s1.2.2.2.2.1.2.1 s1.2.2.2.2.1.2.2.1 s1.2.2.2.2.1.2.2.2.1 s1.2.2.2.2.1.2.2.2.2 s1.2.2.2.2.2.1.1 s1.2.2.2.2.2.1.2.1 s1.2.2.2.2.2.1.2.2.1 s1.2.2.2.2.2.1.2.2.2.1 s1.2.2.2.2.2.1.2.2.2.2 s1.2.2.2.2.2.2.1 s1.2.2.2.2.2.2.2.1 s1.2.2.2.2.2.2.2.2 x2 x3 x4 x5 l6 l7 l8).bind fun r85=>
 some r85
 else
 some (x2,x3,x4,x5,l6,l7,l8)
def Z8F (rec27:(List SmT)->Y1->(List Y0)->Int->Int->TN->(List ByteArray)->(List Int)->Option Y2) (l1:List SmT):Y6->Option (Y6⊕Y2):=fun (i17,x18,x19,x20,x21,l22,l23,l24)=>
 bif decide (i17 < (l1.length:Int)) then
 (gI l1 i17).bind fun y25=>
 (E46 rec27 (ZGo y25) x18 x19 x20 x21 l22 l23 l24).bind fun r26=>
 some (.inl (IntKind.wrap .i64 (i17+1),r26.1,r26.2.1,r26.2.2.1,r26.2.2.2.1,r26.2.2.2.2.1,r26.2.2.2.2.2.1,r26.2.2.2.2.2.2))
 else
 (some (x18,x19,x20,x21,l22,l23,l24)).map .inr
def G27 (rec27:(List SmT)->Y1->(List Y0)->Int->Int->TN->(List ByteArray)->(List Int)->Option Y2) (l1:List SmT) (x2:List Y11) (x3:List Y0) (x4:Int) (x5:Int) (l6:TN) (l7:List ByteArray) (l8:List Int):Option Y2:=
 Zao (Z8F rec27 l1) (0,x2,x3,x4,x5,l6,l7,l8)
def N27 (n:Nat):(List SmT)->Y1->(List Y0)->Int->Int->TN->(List ByteArray)->(List Int)->Option Y2:=Nat.rec (motive:=fun _=>(List SmT)->Y1->(List Y0)->Int->Int->TN->(List ByteArray)->(List Int)->Option Y2) (fun _ _ _ _ _ _ _ _=>none) (fun _ ih=>G27 ih) n
def F27 (l1:List SmT) (x2:List Y11) (x3:List Y0) (x4:Int) (x5:Int) (l6:TN) (l7:List ByteArray) (l8:List Int):Option Y2:=N27 1000 l1 x2 x3 x4 x5 l6 l7 l8
def ZIO (i8:Int) (y11:ByteArray×List ByteArray×List ByteArray×List SmT×Int×Int×ByteArray×Int×List ExT):Y14->Option (Y14⊕Y29):=fun (k53,x54,x55,x56,x57,l58,l59,l60,l61,l62)=>
 bif decide (k53 < (y11.2.2.1.length:Int)) then
 (gI y11.2.2.1 k53).bind fun y63=>
 bif decide (l61.length+List.length ([y63]:List ByteArray)<=1000000) then
 (F26 1 0 [] l60).bind fun r64=>
 bif decide (l62.length+List.length ([r64.1]:List Int)<=1000000) then
 some (.inl (IntKind.wrap .i64 (k53+1),x54,x55,x56,x57,l58,l59,r64.2,l61++([y63]:List ByteArray),l62++([r64.1]:List Int)))
 else none
 else none
 else
 ((F27 y11.2.2.2.1 x54 x55 x56 x57 l60 l61 l62).bind fun r65=>
 (F28 y11.2.2.2.2.1 y11.2.2.2.2.2.1 y11.2.2.2.2.2.2.1 y11.2.2.2.2.2.2.2.1 y11.2.2.2.2.2.2.2.2 r65.1 r65.2.1 r65.2.2.1 r65.2.2.2.1 r65.2.2.2.2.1 r65.2.2.2.2.2.1 r65.2.2.2.2.2.2).bind fun r66=>
 bif decide ((r66.2.2.2.2.2.1.length:Int) > 2000) then
 (some (([],[]),6)).map .inr
 else
 bif decide (l59.length+List.length ([(y11.1,(y11.2.1.length:Int),r66.2.2.2.2.2.1,r66.1,r66.2.2.2.1)]:List Y9)<=1000000) then
 some (.inl (IntKind.wrap .i64 (i8+1),l58,l59++([(y11.1,(y11.2.1.length:Int),r66.2.2.2.2.2.1,r66.1,r66.2.2.2.1)]:List Y9)))
 else none).map .inr
def ZAs (i8:Int) (y11:ByteArray×List ByteArray×List ByteArray×List SmT×Int×Int×ByteArray×Int×List ExT):Y14->Option (Y14⊕Y29):=fun (k31,x32,x33,x34,x35,l36,l37,l38,l39,l40)=>
 bif decide (k31 < (y11.2.1.length:Int)) then
 (gI y11.2.1 k31).bind fun y41=>
 bif decide (l39.length+List.length ([y41]:List ByteArray)<=1000000) then
 (F26 2 k31 [] l38).bind fun r42=>
 bif decide (l40.length+List.length ([r42.1]:List Int)<=1000000) then
 some (.inl (IntKind.wrap .i64 (k31+1),x32,x33,x34,x35,l36,l37,r42.2,l39++([y41]:List ByteArray),l40++([r42.1]:List Int)))
 else none
 else none
 else
 (Zao (ZIO i8 y11) (0,x32,x33,x34,x35,l36,l37,l38,l39,l40)).map .inr
def Z8V (p1:Y1×List Y0):(Int×Y1×List Y9)->Option Y29:=fun (i8,l9,l10)=>
 bif decide (i8 < (p1.2.length:Int)) then
 (gI p1.2 i8).bind fun y11=>
 (F26 26 0 [] []).bind fun r12=>
 Zao (ZAs i8 y11) (0,p1.1,p1.2,r12.1,0,l9,l10,r12.2,[],[])
 else
 (some ((l9,l10),0)).map .inr
def F10 (p1:Y1×List Y0):Option ((Y1×List Y9)×Int):=
 (F25 p1).bind fun r2=>
 bif r2 != 0 then
 some (([],[]),r2)
 else
 bif decide (List.length ([]:List Y11)+p1.1.length<=1000000) then
 Zao (Z8V p1) (0,([]:List Y11)++p1.1,[])
 else none
def Z5O:Int->Option Int:=fun n3=>
 some n3
def F5 (n1:Int) (m2:Int):Option Int:=
 bif decide (m2=0) then none else
 (bif decide ((Int.tmod n1 m2) < 0) then
 some (.inl (IntKind.wrap .i64 ((Int.tmod n1 m2)+m2)))
 else
 some (.inl (Int.tmod n1 m2))).bind (Sum.elim Z5O some)
def F52 (f1:Int):Option (List ByteArray):=
 bif f1==0 then
 some ([(ByteArray.mk #[120]),(ByteArray.mk #[121]),(ByteArray.mk #[105]),(ByteArray.mk #[106])]:List ByteArray)
 else
 some ([(ByteArray.mk #[110]),(ByteArray.mk #[105])]:List ByteArray)
def F53 (n1:Int) (raw2:Int):Option Int:=
 (F5 n1 24).bind fun r3=>
 bif decide (r3 < 10) then
 (gI ([0,1,(-1),2,(-9223372036854775808),9223372036854775807,4294967296,(-2147483648),63,64]:List Int) r3).bind fun y4=>
 (gI ([0,1,(-1),2,(-9223372036854775808),9223372036854775807,4294967296,(-2147483648),63,64]:List Int) r3).bind fun y5=>
 some y5
 else
 bif decide (r3 < 22) then
 (F5 (IntKind.wrap .i64 (Int.tdiv n1 24)) 17).bind fun r6=>
 some (IntKind.wrap .i64 (r6 - 6))
 else
 some raw2
def F29 (x1:Int) (l2:List Int):Option Y28:=
 bif (l2.length:Int)==0 then
 some (0,x1,l2)
 else
 (gI l2 0).bind fun y3=>
 (gI l2 0).bind fun y4=>
 bif decide ((0:Int)<=1/\(1:Int)<=(l2.length:Int)/\(l2.length:Int)<=(l2.length:Int)) then
 some (y4,x1,slI l2 1 (l2.length:Int))
 else none
def Z9z (r5:Int×Int×List Int) (r6:List ByteArray) (r8:Int):Y42->Option Y8:=fun (x16,x17,l18,l19,l20,l21,l22)=>
 bif x16 then
 bif decide ((r6.length:Int)=0) then none else
 (gI r6 (Int.tmod r8 (r6.length:Int))).bind fun y23=>
 some (2,0,y23,0,x17,[],l22)
 else
 (F53 r8 r5.1).bind fun r24=>
 some (1,r24,ByteArray.empty,0,x17,[],l22)
def Z5B (rec31:Int->Int->Int->(List Int)->Option Y8) (f1:Int) (deep2:Int) (r5:Int×Int×List Int) (r6:List ByteArray) (r7:Int) (r8:Int):Y42->Option Y8:=fun (x9,x10,l11,l12,l13,l14,l15)=>
 bif x9 then
 (bif (Int.tmod r7 2)==0 then
 some (.inl (true,x10,l11,l12,l13,l14,l15))
 else
 bif decide (deep2 > 3) then
 some (.inl (decide (r7 > 8),x10,l11,l12,l13,l14,l15))
 else
 some (.inl (false,x10,l11,l12,l13,l14,l15))).bind (Sum.elim (Z9z r5 r6 r8) some)
 else
 bif decide (r7 < 6) then
 (gI ([(ByteArray.mk #[97]),(ByteArray.mk #[98])]:List ByteArray) (Int.tmod r8 2)).bind fun y25=>
 (gI ([(ByteArray.mk #[97]),(ByteArray.mk #[98])]:List ByteArray) (Int.tmod r8 2)).bind fun y26=>
 (rec31 f1 (IntKind.wrap .i64 (deep2+1)) x10 l15).bind fun r27=>
 some (3,0,y26,0,r27.2.2.2.2.1,([ExT.mk r27.1 r27.2.1 r27.2.2.1 r27.2.2.2.1 r27.2.2.2.2.2.1]:List ExT),r27.2.2.2.2.2.2)
 else
 bif decide (r7 < 7) then
 (rec31 f1 (IntKind.wrap .i64 (deep2+1)) x10 l15).bind fun r28=>
 (rec31 f1 (IntKind.wrap .i64 (deep2+1)) r28.2.2.2.2.1 r28.2.2.2.2.2.2).bind fun r29=>
 (rec31 f1 (IntKind.wrap .i64 (deep2+1)) r29.2.2.2.2.1 r29.2.2.2.2.2.2).bind fun r30=>
 some (5,0,ByteArray.empty,0,r30.2.2.2.2.1,([ExT.mk r28.1 r28.2.1 r28.2.2.1 r28.2.2.2.1 r28.2.2.2.2.2.1,ExT.mk r29.1 r29.2.1 r29.2.2.1 r29.2.2.2.1 r29.2.2.2.2.2.1,ExT.mk r30.1 r30.2.1 r30.2.2.1 r30.2.2.2.1 r30.2.2.2.2.2.1]:List ExT),r30.2.2.2.2.2.2)
 else
 bif decide (r7 < 9) then
 (gI ([20,21]:List Int) (Int.tmod r8 2)).bind fun y31=>
 (gI ([20,21]:List Int) (Int.tmod r8 2)).bind fun y32=>
 (rec31 f1 (IntKind.wrap .i64 (deep2+1)) x10 l15).bind fun r33=>
 some (4,0,ByteArray.empty,y32,r33.2.2.2.2.1,([ExT.mk r33.1 r33.2.1 r33.2.2.1 r33.2.2.2.1 r33.2.2.2.2.2.1]:List ExT),r33.2.2.2.2.2.2)
 else
 (rec31 f1 (IntKind.wrap .i64 (deep2+1)) x10 l15).bind fun r34=>
 (rec31 f1 (IntKind.wrap .i64 (deep2+1)) r34.2.2.2.2.1 r34.2.2.2.2.2.2).bind fun r35=>
 some (4,0,ByteArray.empty,IntKind.wrap .i64 (4+(Int.tmod r8 15)),r35.2.2.2.2.1,([ExT.mk r34.1 r34.2.1 r34.2.2.1 r34.2.2.2.1 r34.2.2.2.2.2.1,ExT.mk r35.1 r35.2.1 r35.2.2.1 r35.2.2.2.1 r35.2.2.2.2.2.1]:List ExT),r35.2.2.2.2.2.2)
def G31 (rec31:Int->Int->Int->(List Int)->Option Y8) (f1:Int) (deep2:Int) (x3:Int) (l4:List Int):Option Y8:=
 (F29 x3 l4).bind fun r5=>
 (F52 f1).bind fun r6=>
 (F5 r5.1 16).bind fun r7=>
 (F5 (IntKind.wrap .i64 (Int.tdiv r5.1 16)) 1000).bind fun r8=>
 (bif decide (r7 < 4) then
 some (.inl (true,r5.2.1,0,0,ByteArray.empty,0,r5.2.2))
 else
 some (.inl (decide (deep2 > 3),r5.2.1,0,0,ByteArray.empty,0,r5.2.2))).bind (Sum.elim (Z5B rec31 f1 deep2 r5 r6 r7 r8) some)
def N31 (n:Nat):Int->Int->Int->(List Int)->Option Y8:=Nat.rec (motive:=fun _=>Int->Int->Int->(List Int)->Option Y8) (fun _ _ _ _=>none) (fun _ ih=>G31 ih) n
def F31 (f1:Int) (deep2:Int) (x3:Int) (l4:List Int):Option Y8:=N31 1000 f1 deep2 x3 l4
def ZEk (r8:Int):(Bool×Int×Int×ByteArray×ByteArray×Int×Int×Int×ByteArray×Int×Int×Int×ByteArray×Int×List Int)->Option (Y24⊕Y4):=fun (x24,x25,l26,l27,l28,l29,l30,l31,l32,l33,l34,l35,l36,l37,l38)=>
 bif x24 then
 some (.inl (0,x25,l26,l27,l28,l29,l30,l31,l32,l33,l34,l35,l36,l37,l38))
 else
 some (.inl (r8,x25,l26,l27,l28,l29,l30,l31,l32,l33,l34,l35,l36,l37,l38))
def ZEp (f1:Int) (r7:Int):Y18->Option (Y18⊕Y4):=fun (j109,x110,l111,l112,l113,l114,l115,l116,l117,l118,l119,l120,l121,l122,s123,s124,s125,s126,s127,s128,s129,s130,s131,s132,s133,s134,l135,l136)=>
 bif decide (j109 < (IntKind.wrap .i64 (2 - (Int.tmod r7 2)))) then
 (F31 f1 2 x110 l135).bind fun r137=>
 bif decide (l136.length+List.length ([ExT.mk r137.1 r137.2.1 r137.2.2.1 r137.2.2.2.1 r137.2.2.2.2.2.1]:List ExT)<=1000000) then
 some (.inl (IntKind.wrap .i64 (j109+1),r137.2.2.2.2.1,l111,l112,l113,l114,l115,l116,l117,l118,l119,l120,l121,l122,s123,s124,s125,s126,s127,s128,s129,s130,s131,s132,s133,s134,r137.2.2.2.2.2.2,l136++([ExT.mk r137.1 r137.2.1 r137.2.2.1 r137.2.2.2.1 r137.2.2.2.2.2.1]:List ExT)))
 else none
 else
 (some (s123,s124,s125,s126,s127,s128,s129,s130,s131,s132,s133,s134,x110,[],[],l136,[],[],l135)).map .inr
def ZEq (f1:Int) (deep2:Int) (r6:List ByteArray) (r7:Int) (rec30:Int->Int->Int->Int->(List Int)->Option Y15):Y24->Option Y4:=fun (k9,x10,l11,l12,l13,l14,l15,l16,l17,l18,l19,l20,l21,l22,l23)=>
 bif decide (k9 < 6) then
 bif decide ((r6.length:Int)=0) then none else
 (gI r6 (Int.tmod r7 (r6.length:Int))).bind fun y39=>
 (F31 f1 0 x10 l23).bind fun r40=>
 some (1,y39,ByteArray.empty,0,0,0,ByteArray.empty,0,r40.1,r40.2.1,r40.2.2.1,r40.2.2.2.1,r40.2.2.2.2.1,[],r40.2.2.2.2.2.1,[],[],[],r40.2.2.2.2.2.2)
 else
 bif decide (k9 < 8) then
 (gI ([(ByteArray.mk #[97]),(ByteArray.mk #[98])]:List ByteArray) (Int.tmod r7 2)).bind fun y41=>
 (gI ([(ByteArray.mk #[97]),(ByteArray.mk #[98])]:List ByteArray) (Int.tmod r7 2)).bind fun y42=>
 (F31 f1 2 x10 l23).bind fun r43=>
 (F31 f1 1 r43.2.2.2.2.1 r43.2.2.2.2.2.2).bind fun r44=>
 some (2,y42,ByteArray.empty,0,r43.1,r43.2.1,r43.2.2.1,r43.2.2.2.1,r44.1,r44.2.1,r44.2.2.1,r44.2.2.2.1,r44.2.2.2.2.1,r43.2.2.2.2.2.1,r44.2.2.2.2.2.1,[],[],[],r44.2.2.2.2.2.2)
 else
 bif decide (k9 < 10) then
 (F31 f1 1 x10 l23).bind fun r45=>
 (rec30 f1 (IntKind.wrap .i64 (deep2+1)) 3 r45.2.2.2.2.1 r45.2.2.2.2.2.2).bind fun r46=>
 (rec30 f1 (IntKind.wrap .i64 (deep2+1)) 2 r46.1 r46.2.2).bind fun r47=>
 some (3,ByteArray.empty,ByteArray.empty,0,0,0,ByteArray.empty,0,r45.1,r45.2.1,r45.2.2.1,r45.2.2.2.1,r47.1,[],r45.2.2.2.2.2.1,[],r46.2.1,r47.2.1,r47.2.2)
 else
 bif decide (k9 < 12) then
 (F31 f1 1 (IntKind.wrap .i64 (x10+1)) l23).bind fun r48=>
 (rec30 f1 (IntKind.wrap .i64 (deep2+1)) 3 r48.2.2.2.2.1 r48.2.2.2.2.2.2).bind fun r49=>
 some (4,ByteArray.empty,ByteArray.empty,0,0,0,ByteArray.empty,0,r48.1,r48.2.1,r48.2.2.1,r48.2.2.2.1,r49.1,[],r48.2.2.2.2.2.1,[],r49.2.1,[],r49.2.2)
 else
 bif decide (k9 < 14) then
 (F31 f1 1 x10 l23).bind fun r50=>
 some (5,ByteArray.empty,ByteArray.empty,0,0,0,ByteArray.empty,0,r50.1,r50.2.1,r50.2.2.1,r50.2.2.2.1,r50.2.2.2.2.1,[],r50.2.2.2.2.2.1,[],[],[],r50.2.2.2.2.2.2)
 else
 bif decide (k9 < 15) then
 bif decide ((r6.length:Int)=0) then none else
 (gI r6 (Int.tmod r7 (r6.length:Int))).bind fun y51=>
 (gI ([(ByteArray.mk #[102]),(ByteArray.mk #[103])]:List ByteArray) (Int.tmod r7 2)).bind fun y52=>
 (gI ([(ByteArray.mk #[102]),(ByteArray.mk #[103])]:List ByteArray) (Int.tmod r7 2)).bind fun y53=>
 Zao (ZEp f1 r7) (0,x10,l11,l12,l13,l14,l15,l16,l17,l18,l19,l20,l21,l22,6,y51,y53,0,0,0,ByteArray.empty,0,0,0,ByteArray.empty,0,l23,[])
 else
 some (7,ByteArray.empty,ByteArray.empty,r7,0,0,ByteArray.empty,0,0,0,ByteArray.empty,0,x10,[],[],[],[],[],l23)
def E51 (rec30:Int->Int->Int->Int->(List Int)->Option Y15) (f1:Int) (deep2:Int) (x3:Int) (l4:List Int):Option Y4:=
 (F29 x3 l4).bind fun r5=>
 (F52 f1).bind fun r6=>
 (F5 (IntKind.wrap .i64 (Int.tdiv r5.1 16)) 1000).bind fun r7=>
 (F5 r5.1 16).bind fun r8=>
 ((bif decide (deep2 > 2) then
 bif decide (r8>=8) then
 bif decide (r8 < 12) then
 some (.inl (true,r5.2.1,0,ByteArray.empty,ByteArray.empty,0,0,0,ByteArray.empty,0,0,0,ByteArray.empty,0,r5.2.2))
 else
 bif decide (r5.2.1>=10) then
 some (.inl (decide (r8>=10),r5.2.1,0,ByteArray.empty,ByteArray.empty,0,0,0,ByteArray.empty,0,0,0,ByteArray.empty,0,r5.2.2))
 else
 some (.inl (false,r5.2.1,0,ByteArray.empty,ByteArray.empty,0,0,0,ByteArray.empty,0,0,0,ByteArray.empty,0,r5.2.2))
 else
 bif decide (r5.2.1>=10) then
 some (.inl (decide (r8>=10),r5.2.1,0,ByteArray.empty,ByteArray.empty,0,0,0,ByteArray.empty,0,0,0,ByteArray.empty,0,r5.2.2))
 else
 some (.inl (false,r5.2.1,0,ByteArray.empty,ByteArray.empty,0,0,0,ByteArray.empty,0,0,0,ByteArray.empty,0,r5.2.2))
 else
 bif decide (r5.2.1>=10) then
 some (.inl (decide (r8>=10),r5.2.1,0,ByteArray.empty,ByteArray.empty,0,0,0,ByteArray.empty,0,0,0,ByteArray.empty,0,r5.2.2))
 else
 some (.inl (false,r5.2.1,0,ByteArray.empty,ByteArray.empty,0,0,0,ByteArray.empty,0,0,0,ByteArray.empty,0,r5.2.2))).bind (Sum.elim (ZEk r8) some)).bind (Sum.elim (ZEq f1 deep2 r6 r7 rec30) some)
def Z5A (rec30:Int->Int->Int->Int->(List Int)->Option Y15) (f1:Int) (deep2:Int) (k15:Int):(Bool×Int×List SmT×List Int)->Option (Y38⊕Y15):=fun (x19,x20,out21,l22)=>
 bif x19 then
 (E51 rec30 f1 deep2 x20 l22).bind fun r23=>
 bif decide (out21.length+List.length ([SmT.mk r23.1 r23.2.1 r23.2.2.1 r23.2.2.2.1 (r23.2.2.2.2.1,r23.2.2.2.2.2.1,r23.2.2.2.2.2.2.1,r23.2.2.2.2.2.2.2.1,r23.2.2.2.2.2.2.2.2.2.2.2.2.2.1) (r23.2.2.2.2.2.2.2.2.1,r23.2.2.2.2.2.2.2.2.2.1,r23.2.2.2.2.2.2.2.2.2.2.1,r23.2.2.2.2.2.2.2.2.2.2.2.1,r23.2.2.2.2.2.2.2.2.2.2.2.2.2.2.1) r23.2.2.2.2.2.2.2.2.2.2.2.2.2.2.2.1 r23.2.2.2.2.2.2.2.2.2.2.2.2.2.2.2.2.1 r23.2.2.2.2.2.2.2.2.2.2.2.2.2.2.2.2.2.1]:List SmT)<=1000000) then
 some (.inl (IntKind.wrap .i64 (k15 - 1),r23.2.2.2.2.2.2.2.2.2.2.2.2.1,out21++([SmT.mk r23.1 r23.2.1 r23.2.2.1 r23.2.2.2.1 (r23.2.2.2.2.1,r23.2.2.2.2.2.1,r23.2.2.2.2.2.2.1,r23.2.2.2.2.2.2.2.1,r23.2.2.2.2.2.2.2.2.2.2.2.2.2.1) (r23.2.2.2.2.2.2.2.2.1,r23.2.2.2.2.2.2.2.2.2.1,r23.2.2.2.2.2.2.2.2.2.2.1,r23.2.2.2.2.2.2.2.2.2.2.2.1,r23.2.2.2.2.2.2.2.2.2.2.2.2.2.2.1) r23.2.2.2.2.2.2.2.2.2.2.2.2.2.2.2.1 r23.2.2.2.2.2.2.2.2.2.2.2.2.2.2.2.2.1 r23.2.2.2.2.2.2.2.2.2.2.2.2.2.2.2.2.2.1]:List SmT),r23.2.2.2.2.2.2.2.2.2.2.2.2.2.2.2.2.2.2))
 else none
 else
 (some (x20,out21,l22)).map .inr
def Z8H (rec30:Int->Int->Int->Int->(List Int)->Option Y15) (f1:Int) (deep2:Int):Y38->Option (Y38⊕Y15):=fun (k15,x16,out17,l18)=>
 (bif decide (k15 > 0) then
 some (.inl (decide ((l18.length:Int) > 0),x16,out17,l18))
 else
 some (.inl (false,x16,out17,l18))).bind (Sum.elim (Z5A rec30 f1 deep2 k15) some)
def G30 (rec30:Int->Int->Int->Int->(List Int)->Option Y15) (f1:Int) (deep2:Int) (most3:Int) (x4:Int) (l5:List Int):Option Y15:=
 (F29 x4 l5).bind fun r6=>
 (F5 r6.1 (IntKind.wrap .i64 (most3+1))).bind fun r7=>
 Zao (Z8H rec30 f1 deep2) (r7,r6.2.1,[],r6.2.2)
def N30 (n:Nat):Int->Int->Int->Int->(List Int)->Option Y15:=Nat.rec (motive:=fun _=>Int->Int->Int->Int->(List Int)->Option Y15) (fun _ _ _ _ _=>none) (fun _ ih=>G30 ih) n
def F30 (f1:Int) (deep2:Int) (most3:Int) (x4:Int) (l5:List Int):Option Y15:=N30 1000 f1 deep2 most3 x4 l5
def F11 (l1:List Int):Option (Y1×List Y0):=
 bif decide ((0:Int)<=0/\(0:Int)<=(if 60 < (l1.length:Int) then 60 else (l1.length:Int))/\(if 60 < (l1.length:Int) then 60 else (l1.length:Int))<=(l1.length:Int)) then
 bif decide (List.length ([]:List Int)+List.length (slI l1 0 (if 60 < (l1.length:Int) then 60 else (l1.length:Int)))<=1000000) then
 (F29 0 (([]:List Int)++(slI l1 0 (if 60 < (l1.length:Int) then 60 else (l1.length:Int))))).bind fun r2=>
 (F5 r2.1 4).bind fun r3=>
 (F5 (IntKind.wrap .i64 (Int.tdiv r2.1 4)) 4).bind fun r4=>
 (F30 0 0 5 r2.2.1 r2.2.2).bind fun r5=>
 (gI ([((ByteArray.mk #[102]),([(ByteArray.mk #[120]),(ByteArray.mk #[121])]:List ByteArray),([(ByteArray.mk #[105]),(ByteArray.mk #[106])]:List ByteArray),[],(0,0,ByteArray.empty,0,[])),((ByteArray.mk #[103]),([(ByteArray.mk #[110])]:List ByteArray),([(ByteArray.mk #[105])]:List ByteArray),[],(0,0,ByteArray.empty,0,[]))]:List Y0) 0).bind fun y6=>
 (gI ([((ByteArray.mk #[102]),([(ByteArray.mk #[120]),(ByteArray.mk #[121])]:List ByteArray),([(ByteArray.mk #[105]),(ByteArray.mk #[106])]:List ByteArray),[],(0,0,ByteArray.empty,0,[])),((ByteArray.mk #[103]),([(ByteArray.mk #[110])]:List ByteArray),([(ByteArray.mk #[105])]:List ByteArray),[],(0,0,ByteArray.empty,0,[]))]:List Y0) 0).bind fun y7=>
 (F31 0 1 r5.1 r5.2.2).bind fun r8=>
 (gI (Zaq ([((ByteArray.mk #[102]),([(ByteArray.mk #[120]),(ByteArray.mk #[121])]:List ByteArray),([(ByteArray.mk #[105]),(ByteArray.mk #[106])]:List ByteArray),[],(0,0,ByteArray.empty,0,[])),((ByteArray.mk #[103]),([(ByteArray.mk #[110])]:List ByteArray),([(ByteArray.mk #[105])]:List ByteArray),[],(0,0,ByteArray.empty,0,[]))]:List Y0) 0 (y7.1,y7.2.1,y7.2.2.1,r5.2.1,y7.2.2.2.2)) 0).bind fun y9=>
 (gI (Zaq ([((ByteArray.mk #[102]),([(ByteArray.mk #[120]),(ByteArray.mk #[121])]:List ByteArray),([(ByteArray.mk #[105]),(ByteArray.mk #[106])]:List ByteArray),[],(0,0,ByteArray.empty,0,[])),((ByteArray.mk #[103]),([(ByteArray.mk #[110])]:List ByteArray),([(ByteArray.mk #[105])]:List ByteArray),[],(0,0,ByteArray.empty,0,[]))]:List Y0) 0 (y7.1,y7.2.1,y7.2.2.1,r5.2.1,y7.2.2.2.2)) 0).bind fun y10=>
 (F30 1 1 3 r8.2.2.2.2.1 r8.2.2.2.2.2.2).bind fun r11=>
 (gI (Zaq (Zaq ([((ByteArray.mk #[102]),([(ByteArray.mk #[120]),(ByteArray.mk #[121])]:List ByteArray),([(ByteArray.mk #[105]),(ByteArray.mk #[106])]:List ByteArray),[],(0,0,ByteArray.empty,0,[])),((ByteArray.mk #[103]),([(ByteArray.mk #[110])]:List ByteArray),([(ByteArray.mk #[105])]:List ByteArray),[],(0,0,ByteArray.empty,0,[]))]:List Y0) 0 (y7.1,y7.2.1,y7.2.2.1,r5.2.1,y7.2.2.2.2)) 0 (y10.1,y10.2.1,y10.2.2.1,y10.2.2.2.1,(r8.1,r8.2.1,r8.2.2.1,r8.2.2.2.1,r8.2.2.2.2.2.1))) 1).bind fun y12=>
 (gI (Zaq (Zaq ([((ByteArray.mk #[102]),([(ByteArray.mk #[120]),(ByteArray.mk #[121])]:List ByteArray),([(ByteArray.mk #[105]),(ByteArray.mk #[106])]:List ByteArray),[],(0,0,ByteArray.empty,0,[])),((ByteArray.mk #[103]),([(ByteArray.mk #[110])]:List ByteArray),([(ByteArray.mk #[105])]:List ByteArray),[],(0,0,ByteArray.empty,0,[]))]:List Y0) 0 (y7.1,y7.2.1,y7.2.2.1,r5.2.1,y7.2.2.2.2)) 0 (y10.1,y10.2.1,y10.2.2.1,y10.2.2.2.1,(r8.1,r8.2.1,r8.2.2.1,r8.2.2.2.1,r8.2.2.2.2.2.1))) 1).bind fun y13=>
 (F31 1 1 r11.1 r11.2.2).bind fun r14=>
 (gI (Zaq (Zaq (Zaq ([((ByteArray.mk #[102]),([(ByteArray.mk #[120]),(ByteArray.mk #[121])]:List ByteArray),([(ByteArray.mk #[105]),(ByteArray.mk #[106])]:List ByteArray),[],(0,0,ByteArray.empty,0,[])),((ByteArray.mk #[103]),([(ByteArray.mk #[110])]:List ByteArray),([(ByteArray.mk #[105])]:List ByteArray),[],(0,0,ByteArray.empty,0,[]))]:List Y0) 0 (y7.1,y7.2.1,y7.2.2.1,r5.2.1,y7.2.2.2.2)) 0 (y10.1,y10.2.1,y10.2.2.1,y10.2.2.2.1,(r8.1,r8.2.1,r8.2.2.1,r8.2.2.2.1,r8.2.2.2.2.2.1))) 1 (y13.1,y13.2.1,y13.2.2.1,r11.2.1,y13.2.2.2.2)) 1).bind fun y15=>
 (gI (Zaq (Zaq (Zaq ([((ByteArray.mk #[102]),([(ByteArray.mk #[120]),(ByteArray.mk #[121])]:List ByteArray),([(ByteArray.mk #[105]),(ByteArray.mk #[106])]:List ByteArray),[],(0,0,ByteArray.empty,0,[])),((ByteArray.mk #[103]),([(ByteArray.mk #[110])]:List ByteArray),([(ByteArray.mk #[105])]:List ByteArray),[],(0,0,ByteArray.empty,0,[]))]:List Y0) 0 (y7.1,y7.2.1,y7.2.2.1,r5.2.1,y7.2.2.2.2)) 0 (y10.1,y10.2.1,y10.2.2.1,y10.2.2.2.1,(r8.1,r8.2.1,r8.2.2.1,r8.2.2.2.1,r8.2.2.2.2.2.1))) 1 (y13.1,y13.2.1,y13.2.2.1,r11.2.1,y13.2.2.2.2)) 1).bind fun y16=>
 some (([((ByteArray.mk #[97]),IntKind.wrap .i64 (1+r3)),((ByteArray.mk #[98]),IntKind.wrap .i64 (1+r4))]:List Y11),Zaq (Zaq (Zaq (Zaq ([((ByteArray.mk #[102]),([(ByteArray.mk #[120]),(ByteArray.mk #[121])]:List ByteArray),([(ByteArray.mk #[105]),(ByteArray.mk #[106])]:List ByteArray),[],(0,0,ByteArray.empty,0,[])),((ByteArray.mk #[103]),([(ByteArray.mk #[110])]:List ByteArray),([(ByteArray.mk #[105])]:List ByteArray),[],(0,0,ByteArray.empty,0,[]))]:List Y0) 0 (y7.1,y7.2.1,y7.2.2.1,r5.2.1,y7.2.2.2.2)) 0 (y10.1,y10.2.1,y10.2.2.1,y10.2.2.2.1,(r8.1,r8.2.1,r8.2.2.1,r8.2.2.2.1,r8.2.2.2.2.2.1))) 1 (y13.1,y13.2.1,y13.2.2.1,r11.2.1,y13.2.2.2.2)) 1 (y16.1,y16.2.1,y16.2.2.1,y16.2.2.2.1,(r14.1,r14.2.1,r14.2.2.1,r14.2.2.2.1,r14.2.2.2.2.2.1)))
 else none
 else none
def F4 (l1:List Int):Option (Y1×List Y9):=
 (F11 l1).bind fun r2=>
 (F10 r2).bind fun r3=>
 some r3.1
def ZIP:Bool->Option (Int×Bool):=fun x7=>
 bif x7 then
 some (2,true)
 else
 some (0,false)
def ZIQ (op1:Int):Bool->Option (Int×Bool):=fun x6=>
 bif x6 then
 some ((-1),true)
 else
 (bif decide (op1>=4) then
 some (.inl (decide (op1<=19)))
 else
 some (.inl false)).bind (Sum.elim ZIP some)
def ZIR (op1:Int):Bool->Option (Int×Bool):=fun x5=>
 bif x5 then
 some (3,true)
 else
 (bif op1==30 then
 some (.inl true)
 else
 some (.inl (op1==31))).bind (Sum.elim (ZIQ op1) some)
def ZIS (op1:Int):Bool->Option (Int×Bool):=fun x4=>
 bif x4 then
 some (2,true)
 else
 (bif op1==22 then
 some (.inl true)
 else
 some (.inl (op1==28))).bind (Sum.elim (ZIR op1) some)
def ZIT (op1:Int):Bool->Option (Int×Bool):=fun x3=>
 bif x3 then
 some (1,true)
 else
 (bif op1==23 then
 some (.inl true)
 else
 bif op1==27 then
 some (.inl true)
 else
 some (.inl (op1==29))).bind (Sum.elim (ZIS op1) some)
def Zxp (op1:Int):Bool->Option (Int×Bool):=fun x2=>
 bif x2 then
 some (0,true)
 else
 (bif op1==20 then
 some (.inl true)
 else
 bif op1==21 then
 some (.inl true)
 else
 bif op1==24 then
 some (.inl true)
 else
 some (.inl (op1==25))).bind (Sum.elim (ZIT op1) some)
def F97 (op1:Int):Option (Int×Bool):=
 (bif op1==1 then
 some (.inl true)
 else
 bif op1==2 then
 some (.inl true)
 else
 bif op1==3 then
 some (.inl true)
 else
 some (.inl (op1==26))).bind (Sum.elim (Zxp op1) some)
def F98 (kids1:Int):Option Int:=
 some (IntKind.wrap .i64 (Int.tdiv (IntKind.wrap .i64 (kids1 - 1)) 2))
def Zxu (s1:List Int) (ZjW:List Int):Int->Option (Int⊕Bool):=fun i4=>
 bif decide (i4 < (s1.length:Int)) then
 (gI s1 i4).bind fun y5=>
 (gI ZjW i4).bind fun y6=>
 bif y5 != y6 then
 (some false).map .inr
 else
 some (.inl (IntKind.wrap .i64 (i4+1)))
 else
 (some true).map .inr
def F99 (s1:List Int) (ZjW:List Int):Option Bool:=
 Zao (Zxu s1 ZjW) 0
def Ztg (kids1:Int):Y7->Option Y20:=fun (i5,l6)=>
 bif decide (i5 < kids1) then
 bif decide (l6.length+List.length ([1]:List Int)<=1000000) then
 some (.inl (IntKind.wrap .i64 (i5+1),l6++([1]:List Int)))
 else none
 else
 ((F98 kids1).bind fun r7=>
 (gI l6 0).bind fun y8=>
 (gI l6 0).bind fun y9=>
 (gI (Zaq l6 0 2) (IntKind.wrap .i64 (r7+1))).bind fun y10=>
 (gI (Zaq l6 0 2) (IntKind.wrap .i64 (r7+1))).bind fun y11=>
 some (Zaq (Zaq l6 0 2) (IntKind.wrap .i64 (r7+1)) 2)).map .inr
def ZuC (kids1:Int):Option (List Int):=
 Zao (Ztg kids1) (0,[])
def ZpB (op1:Int):Bool->Option (List Int):=fun x2=>
 bif x2 then
 some ([2,1]:List Int)
 else
 bif op1==28 then
 some ([2,1,1]:List Int)
 else
 bif op1==24 then
 some ([2]:List Int)
 else
 bif op1==25 then
 some ([3]:List Int)
 else
 some ([1,1]:List Int)
def Z0p (op1:Int):Option (List Int):=
 bif op1==22 then
 some ([1,1,1]:List Int)
 else
 (bif op1==23 then
 some (.inl true)
 else
 bif op1==27 then
 some (.inl true)
 else
 some (.inl (op1==29))).bind (Sum.elim (ZpB op1) some)
def Zyv:Bool->Option Bool:=fun x5=>
 some x5
def ZuV (s2:List Int):Int->Option (Int⊕Bool):=fun x12=>
 bif decide (x12 < (List.length (slI s2 1 (s2.length:Int)):Int)) then
 (gI (slI s2 1 (s2.length:Int)) x12).bind fun y13=>
 bif y13 != 1 then
 (some false).map .inr
 else
 some (.inl (IntKind.wrap .i64 (x12+1)))
 else
 (some true).map .inr
def Zyu (s2:List Int):Bool->Option Bool:=fun x9=>
 bif x9 then
 some false
 else
 bif decide ((0:Int)<=1/\(1:Int)<=(s2.length:Int)/\(s2.length:Int)<=(s2.length:Int)) then
 Zao (ZuV s2) 0
 else none
def ZGH:Bool->Option Bool:=fun x16=>
 some x16
def ZGO (n1:Int×Int×List Int) (s2:List Int):Bool->Option Bool:=fun x14=>
 bif x14 then
 ((gI s2 0).bind fun y17=>
 bif y17==1 then
 (gI s2 2).bind fun y18=>
 some (.inl (y18==2))
 else
 some (.inl false)).bind (Sum.elim ZGH some)
 else
 (Z0p n1.1).bind fun r19=>
 (F99 s2 r19).bind fun r20=>
 some r20
def ZuU (n1:Int×Int×List Int) (s2:List Int):Bool->Option Bool:=fun x4=>
 bif x4 then
 some false
 else
 bif n1.1==31 then
 (bif decide ((s2.length:Int)>=3) then
 bif (Int.tmod (s2.length:Int) 2)==1 then
 (F98 (s2.length:Int)).bind fun r6=>
 bif decide (r6<=16) then
 (ZuC (s2.length:Int)).bind fun r7=>
 (F99 s2 r7).bind fun r8=>
 some (.inl r8)
 else
 some (.inl false)
 else
 some (.inl false)
 else
 some (.inl false)).bind (Sum.elim Zyv some)
 else
 bif n1.1==30 then
 (bif decide ((s2.length:Int) < 1) then
 some (.inl true)
 else
 bif decide ((s2.length:Int) > 7) then
 some (.inl true)
 else
 (gI s2 0).bind fun y10=>
 some (.inl (y10 != 2))).bind (Sum.elim (Zyu s2) some)
 else
 (bif n1.1==22 then
 (gI s2 1).bind fun y15=>
 some (.inl (y15==2))
 else
 some (.inl false)).bind (Sum.elim (ZGO n1 s2) some)
def F88 (n1:Int×Int×List Int) (s2:List Int):Option Bool:=
 (F97 n1.1).bind fun r3=>
 (bif !r3.2 then
 some (.inl true)
 else
 bif decide (r3.1>=0) then
 some (.inl (r3.1 != (s2.length:Int)))
 else
 some (.inl false)).bind (Sum.elim (ZuU n1 s2) some)
def Z7G:Bool->Option (Int⊕Bool):=fun x5=>
 (some x5).map .inr
def Z7F (l1:TN) (n2:Int×Int×List Int):Bool->Option (Int⊕Bool):=fun x4=>
 bif x4 then
 some (.inl 3)
 else
 bif n2.1==27 then
 (bif decide (n2.2.1>=1) then
 some (.inl (decide (n2.2.1<=1000016)))
 else
 some (.inl false)).bind (Sum.elim Z7G some)
 else
 bif n2.1==30 then
 some (.inl 7)
 else
 bif n2.1==31 then
 some (.inl 15)
 else
 bif n2.1==25 then
 (gI n2.2.2 0).bind fun y6=>
 (gI l1 y6).bind fun y7=>
 (F98 (y7.2.2.length:Int)).bind fun r8=>
 some (.inl (IntKind.wrap .i64 (r8 - 1)))
 else
 some (.inl 0)
def Z7e:Bool->Option Bool:=fun x9=>
 some x9
def Zyx (n2:Int×Int×List Int):Int->Option Bool:=fun most3=>
 (bif decide (n2.2.1>=0) then
 some (.inl (decide (n2.2.1<=most3)))
 else
 some (.inl false)).bind (Sum.elim Z7e some)
def F89 (l1:TN) (n2:Int×Int×List Int):Option Bool:=
 (bif n2.1==1 then
 (some true).map .inr
 else
 bif n2.1==2 then
 some (.inl 5)
 else
 bif n2.1==3 then
 some (.inl 255)
 else
 (bif n2.1==23 then
 some (.inl true)
 else
 some (.inl (n2.1==28))).bind (Sum.elim (Z7F l1 n2) some)).bind (Sum.elim (Zyx n2) some)
def Zxs (known3:List Int) (x8:Int) (y10:Int):Y23->Option (Y7⊕Int):=fun (x11,s12)=>
 bif x11 then
 (some 0).map .inr
 else
 (gI known3 y10).bind fun y14=>
 bif decide (s12.length+List.length ([y14]:List Int)<=1000000) then
 some (.inl (IntKind.wrap .i64 (x8+1),s12++([y14]:List Int)))
 else none
def ZG5 (y4:Int×Int×List Int):Y23->Option (Unit⊕Int):=fun (x19,s20)=>
 bif x19 then
 (some 2).map .inr
 else
 bif y4.1==22 then
 (gI s20 1).bind fun y21=>
 (gI s20 1).bind fun y22=>
 (some y22).map .inr
 else
 bif y4.1==3 then
 bif (Int.tmod y4.2.1 16)==0 then
 (some 2).map .inr
 else
 some (.inl ())
 else
 bif y4.1==25 then
 bif y4.2.1==0 then
 (some 2).map .inr
 else
 some (.inl ())
 else
 some (.inl ())
def ZG8:Unit->Option Int:=fun _=>
 some 1
def Zxq (y4:Int×Int×List Int):Y23->Option Int:=fun (x15,s16)=>
 bif x15 then
 some 0
 else
 (bif y4.1==31 then
 (some 3).map .inr
 else
 (bif y4.1==26 then
 some (.inl (true,s16))
 else
 bif y4.1==27 then
 some (.inl (true,s16))
 else
 bif y4.1==28 then
 some (.inl (true,s16))
 else
 bif y4.1==29 then
 some (.inl (true,s16))
 else
 some (.inl (y4.1==30,s16))).bind (Sum.elim (ZG5 y4) some)).bind (Sum.elim ZG8 some)
def Zxr (l1:TN) (i2:Int) (known3:List Int) (y4:Int×Int×List Int):Y7->Option (Y7⊕Int):=fun (x8,s9)=>
 bif decide (x8 < (y4.2.2.length:Int)) then
 (gI y4.2.2 x8).bind fun y10=>
 (bif decide (y10 < 0) then
 some (.inl (true,s9))
 else
 bif decide (y10>=i2) then
 some (.inl (true,s9))
 else
 (gI known3 y10).bind fun y13=>
 some (.inl (y13==0,s9))).bind (Sum.elim (Zxs known3 x8 y10) some)
 else
 (((F88 y4 s9).bind fun r17=>
 bif !r17 then
 some (.inl (true,s9))
 else
 (F89 l1 y4).bind fun r18=>
 some (.inl (!r18,s9))).bind (Sum.elim (Zxq y4) some)).map .inr
def F72 (l1:TN) (i2:Int) (known3:List Int):Option Int:=
 (gI l1 i2).bind fun y4=>
 Zao (Zxr l1 i2 known3 y4) (0,[])
def Z9G (l1:TN):Y7->Option Y20:=fun (x4,s5)=>
 bif decide (x4 < (l1.length:Int)) then
 (F72 l1 x4 s5).bind fun r6=>
 (gI s5 x4).bind fun y7=>
 (gI s5 x4).bind fun y8=>
 some (.inl (IntKind.wrap .i64 (x4+1),Zaq s5 x4 r6))
 else
 (some s5).map .inr
def F54 (l1:TN):Option (List Int):=
 bif decide ((0:Int)<=(l1.length:Int)/\((l1.length:Int):Int)=(l1.length:Int)/\((l1.length:Int):Int)<=1000000) then
 Zao (Z9G l1) (0,(List.replicate (Int.toNat (l1.length:Int)) 0:List Int))
 else none
def Z8M (l1:TN) (i2:Int):Bool->Option Int:=fun x3=>
 bif x3 then
 some 0
 else
 bif decide ((0:Int)<=0/\(0:Int)<=IntKind.wrap .i64 (i2+1)/\IntKind.wrap .i64 (i2+1)<=(l1.length:Int)) then
 (F54 (slI l1 0 (IntKind.wrap .i64 (i2+1)))).bind fun r4=>
 (gI r4 i2).bind fun y5=>
 some y5
 else none
def F32 (l1:TN) (i2:Int):Option Int:=
 (bif decide (i2 < 0) then
 some (.inl true)
 else
 some (.inl (decide (i2>=(l1.length:Int))))).bind (Sum.elim (Z8M l1 i2) some)
def Zcz (i1:Int):Option ByteArray:=
 bif decide (i1 < 10) then
 bif decide ((0:Int)<=i1/\(i1:Int)<=IntKind.wrap .i64 (i1+1)/\IntKind.wrap .i64 (i1+1)<=(BS0.size:Int)) then
 some (slB BS0 i1 (IntKind.wrap .i64 (i1+1)))
 else none
 else
 bif decide ((0:Int)<=IntKind.wrap .i64 (i1 * 2)/\(IntKind.wrap .i64 (i1 * 2):Int)<=IntKind.wrap .i64 ((IntKind.wrap .i64 (i1 * 2))+2)/\IntKind.wrap .i64 ((IntKind.wrap .i64 (i1 * 2))+2)<=(BS1.size:Int)) then
 some (slB BS1 (IntKind.wrap .i64 (i1 * 2)) (IntKind.wrap .i64 ((IntKind.wrap .i64 (i1 * 2))+2)))
 else none
def Z0Q (x1:Int):Option Int:=
 some (Int.fdiv (IntKind.wrap .i64 (x1 * 78913)) (2 ^ (min (Int.toNat 18) (IntKind.bits .i64))))
def ZHv:(Int×Int)->Option Int:=fun (x6,n7)=>
 (gB BS2 (IntKind.wrap .u8 x6)).bind fun b8=>
 some (IntKind.wrap .i64 (n7+(IntKind.wrap .i64 b8)))
def ZHw:(Int×Int)->Option Int:=fun (x4,n5)=>
 (bif decide (x4>=256) then
 some (.inl (Int.fdiv x4 (2 ^ (min (Int.toNat 8) (IntKind.bits .u64))),IntKind.wrap .i64 (n5+8)))
 else
 some (.inl (x4,n5))).bind (Sum.elim ZHv some)
def ZHx:(Int×Int)->Option Int:=fun (x2,n3)=>
 (bif decide (x2>=65536) then
 some (.inl (Int.fdiv x2 (2 ^ (min (Int.toNat 16) (IntKind.bits .u64))),IntKind.wrap .i64 (n3+16)))
 else
 some (.inl (x2,n3))).bind (Sum.elim ZHw some)
def ZuT (x1:Int):Option Int:=
 (bif decide (x1>=4294967296) then
 some (.inl (Int.fdiv x1 (2 ^ (min (Int.toNat 32) (IntKind.bits .u64))),32))
 else
 some (.inl (x1,0))).bind (Sum.elim ZHx some)
def ZuR (b1:Bool):Option Int:=
 bif b1 then
 some 1
 else
 some 0
def ZxP (d1:Int):Option Int:=
 (ZuT d1).bind fun r2=>
 (Z0Q r2).bind fun r3=>
 (gI GT0 r3).bind fun y4=>
 (ZuR (decide (d1>=y4))).bind fun r5=>
 some (IntKind.wrap .i64 (r3+r5))
def F34 (k1:Int):Option Int:=
 some k1
def ZC7:Y28->Option (List Int):=fun (nd48,x49,a50)=>
 bif decide (nd48 > 0) then
 (gI a50 0).bind fun y57=>
 (gI a50 0).bind fun y58=>
 some (Zaq a50 0 (IntKind.wrap .u8 (IntKind.wrap .u32 (48+x49))))
 else
 some a50
def Ztn:Y28->Option (List Int):=fun (nd33,x34,a35)=>
 (bif decide (nd33>=2) then
 (gB BS1 (IntKind.wrap .u32 ((IntKind.wrap .u32 ((Int.tmod x34 100) * 2))+1))).bind fun b51=>
 (gB BS1 (IntKind.wrap .u32 ((Int.tmod x34 100) * 2))).bind fun b52=>
 (gI a35 (IntKind.wrap .i64 (nd33 - 1))).bind fun y53=>
 (gI a35 (IntKind.wrap .i64 (nd33 - 1))).bind fun y54=>
 (gI (Zaq a35 (IntKind.wrap .i64 (nd33 - 1)) b51) (IntKind.wrap .i64 (nd33 - 2))).bind fun y55=>
 (gI (Zaq a35 (IntKind.wrap .i64 (nd33 - 1)) b51) (IntKind.wrap .i64 (nd33 - 2))).bind fun y56=>
 some (.inl (IntKind.wrap .i64 (nd33 - 2),IntKind.wrap .u32 (Int.tdiv x34 100),Zaq (Zaq a35 (IntKind.wrap .i64 (nd33 - 1)) b51) (IntKind.wrap .i64 (nd33 - 2)) b52))
 else
 some (.inl (nd33,x34,a35))).bind (Sum.elim ZC7 some)
def Zto:Y28->Option (Y28⊕(List Int)):=fun (u6,nd7,a8)=>
 bif decide (nd7>=8) then
 (gB BS1 (IntKind.wrap .u32 ((IntKind.wrap .u32 ((Int.tmod (Int.tmod (IntKind.wrap .u32 (Int.tmod u6 100000000)) 10000) 100) * 2))+1))).bind fun b9=>
 (gB BS1 (IntKind.wrap .u32 ((Int.tmod (Int.tmod (IntKind.wrap .u32 (Int.tmod u6 100000000)) 10000) 100) * 2))).bind fun b10=>
 (gI a8 (IntKind.wrap .i64 (nd7 - 1))).bind fun y11=>
 (gI a8 (IntKind.wrap .i64 (nd7 - 1))).bind fun y12=>
 (gI (Zaq a8 (IntKind.wrap .i64 (nd7 - 1)) b9) (IntKind.wrap .i64 (nd7 - 2))).bind fun y13=>
 (gI (Zaq a8 (IntKind.wrap .i64 (nd7 - 1)) b9) (IntKind.wrap .i64 (nd7 - 2))).bind fun y14=>
 (gB BS1 (IntKind.wrap .u32 ((IntKind.wrap .u32 ((IntKind.wrap .u32 (Int.tdiv (Int.tmod (IntKind.wrap .u32 (Int.tmod u6 100000000)) 10000) 100)) * 2))+1))).bind fun b15=>
 (gB BS1 (IntKind.wrap .u32 ((IntKind.wrap .u32 (Int.tdiv (Int.tmod (IntKind.wrap .u32 (Int.tmod u6 100000000)) 10000) 100)) * 2))).bind fun b16=>
 (gI (Zaq (Zaq a8 (IntKind.wrap .i64 (nd7 - 1)) b9) (IntKind.wrap .i64 (nd7 - 2)) b10) (IntKind.wrap .i64 (nd7 - 3))).bind fun y17=>
 (gI (Zaq (Zaq a8 (IntKind.wrap .i64 (nd7 - 1)) b9) (IntKind.wrap .i64 (nd7 - 2)) b10) (IntKind.wrap .i64 (nd7 - 3))).bind fun y18=>
 (gI (Zaq (Zaq (Zaq a8 (IntKind.wrap .i64 (nd7 - 1)) b9) (IntKind.wrap .i64 (nd7 - 2)) b10) (IntKind.wrap .i64 (nd7 - 3)) b15) (IntKind.wrap .i64 (nd7 - 4))).bind fun y19=>
 (gI (Zaq (Zaq (Zaq a8 (IntKind.wrap .i64 (nd7 - 1)) b9) (IntKind.wrap .i64 (nd7 - 2)) b10) (IntKind.wrap .i64 (nd7 - 3)) b15) (IntKind.wrap .i64 (nd7 - 4))).bind fun y20=>
 (gB BS1 (IntKind.wrap .u32 ((IntKind.wrap .u32 ((Int.tmod (IntKind.wrap .u32 (Int.tdiv (IntKind.wrap .u32 (Int.tmod u6 100000000)) 10000)) 100) * 2))+1))).bind fun b21=>
 (gB BS1 (IntKind.wrap .u32 ((Int.tmod (IntKind.wrap .u32 (Int.tdiv (IntKind.wrap .u32 (Int.tmod u6 100000000)) 10000)) 100) * 2))).bind fun b22=>
 (gI (Zaq (Zaq (Zaq (Zaq a8 (IntKind.wrap .i64 (nd7 - 1)) b9) (IntKind.wrap .i64 (nd7 - 2)) b10) (IntKind.wrap .i64 (nd7 - 3)) b15) (IntKind.wrap .i64 (nd7 - 4)) b16) (IntKind.wrap .i64 (nd7 - 5))).bind fun y23=>
 (gI (Zaq (Zaq (Zaq (Zaq a8 (IntKind.wrap .i64 (nd7 - 1)) b9) (IntKind.wrap .i64 (nd7 - 2)) b10) (IntKind.wrap .i64 (nd7 - 3)) b15) (IntKind.wrap .i64 (nd7 - 4)) b16) (IntKind.wrap .i64 (nd7 - 5))).bind fun y24=>
 (gI (Zaq (Zaq (Zaq (Zaq (Zaq a8 (IntKind.wrap .i64 (nd7 - 1)) b9) (IntKind.wrap .i64 (nd7 - 2)) b10) (IntKind.wrap .i64 (nd7 - 3)) b15) (IntKind.wrap .i64 (nd7 - 4)) b16) (IntKind.wrap .i64 (nd7 - 5)) b21) (IntKind.wrap .i64 (nd7 - 6))).bind fun y25=>
 (gI (Zaq (Zaq (Zaq (Zaq (Zaq a8 (IntKind.wrap .i64 (nd7 - 1)) b9) (IntKind.wrap .i64 (nd7 - 2)) b10) (IntKind.wrap .i64 (nd7 - 3)) b15) (IntKind.wrap .i64 (nd7 - 4)) b16) (IntKind.wrap .i64 (nd7 - 5)) b21) (IntKind.wrap .i64 (nd7 - 6))).bind fun y26=>
 (gB BS1 (IntKind.wrap .u32 ((IntKind.wrap .u32 ((IntKind.wrap .u32 (Int.tdiv (IntKind.wrap .u32 (Int.tdiv (IntKind.wrap .u32 (Int.tmod u6 100000000)) 10000)) 100)) * 2))+1))).bind fun b27=>
 (gB BS1 (IntKind.wrap .u32 ((IntKind.wrap .u32 (Int.tdiv (IntKind.wrap .u32 (Int.tdiv (IntKind.wrap .u32 (Int.tmod u6 100000000)) 10000)) 100)) * 2))).bind fun b28=>
 (gI (Zaq (Zaq (Zaq (Zaq (Zaq (Zaq a8 (IntKind.wrap .i64 (nd7 - 1)) b9) (IntKind.wrap .i64 (nd7 - 2)) b10) (IntKind.wrap .i64 (nd7 - 3)) b15) (IntKind.wrap .i64 (nd7 - 4)) b16) (IntKind.wrap .i64 (nd7 - 5)) b21) (IntKind.wrap .i64 (nd7 - 6)) b22) (IntKind.wrap .i64 (nd7 - 7))).bind fun y29=>
 (gI (Zaq (Zaq (Zaq (Zaq (Zaq (Zaq a8 (IntKind.wrap .i64 (nd7 - 1)) b9) (IntKind.wrap .i64 (nd7 - 2)) b10) (IntKind.wrap .i64 (nd7 - 3)) b15) (IntKind.wrap .i64 (nd7 - 4)) b16) (IntKind.wrap .i64 (nd7 - 5)) b21) (IntKind.wrap .i64 (nd7 - 6)) b22) (IntKind.wrap .i64 (nd7 - 7))).bind fun y30=>
 (gI (Zaq (Zaq (Zaq (Zaq (Zaq (Zaq (Zaq a8 (IntKind.wrap .i64 (nd7 - 1)) b9) (IntKind.wrap .i64 (nd7 - 2)) b10) (IntKind.wrap .i64 (nd7 - 3)) b15) (IntKind.wrap .i64 (nd7 - 4)) b16) (IntKind.wrap .i64 (nd7 - 5)) b21) (IntKind.wrap .i64 (nd7 - 6)) b22) (IntKind.wrap .i64 (nd7 - 7)) b27) (IntKind.wrap .i64 (nd7 - 8))).bind fun y31=>
 (gI (Zaq (Zaq (Zaq (Zaq (Zaq (Zaq (Zaq a8 (IntKind.wrap .i64 (nd7 - 1)) b9) (IntKind.wrap .i64 (nd7 - 2)) b10) (IntKind.wrap .i64 (nd7 - 3)) b15) (IntKind.wrap .i64 (nd7 - 4)) b16) (IntKind.wrap .i64 (nd7 - 5)) b21) (IntKind.wrap .i64 (nd7 - 6)) b22) (IntKind.wrap .i64 (nd7 - 7)) b27) (IntKind.wrap .i64 (nd7 - 8))).bind fun y32=>
 some (.inl (IntKind.wrap .u64 (Int.tdiv u6 100000000),IntKind.wrap .i64 (nd7 - 8),Zaq (Zaq (Zaq (Zaq (Zaq (Zaq (Zaq (Zaq a8 (IntKind.wrap .i64 (nd7 - 1)) b9) (IntKind.wrap .i64 (nd7 - 2)) b10) (IntKind.wrap .i64 (nd7 - 3)) b15) (IntKind.wrap .i64 (nd7 - 4)) b16) (IntKind.wrap .i64 (nd7 - 5)) b21) (IntKind.wrap .i64 (nd7 - 6)) b22) (IntKind.wrap .i64 (nd7 - 7)) b27) (IntKind.wrap .i64 (nd7 - 8)) b28))
 else
 ((bif decide (nd7>=4) then
 (gB BS1 (IntKind.wrap .u32 ((IntKind.wrap .u32 ((Int.tmod (Int.tmod (IntKind.wrap .u32 u6) 10000) 100) * 2))+1))).bind fun b36=>
 (gB BS1 (IntKind.wrap .u32 ((Int.tmod (Int.tmod (IntKind.wrap .u32 u6) 10000) 100) * 2))).bind fun b37=>
 (gI a8 (IntKind.wrap .i64 (nd7 - 1))).bind fun y38=>
 (gI a8 (IntKind.wrap .i64 (nd7 - 1))).bind fun y39=>
 (gI (Zaq a8 (IntKind.wrap .i64 (nd7 - 1)) b36) (IntKind.wrap .i64 (nd7 - 2))).bind fun y40=>
 (gI (Zaq a8 (IntKind.wrap .i64 (nd7 - 1)) b36) (IntKind.wrap .i64 (nd7 - 2))).bind fun y41=>
 (gB BS1 (IntKind.wrap .u32 ((IntKind.wrap .u32 ((IntKind.wrap .u32 (Int.tdiv (Int.tmod (IntKind.wrap .u32 u6) 10000) 100)) * 2))+1))).bind fun b42=>
 (gB BS1 (IntKind.wrap .u32 ((IntKind.wrap .u32 (Int.tdiv (Int.tmod (IntKind.wrap .u32 u6) 10000) 100)) * 2))).bind fun b43=>
 (gI (Zaq (Zaq a8 (IntKind.wrap .i64 (nd7 - 1)) b36) (IntKind.wrap .i64 (nd7 - 2)) b37) (IntKind.wrap .i64 (nd7 - 3))).bind fun y44=>
 (gI (Zaq (Zaq a8 (IntKind.wrap .i64 (nd7 - 1)) b36) (IntKind.wrap .i64 (nd7 - 2)) b37) (IntKind.wrap .i64 (nd7 - 3))).bind fun y45=>
 (gI (Zaq (Zaq (Zaq a8 (IntKind.wrap .i64 (nd7 - 1)) b36) (IntKind.wrap .i64 (nd7 - 2)) b37) (IntKind.wrap .i64 (nd7 - 3)) b42) (IntKind.wrap .i64 (nd7 - 4))).bind fun y46=>
 (gI (Zaq (Zaq (Zaq a8 (IntKind.wrap .i64 (nd7 - 1)) b36) (IntKind.wrap .i64 (nd7 - 2)) b37) (IntKind.wrap .i64 (nd7 - 3)) b42) (IntKind.wrap .i64 (nd7 - 4))).bind fun y47=>
 some (.inl (IntKind.wrap .i64 (nd7 - 4),IntKind.wrap .u32 (Int.tdiv (IntKind.wrap .u32 u6) 10000),Zaq (Zaq (Zaq (Zaq a8 (IntKind.wrap .i64 (nd7 - 1)) b36) (IntKind.wrap .i64 (nd7 - 2)) b37) (IntKind.wrap .i64 (nd7 - 3)) b42) (IntKind.wrap .i64 (nd7 - 4)) b43))
 else
 some (.inl (nd7,IntKind.wrap .u32 u6,a8))).bind (Sum.elim Ztn some)).map .inr
def ZxQ (u1:Int) (a2:List Int):Option (List Int):=
 Zao Zto (u1,(a2.length:Int),a2)
def F90 (i1:Int) (base2:Int) (dst3:List Int):Option (List Int):=
 bif base2==10 then
 bif decide (i1 < 100) then
 (Zcz (IntKind.wrap .i64 i1)).bind fun r4=>
 bif decide (dst3.length+List.length (toB r4)<=1000000) then
 some (dst3++(toB r4))
 else none
 else
 (ZxP i1).bind fun r5=>
 bif decide ((0:Int)<=r5/\r5<=(24:Int)) then
 (ZxQ i1 (slI (List.replicate 24 0:List Int) 0 r5)).bind fun r6=>
 bif decide (r5=r5) then
 bif decide (dst3.length+r6.length<=1000000) then
 some (dst3++r6)
 else none
 else none
 else none
 else
 none
def ZuE (base2:Int):Y7->Option (List Int):=fun (u4,dst5)=>
 (F90 u4 base2 dst5).bind fun r6=>
 some r6
def F73 (i1:Int) (base2:Int) (dst3:List Int):Option (List Int):=
 (bif decide (i1 < 0) then
 bif decide (dst3.length+List.length ([45]:List Int)<=1000000) then
 some (.inl (IntKind.wrap .u64 (0 - (IntKind.wrap .u64 i1)),dst3++([45]:List Int)))
 else none
 else
 some (.inl (IntKind.wrap .u64 i1,dst3))).bind (Sum.elim (ZuE base2) some)
def F55 (i1:Int) (base2:Int) (dst3:List Int):Option (List Int):=
 (F73 i1 base2 dst3).bind fun r4=>
 some r4
def Z7z (n1:Int×Int×List Int):Y7->Option (Y7⊕ByteArray):=fun (x6,b7)=>
 bif decide (x6 < (n1.2.2.length:Int)) then
 (gI n1.2.2 x6).bind fun y8=>
 bif decide (b7.length+List.length ([32]:List Int)<=1000000) then
 (F34 y8).bind fun r9=>
 (F55 r9 10 (b7++([32]:List Int))).bind fun r10=>
 some (.inl (IntKind.wrap .i64 (x6+1),r10))
 else none
 else
 (some (ofB b7)).map .inr
def Z7k (n1:Int×Int×List Int):Option ByteArray:=
 (F55 n1.1 10 []).bind fun r2=>
 bif decide (r2.length+List.length ([32]:List Int)<=1000000) then
 (F55 n1.2.1 10 (r2++([32]:List Int))).bind fun r3=>
 Zao (Z7z n1) (0,r3)
 else none
def Z7v (x5:Int) (r12:ByteArray):(Bool×List Int×List (ByteArray×Bool))->Option (Y30⊕(List Int×Bool)):=fun (x13,out14,l15)=>
 bif x13 then
 (some ([],false)).map .inr
 else
 some (.inl (IntKind.wrap .i64 (x5+1),out14,ZfQ (ZaS .str) l15 r12 true))
def Z8J (l1:TN):Y30->Option (Y30⊕(List Int×Bool)):=fun (x5,out6,l7)=>
 bif decide (x5 < (l1.length:Int)) then
 (F32 l1 x5).bind fun r8=>
 (gI out6 x5).bind fun y9=>
 (gI out6 x5).bind fun y10=>
 (gI l1 x5).bind fun y11=>
 (Z7k y11).bind fun r12=>
 ((gI (Zaq out6 x5 r8) x5).bind fun y16=>
 (gI (Zaq out6 x5 r8) x5).bind fun y17=>
 bif y17==0 then
 some (.inl (true,Zaq out6 x5 r8,l7))
 else
 some (.inl (Option.getD (Zc3 (ZaS .str) l7 r12) false,Zaq out6 x5 r8,l7))).bind (Sum.elim (Z7v x5 r12) some)
 else
 (some (out6,true)).map .inr
def F12 (l1:TN):Option (List Int×Bool):=
 bif decide ((0:Int)<=(l1.length:Int)/\((l1.length:Int):Int)=(l1.length:Int)/\((l1.length:Int):Int)<=1000000) then
 Zao (Z8J l1) (0,(List.replicate (Int.toNat (l1.length:Int)) 0:List Int),([]:List (ByteArray×Bool)))
 else none
def Z8l (l1:List Int) (i2:Int):Bool->Option Int:=fun x3=>
 bif x3 then
 some 0
 else
 (gI l1 i2).bind fun y4=>
 some y4
def F13 (l1:List Int) (i2:Int):Option Int:=
 (bif decide (i2 < 0) then
 some (.inl true)
 else
 some (.inl (decide (i2>=(l1.length:Int))))).bind (Sum.elim (Z8l l1 i2) some)
def ZIU (y6:Int×Int×List Int) (y16:Int):Y23->Option (Y7⊕(Y7⊕Y20)):=fun (x19,out20)=>
 bif x19 then
 bif decide ((IntKind.wrap .u64 y6.2.1) < 0) then none else
 some (.inl (ZeM .u32 (BitVec.ofInt (IntKind.bits .u32) y16 &&& ~~~ (BitVec.ofInt (IntKind.bits .u32) (IntKind.wrap .u32 (1 * 2 ^ (min (Int.toNat (IntKind.wrap .u64 y6.2.1)) (IntKind.bits .u32)))))),out20))
 else
 some (.inl (y16,out20))
def ZIV (x4:Int) (x12:Int):Y7->Option (Y7⊕Y20):=fun (h17,out18)=>
 (gI out18 x4).bind fun y21=>
 (gI out18 x4).bind fun y22=>
 (gI out18 x4).bind fun y23=>
 (gI out18 x4).bind fun y24=>
 some (.inl (IntKind.wrap .i64 (x12+1),Zaq out18 x4 (ZeM .u32 (BitVec.ofInt (IntKind.bits .u32) y22 ||| BitVec.ofInt (IntKind.bits .u32) h17))))
def ZIW (x4:Int) (y6:Int×Int×List Int):Y7->Option (Y7⊕Y20):=fun (x12,out13)=>
 bif decide (x12 < (y6.2.2.length:Int)) then
 (gI y6.2.2 x12).bind fun y14=>
 (gI out13 y14).bind fun y15=>
 (gI out13 y14).bind fun y16=>
 ((bif y6.1==31 then
 some (.inl (decide (x12>=(IntKind.wrap .i64 (Int.tdiv (IntKind.wrap .i64 ((y6.2.2.length:Int) - 1)) 2))),out13))
 else
 some (.inl (false,out13))).bind (Sum.elim (ZIU y6 y16) some)).bind (Sum.elim (ZIV x4 x12) some)
 else
 (some (.inl (IntKind.wrap .i64 (x4+1),out13))).map .inr
def ZIp (x4:Int) (y6:Int×Int×List Int):(List Int)->Option Y20:=fun out7=>
 Zao (ZIW x4 y6) (0,out7)
def ZIX (l1:TN):Y7->Option Y20:=fun (x4,out5)=>
 bif decide (x4 < (l1.length:Int)) then
 (gI l1 x4).bind fun y6=>
 (bif y6.1==3 then
 bif decide ((IntKind.wrap .u64 (IntKind.wrap .i64 (Int.tdiv y6.2.1 16))) < 0) then none else
 (gI out5 x4).bind fun y8=>
 (gI out5 x4).bind fun y9=>
 some (.inl (Zaq out5 x4 (IntKind.wrap .u32 (1 * 2 ^ (min (Int.toNat (IntKind.wrap .u64 (IntKind.wrap .i64 (Int.tdiv y6.2.1 16)))) (IntKind.bits .u32))))))
 else
 some (.inl out5)).bind (Sum.elim (ZIp x4 y6) some)
 else
 (some out5).map .inr
def F14 (l1:TN):Option (List Int):=
 bif decide ((0:Int)<=(l1.length:Int)/\((l1.length:Int):Int)=(l1.length:Int)/\((l1.length:Int):Int)<=1000000) then
 Zao (ZIX l1) (0,(List.replicate (Int.toNat (l1.length:Int)) 0:List Int))
 else none
def ZJM (x8:Int):(List Int)->Option (Y7⊕Bool):=fun vars10=>
 some (.inl (IntKind.wrap .i64 (x8+1),vars10))
def ZJN:Y23->Option ((List Int)⊕(Y7⊕Bool)):=fun (x24,vars25)=>
 bif x24 then
 ((some false).map .inr).map .inr
 else
 some (.inl vars25)
def ZJO (x18:Int):(List Int)->Option (Y7⊕Bool):=fun vars20=>
 some (.inl (IntKind.wrap .i64 (x18+1),vars20))
def ZJP:Bool->Option Bool:=fun x27=>
 some x27
def ZJQ (g1:ByteArray×Int×TN×Int×Int):Y7->Option (Y7⊕Bool):=fun (x18,vars19)=>
 bif decide (x18 < (g1.2.2.1.length:Int)) then
 ((gI g1.2.2.1 x18).bind fun y21=>
 bif y21.1==3 then
 (gI vars19 (IntKind.wrap .i64 (Int.tdiv y21.2.1 16))).bind fun y22=>
 bif decide ((IntKind.wrap .i64 (Int.tdiv y21.2.1 16)) < (16:Int)) then
 (gI vars19 (IntKind.wrap .i64 (Int.tdiv y21.2.1 16))).bind fun y23=>
 (bif decide (y23 > 0) then
 some (.inl (decide ((Int.tmod y21.2.1 16)>=y23),vars19))
 else
 some (.inl (false,vars19))).bind (Sum.elim ZJN some)
 else none
 else
 some (.inl vars19)).bind (Sum.elim (ZJO x18) some)
 else
 ((F14 g1.2.2.1).bind fun r26=>
 ((gI r26 g1.2.2.2.1).bind fun y28=>
 bif y28==0 then
 (gI r26 g1.2.2.2.2).bind fun y29=>
 some (.inl (y29==0))
 else
 some (.inl false)).bind (Sum.elim ZJP some)).map .inr
def ZER (g1:ByteArray×Int×TN×Int×Int):Y7->Option (Y7⊕Bool):=fun (x8,vars9)=>
 bif decide (x8 < (g1.2.2.1.length:Int)) then
 ((gI g1.2.2.1 x8).bind fun y11=>
 bif y11.1==31 then
 (gI vars9 y11.2.1).bind fun y12=>
 bif decide (y11.2.1 < (16:Int)) then
 (gI vars9 y11.2.1).bind fun y13=>
 bif decide (y13 > 0) then
 ((some false).map .inr).map .inr
 else
 (gI vars9 y11.2.1).bind fun y14=>
 bif decide (y11.2.1 < (16:Int)) then
 (gI vars9 y11.2.1).bind fun y15=>
 some (.inl (Zaq vars9 y11.2.1 (IntKind.wrap .i64 (Int.tdiv (IntKind.wrap .i64 ((y11.2.2.length:Int) - 1)) 2))))
 else none
 else none
 else
 some (.inl vars9)).bind (Sum.elim (ZJM x8) some)
 else
 (Zao (ZJQ g1) (0,vars9)).map .inr
def Z6J (g1:ByteArray×Int×TN×Int×Int):Bool->Option Bool:=fun x3=>
 bif x3 then
 some false
 else
 Zao (ZER g1) (0,(List.replicate 16 0:List Int))
def F6 (g1:ByteArray×Int×TN×Int×Int):Option Bool:=
 (F12 g1.2.2.1).bind fun r2=>
 (bif !r2.2 then
 some (.inl true)
 else
 (F13 r2.1 g1.2.2.2.1).bind fun r4=>
 bif r4 != 1 then
 some (.inl true)
 else
 (F13 r2.1 g1.2.2.2.2).bind fun r5=>
 some (.inl (r5 != 2))).bind (Sum.elim (Z6J g1) some)
def Z0f (r4:Int):(TN×Int×Int×List Int)->Option TN:=fun (out7,n8,n9,l10)=>
 (gI out7 r4).bind fun y20=>
 (gI out7 r4).bind fun y21=>
 some (Zaq out7 r4 (n8,n9,l10))
def F7 (l1:TN) (how2:Int) (at3:Int):Option TN:=
 bif decide (List.length ([]:TN)+l1.length<=1000000) then
 bif (List.length (([]:TN)++l1):Int)==0 then
 some (([]:TN)++l1)
 else
 (F5 at3 (List.length (([]:TN)++l1):Int)).bind fun r4=>
 (gI (([]:TN)++l1) r4).bind fun y5=>
 (gI (([]:TN)++l1) r4).bind fun y6=>
 bif decide (List.length ([]:List Int)+y6.2.2.length<=1000000) then
 ((F5 how2 10).bind fun r11=>
 bif r11==0 then
 (F5 (IntKind.wrap .i64 (Int.tdiv how2 10)) 36).bind fun r12=>
 some (.inl (([]:TN)++l1,IntKind.wrap .i64 (r12 - 1),y6.2.1,([]:List Int)++y6.2.2))
 else
 bif r11==1 then
 (F5 (IntKind.wrap .i64 (Int.tdiv how2 10)) 300).bind fun r13=>
 some (.inl (([]:TN)++l1,y6.1,IntKind.wrap .i64 (r13 - 3),([]:List Int)++y6.2.2))
 else
 bif r11==2 then
 (F5 (IntKind.wrap .i64 (Int.tdiv how2 10)) (IntKind.wrap .i64 ((List.length (([]:TN)++l1):Int)+2))).bind fun r14=>
 bif decide (List.length (([]:List Int)++y6.2.2)+List.length ([IntKind.wrap .i64 (r14 - 1)]:List Int)<=1000000) then
 some (.inl (([]:TN)++l1,y6.1,y6.2.1,(([]:List Int)++y6.2.2)++([IntKind.wrap .i64 (r14 - 1)]:List Int)))
 else none
 else
 bif r11==3 then
 bif decide ((List.length (([]:List Int)++y6.2.2):Int) > 0) then
 (F5 (IntKind.wrap .i64 (Int.tdiv how2 10)) (List.length (([]:List Int)++y6.2.2):Int)).bind fun r15=>
 (F5 (IntKind.wrap .i64 (Int.tdiv at3 3)) (IntKind.wrap .i64 ((List.length (([]:TN)++l1):Int)+2))).bind fun r16=>
 (gI (([]:List Int)++y6.2.2) r15).bind fun y17=>
 (gI (([]:List Int)++y6.2.2) r15).bind fun y18=>
 some (.inl (([]:TN)++l1,y6.1,y6.2.1,Zaq (([]:List Int)++y6.2.2) r15 (IntKind.wrap .i64 (r16 - 1))))
 else
 some (.inl (([]:TN)++l1,y6.1,y6.2.1,([]:List Int)++y6.2.2))
 else
 bif r11==4 then
 bif decide ((List.length (([]:List Int)++y6.2.2):Int) > 0) then
 bif decide ((0:Int)<=1/\(1:Int)<=(List.length (([]:List Int)++y6.2.2):Int)/\(List.length (([]:List Int)++y6.2.2):Int)<=(List.length (([]:List Int)++y6.2.2):Int)) then
 some (.inl (([]:TN)++l1,y6.1,y6.2.1,slI (([]:List Int)++y6.2.2) 1 (List.length (([]:List Int)++y6.2.2):Int)))
 else none
 else
 some (.inl (([]:TN)++l1,y6.1,y6.2.1,([]:List Int)++y6.2.2))
 else
 bif r11==5 then
 bif decide (List.length (([]:TN)++l1)+List.length ([(y6.1,y6.2.1,([]:List Int)++y6.2.2)]:TN)<=1000000) then
 some (.inl ((([]:TN)++l1)++([(y6.1,y6.2.1,([]:List Int)++y6.2.2)]:TN),y6.1,y6.2.1,([]:List Int)++y6.2.2))
 else none
 else
 bif r11==6 then
 (F5 (IntKind.wrap .i64 (Int.tdiv how2 10)) 40).bind fun r19=>
 some (.inl (([]:TN)++l1,3,r19,[]))
 else
 some (.inl (([]:TN)++l1,y6.1,y6.2.1,([]:List Int)++y6.2.2))).bind (Sum.elim (Z0f r4) some)
 else none
 else none
def ZIY:Bool->Option (Int×Bool):=fun x6=>
 bif x6 then
 some ((-1),true)
 else
 some (0,false)
def ZIZ (op1:Int):Bool->Option (Int×Bool):=fun x5=>
 bif x5 then
 some (3,true)
 else
 (bif op1==30 then
 some (.inl true)
 else
 some (.inl (op1==31))).bind (Sum.elim ZIY some)
def Z9R (op1:Int):Bool->Option (Int×Bool):=fun x4=>
 bif x4 then
 some (2,true)
 else
 (bif op1==22 then
 some (.inl true)
 else
 some (.inl (op1==28))).bind (Sum.elim (ZIZ op1) some)
def Z9S (op1:Int):Bool->Option (Int×Bool):=fun x3=>
 bif x3 then
 some (1,true)
 else
 (bif decide (op1>=4) then
 bif decide (op1<=19) then
 some (.inl true)
 else
 bif op1==23 then
 some (.inl true)
 else
 bif op1==27 then
 some (.inl true)
 else
 some (.inl (op1==29))
 else
 bif op1==23 then
 some (.inl true)
 else
 bif op1==27 then
 some (.inl true)
 else
 some (.inl (op1==29))).bind (Sum.elim (Z9R op1) some)
def Z8R (op1:Int):Bool->Option (Int×Bool):=fun x2=>
 bif x2 then
 some (0,true)
 else
 (bif op1==20 then
 some (.inl true)
 else
 bif op1==21 then
 some (.inl true)
 else
 bif op1==24 then
 some (.inl true)
 else
 some (.inl (op1==25))).bind (Sum.elim (Z9S op1) some)
def F74 (op1:Int):Option (Int×Bool):=
 (bif op1==1 then
 some (.inl true)
 else
 bif op1==2 then
 some (.inl true)
 else
 bif op1==3 then
 some (.inl true)
 else
 some (.inl (op1==26))).bind (Sum.elim (Z8R op1) some)
def Zy9 (op1:Int):Bool->Option Int:=fun x2=>
 bif x2 then
 some 3
 else
 bif op1==27 then
 some 1000016
 else
 bif op1==30 then
 some 7
 else
 bif op1==31 then
 some 15
 else
 bif op1==25 then
 some 15
 else
 some (-1)
def F91 (op1:Int):Option Int:=
 bif op1==2 then
 some 5
 else
 bif op1==3 then
 some 255
 else
 (bif op1==23 then
 some (.inl true)
 else
 some (.inl (op1==28))).bind (Sum.elim (Zy9 op1) some)
def ZxE:Bool->Option Bool:=fun x4=>
 some x4
def F75 (op1:Int) (n2:Int):Option Bool:=
 bif op1==1 then
 some true
 else
 (F91 op1).bind fun r3=>
 bif decide (r3 < 0) then
 some (n2==0)
 else
 (bif decide (n2>=0) then
 bif decide (n2<=r3) then
 bif op1 != 27 then
 some (.inl true)
 else
 some (.inl (decide (n2 > 0)))
 else
 some (.inl false)
 else
 some (.inl false)).bind (Sum.elim ZxE some)
def F76 (ok1:Bool) (n2:Int):Option Int:=
 bif ok1 then
 some n2
 else
 some 0
def ZAy (k1:List Int):Int->Option (Int⊕Bool):=fun i3=>
 bif decide (i3 < (k1.length:Int)) then
 (gI k1 i3).bind fun y4=>
 bif y4 != 1 then
 (some false).map .inr
 else
 some (.inl (IntKind.wrap .i64 (i3+1)))
 else
 (some true).map .inr
def F77 (k1:List Int):Option Bool:=
 Zao (ZAy k1) 0
def ZEi (k3:List Int):Bool->Option Int:=fun x8=>
 bif x8 then
 some 0
 else
 (gI k3 1).bind fun y13=>
 some y13
def ZGv:Int->Option Int:=fun x14=>
 some x14
def ZG2 (n2:Int×Int×List Int):Bool->Option Int:=fun x21=>
 bif x21 then
 some 0
 else
 (F76 (n2.2.1==0) 1).bind fun r25=>
 some (IntKind.wrap .i64 (r25+1))
def ZGw:Int->Option Int:=fun x27=>
 some x27
def ZGx:Int->Option Int:=fun x32=>
 some x32
def ZG3:Int->Option Int:=fun x39=>
 some x39
def ZG9:Int->Option Int:=fun x46=>
 some x46
def ZGs (n2:Int×Int×List Int) (k3:List Int):Bool->Option Int:=fun x26=>
 bif x26 then
 ((gI k3 0).bind fun y28=>
 bif y28==2 then
 (gI k3 1).bind fun y29=>
 (F76 (y29==1) 2).bind fun r30=>
 some (.inl r30)
 else
 (F76 false 2).bind fun r31=>
 some (.inl r31)).bind (Sum.elim ZGw some)
 else
 bif n2.1==28 then
 ((gI k3 0).bind fun y33=>
 bif y33==2 then
 (gI k3 1).bind fun y34=>
 bif y34==1 then
 (gI k3 2).bind fun y35=>
 (F76 (y35==1) 2).bind fun r36=>
 some (.inl r36)
 else
 (F76 false 2).bind fun r37=>
 some (.inl r37)
 else
 (F76 false 2).bind fun r38=>
 some (.inl r38)).bind (Sum.elim ZGx some)
 else
 bif n2.1==30 then
 (bif decide ((k3.length:Int)>=1) then
 bif decide ((k3.length:Int)<=7) then
 (gI k3 0).bind fun y40=>
 bif y40==2 then
 bif decide ((0:Int)<=1/\(1:Int)<=(k3.length:Int)/\(k3.length:Int)<=(k3.length:Int)) then
 (F77 (slI k3 1 (k3.length:Int))).bind fun r41=>
 (F76 r41 2).bind fun r42=>
 some (.inl r42)
 else none
 else
 (F76 false 2).bind fun r43=>
 some (.inl r43)
 else
 (F76 false 2).bind fun r44=>
 some (.inl r44)
 else
 (F76 false 2).bind fun r45=>
 some (.inl r45)).bind (Sum.elim ZG3 some)
 else
 bif n2.1==31 then
 (bif (Int.tmod (k3.length:Int) 2)==1 then
 bif decide ((IntKind.wrap .i64 (Int.tdiv (k3.length:Int) 2))>=1) then
 bif decide ((IntKind.wrap .i64 (Int.tdiv (k3.length:Int) 2))<=16) then
 (gI k3 0).bind fun y47=>
 bif y47==2 then
 bif decide ((0:Int)<=1/\(1:Int)<=IntKind.wrap .i64 ((IntKind.wrap .i64 (Int.tdiv (k3.length:Int) 2))+1)/\IntKind.wrap .i64 ((IntKind.wrap .i64 (Int.tdiv (k3.length:Int) 2))+1)<=(k3.length:Int)) then
 (F77 (slI k3 1 (IntKind.wrap .i64 ((IntKind.wrap .i64 (Int.tdiv (k3.length:Int) 2))+1)))).bind fun r48=>
 bif r48 then
 (gI k3 (IntKind.wrap .i64 ((IntKind.wrap .i64 (Int.tdiv (k3.length:Int) 2))+1))).bind fun y49=>
 bif y49==2 then
 bif decide ((0:Int)<=IntKind.wrap .i64 ((IntKind.wrap .i64 (Int.tdiv (k3.length:Int) 2))+2)/\(IntKind.wrap .i64 ((IntKind.wrap .i64 (Int.tdiv (k3.length:Int) 2))+2):Int)<=(k3.length:Int)/\(k3.length:Int)<=(k3.length:Int)) then
 (F77 (slI k3 (IntKind.wrap .i64 ((IntKind.wrap .i64 (Int.tdiv (k3.length:Int) 2))+2)) (k3.length:Int))).bind fun r50=>
 (F76 r50 3).bind fun r51=>
 some (.inl r51)
 else none
 else
 (F76 false 3).bind fun r52=>
 some (.inl r52)
 else
 (F76 false 3).bind fun r53=>
 some (.inl r53)
 else none
 else
 (F76 false 3).bind fun r54=>
 some (.inl r54)
 else
 (F76 false 3).bind fun r55=>
 some (.inl r55)
 else
 (F76 false 3).bind fun r56=>
 some (.inl r56)
 else
 (F76 false 3).bind fun r57=>
 some (.inl r57)).bind (Sum.elim ZG9 some)
 else
 (F77 k3).bind fun r58=>
 (F76 r58 1).bind fun r59=>
 some r59
def ZEj (l1:TN) (n2:Int×Int×List Int) (k3:List Int):Bool->Option Int:=fun x5=>
 bif x5 then
 some 0
 else
 bif n2.1==3 then
 bif (Int.tmod n2.2.1 16)==0 then
 some 2
 else
 some 1
 else
 bif n2.1==26 then
 some 2
 else
 bif n2.1==22 then
 ((gI k3 0).bind fun y9=>
 bif y9 != 1 then
 some (.inl true)
 else
 (gI k3 1).bind fun y10=>
 (gI k3 2).bind fun y11=>
 bif y10 != y11 then
 some (.inl true)
 else
 (gI k3 1).bind fun y12=>
 some (.inl (y12==3))).bind (Sum.elim (ZEi k3) some)
 else
 bif n2.1==23 then
 ((gI k3 0).bind fun y15=>
 bif y15==2 then
 (gI k3 1).bind fun y16=>
 (F76 (y16==1) 1).bind fun r17=>
 some (.inl r17)
 else
 (F76 false 1).bind fun r18=>
 some (.inl r18)).bind (Sum.elim ZGv some)
 else
 bif n2.1==24 then
 (gI k3 0).bind fun y19=>
 (F76 (y19==2) 1).bind fun r20=>
 some r20
 else
 bif n2.1==25 then
 ((gI k3 0).bind fun y22=>
 bif y22 != 3 then
 some (.inl true)
 else
 (gI n2.2.2 0).bind fun y23=>
 (gI l1 y23).bind fun y24=>
 some (.inl (decide (n2.2.1>=(IntKind.wrap .i64 (Int.tdiv (y24.2.2.length:Int) 2)))))).bind (Sum.elim (ZG2 n2) some)
 else
 (bif n2.1==27 then
 some (.inl true)
 else
 some (.inl (n2.1==29))).bind (Sum.elim (ZGs n2 k3) some)
def F56 (l1:TN) (n2:Int×Int×List Int) (k3:List Int):Option Int:=
 (F74 n2.1).bind fun r4=>
 (bif !r4.2 then
 some (.inl true)
 else
 bif decide (r4.1>=0) then
 bif (n2.2.2.length:Int) != r4.1 then
 some (.inl true)
 else
 (F75 n2.1 n2.2.1).bind fun r6=>
 some (.inl (!r6))
 else
 (F75 n2.1 n2.2.1).bind fun r7=>
 some (.inl (!r7))).bind (Sum.elim (ZEj l1 n2 k3) some)
def Z9M (ok18:Bool) (j19:Int) (y24:Int):Y26->Option Y36:=fun (x25,out26,k27)=>
 bif x25 then
 (some (.inl (false,out26,k27))).map .inr
 else
 (gI out26 y24).bind fun y30=>
 (gI out26 y24).bind fun y31=>
 bif decide (k27.length+List.length ([y31]:List Int)<=1000000) then
 some (.inl (ok18,IntKind.wrap .i64 (j19+1),out26,k27++([y31]:List Int)))
 else none
def Z9K (l1:TN) (i5:Int):(Bool×Int×List Int×List Int)->Option Y36:=fun (ok18,j19,out20,k21)=>
 (gI l1 i5).bind fun y22=>
 bif decide (j19 < (y22.2.2.length:Int)) then
 (gI l1 i5).bind fun y23=>
 (gI y23.2.2 j19).bind fun y24=>
 (bif decide (y24 < 0) then
 some (.inl (true,out20,k21))
 else
 bif decide (y24>=i5) then
 some (.inl (true,out20,k21))
 else
 (gI out20 y24).bind fun y28=>
 (gI out20 y24).bind fun y29=>
 some (.inl (y29==0,out20,k21))).bind (Sum.elim (Z9M ok18 j19 y24) some)
 else
 (some (.inl (ok18,out20,k21))).map .inr
def Z9N (l1:TN) (i5:Int):Y26->Option ((List Int)⊕Y20):=fun (ok8,out9,k10)=>
 bif ok8 then
 (gI l1 i5).bind fun y32=>
 (F56 l1 y32 k10).bind fun r33=>
 bif decide (out9.length+List.length ([r33]:List Int)<=1000000) then
 some (.inl (out9++([r33]:List Int)))
 else none
 else
 bif decide (out9.length+List.length ([0]:List Int)<=1000000) then
 some (.inl (out9++([0]:List Int)))
 else none
def Z8P (i5:Int):(List Int)->Option Y20:=fun out7=>
 some (.inl (IntKind.wrap .i64 (i5+1),out7))
def Z8Q (l1:TN):Y7->Option Y20:=fun (i5,out6)=>
 bif decide (i5 < (l1.length:Int)) then
 ((Zao (Z9K l1 i5) (true,0,out6,[])).bind (Sum.elim (Z9N l1 i5) some)).bind (Sum.elim (Z8P i5) some)
 else
 (some out6).map .inr
def F35 (l1:TN):Option (List Int):=
 Zao (Z8Q l1) (0,[])
def ZJa (l1:TN) (i4:Int):Int->Option (Int⊕(Int⊕Bool)):=fun k7=>
 bif decide (k7 < i4) then
 (gI l1 k7).bind fun y8=>
 (gI l1 i4).bind fun y9=>
 (F36 y8 y9).bind fun r10=>
 bif r10 then
 ((some false).map .inr).map .inr
 else
 some (.inl (IntKind.wrap .i64 (k7+1)))
 else
 (some (.inl (IntKind.wrap .i64 (i4+1)))).map .inr
def ZJb (l1:TN) (r2:List Int):Int->Option (Int⊕Bool):=fun i4=>
 bif decide (i4 < (l1.length:Int)) then
 (gI r2 i4).bind fun y5=>
 bif y5==0 then
 (some false).map .inr
 else
 Zao (ZJa l1 i4) 0
 else
 (some true).map .inr
def F15 (l1:TN):Option Bool:=
 (F35 l1).bind fun r2=>
 Zao (ZJb l1 r2) 0
def Z9B (l1:TN) (i2:Int):Bool->Option Int:=fun x3=>
 bif x3 then
 some 0
 else
 bif decide ((0:Int)<=0/\(0:Int)<=IntKind.wrap .i64 (i2+1)/\IntKind.wrap .i64 (i2+1)<=(l1.length:Int)) then
 (F35 (slI l1 0 (IntKind.wrap .i64 (i2+1)))).bind fun r4=>
 (gI r4 i2).bind fun y5=>
 some y5
 else none
def F16 (l1:TN) (i2:Int):Option Int:=
 (bif decide (i2 < 0) then
 some (.inl true)
 else
 some (.inl (decide (i2>=(l1.length:Int))))).bind (Sum.elim (Z9B l1 i2) some)
def Z8T (l1:TN) (i4:Int):Bool->Option (Int⊕Int):=fun x5=>
 bif x5 then
 (gI l1 i4).bind fun y8=>
 (some (IntKind.wrap .i64 (Int.tdiv (y8.2.2.length:Int) 2))).map .inr
 else
 some (.inl (IntKind.wrap .i64 (i4+1)))
def ZAd (l1:TN) (n2:Int):Int->Option (Int⊕Int):=fun i4=>
 bif decide (i4 < (l1.length:Int)) then
 ((gI l1 i4).bind fun y6=>
 bif y6.1==31 then
 (gI l1 i4).bind fun y7=>
 some (.inl (y7.2.1==n2))
 else
 some (.inl false)).bind (Sum.elim (Z8T l1 i4) some)
 else
 (some 0).map .inr
def F17 (l1:TN) (n2:Int):Option Int:=
 Zao (ZAd l1 n2) 0
def ZJc (j17:Int):(Bool×List (List Bool)×List Bool)->Option (Y40⊕(Y13⊕(Y13⊕Y19))):=fun (x22,out23,h24)=>
 bif x22 then
 (gI h24 j17).bind fun y29=>
 (gI h24 j17).bind fun y30=>
 some (.inl (out23,Zaq h24 j17 true))
 else
 some (.inl (out23,h24))
def ZJd (j17:Int):Y40->Option (Y13⊕(Y13⊕Y19)):=fun (out20,h21)=>
 some (.inl (IntKind.wrap .i64 (j17+1),out20,h21))
def ZJe (y7:Int×Int×List Int) (k11:Int):Y13->Option (Y13⊕(Y13⊕Y19)):=fun (j17,out18,h19)=>
 bif decide (j17 < 16) then
 (((gI y7.2.2 k11).bind fun y25=>
 (gI out18 y25).bind fun y26=>
 (gI out18 y25).bind fun y27=>
 (gI y27 j17).bind fun y28=>
 bif y28 then
 bif y7.1 != 31 then
 some (.inl (true,out18,h19))
 else
 bif j17 != y7.2.1 then
 some (.inl (true,out18,h19))
 else
 some (.inl (decide (k11 < (IntKind.wrap .i64 (Int.tdiv (y7.2.2.length:Int) 2))),out18,h19))
 else
 some (.inl (false,out18,h19))).bind (Sum.elim (ZJc j17) some)).bind (Sum.elim (ZJd j17) some)
 else
 (some (.inl (IntKind.wrap .i64 (k11+1),out18,h19))).map .inr
def ZJf (i5:Int):Y40->Option Y19:=fun (out31,h32)=>
 bif decide (out31.length+List.length ([h32]:List (List Bool))<=1000000) then
 some (.inl (IntKind.wrap .i64 (i5+1),out31++([h32]:List (List Bool))))
 else none
def ZJg (i5:Int) (y7:Int×Int×List Int):Y13->Option (Y13⊕Y19):=fun (k11,out12,h13)=>
 bif decide (k11 < (y7.2.2.length:Int)) then
 Zao (ZJe y7 k11) (0,out12,h13)
 else
 ((bif y7.1==3 then
 (gI h13 (IntKind.wrap .i64 (Int.tdiv y7.2.1 16))).bind fun y33=>
 (gI h13 (IntKind.wrap .i64 (Int.tdiv y7.2.1 16))).bind fun y34=>
 some (.inl (out12,Zaq h13 (IntKind.wrap .i64 (Int.tdiv y7.2.1 16)) true))
 else
 some (.inl (out12,h13))).bind (Sum.elim (ZJf i5) some)).map .inr
def ZAc (l1:TN):(Int×List (List Bool))->Option Y19:=fun (i5,out6)=>
 bif decide (i5 < (l1.length:Int)) then
 bif decide ((0:Int)<=16/\(16:Int)=16/\(16:Int)<=1000000) then
 (gI l1 i5).bind fun y7=>
 Zao (ZJg i5 y7) (0,out6,(List.replicate (Int.toNat 16) false:List Bool))
 else none
 else
 (some out6).map .inr
def F18 (l1:TN):Option (List (List Bool)):=
 Zao (ZAc l1) (0,[])
def ZJR (k10:Int):Bool->Option (Int⊕Y35):=fun x12=>
 bif x12 then
 (((some false).map .inr).map .inr).map .inr
 else
 some (.inl (IntKind.wrap .i64 (k10+1)))
def ZJS:Bool->Option Y35:=fun x16=>
 bif x16 then
 ((some false).map .inr).map .inr
 else
 some (.inl ())
def Z5F (g1:ByteArray×Int×TN×Int×Int) (y8:Int×Int×List Int) (k10:Int):Bool->Option (Int⊕Y35):=fun x11=>
 bif x11 then
 ((gI g1.2.2.1 k10).bind fun y13=>
 bif y13.1==31 then
 (gI g1.2.2.1 k10).bind fun y14=>
 some (.inl (y14.2.1==y8.2.1))
 else
 some (.inl false)).bind (Sum.elim (ZJR k10) some)
 else
 (bif y8.1==3 then
 (F17 g1.2.2.1 (IntKind.wrap .i64 (Int.tdiv y8.2.1 16))).bind fun r15=>
 (bif decide (r15 > 0) then
 some (.inl (decide ((Int.tmod y8.2.1 16)>=r15)))
 else
 some (.inl false)).bind (Sum.elim ZJS some)
 else
 some (.inl ())).map .inr
def Z5N (g1:ByteArray×Int×TN×Int×Int) (i7:Int) (y8:Int×Int×List Int):Int->Option (Int⊕Y35):=fun k10=>
 (bif decide (k10 < i7) then
 some (.inl (y8.1==31))
 else
 some (.inl false)).bind (Sum.elim (Z5F g1 y8 k10) some)
def Z5M (i7:Int):Unit->Option (Int⊕Bool):=fun _=>
 some (.inl (IntKind.wrap .i64 (i7+1)))
def ZJT (j19:Int):Bool->Option (Int⊕Bool):=fun x20=>
 bif x20 then
 (some false).map .inr
 else
 some (.inl (IntKind.wrap .i64 (j19+1)))
def ZJU (g1:ByteArray×Int×TN×Int×Int) (r17:List (List Bool)):Int->Option (Int⊕Bool):=fun j19=>
 bif decide (j19 < 16) then
 ((gI r17 g1.2.2.2.1).bind fun y21=>
 (gI y21 j19).bind fun y22=>
 bif y22 then
 some (.inl true)
 else
 (gI r17 g1.2.2.2.2).bind fun y23=>
 (gI y23 j19).bind fun y24=>
 some (.inl y24)).bind (Sum.elim (ZJT j19) some)
 else
 (some true).map .inr
def Z5G (g1:ByteArray×Int×TN×Int×Int):Int->Option (Int⊕Bool):=fun i7=>
 bif decide (i7 < (g1.2.2.1.length:Int)) then
 ((gI g1.2.2.1 i7).bind fun y8=>
 Zao (Z5N g1 i7 y8) 0).bind (Sum.elim (Z5M i7) some)
 else
 ((F18 g1.2.2.1).bind fun r17=>
 Zao (ZJU g1 r17) 0).map .inr
def Z5E (g1:ByteArray×Int×TN×Int×Int):Bool->Option Bool:=fun x2=>
 bif x2 then
 some false
 else
 Zao (Z5G g1) 0
def F8 (g1:ByteArray×Int×TN×Int×Int):Option Bool:=
 ((F15 g1.2.2.1).bind fun r3=>
 bif !r3 then
 some (.inl true)
 else
 (F16 g1.2.2.1 g1.2.2.2.1).bind fun r4=>
 bif r4 != 1 then
 some (.inl true)
 else
 (F16 g1.2.2.1 g1.2.2.2.2).bind fun r5=>
 some (.inl (r5 != 2))).bind (Sum.elim (Z5E g1) some)
def ZxI:Y7->Option (Y7⊕Y7):=fun (i5,s6)=>
 (gI s6 i5).bind fun y7=>
 (gI s6 i5).bind fun y8=>
 bif y8 != i5 then
 (gI s6 i5).bind fun y9=>
 (gI s6 i5).bind fun y10=>
 (gI s6 y10).bind fun y11=>
 (gI s6 y10).bind fun y12=>
 (gI s6 i5).bind fun y13=>
 (gI s6 i5).bind fun y14=>
 (gI (Zaq s6 i5 y12) i5).bind fun y15=>
 (gI (Zaq s6 i5 y12) i5).bind fun y16=>
 some (.inl (y16,Zaq s6 i5 y12))
 else
 (some (i5,s6)).map .inr
def F80 (i1:Int) (s2:List Int):Option Y7:=
 Zao ZxI (i1,s2)
def F78 (i1:Int) (j2:Int) (s3:List Int):Option Y23:=
 (F80 i1 s3).bind fun r4=>
 (F80 j2 r4.2).bind fun r5=>
 bif r4.1==r5.1 then
 some (false,r5.2)
 else
 (gI r5.2 (if r5.1 > r4.1 then r5.1 else r4.1)).bind fun y6=>
 (gI r5.2 (if r5.1 > r4.1 then r5.1 else r4.1)).bind fun y7=>
 some (true,Zaq r5.2 (if r5.1 > r4.1 then r5.1 else r4.1) (if r5.1 < r4.1 then r5.1 else r4.1))
def ZuZ (n1:Int):Y7->Option Y20:=fun (i5,b6)=>
 bif decide (i5 < 8) then
 bif decide ((IntKind.wrap .u64 (IntKind.wrap .i64 (8 * i5))) < 0) then none else
 bif decide (b6.length+List.length ([IntKind.wrap .u8 (Int.fdiv n1 (2 ^ (min (Int.toNat (IntKind.wrap .u64 (IntKind.wrap .i64 (8 * i5)))) (IntKind.bits .u64))))]:List Int)<=1000000) then
 some (.inl (IntKind.wrap .i64 (i5+1),b6++([IntKind.wrap .u8 (Int.fdiv n1 (2 ^ (min (Int.toNat (IntKind.wrap .u64 (IntKind.wrap .i64 (8 * i5)))) (IntKind.bits .u64))))]:List Int)))
 else none
 else
 (some b6).map .inr
def F92 (n1:Int) (b2:List Int):Option (List Int):=
 Zao (ZuZ n1) (0,b2)
def ZwU (x10:Int) (y13:Int):Y26->Option (Y27⊕Y41):=fun (x14,s15,b16)=>
 bif x14 then
 (some ((ByteArray.mk #[]),false,s15)).map .inr
 else
 (F80 y13 s15).bind fun r17=>
 (F92 (IntKind.wrap .u64 r17.1) b16).bind fun r18=>
 some (.inl (IntKind.wrap .i64 (x10+1),r17.2,r18))
def ZE0 (n3:List Int):Y27->Option (Y27⊕Y41):=fun (x10,s11,b12)=>
 bif decide (x10 < (n3.length:Int)) then
 (gI n3 x10).bind fun y13=>
 (bif decide (y13 < 0) then
 some (.inl (true,s11,b12))
 else
 some (.inl (decide (y13>=(s11.length:Int)),s11,b12))).bind (Sum.elim (ZwU x10 y13) some)
 else
 (some (ofB b12,true,s11)).map .inr
def F79 (n1:Int) (n2:Int) (n3:List Int) (s4:List Int):Option Y41:=
 (F92 (IntKind.wrap .u64 n1) []).bind fun r5=>
 (F92 (IntKind.wrap .u64 n2) r5).bind fun r6=>
 Zao (ZE0 n3) (0,s4,r6)
def Z9V:(Bool×List Int×Int×Int)->Option ((List Int)⊕Y20):=fun (x15,s16,p17,p18)=>
 bif x15 then
 (F78 p17 p18 s16).bind fun r19=>
 some (.inl r19.2)
 else
 some (.inl s16)
def ZAa (x11:Int):(List Int)->Option Y20:=fun s13=>
 some (.inl (IntKind.wrap .i64 (x11+1),s13))
def Z9X (x29:Int):(Bool×List Int×List Y11)->Option (Y37⊕(Y23⊕(List Int))):=fun (on32,s33,l34)=>
 some (.inl (on32,IntKind.wrap .i64 (x29+1),s33,l34))
def ZJC (l1:TN):Y37->Option (Y37⊕(Y23⊕(List Int))):=fun (on28,x29,s30,l31)=>
 bif decide (x29 < (l1.length:Int)) then
 ((gI l1 x29).bind fun y35=>
 (F79 y35.1 y35.2.1 y35.2.2 s30).bind fun r36=>
 bif !r36.2.1 then
 some (.inl (on28,r36.2.2,l31))
 else
 bif !(Option.isSome (Zc3 (ZaS .str) l31 r36.1)) then
 some (.inl (on28,r36.2.2,ZfQ (ZaS .str) l31 r36.1 x29))
 else
 (F78 x29 (Option.getD (Zc3 (ZaS .str) l31 r36.1) 0) r36.2.2).bind fun r37=>
 bif r37.1 then
 some (.inl (true,r37.2,l31))
 else
 some (.inl (on28,r37.2,l31))).bind (Sum.elim (Z9X x29) some)
 else
 (some (.inl (on28,s30))).map .inr
def ZJD (l1:TN):Y27->Option (Y27⊕(List Int)):=fun (x41,s42,out43)=>
 bif decide (x41 < (List.length (List.replicate (Int.toNat (l1.length:Int)) 0:List Int):Int)) then
 (F80 x41 s42).bind fun r44=>
 (gI out43 x41).bind fun y45=>
 (gI out43 x41).bind fun y46=>
 some (.inl (IntKind.wrap .i64 (x41+1),r44.2,Zaq out43 x41 r44.1))
 else
 (some out43).map .inr
def ZJE (l1:TN):Y23->Option (Y23⊕(List Int)):=fun (on22,s23)=>
 bif on22 then
 Zao (ZJC l1) (false,0,s23,([]:List Y11))
 else
 (bif decide ((0:Int)<=(l1.length:Int)/\((l1.length:Int):Int)=(l1.length:Int)/\((l1.length:Int):Int)<=1000000) then
 Zao (ZJD l1) (0,s23,(List.replicate (Int.toNat (l1.length:Int)) 0:List Int))
 else none).map .inr
def Z9Z (l1:TN) (pairs2:TP):Y7->Option Y20:=fun (x11,s12)=>
 bif decide (x11 < (pairs2.length:Int)) then
 ((gI pairs2 x11).bind fun y14=>
 (bif decide ((if y14.2 < y14.1 then y14.2 else y14.1)>=0) then
 some (.inl (decide ((if y14.2 > y14.1 then y14.2 else y14.1) < (l1.length:Int)),s12,y14.1,y14.2))
 else
 some (.inl (false,s12,y14.1,y14.2))).bind (Sum.elim Z9V some)).bind (Sum.elim (ZAa x11) some)
 else
 (Zao (ZJE l1) (true,s12)).map .inr
def ZyH (l1:TN) (pairs2:TP):Y7->Option Y20:=fun (x5,s6)=>
 bif decide (x5 < (List.length (List.replicate (Int.toNat (l1.length:Int)) 0:List Int):Int)) then
 (gI s6 x5).bind fun y7=>
 (gI s6 x5).bind fun y8=>
 some (.inl (IntKind.wrap .i64 (x5+1),Zaq s6 x5 x5))
 else
 (Zao (Z9Z l1 pairs2) (0,s6)).map .inr
def F58 (l1:TN) (pairs2:TP):Option (List Int):=
 bif decide ((0:Int)<=(l1.length:Int)/\((l1.length:Int):Int)=(l1.length:Int)/\((l1.length:Int):Int)<=1000000) then
 Zao (ZyH l1 pairs2) (0,(List.replicate (Int.toNat (l1.length:Int)) 0:List Int))
 else none
def ZB4:Bool->Option Bool:=fun x14=>
 some x14
def F3 (l1:List Int) (f2:Int) (how3:Int) (at4:Int) (value5:Int) (state6:Int):Option Bool:=
 bif decide ((0:Int)<=0/\(0:Int)<=(if 30 < (l1.length:Int) then 30 else (l1.length:Int))/\(if 30 < (l1.length:Int) then 30 else (l1.length:Int))<=(l1.length:Int)) then
 (F4 (slI l1 0 (if 30 < (l1.length:Int) then 30 else (l1.length:Int)))).bind fun r7=>
 (F5 f2 2).bind fun r8=>
 (gI r7.2 r8).bind fun y9=>
 (F6 y9).bind fun r10=>
 bif !r10 then
 some false
 else
 (F7 y9.2.2.1 how3 at4).bind fun r11=>
 (F5 value5 (IntKind.wrap .i64 ((r11.length:Int)+2))).bind fun r12=>
 (F5 state6 (IntKind.wrap .i64 ((r11.length:Int)+2))).bind fun r13=>
 ((F6 (y9.1,y9.2.1,r11,y9.2.2.2.1,y9.2.2.2.2)).bind fun r15=>
 (F8 (y9.1,y9.2.1,r11,y9.2.2.2.1,y9.2.2.2.2)).bind fun r16=>
 bif r15==r16 then
 (F6 (y9.1,y9.2.1,r11,IntKind.wrap .i64 (r12 - 1),IntKind.wrap .i64 (r13 - 1))).bind fun r17=>
 (F8 (y9.1,y9.2.1,r11,IntKind.wrap .i64 (r12 - 1),IntKind.wrap .i64 (r13 - 1))).bind fun r18=>
 bif r17==r18 then
 (F9).bind fun r19=>
 some (.inl r19)
 else
 some (.inl false)
 else
 some (.inl false)).bind (Sum.elim ZB4 some)
 else none
end
end Go.Dat
