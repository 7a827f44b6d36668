import Derived.Test.YtalnenapfoedpabGreatDoorE2Run
set_option linter.unusedVariables false
open Go.IntKind (wrap)
open Int (tdiv toNat tmod fdiv)
open List (replicate)
open ByteArray (empty)
open Option (getD)
open BitVec (ofInt)
namespace Go.Dat
open Go.Eng
noncomputable section
abbrev TN:=List (Int×Int×List Int)
abbrev TS:=List (Int×Int×Int×List Int×List Int)
abbrev TI:=List (Int×Int×Int)
abbrev TP:=List (Int×Int)
abbrev TT:=TN×TS×TI×Int×Int×Int×Int
abbrev TQ:=TN×TS×Int×Int
abbrev Y0:=TT×List Int×List Int×List (List Int)
abbrev Y1:=Int×TN×TS×TI×Int×Int×Int×Int×List Int×List (List Int)×List Int×ByteArray×Int×Int×Int×Bool×List Int×TN
abbrev Y2:=Int×Int×TN×TS×TI×Int×Int×Int×Int×List Int×List (List Int)×Int×Int×Bool×List Int×Int×List Zbb
abbrev Y3:=Int×List Int
abbrev Y4:=Int×Int×List Zbb
abbrev Y5:=Bool×Int×List Bool
abbrev Y6:=Bool×List Int×(Option Y0)×List Int×List Int
abbrev Y7:=(Int×Int×Int×Bool×Int×Bool×List Bool×List Int×List Int)⊕((Int×Bool×Int×Bool×List Bool×List Int×List Int)⊕((Int×Int×Bool×Int×Bool×List Bool×List Int×List Int)⊕(List Int×List Int×Int×Bool)))
abbrev Y8:=Bool×List Bool
abbrev Y9:=(Option Y0)×List Int×List Bool×Bool×List Int
abbrev Y10:=Y3⊕(List Int)
abbrev Y11:=(Int×Int×Int×Int×Int×TN×TS×TI×Int×Int×Int×Int×List Int×List (List Int))⊕(TT×List Int×List (List Int))
abbrev Y12:=Int×(List (ByteArray×Bool))×TN×TS×TI×Int×Int×Int×Int×List Int×List Int×List (List Int)
abbrev Y13:=Int×TN×TS×TI×Int×Int×Int×Int×List Int×List (List Int)×Int×Int×Bool×List Int×Int×List Int×Int×Int×Int×Int×List Zbb
abbrev Y14:=(ByteArray×Int×TN×Int×Int)×Bool
abbrev Y15:=Bool×List Int
abbrev Y16:=Int×List (List Bool)×List Bool
abbrev Y17:=Int×Int×Bool×Int×Bool×List Bool×List Int×List Int
abbrev Y18:=Int×ByteArray×Int×Int×Int×ByteArray×Int×Int×Int×List Int×TN
abbrev Y19:=(Int×List (List Bool))⊕(List (List Bool))
abbrev Y20:=(Bool×Int×Int×Int×Int×Int×TN×TS×TI×Int×Int×Int×Int×List Int×List (List Int))⊕((Int×Int×Int×Int×TN×TS×TI×Int×Int×Int×Int×List Int×List (List Int))⊕Y11)
abbrev Y21:=(List (ByteArray×Bool))×TN×TS×TI×Int×Int×Int×Int×List Int×List Int×List (List Int)
abbrev Y22:=Int×List Int×List Int
abbrev Y23:=Int×Int×Int×Int×Int×TN×Int×Int×Int×Int×TS
abbrev Y24:=ByteArray×TN×TS×TI×Int×Int×Int×Int×List Int×List Int×List (List Int)
abbrev Y25:=List Int×Int×Bool
abbrev Y26:=Int×ByteArray×Int×Int×Int×TN×TS×TI×Int×Int×Int×Int×List Int×List (List Int)×List Int×ByteArray×Int×Int×Int×Bool×List Int
abbrev Y27:=Bool×Int×List Int
abbrev Y28:=Int×Int×List Bool×List Int
abbrev Y29:=List Int×List Int×Int×Bool
abbrev Y30:=Int×TN×TS×TI×Int×Int×Int×Int×List Int×List (List Int)×List Int×ByteArray×Int×Int×Int×Bool×List Int×List Int×TN
abbrev Y31:=Bool×TN×TS×TI×Int×Int×Int×Int×List Int×List (List Int)×List Int×ByteArray×Int×Int×Int×Bool×List Int×TN
abbrev Y32:=TN×TS×TI×Int×Int×Int×Int×List Int×List (List Int)×List Int×ByteArray×Int×Int×Int×Bool×List Int×TN
abbrev Y33:=TN⊕((Int×TN)⊕TN)
abbrev Y34:=Int×Int×Bool×List Bool×List Int
abbrev Y35:=Int×Int×List Int
abbrev Y36:=(List Int)⊕Y10
abbrev Y37:=Y15⊕(List Int)
abbrev Y38:=Bool×List Int×List Int
abbrev Y39:=Int×List Bool×List Int
abbrev Y40:=Int×Bool×List Bool×List Int
abbrev Y41:=Int×List Int×TN×TS×TI×Int×Int×Int×Int×List Int×List Int×List (List Int)
abbrev Y42:=Y4×List Int
abbrev Y43:=Bool×Int×List Int×List (ByteArray×Int)
abbrev Y44:=Int×ByteArray×Int×Int×Int×ByteArray×Int×Int×Int×List Int×List Int×TN
abbrev Y45:=Int×TN×TS×TI×Int×Int×Int×Int×List Int×List Int×List (List Int)
abbrev Y46:=Int×List Int×List (ByteArray×Bool)
abbrev Y47:=ByteArray×Bool×List Int
abbrev Y48:=ByteArray×Int×Int×Int×ByteArray×Int×Int×Int×List Int×TN
abbrev Y49:=Y5⊕(Y8⊕Bool)
abbrev Y50:=Unit⊕(Int⊕Bool)
abbrev Y51:=(Option Y0)×Bool
abbrev Y52:=(Int×TP)⊕(List Int)
abbrev Y53:=Bool×Int×List Int×List Int
abbrev Y54:=Y5⊕(Y5⊕(Y8⊕Y25))
abbrev Y55:=Y5⊕(Y8⊕(List Int))
abbrev Y56:=TN×Int×Int×Int×List Int
abbrev Y57:=Bool×Bool×List Int×(Option Y0)×List Int×List Int
abbrev Y58:=Int×(Option Y0)×List Int×List Bool×Bool×List Int
abbrev Y59:=Int×Bool×(Option Y0)×List Int×List Bool×List Int
abbrev Y60:=Int×Bool×List Int×(Option Y0)×List Int×List Int
abbrev Y61:=List (List Bool)×List Bool
abbrev Y62:=Int×TP×List (Int×Bool)
abbrev Y63:=List Int×Int×Int×Int×Int×Int×List Zbb
abbrev Y64:=TN×Int×Int×List Int
abbrev Y65:=Int×TN×Int×Int×Int×List Int×List Int
abbrev Y66:=Int×List Bool
abbrev Y67:=List Int×Bool
abbrev Y68:=List Bool×List Int
abbrev Y69:=Int×TP×List Int
def GT0:List Int:=[1,10,100,1000,10000,100000,1000000,10000000,100000000,1000000000,10000000000,100000000000,1000000000000,10000000000000,100000000000000,1000000000000000,10000000000000000,100000000000000000,1000000000000000000,10000000000000000000]
def BS0:ByteArray:=ByteArray.mk #[48,49,50,51,52,53,54,55,56,57,97,98,99,100,101,102,103,104,105,106,107,108,109,110,111,112,113,114,115,116,117,118,119,120,121,122]
def BS1:ByteArray:=ByteArray.mk #[48,48,48,49,48,50,48,51,48,52,48,53,48,54,48,55,48,56,48,57,49,48,49,49,49,50,49,51,49,52,49,53,49,54,49,55,49,56,49,57,50,48,50,49,50,50,50,51,50,52,50,53,50,54,50,55,50,56,50,57,51,48,51,49,51,50,51,51,51,52,51,53,51,54,51,55,51,56,51,57,52,48,52,49,52,50,52,51,52,52,52,53,52,54,52,55,52,56,52,57,53,48,53,49,53,50,53,51,53,52,53,53,53,54,53,55,53,56,53,57,54,48,54,49,54,50,54,51,54,52,54,53,54,54,54,55,54,56,54,57,55,48,55,49,55,50,55,51,55,52,55,53,55,54,55,55,55,56,55,57,56,48,56,49,56,50,56,51,56,52,56,53,56,54,56,55,56,56,56,57,57,48,57,49,57,50,57,51,57,52,57,53,57,54,57,55,57,56,57,57]
def BS2:ByteArray:=ByteArray.mk #[0,1,2,2,3,3,3,3,4,4,4,4,4,4,4,4,5,5,5,5,5,5,5,5,5,5,5,5,5,5,5,5,6,6,6,6,6,6,6,6,6,6,6,6,6,6,6,6,6,6,6,6,6,6,6,6,6,6,6,6,6,6,6,6,7,7,7,7,7,7,7,7,7,7,7,7,7,7,7,7,7,7,7,7,7,7,7,7,7,7,7,7,7,7,7,7,7,7,7,7,7,7,7,7,7,7,7,7,7,7,7,7,7,7,7,7,7,7,7,7,7,7,7,7,7,7,7,7,8,8,8,8,8,8,8,8,8,8,8,8,8,8,8,8,8,8,8,8,8,8,8,8,8,8,8,8,8,8,8,8,8,8,8,8,8,8,8,8,8,8,8,8,8,8,8,8,8,8,8,8,8,8,8,8,8,8,8,8,8,8,8,8,8,8,8,8,8,8,8,8,8,8,8,8,8,8,8,8,8,8,8,8,8,8,8,8,8,8,8,8,8,8,8,8,8,8,8,8,8,8,8,8,8,8,8,8,8,8,8,8,8,8,8,8,8,8,8,8,8,8,8,8,8,8,8,8]
def F11:Option Bool:=some true
def Z8T:Int->Option Int:=fun n3=>
 some n3
def F17 (n1:Int) (m2:Int):Option Int:=
 bif decide (m2=0) then none else
 (bif decide ((tmod n1 m2) < 0) then
 some (.inl (wrap .i64 ((tmod n1 m2)+m2)))
 else
 some (.inl (tmod n1 m2))).bind (Sum.elim Z8T some)
def F30 (n1:Int) (raw2:Int):Option Int:=
 (F17 n1 24).bind fun r3=>
 bif decide (r3 < 10) then
 (gI ([0,1,(-1),2,(-9223372036854775808),9223372036854775807,4294967296,(-2147483648),63,64]:List Int) r3).bind fun y4=>
 (gI ([0,1,(-1),2,(-9223372036854775808),9223372036854775807,4294967296,(-2147483648),63,64]:List Int) r3).bind fun y5=>
 some y5
 else
 bif decide (r3 < 22) then
 (F17 (wrap .i64 (tdiv n1 24)) 17).bind fun r6=>
 some (wrap .i64 (r6 - 6))
 else
 some raw2
def ZD0:Bool->Option (Int×Bool):=fun x6=>
 bif x6 then
 some ((-1),true)
 else
 some (0,false)
def ZD1 (op1:Int):Bool->Option (Int×Bool):=fun x5=>
 bif x5 then
 some (3,true)
 else
 (bif op1==30 then
 some (.inl true)
 else
 some (.inl (op1==31))).bind (Sum.elim ZD0 some)
def ZD2 (op1:Int):Bool->Option (Int×Bool):=fun x4=>
 bif x4 then
 some (2,true)
 else
 (bif op1==22 then
 some (.inl true)
 else
 some (.inl (op1==28))).bind (Sum.elim (ZD1 op1) some)
def Z9z (op1:Int):Bool->Option (Int×Bool):=fun x3=>
 bif x3 then
 some (1,true)
 else
 (bif decide (op1>=4) then
 bif decide (op1<=19) then
 some (.inl true)
 else
 bif op1==23 then
 some (.inl true)
 else
 bif op1==27 then
 some (.inl true)
 else
 some (.inl (op1==29))
 else
 bif op1==23 then
 some (.inl true)
 else
 bif op1==27 then
 some (.inl true)
 else
 some (.inl (op1==29))).bind (Sum.elim (ZD2 op1) some)
def Z5B (op1:Int):Bool->Option (Int×Bool):=fun x2=>
 bif x2 then
 some (0,true)
 else
 (bif op1==20 then
 some (.inl true)
 else
 bif op1==21 then
 some (.inl true)
 else
 bif op1==24 then
 some (.inl true)
 else
 some (.inl (op1==25))).bind (Sum.elim (Z9z op1) some)
def F31 (op1:Int):Option (Int×Bool):=
 (bif op1==1 then
 some (.inl true)
 else
 bif op1==2 then
 some (.inl true)
 else
 bif op1==3 then
 some (.inl true)
 else
 some (.inl (op1==26))).bind (Sum.elim (Z5B op1) some)
def ZwM (op1:Int):Bool->Option Int:=fun x2=>
 bif x2 then
 some 3
 else
 bif op1==27 then
 some 1000016
 else
 bif op1==30 then
 some 7
 else
 bif op1==31 then
 some 15
 else
 bif op1==25 then
 some 15
 else
 some (-1)
def F93 (op1:Int):Option Int:=
 bif op1==2 then
 some 5
 else
 bif op1==3 then
 some 255
 else
 (bif op1==23 then
 some (.inl true)
 else
 some (.inl (op1==28))).bind (Sum.elim (ZwM op1) some)
def ZuH:Bool->Option Bool:=fun x4=>
 some x4
def F84 (op1:Int) (n2:Int):Option Bool:=
 bif op1==1 then
 some true
 else
 (F93 op1).bind fun r3=>
 bif decide (r3 < 0) then
 some (n2==0)
 else
 (bif decide (n2>=0) then
 bif decide (n2<=r3) then
 bif op1 != 27 then
 some (.inl true)
 else
 some (.inl (decide (n2 > 0)))
 else
 some (.inl false)
 else
 some (.inl false)).bind (Sum.elim ZuH some)
def F85 (ok1:Bool) (n2:Int):Option Int:=
 bif ok1 then
 some n2
 else
 some 0
def ZrH (k1:List Int):Int->Option (Int⊕Bool):=fun i3=>
 bif decide (i3 < (k1.length:Int)) then
 (gI k1 i3).bind fun y4=>
 bif y4 != 1 then
 (some false).map .inr
 else
 some (.inl (wrap .i64 (i3+1)))
 else
 (some true).map .inr
def F86 (k1:List Int):Option Bool:=
 Zao (ZrH k1) 0
def Z57 (k3:List Int):Bool->Option Int:=fun x8=>
 bif x8 then
 some 0
 else
 (gI k3 1).bind fun y13=>
 some y13
def Z59:Int->Option Int:=fun x14=>
 some x14
def ZCo (n2:Int×Int×List Int):Bool->Option Int:=fun x21=>
 bif x21 then
 some 0
 else
 (F85 (n2.2.1==0) 1).bind fun r25=>
 some (wrap .i64 (r25+1))
def ZCl:Int->Option Int:=fun x27=>
 some x27
def ZCm:Int->Option Int:=fun x32=>
 some x32
def ZCp:Int->Option Int:=fun x39=>
 some x39
def ZCx:Int->Option Int:=fun x46=>
 some x46
def ZCe (n2:Int×Int×List Int) (k3:List Int):Bool->Option Int:=fun x26=>
 bif x26 then
 ((gI k3 0).bind fun y28=>
 bif y28==2 then
 (gI k3 1).bind fun y29=>
 (F85 (y29==1) 2).bind fun r30=>
 some (.inl r30)
 else
 (F85 false 2).bind fun r31=>
 some (.inl r31)).bind (Sum.elim ZCl some)
 else
 bif n2.1==28 then
 ((gI k3 0).bind fun y33=>
 bif y33==2 then
 (gI k3 1).bind fun y34=>
 bif y34==1 then
 (gI k3 2).bind fun y35=>
 (F85 (y35==1) 2).bind fun r36=>
 some (.inl r36)
 else
 (F85 false 2).bind fun r37=>
 some (.inl r37)
 else
 (F85 false 2).bind fun r38=>
 some (.inl r38)).bind (Sum.elim ZCm some)
 else
 bif n2.1==30 then
 (bif decide ((k3.length:Int)>=1) then
 bif decide ((k3.length:Int)<=7) then
 (gI k3 0).bind fun y40=>
 bif y40==2 then
 bif decide ((0:Int)<=1/\(1:Int)<=(k3.length:Int)/\(k3.length:Int)<=(k3.length:Int)) then
 (F86 (slI k3 1 (k3.length:Int))).bind fun r41=>
 (F85 r41 2).bind fun r42=>
 some (.inl r42)
 else none
 else
 (F85 false 2).bind fun r43=>
 some (.inl r43)
 else
 (F85 false 2).bind fun r44=>
 some (.inl r44)
 else
 (F85 false 2).bind fun r45=>
 some (.inl r45)).bind (Sum.elim ZCp some)
 else
 bif n2.1==31 then
 (bif (tmod (k3.length:Int) 2)==1 then
 bif decide ((wrap .i64 (tdiv (k3.length:Int) 2))>=1) then
 bif decide ((wrap .i64 (tdiv (k3.length:Int) 2))<=16) then
 (gI k3 0).bind fun y47=>
 bif y47==2 then
 bif decide ((0:Int)<=1/\(1:Int)<=wrap .i64 ((wrap .i64 (tdiv (k3.length:Int) 2))+1)/\wrap .i64 ((wrap .i64 (tdiv (k3.length:Int) 2))+1)<=(k3.length:Int)) then
 (F86 (slI k3 1 (wrap .i64 ((wrap .i64 (tdiv (k3.length:Int) 2))+1)))).bind fun r48=>
 bif r48 then
 (gI k3 (wrap .i64 ((wrap .i64 (tdiv (k3.length:Int) 2))+1))).bind fun y49=>
 bif y49==2 then
 bif decide ((0:Int)<=wrap .i64 ((wrap .i64 (tdiv (k3.length:Int) 2))+2)/\(wrap .i64 ((wrap .i64 (tdiv (k3.length:Int) 2))+2):Int)<=(k3.length:Int)/\(k3.length:Int)<=(k3.length:Int)) then
 (F86 (slI k3 (wrap .i64 ((wrap .i64 (tdiv (k3.length:Int) 2))+2)) (k3.length:Int))).bind fun r50=>
 (F85 r50 3).bind fun r51=>
 some (.inl r51)
 else none
 else
 (F85 false 3).bind fun r52=>
 some (.inl r52)
 else
 (F85 false 3).bind fun r53=>
 some (.inl r53)
 else none
 else
 (F85 false 3).bind fun r54=>
 some (.inl r54)
 else
 (F85 false 3).bind fun r55=>
 some (.inl r55)
 else
 (F85 false 3).bind fun r56=>
 some (.inl r56)
 else
 (F85 false 3).bind fun r57=>
 some (.inl r57)).bind (Sum.elim ZCx some)
 else
 (F86 k3).bind fun r58=>
 (F85 r58 1).bind fun r59=>
 some r59
def Z56 (l1:TN) (n2:Int×Int×List Int) (k3:List Int):Bool->Option Int:=fun x5=>
 bif x5 then
 some 0
 else
 bif n2.1==3 then
 bif (tmod n2.2.1 16)==0 then
 some 2
 else
 some 1
 else
 bif n2.1==26 then
 some 2
 else
 bif n2.1==22 then
 ((gI k3 0).bind fun y9=>
 bif y9 != 1 then
 some (.inl true)
 else
 (gI k3 1).bind fun y10=>
 (gI k3 2).bind fun y11=>
 bif y10 != y11 then
 some (.inl true)
 else
 (gI k3 1).bind fun y12=>
 some (.inl (y12==3))).bind (Sum.elim (Z57 k3) some)
 else
 bif n2.1==23 then
 ((gI k3 0).bind fun y15=>
 bif y15==2 then
 (gI k3 1).bind fun y16=>
 (F85 (y16==1) 1).bind fun r17=>
 some (.inl r17)
 else
 (F85 false 1).bind fun r18=>
 some (.inl r18)).bind (Sum.elim Z59 some)
 else
 bif n2.1==24 then
 (gI k3 0).bind fun y19=>
 (F85 (y19==2) 1).bind fun r20=>
 some r20
 else
 bif n2.1==25 then
 ((gI k3 0).bind fun y22=>
 bif y22 != 3 then
 some (.inl true)
 else
 (gI n2.2.2 0).bind fun y23=>
 (gI l1 y23).bind fun y24=>
 some (.inl (decide (n2.2.1>=(wrap .i64 (tdiv (y24.2.2.length:Int) 2)))))).bind (Sum.elim (ZCo n2) some)
 else
 (bif n2.1==27 then
 some (.inl true)
 else
 some (.inl (n2.1==29))).bind (Sum.elim (ZCe n2 k3) some)
def F64 (l1:TN) (n2:Int×Int×List Int) (k3:List Int):Option Int:=
 (F31 n2.1).bind fun r4=>
 (bif !r4.2 then
 some (.inl true)
 else
 bif decide (r4.1>=0) then
 bif (n2.2.2.length:Int) != r4.1 then
 some (.inl true)
 else
 (F84 n2.1 n2.2.1).bind fun r6=>
 some (.inl (!r6))
 else
 (F84 n2.1 n2.2.1).bind fun r7=>
 some (.inl (!r7))).bind (Sum.elim (Z56 l1 n2 k3) some)
def ZDc (ok18:Bool) (j19:Int) (y24:Int):Y38->Option (Y53⊕(Y38⊕Y36)):=fun (x25,out26,k27)=>
 bif x25 then
 (some (.inl (false,out26,k27))).map .inr
 else
 (gI out26 y24).bind fun y30=>
 (gI out26 y24).bind fun y31=>
 bif decide (k27.length+List.length ([y31]:List Int)<=1000000) then
 some (.inl (ok18,wrap .i64 (j19+1),out26,k27++([y31]:List Int)))
 else none
def ZuG (l1:TN) (i5:Int):Y53->Option (Y53⊕(Y38⊕Y36)):=fun (ok18,j19,out20,k21)=>
 (gI l1 i5).bind fun y22=>
 bif decide (j19 < (y22.2.2.length:Int)) then
 (gI l1 i5).bind fun y23=>
 (gI y23.2.2 j19).bind fun y24=>
 (bif decide (y24 < 0) then
 some (.inl (true,out20,k21))
 else
 bif decide (y24>=i5) then
 some (.inl (true,out20,k21))
 else
 (gI out20 y24).bind fun y28=>
 (gI out20 y24).bind fun y29=>
 some (.inl (y29==0,out20,k21))).bind (Sum.elim (ZDc ok18 j19 y24) some)
 else
 (some (.inl (ok18,out20,k21))).map .inr
def Zx0 (l1:TN) (i5:Int):Y38->Option Y36:=fun (ok8,out9,k10)=>
 bif ok8 then
 (gI l1 i5).bind fun y32=>
 (F64 l1 y32 k10).bind fun r33=>
 bif decide (out9.length+List.length ([r33]:List Int)<=1000000) then
 some (.inl (out9++([r33]:List Int)))
 else none
 else
 bif decide (out9.length+List.length ([0]:List Int)<=1000000) then
 some (.inl (out9++([0]:List Int)))
 else none
def Zx1 (i5:Int):(List Int)->Option Y10:=fun out7=>
 some (.inl (wrap .i64 (i5+1),out7))
def Zx2 (l1:TN):Y3->Option Y10:=fun (i5,out6)=>
 bif decide (i5 < (l1.length:Int)) then
 ((Zao (ZuG l1 i5) (true,0,out6,[])).bind (Sum.elim (Zx0 l1 i5) some)).bind (Sum.elim (Zx1 i5) some)
 else
 (some out6).map .inr
def F38 (l1:TN):Option (List Int):=
 Zao (Zx2 l1) (0,[])
def Z8M (i8:Int):(List Int)->Option (Y3⊕Int):=fun all10=>
 some (.inl (wrap .i64 (i8+1),all10))
def Z99 (l1:TN) (sort2:Int) (n3:Int) (r4:List Int):Y3->Option (Y3⊕Int):=fun (i8,all9)=>
 bif decide (i8 < (l1.length:Int)) then
 ((gI r4 i8).bind fun y11=>
 bif y11==sort2 then
 bif decide (all9.length+List.length ([i8]:List Int)<=1000000) then
 some (.inl (all9++([i8]:List Int)))
 else none
 else
 some (.inl all9)).bind (Sum.elim (Z8M i8) some)
 else
 ((F17 n3 (all9.length:Int)).bind fun r12=>
 (gI all9 (wrap .i64 ((wrap .i64 ((all9.length:Int) - 1)) - r12))).bind fun y13=>
 (gI all9 (wrap .i64 ((wrap .i64 ((all9.length:Int) - 1)) - r12))).bind fun y14=>
 some y14).map .inr
def F32 (l1:TN) (sort2:Int) (n3:Int):Option Int:=
 (F38 l1).bind fun r4=>
 Zao (Z99 l1 sort2 n3 r4) (0,[])
def ZrR:Bool->Option Int:=fun x2=>
 bif x2 then
 some 2
 else
 some 1
def F57 (op1:Int):Option Int:=
 (bif op1==27 then
 some (.inl true)
 else
 bif op1==28 then
 some (.inl true)
 else
 some (.inl (op1==29))).bind (Sum.elim ZrR some)
def ZrM:Bool->Option Int:=fun x3=>
 bif x3 then
 some 2
 else
 some 1
def F33 (op1:Int) (k2:Int):Option Int:=
 (bif k2==0 then
 (F57 op1).bind fun r4=>
 bif r4==2 then
 some (.inl true)
 else
 bif op1==23 then
 some (.inl true)
 else
 some (.inl (op1==24))
 else
 some (.inl false)).bind (Sum.elim ZrM some)
def ZyH (a1:Int×Int×List Int) (b2:Int×Int×List Int):Int->Option (Int⊕Bool):=fun i5=>
 bif decide (i5 < (a1.2.2.length:Int)) then
 (gI a1.2.2 i5).bind fun y6=>
 (gI b2.2.2 i5).bind fun y7=>
 bif y6 != y7 then
 (some false).map .inr
 else
 some (.inl (wrap .i64 (i5+1)))
 else
 (some true).map .inr
def ZAa (a1:Int×Int×List Int) (b2:Int×Int×List Int):Bool->Option Bool:=fun x3=>
 bif x3 then
 some false
 else
 Zao (ZyH a1 b2) 0
def F58 (a1:Int×Int×List Int) (b2:Int×Int×List Int):Option Bool:=
 (bif a1.1 != b2.1 then
 some (.inl true)
 else
 bif a1.2.1 != b2.2.1 then
 some (.inl true)
 else
 some (.inl ((a1.2.2.length:Int) != (b2.2.2.length:Int)))).bind (Sum.elim (ZAa a1 b2) some)
def Z8Q (l1:TN) (n2:Int×Int×List Int):Int->Option (Int⊕Bool):=fun i4=>
 bif decide (i4 < (l1.length:Int)) then
 (gI l1 i4).bind fun y5=>
 (F58 y5 n2).bind fun r6=>
 bif r6 then
 (some true).map .inr
 else
 some (.inl (wrap .i64 (i4+1)))
 else
 (some false).map .inr
def F35 (l1:TN) (n2:Int×Int×List Int):Option Bool:=
 Zao (Z8Q l1 n2) 0
def F34 (x1:Int) (l2:List Int):Option Y35:=
 bif (l2.length:Int)==0 then
 some (0,x1,l2)
 else
 (gI l2 0).bind fun y3=>
 (gI l2 0).bind fun y4=>
 bif decide ((0:Int)<=1/\(1:Int)<=(l2.length:Int)/\(l2.length:Int)<=(l2.length:Int)) then
 some (y4,x1,slI l2 1 (l2.length:Int))
 else none
def Z7r (l1:List Int) (i5:Int):(Bool×TN×Int×Int×Int×List Int)->Option (Y56⊕Y33):=fun (x20,out21,x22,n23,n24,l25)=>
 bif x20 then
 (gI l1 i5).bind fun y28=>
 (F17 (wrap .i64 (tdiv y28 9)) 5).bind fun r29=>
 (gI ([23,27,28,29,24]:List Int) r29).bind fun y30=>
 (gI ([23,27,28,29,24]:List Int) r29).bind fun y31=>
 some (.inl (out21,x22,y31,n24,l25))
 else
 some (.inl (out21,x22,n23,n24,l25))
def Z7s (l1:List Int) (i5:Int):(Bool×TN×Int×Int×List Int)->Option (Y64⊕Y33):=fun (x76,out77,n78,n79,l80)=>
 bif x76 then
 (gI l1 i5).bind fun y81=>
 (F17 (wrap .i64 (tdiv y81 5)) 2).bind fun r82=>
 some (.inl (out77,n78,r82,l80))
 else
 some (.inl (out77,n78,n79,l80))
def Z7t:Y64->Option Y33:=fun (out72,n73,n74,l75)=>
 (F35 out72 (n73,n74,l75)).bind fun r83=>
 bif !r83 then
 bif decide (out72.length+List.length ([(n73,n74,l75)]:TN)<=1000000) then
 some (.inl (out72++([(n73,n74,l75)]:TN)))
 else none
 else
 some (.inl out72)
def Z7M (l1:List Int) (i5:Int):Y64->Option Y33:=fun (out66,n67,n68,l69)=>
 ((bif n67==23 then
 some (.inl (true,out66,n67,n68,l69))
 else
 some (.inl (n67==28,out66,n67,n68,l69))).bind (Sum.elim (Z7s l1 i5) some)).bind (Sum.elim Z7t some)
def Z8I (l1:List Int) (i5:Int) (r42:Int×Bool):Y65->Option (Y65⊕Y33):=fun (j56,out57,x58,n59,n60,l61,l62)=>
 bif decide (j56 < r42.1) then
 (F33 n59 j56).bind fun r63=>
 (F34 x58 l61).bind fun r64=>
 (F32 out57 r63 r64.1).bind fun r65=>
 bif decide (l62.length+List.length ([r65]:List Int)<=1000000) then
 some (.inl (wrap .i64 (j56+1),out57,r64.2.1,n59,n60,r64.2.2,l62++([r65]:List Int)))
 else none
 else
 ((bif n59==27 then
 (gI l1 i5).bind fun y70=>
 (F17 (wrap .i64 (tdiv y70 5)) 2).bind fun r71=>
 some (.inl (out57,n59,wrap .i64 (1+r71),l62))
 else
 some (.inl (out57,n59,n60,l62))).bind (Sum.elim (Z7M l1 i5) some)).map .inr
def Z7N (l1:List Int) (i5:Int):Y56->Option Y33:=fun (out32,x33,n34,n35,l36)=>
 (F31 n34).bind fun r42=>
 Zao (Z8I l1 i5 r42) (0,out32,x33,n34,n35,l36,[])
def Z7u (l1:List Int) (i5:Int):Y56->Option Y33:=fun (out15,x16,n17,n18,l19)=>
 ((gI l1 i5).bind fun y37=>
 (F17 y37 11).bind fun r38=>
 bif r38==0 then
 (gI l1 i5).bind fun y39=>
 (gI l1 i5).bind fun y40=>
 (F30 (wrap .i64 (tdiv y39 11)) y40).bind fun r41=>
 some (.inl (out15,x16,1,r41,l19))
 else
 some (.inl (out15,x16,n17,n18,l19))).bind (Sum.elim (Z7N l1 i5) some)
def Z7O (i5:Int):TN->Option ((Int×TN)⊕TN):=fun out9=>
 some (.inl (wrap .i64 (i5+1),out9))
def Z7v (l1:List Int) (values2:Bool) (i5:Int):(Bool×TN)->Option ((Int×TN)⊕TN):=fun (x7,out8)=>
 bif x7 then
 ((gI l1 i5).bind fun y10=>
 (gI l1 i5).bind fun y11=>
 (gI l1 i5).bind fun y12=>
 (gI l1 i5).bind fun y13=>
 (F17 y13 19).bind fun r14=>
 ((bif !values2 then
 (gI l1 i5).bind fun y26=>
 (F17 y26 9).bind fun r27=>
 some (.inl (decide (r27 > 5),out8,0,wrap .i64 (4+r14),0,([wrap .i64 (tdiv y10 7),wrap .i64 (tdiv y11 101),wrap .i64 (tdiv y12 1009)]:List Int)))
 else
 some (.inl (false,out8,0,wrap .i64 (4+r14),0,([wrap .i64 (tdiv y10 7),wrap .i64 (tdiv y11 101),wrap .i64 (tdiv y12 1009)]:List Int)))).bind (Sum.elim (Z7r l1 i5) some)).bind (Sum.elim (Z7u l1 i5) some)).bind (Sum.elim (Z7O i5) some)
 else
 (some out8).map .inr
def Z8J (l1:List Int) (values2:Bool):(Int×TN)->Option ((Int×TN)⊕TN):=fun (i5,out6)=>
 (bif decide (i5 < (l1.length:Int)) then
 some (.inl (decide (i5 < 14),out6))
 else
 some (.inl (false,out6))).bind (Sum.elim (Z7v l1 values2 i5) some)
def F12 (l1:List Int) (values2:Bool):Option TN:=
 Zao (Z8J l1 values2) (0,([(2,0,[]),(2,1,[]),(26,0,[])]:TN))
def Z8l (sort2:Int) (i4:Int):Bool->Option (Int⊕Int):=fun v5=>
 bif v5==(sort2==1) then
 (some i4).map .inr
 else
 some (.inl (wrap .i64 (i4 - 1)))
def Z5z (l1:TN) (sort2:Int):Int->Option (Int⊕Int):=fun i4=>
 bif decide (i4>=0) then
 ((gI l1 i4).bind fun y6=>
 bif decide (y6.1>=1) then
 (gI l1 i4).bind fun y7=>
 bif decide (y7.1<=24) then
 some (.inl true)
 else
 (gI l1 i4).bind fun y8=>
 bif y8.1==25 then
 (gI l1 i4).bind fun y9=>
 some (.inl (y9.2.1 != 0))
 else
 some (.inl false)
 else
 (gI l1 i4).bind fun y10=>
 bif y10.1==25 then
 (gI l1 i4).bind fun y11=>
 some (.inl (y11.2.1 != 0))
 else
 some (.inl false)).bind (Sum.elim (Z8l sort2 i4) some)
 else
 (some 0).map .inr
def F13 (l1:TN) (sort2:Int):Option Int:=
 Zao (Z5z l1 sort2) (wrap .i64 ((l1.length:Int) - 1))
def F15 (n1:Int×Int×List Int):Option Bool:=
 some (decide (n1.1<=24))
def F14 (m1:Int) (d2:Int):Option (Int×Int):=
 (F17 d2 m1).bind fun r3=>
 bif decide (m1=0) then none else
 some (r3,wrap .i64 (tdiv (wrap .i64 (d2 - r3)) m1))
def ZEQ (i27:Int):(Int×Int×Int×Int×TN×Int×Int×Int×Int×TS)->Option (Y23⊕TT):=fun (l49,l50,l51,l52,s53,s54,s55,s56,s57,l58)=>
 some (.inl (wrap .i64 (i27+1),l49,l50,l51,l52,s53,s54,s55,s56,s57,l58))
def Z2d (pairs2:List Int) (i27:Int):(Bool×Int×Int×Int×Int×TN×Int×Int×Int×Int×TS)->Option (Y23⊕TT):=fun (x38,l39,l40,l41,l42,s43,s44,s45,s46,s47,l48)=>
 bif x38 then
 ((gI pairs2 i27).bind fun y59=>
 (F14 (s43.length:Int) y59).bind fun r60=>
 (F14 (s43.length:Int) r60.2).bind fun r61=>
 (gI s43 r60.1).bind fun y62=>
 (gI s43 r61.1).bind fun y63=>
 (F15 y62).bind fun r64=>
 (F15 y63).bind fun r65=>
 bif r64==r65 then
 bif decide (l48.length+List.length ([(r60.1,r61.1,1,[],[])]:TS)<=1000000) then
 some (.inl (l39,l40,l41,l42,s43,s44,s45,s46,s47,l48++([(r60.1,r61.1,1,[],[])]:TS)))
 else none
 else
 some (.inl (l39,l40,l41,l42,s43,s44,s45,s46,s47,l48))).bind (Sum.elim (ZEQ i27) some)
 else
 (some (s43,l48,[],s44,s45,s46,s47)).map .inr
def Z2f (pairs2:List Int):Y23->Option (Y23⊕TT):=fun (i27,l28,l29,l30,l31,s32,s33,s34,s35,s36,l37)=>
 (bif decide (i27 < (pairs2.length:Int)) then
 some (.inl (decide (i27 < 6),l28,l29,l30,l31,s32,s33,s34,s35,s36,l37))
 else
 some (.inl (false,l28,l29,l30,l31,s32,s33,s34,s35,s36,l37))).bind (Sum.elim (Z2d pairs2 i27) some)
def F4 (l1:List Int) (pairs2:List Int):Option TT:=
 (F12 l1 false).bind fun r3=>
 (F13 r3 1).bind fun r4=>
 (F13 r3 2).bind fun r5=>
 Zao (Z2f pairs2) (0,0,0,0,0,r3,r4,r5,0,0,[])
def ZuI:Bool->Option Bool:=fun x3=>
 some x3
def F39 (l1:TN) (i2:Int):Option Bool:=
 (bif decide (i2>=0) then
 some (.inl (decide (i2 < (l1.length:Int))))
 else
 some (.inl false)).bind (Sum.elim ZuI some)
def ZD3 (l1:TN) (i4:Int):Int->Option (Int⊕(Int⊕Bool)):=fun k7=>
 bif decide (k7 < i4) then
 (gI l1 k7).bind fun y8=>
 (gI l1 i4).bind fun y9=>
 (F58 y8 y9).bind fun r10=>
 bif r10 then
 ((some false).map .inr).map .inr
 else
 some (.inl (wrap .i64 (k7+1)))
 else
 (some (.inl (wrap .i64 (i4+1)))).map .inr
def ZwW (l1:TN) (r2:List Int):Int->Option (Int⊕Bool):=fun i4=>
 bif decide (i4 < (l1.length:Int)) then
 (gI r2 i4).bind fun y5=>
 bif y5==0 then
 (some false).map .inr
 else
 Zao (ZD3 l1 i4) 0
 else
 (some true).map .inr
def F40 (l1:TN):Option Bool:=
 (F38 l1).bind fun r2=>
 Zao (ZwW l1 r2) 0
def ZxM:Bool->Option Bool:=fun x3=>
 some x3
def F41 (l1:TN) (s2:Int×Int×Int×List Int×List Int):Option Bool:=
 ((F39 l1 s2.1).bind fun r4=>
 bif r4 then
 (F39 l1 s2.2.1).bind fun r5=>
 some (.inl r5)
 else
 some (.inl false)).bind (Sum.elim ZxM some)
def ZD4 (t10:Int):Bool->Option (Int⊕Bool):=fun x12=>
 bif x12 then
 (some false).map .inr
 else
 some (.inl (wrap .i64 (t10+1)))
def ZD5 (s1:TT) (r2:List Int):Int->Option (Int⊕Bool):=fun t10=>
 bif decide (t10 < (s1.2.1.length:Int)) then
 (gI s1.2.1 t10).bind fun y11=>
 ((F41 s1.1 y11).bind fun r13=>
 bif !r13 then
 some (.inl true)
 else
 (gI r2 y11.1).bind fun y14=>
 (gI r2 y11.2.1).bind fun y15=>
 some (.inl (y14 != y15))).bind (Sum.elim (ZD4 t10) some)
 else
 (some true).map .inr
def Zy1 (s1:TT) (r2:List Int):Bool->Option Bool:=fun x3=>
 bif x3 then
 some false
 else
 Zao (ZD5 s1 r2) 0
def F20 (s1:TT):Option Bool:=
 (F38 s1.1).bind fun r2=>
 (bif decide ((s1.1.length:Int) > 2000) then
 some (.inl true)
 else
 (F39 s1.1 s1.2.2.2.1).bind fun r4=>
 bif !r4 then
 some (.inl true)
 else
 (F39 s1.1 s1.2.2.2.2.1).bind fun r5=>
 bif !r5 then
 some (.inl true)
 else
 (gI r2 s1.2.2.2.1).bind fun y6=>
 bif y6 != 1 then
 some (.inl true)
 else
 (gI r2 s1.2.2.2.2.1).bind fun y7=>
 bif y7 != 2 then
 some (.inl true)
 else
 (F40 s1.1).bind fun r8=>
 some (.inl (!r8))).bind (Sum.elim (Zy1 s1 r2) some)
def ZD6 (i6:Int):Bool->Option (Int⊕Bool):=fun x9=>
 bif x9 then
 (some false).map .inr
 else
 some (.inl (wrap .i64 (i6+1)))
def ZD7 (a1:Int×Int×List Int) (b2:Int×Int×List Int) (c3:List Int):Int->Option (Int⊕Bool):=fun i6=>
 bif decide (i6 < (a1.2.2.length:Int)) then
 (gI a1.2.2 i6).bind fun y7=>
 (gI b2.2.2 i6).bind fun y8=>
 (bif decide (y7 < 0) then
 some (.inl true)
 else
 bif decide (y8 < 0) then
 some (.inl true)
 else
 bif decide (y7>=(c3.length:Int)) then
 some (.inl true)
 else
 bif decide (y8>=(c3.length:Int)) then
 some (.inl true)
 else
 (gI c3 y7).bind fun y10=>
 (gI c3 y8).bind fun y11=>
 some (.inl (y10 != y11))).bind (Sum.elim (ZD6 i6) some)
 else
 (some true).map .inr
def ZAf (a1:Int×Int×List Int) (b2:Int×Int×List Int) (c3:List Int):Bool->Option Bool:=fun x4=>
 bif x4 then
 some false
 else
 Zao (ZD7 a1 b2 c3) 0
def F60 (a1:Int×Int×List Int) (b2:Int×Int×List Int) (c3:List Int):Option Bool:=
 (bif a1.1 != b2.1 then
 some (.inl true)
 else
 bif a1.2.1 != b2.2.1 then
 some (.inl true)
 else
 some (.inl ((a1.2.2.length:Int) != (b2.2.2.length:Int)))).bind (Sum.elim (ZAf a1 b2 c3) some)
def Zx4 (i14:Int):(List Int)->Option Y10:=fun c16=>
 some (.inl (wrap .i64 (i14+1),c16))
def Zx5 (y5:Int) (y7:Int) (y9:Int) (y11:Int):Y3->Option Y10:=fun (i14,c15)=>
 bif decide (i14 < (c15.length:Int)) then
 ((gI c15 i14).bind fun y17=>
 (gI c15 i14).bind fun y18=>
 bif y18==(if y11 > y9 then y11 else y9) then
 (gI c15 i14).bind fun y19=>
 (gI c15 i14).bind fun y20=>
 some (.inl (Zaq c15 i14 (if y7 < y5 then y7 else y5)))
 else
 some (.inl c15)).bind (Sum.elim (Zx4 i14) some)
 else
 (some c15).map .inr
def F59 (a1:Int) (b2:Int) (c3:List Int):Option (List Int):=
 (gI c3 a1).bind fun y4=>
 (gI c3 a1).bind fun y5=>
 (gI c3 b2).bind fun y6=>
 (gI c3 b2).bind fun y7=>
 (gI c3 a1).bind fun y8=>
 (gI c3 a1).bind fun y9=>
 (gI c3 b2).bind fun y10=>
 (gI c3 b2).bind fun y11=>
 Zao (Zx5 y5 y7 y9 y11) (0,c3)
def ZD8 (y13:Int×Int) (y14:Int×Int):Y15->Option Y36:=fun (x15,c16)=>
 bif x15 then
 (F59 y13.1 y14.2 c16).bind fun r17=>
 some (.inl r17)
 else
 some (.inl c16)
def Z9P (i10:Int):(List Int)->Option Y10:=fun c12=>
 some (.inl (wrap .i64 (i10+1),c12))
def ZD9 (j26:Int) (more31:Bool) (i32:Int):Y15->Option (Y15⊕(Y27⊕(Y27⊕Y37))):=fun (x36,c37)=>
 bif x36 then
 (F59 i32 j26 c37).bind fun r45=>
 some (.inl (true,r45))
 else
 some (.inl (more31,c37))
def ZDA (i32:Int):Y15->Option (Y27⊕(Y27⊕Y37)):=fun (more34,c35)=>
 some (.inl (more34,wrap .i64 (i32+1),c35))
def ZDB (l1:TN) (j26:Int):Y27->Option (Y27⊕(Y27⊕Y37)):=fun (more31,i32,c33)=>
 bif decide (i32 < j26) then
 (((gI c33 i32).bind fun y38=>
 (gI c33 i32).bind fun y39=>
 (gI c33 j26).bind fun y40=>
 (gI c33 j26).bind fun y41=>
 bif y39 != y41 then
 (gI l1 i32).bind fun y42=>
 (gI l1 j26).bind fun y43=>
 (F60 y42 y43 c33).bind fun r44=>
 some (.inl (r44,c33))
 else
 some (.inl (false,c33))).bind (Sum.elim (ZD9 j26 more31 i32) some)).bind (Sum.elim (ZDA i32) some)
 else
 (some (.inl (more31,wrap .i64 (j26+1),c33))).map .inr
def ZDd (l1:TN):Y27->Option (Y27⊕Y37):=fun (more25,j26,c27)=>
 bif decide (j26 < (l1.length:Int)) then
 Zao (ZDB l1 j26) (more25,0,c27)
 else
 (some (.inl (more25,c27))).map .inr
def ZDC (l1:TN):Y15->Option Y37:=fun (more20,c21)=>
 bif more20 then
 Zao (ZDd l1) (false,0,c21)
 else
 (some c21).map .inr
def ZDD (l1:TN) (pairs2:TP):Y3->Option Y10:=fun (i10,c11)=>
 bif decide (i10 < (pairs2.length:Int)) then
 ((gI pairs2 i10).bind fun y13=>
 (gI pairs2 i10).bind fun y14=>
 (bif decide (y13.1>=0) then
 bif decide (y14.2>=0) then
 bif decide (y13.1 < (l1.length:Int)) then
 some (.inl (decide (y14.2 < (l1.length:Int)),c11))
 else
 some (.inl (false,c11))
 else
 some (.inl (false,c11))
 else
 some (.inl (false,c11))).bind (Sum.elim (ZD8 y13 y14) some)).bind (Sum.elim (Z9P i10) some)
 else
 (Zao (ZDC l1) (true,c11)).map .inr
def Z9Q (l1:TN) (pairs2:TP):Y3->Option Y10:=fun (i6,c7)=>
 bif decide (i6 < (l1.length:Int)) then
 bif decide (c7.length+List.length ([i6]:List Int)<=1000000) then
 some (.inl (wrap .i64 (i6+1),c7++([i6]:List Int)))
 else none
 else
 (Zao (ZDD l1 pairs2) (0,c7)).map .inr
def F36 (l1:TN) (pairs2:TP):Option (List Int):=
 Zao (Z9Q l1 pairs2) (0,[])
def Z9C (s1:TT):(Int×TP)->Option Y52:=fun (t6,pairs7)=>
 bif decide (t6 < (s1.2.1.length:Int)) then
 (gI s1.2.1 t6).bind fun y8=>
 (gI s1.2.1 t6).bind fun y9=>
 bif decide (pairs7.length+List.length ([(y8.1,y9.2.1)]:TP)<=1000000) then
 some (.inl (wrap .i64 (t6+1),pairs7++([(y8.1,y9.2.1)]:TP)))
 else none
 else
 ((F36 s1.1 pairs7).bind fun r10=>
 some r10).map .inr
def F16 (s1:TT):Option (List Int):=
 (F20 s1).bind fun r2=>
 bif !r2 then
 some []
 else
 Zao (Z9C s1) (0,[])
def ZB1 (k17:Int):(List Int×List Int)->Option (Y22⊕Y36):=fun (out20,all21)=>
 some (.inl (wrap .i64 (k17+1),out20,all21))
def ZEN (i6:Int):Y22->Option Y36:=fun (n23,out24,all25)=>
 (F17 n23 13).bind fun r27=>
 bif r27 != 12 then
 (F17 n23 (all25.length:Int)).bind fun r28=>
 (gI all25 r28).bind fun y29=>
 (gI all25 r28).bind fun y30=>
 (gI out24 i6).bind fun y31=>
 (gI out24 i6).bind fun y32=>
 some (.inl (Zaq out24 i6 y30))
 else
 some (.inl out24)
def Z5Q (l2:List Int) (r3:List Int) (i6:Int):Y22->Option (Y22⊕Y36):=fun (k17,out18,all19)=>
 bif decide (k17 < (r3.length:Int)) then
 ((gI r3 k17).bind fun y22=>
 bif y22==i6 then
 bif decide (all19.length+List.length ([k17]:List Int)<=1000000) then
 some (.inl (out18,all19++([k17]:List Int)))
 else none
 else
 some (.inl (out18,all19))).bind (Sum.elim (ZB1 k17) some)
 else
 ((bif decide (i6 < (l2.length:Int)) then
 (gI l2 i6).bind fun y26=>
 some (.inl (y26,out18,all19))
 else
 some (.inl (0,out18,all19))).bind (Sum.elim (ZEN i6) some)).map .inr
def Z5O (i6:Int):(List Int)->Option Y10:=fun out8=>
 some (.inl (wrap .i64 (i6+1),out8))
def Z5R (l2:List Int) (r3:List Int):Y3->Option Y10:=fun (i6,out7)=>
 bif decide (i6 < (r3.length:Int)) then
 ((gI out7 i6).bind fun y9=>
 (gI out7 i6).bind fun y10=>
 (gI r3 i6).bind fun y11=>
 bif y11 != i6 then
 some (.inl (Zaq out7 i6 (-1)))
 else
 Zao (Z5Q l2 r3 i6) (i6,Zaq out7 i6 (-1),[])).bind (Sum.elim (Z5O i6) some)
 else
 (some out7).map .inr
def F5 (s1:TT) (l2:List Int):Option (List Int):=
 (F16 s1).bind fun r3=>
 bif decide ((0:Int)<=(r3.length:Int)/\((r3.length:Int):Int)=(r3.length:Int)/\((r3.length:Int):Int)<=1000000) then
 Zao (Z5R l2 r3) (0,(replicate (toNat (r3.length:Int)) 0:List Int))
 else none
def ZDE (k9:Int):Bool->Option (Int⊕Bool):=fun x10=>
 bif x10 then
 (some false).map .inr
 else
 some (.inl (wrap .i64 (k9+1)))
def Zyc (l1:TN) (one2:List Int) (y5:Int×Int×List Int) (y6:Int×Int×List Int):Int->Option (Int⊕Bool):=fun k9=>
 bif decide (k9 < (y5.2.2.length:Int)) then
 ((gI y5.2.2 k9).bind fun y11=>
 (F39 l1 y11).bind fun r12=>
 bif !r12 then
 some (.inl true)
 else
 (gI y6.2.2 k9).bind fun y13=>
 (F39 l1 y13).bind fun r14=>
 bif !r14 then
 some (.inl true)
 else
 (gI y5.2.2 k9).bind fun y15=>
 (gI one2 y15).bind fun y16=>
 (gI y6.2.2 k9).bind fun y17=>
 (gI one2 y17).bind fun y18=>
 some (.inl (y16 != y18))).bind (Sum.elim (ZDE k9) some)
 else
 (some true).map .inr
def ZuM (l1:TN) (one2:List Int) (y5:Int×Int×List Int) (y6:Int×Int×List Int):Bool->Option Bool:=fun x7=>
 bif x7 then
 some false
 else
 Zao (Zyc l1 one2 y5 y6) 0
def F42 (l1:TN) (one2:List Int) (a3:Int) (b4:Int):Option Bool:=
 (gI l1 a3).bind fun y5=>
 (gI l1 b4).bind fun y6=>
 (bif y5.1 != y6.1 then
 some (.inl true)
 else
 bif y5.2.1 != y6.2.1 then
 some (.inl true)
 else
 some (.inl ((y5.2.2.length:Int) != (y6.2.2.length:Int)))).bind (Sum.elim (ZuM l1 one2 y5 y6) some)
def ZAB (j60:Int):(Bool×Int×Int×Int×Int×TN×TS×TI×Int×Int×Int×Int×List Int×List (List Int))->Option Y20:=fun (first77,l78,l79,l80,l81,x82,x83,x84,x85,x86,x87,x88,x89,l90)=>
 some (.inl (first77,wrap .i64 (j60+1),l78,l79,l80,l81,x82,x83,x84,x85,x86,x87,x88,x89,l90))
def ZDF (s1:TT) (i17:Int):(Bool×Int×Int×Int×Int×Int×TN×TS×TI×Int×Int×Int×Int×List Int×List (List Int))->Option Y20:=fun (first59,j60,l61,l62,l63,l64,x65,x66,x67,x68,x69,x70,x71,x72,l73)=>
 (gI x72 i17).bind fun y74=>
 (gI l73 y74).bind fun y75=>
 (gI l73 y74).bind fun y76=>
 bif decide (j60 < (y76.length:Int)) then
 (bif first59 then
 (gI x72 i17).bind fun y91=>
 (gI (Zaq l73 y74 y76) y91).bind fun y92=>
 (gI (Zaq l73 y74 y76) y91).bind fun y93=>
 (gI y93 j60).bind fun y94=>
 (gI y93 j60).bind fun y95=>
 (F42 s1.1 x72 y95 i17).bind fun r96=>
 some (.inl (!r96,l61,l62,l63,l64,x65,x66,x67,x68,x69,x70,x71,x72,Zaq (Zaq l73 y74 y76) y91 y93))
 else
 some (.inl (false,l61,l62,l63,l64,x65,x66,x67,x68,x69,x70,x71,x72,Zaq l73 y74 y76))).bind (Sum.elim (ZAB j60) some)
 else
 (bif first59 then
 (gI x72 i17).bind fun y97=>
 (gI x72 i17).bind fun y98=>
 (gI (Zaq l73 y74 y76) y98).bind fun y99=>
 (gI (Zaq l73 y74 y76) y98).bind fun y100=>
 bif decide (y100.length+List.length ([i17]:List Int)<=1000000) then
 (gI (Zaq l73 y74 y76) y97).bind fun y101=>
 (gI (Zaq l73 y74 y76) y97).bind fun y102=>
 bif decide (y97=y98) then
 some (.inl (l61,l62,l63,l64,x65,x66,x67,x68,x69,x70,x71,x72,Zaq (Zaq l73 y74 y76) y97 (y100++([i17]:List Int))))
 else none
 else none
 else
 some (.inl (l61,l62,l63,l64,x65,x66,x67,x68,x69,x70,x71,x72,Zaq l73 y74 y76))).map .inr
def ZyK (i17:Int):(Int×Int×Int×Int×TN×TS×TI×Int×Int×Int×Int×List Int×List (List Int))->Option Y11:=fun (l31,l32,l33,l34,x35,x36,x37,x38,x39,x40,x41,x42,l43)=>
 some (.inl (wrap .i64 (i17+1),l31,l32,l33,l34,x35,x36,x37,x38,x39,x40,x41,x42,l43))
def ZDe (s1:TT):(Int×Int×Int×Int×Int×TN×TS×TI×Int×Int×Int×Int×List Int×List (List Int))->Option Y11:=fun (i17,l18,l19,l20,l21,x22,x23,x24,x25,x26,x27,x28,x29,l30)=>
 bif decide (i17 < (s1.1.length:Int)) then
 (Zao (ZDF s1 i17) (true,0,l18,l19,l20,l21,x22,x23,x24,x25,x26,x27,x28,x29,l30)).bind (Sum.elim (ZyK i17) some)
 else
 (some ((x22,x23,x24,x25,x26,x27,x28),x29,l30)).map .inr
def F21 (s1:TT):Option (TT×List Int×List (List Int)):=
 (F16 s1).bind fun r2=>
 bif decide ((0:Int)<=(s1.1.length:Int)/\((s1.1.length:Int):Int)=(s1.1.length:Int)/\((s1.1.length:Int):Int)<=1000000) then
 Zao (ZDe s1) (0,0,0,0,0,s1.1,s1.2.1,s1.2.2.1,s1.2.2.2.1,s1.2.2.2.2.1,s1.2.2.2.2.2.1,s1.2.2.2.2.2.2,r2,(replicate (toNat (s1.1.length:Int)) []:List (List Int)))
 else none
def ZxN (i4:Int):Bool->Option (Int⊕Bool):=fun x5=>
 bif x5 then
 (some false).map .inr
 else
 some (.inl (wrap .i64 (i4+1)))
def ZxO (x1:TT×List Int×List (List Int)) (ch2:List Int):Int->Option (Int⊕Bool):=fun i4=>
 bif decide (i4 < (ch2.length:Int)) then
 ((gI ch2 i4).bind fun y6=>
 bif y6 != (-1) then
 (gI x1.2.1 i4).bind fun y7=>
 bif y7 != i4 then
 some (.inl true)
 else
 (gI ch2 i4).bind fun y8=>
 (F39 x1.1.1 y8).bind fun r9=>
 bif !r9 then
 some (.inl true)
 else
 (gI ch2 i4).bind fun y10=>
 (gI x1.2.1 y10).bind fun y11=>
 some (.inl (y11 != i4))
 else
 some (.inl false)).bind (Sum.elim (ZxN i4) some)
 else
 (some true).map .inr
def F61 (x1:TT×List Int×List (List Int)) (ch2:List Int):Option Bool:=
 bif (ch2.length:Int) != (x1.2.1.length:Int) then
 some false
 else
 Zao (ZxO x1 ch2) 0
def ZuL (l1:TN) (i2:Int):Bool->Option Int:=fun x3=>
 bif x3 then
 some 0
 else
 bif decide ((0:Int)<=0/\(0:Int)<=wrap .i64 (i2+1)/\wrap .i64 (i2+1)<=(l1.length:Int)) then
 (F38 (slI l1 0 (wrap .i64 (i2+1)))).bind fun r4=>
 (gI r4 i2).bind fun y5=>
 some y5
 else none
def F81 (l1:TN) (i2:Int):Option Int:=
 (bif decide (i2 < 0) then
 some (.inl true)
 else
 some (.inl (decide (i2>=(l1.length:Int))))).bind (Sum.elim (ZuL l1 i2) some)
def ZxY (l1:TN) (i4:Int):Bool->Option (Int⊕Int):=fun x5=>
 bif x5 then
 (gI l1 i4).bind fun y8=>
 (some (wrap .i64 (tdiv (y8.2.2.length:Int) 2))).map .inr
 else
 some (.inl (wrap .i64 (i4+1)))
def ZxX (l1:TN) (n2:Int):Int->Option (Int⊕Int):=fun i4=>
 bif decide (i4 < (l1.length:Int)) then
 ((gI l1 i4).bind fun y6=>
 bif y6.1==31 then
 (gI l1 i4).bind fun y7=>
 some (.inl (y7.2.1==n2))
 else
 some (.inl false)).bind (Sum.elim (ZxY l1 i4) some)
 else
 (some 0).map .inr
def F82 (l1:TN) (n2:Int):Option Int:=
 Zao (ZxX l1 n2) 0
def Zyg (j17:Int):(Bool×List (List Bool)×List Bool)->Option (Y61⊕(Y16⊕(Y16⊕Y19))):=fun (x22,out23,h24)=>
 bif x22 then
 (gI h24 j17).bind fun y29=>
 (gI h24 j17).bind fun y30=>
 some (.inl (out23,Zaq h24 j17 true))
 else
 some (.inl (out23,h24))
def Zyh (j17:Int):Y61->Option (Y16⊕(Y16⊕Y19)):=fun (out20,h21)=>
 some (.inl (wrap .i64 (j17+1),out20,h21))
def ZDG (y7:Int×Int×List Int) (k11:Int):Y16->Option (Y16⊕(Y16⊕Y19)):=fun (j17,out18,h19)=>
 bif decide (j17 < 16) then
 (((gI y7.2.2 k11).bind fun y25=>
 (gI out18 y25).bind fun y26=>
 (gI out18 y25).bind fun y27=>
 (gI y27 j17).bind fun y28=>
 bif y28 then
 bif y7.1 != 31 then
 some (.inl (true,out18,h19))
 else
 bif j17 != y7.2.1 then
 some (.inl (true,out18,h19))
 else
 some (.inl (decide (k11 < (wrap .i64 (tdiv (y7.2.2.length:Int) 2))),out18,h19))
 else
 some (.inl (false,out18,h19))).bind (Sum.elim (Zyg j17) some)).bind (Sum.elim (Zyh j17) some)
 else
 (some (.inl (wrap .i64 (k11+1),out18,h19))).map .inr
def Zyf (i5:Int):Y61->Option Y19:=fun (out31,h32)=>
 bif decide (out31.length+List.length ([h32]:List (List Bool))<=1000000) then
 some (.inl (wrap .i64 (i5+1),out31++([h32]:List (List Bool))))
 else none
def ZDH (i5:Int) (y7:Int×Int×List Int):Y16->Option (Y16⊕Y19):=fun (k11,out12,h13)=>
 bif decide (k11 < (y7.2.2.length:Int)) then
 Zao (ZDG y7 k11) (0,out12,h13)
 else
 ((bif y7.1==3 then
 (gI h13 (wrap .i64 (tdiv y7.2.1 16))).bind fun y33=>
 (gI h13 (wrap .i64 (tdiv y7.2.1 16))).bind fun y34=>
 some (.inl (out12,Zaq h13 (wrap .i64 (tdiv y7.2.1 16)) true))
 else
 some (.inl (out12,h13))).bind (Sum.elim (Zyf i5) some)).map .inr
def ZDI (l1:TN):(Int×List (List Bool))->Option Y19:=fun (i5,out6)=>
 bif decide (i5 < (l1.length:Int)) then
 bif decide ((0:Int)<=16/\(16:Int)=16/\(16:Int)<=1000000) then
 (gI l1 i5).bind fun y7=>
 Zao (ZDH i5 y7) (0,out6,(replicate (toNat 16) false:List Bool))
 else none
 else
 (some out6).map .inr
def F83 (l1:TN):Option (List (List Bool)):=
 Zao (ZDI l1) (0,[])
def ZAz (k10:Int):Bool->Option (Int⊕Y50):=fun x12=>
 bif x12 then
 (((some false).map .inr).map .inr).map .inr
 else
 some (.inl (wrap .i64 (k10+1)))
def ZA0:Bool->Option Y50:=fun x16=>
 bif x16 then
 ((some false).map .inr).map .inr
 else
 some (.inl ())
def Z55 (g1:ByteArray×Int×TN×Int×Int) (y8:Int×Int×List Int) (k10:Int):Bool->Option (Int⊕Y50):=fun x11=>
 bif x11 then
 ((gI g1.2.2.1 k10).bind fun y13=>
 bif y13.1==31 then
 (gI g1.2.2.1 k10).bind fun y14=>
 some (.inl (y14.2.1==y8.2.1))
 else
 some (.inl false)).bind (Sum.elim (ZAz k10) some)
 else
 (bif y8.1==3 then
 (F82 g1.2.2.1 (wrap .i64 (tdiv y8.2.1 16))).bind fun r15=>
 (bif decide (r15 > 0) then
 some (.inl (decide ((tmod y8.2.1 16)>=r15)))
 else
 some (.inl false)).bind (Sum.elim ZA0 some)
 else
 some (.inl ())).map .inr
def ZA1 (g1:ByteArray×Int×TN×Int×Int) (i7:Int) (y8:Int×Int×List Int):Int->Option (Int⊕Y50):=fun k10=>
 (bif decide (k10 < i7) then
 some (.inl (y8.1==31))
 else
 some (.inl false)).bind (Sum.elim (Z55 g1 y8 k10) some)
def Z53 (i7:Int):Unit->Option (Int⊕Bool):=fun _=>
 some (.inl (wrap .i64 (i7+1)))
def ZA2 (j19:Int):Bool->Option (Int⊕Bool):=fun x20=>
 bif x20 then
 (some false).map .inr
 else
 some (.inl (wrap .i64 (j19+1)))
def ZA3 (g1:ByteArray×Int×TN×Int×Int) (r17:List (List Bool)):Int->Option (Int⊕Bool):=fun j19=>
 bif decide (j19 < 16) then
 ((gI r17 g1.2.2.2.1).bind fun y21=>
 (gI y21 j19).bind fun y22=>
 bif y22 then
 some (.inl true)
 else
 (gI r17 g1.2.2.2.2).bind fun y23=>
 (gI y23 j19).bind fun y24=>
 some (.inl y24)).bind (Sum.elim (ZA2 j19) some)
 else
 (some true).map .inr
def Z54 (g1:ByteArray×Int×TN×Int×Int):Int->Option (Int⊕Bool):=fun i7=>
 bif decide (i7 < (g1.2.2.1.length:Int)) then
 ((gI g1.2.2.1 i7).bind fun y8=>
 Zao (ZA1 g1 i7 y8) 0).bind (Sum.elim (Z53 i7) some)
 else
 ((F83 g1.2.2.1).bind fun r17=>
 Zao (ZA3 g1 r17) 0).map .inr
def Z52 (g1:ByteArray×Int×TN×Int×Int):Bool->Option Bool:=fun x2=>
 bif x2 then
 some false
 else
 Zao (Z54 g1) 0
def F63 (g1:ByteArray×Int×TN×Int×Int):Option Bool:=
 ((F40 g1.2.2.1).bind fun r3=>
 bif !r3 then
 some (.inl true)
 else
 (F81 g1.2.2.1 g1.2.2.2.1).bind fun r4=>
 bif r4 != 1 then
 some (.inl true)
 else
 (F81 g1.2.2.1 g1.2.2.2.2).bind fun r5=>
 some (.inl (r5 != 2))).bind (Sum.elim (Z52 g1) some)
def ZA4 (y47:Int×Int×List Int):Y31->Option (Y32⊕Y1):=fun (x126,t127,t128,t129,t130,t131,t132,t133,t134,t135,t136,t137,t138,t139,t140,t141,l142,l143)=>
 bif x126 then
 some (.inl (t127,t128,t129,t130,t131,t132,t133,t134,t135,t136,t137,wrap .i64 (y47.2.1+1),t139,t140,t141,l142,l143))
 else
 some (.inl (t127,t128,t129,t130,t131,t132,t133,t134,t135,t136,t137,t138,t139,t140,t141,l142,l143))
def ZA5 (c1:Int):Y32->Option Y1:=fun (t109,t110,t111,t112,t113,t114,t115,t116,t117,t118,t119,t120,t121,t122,t123,l124,l125)=>
 (gI l124 c1).bind fun y144=>
 (gI l124 c1).bind fun y145=>
 some (y145,t109,t110,t111,t112,t113,t114,t115,t116,t117,t118,t119,t120,t121,t122,t123,l124,l125)
def ZA6 (rec62:Int->TN->TS->TI->Int->Int->Int->Int->(List Int)->(List (List Int))->(List Int)->ByteArray->Int->Int->Int->Bool->(List Int)->TN->Option Y1) (c1:Int) (y47:Int×Int×List Int):Y30->Option (Y30⊕Y1):=fun (k85,t86,t87,t88,t89,t90,t91,t92,t93,t94,t95,t96,t97,t98,t99,t100,kids101,l102,l103)=>
 bif decide (k85 < (y47.2.2.length:Int)) then
 (gI y47.2.2 k85).bind fun y104=>
 (gI t93 y104).bind fun y105=>
 (rec62 y105 t86 t87 t88 t89 t90 t91 t92 t93 t94 t95 t96 t97 t98 t99 t100 l102 l103).bind fun r106=>
 bif decide (kids101.length+List.length ([r106.1]:List Int)<=1000000) then
 some (.inl (wrap .i64 (k85+1),r106.2.1,r106.2.2.1,r106.2.2.2.1,r106.2.2.2.2.1,r106.2.2.2.2.2.1,r106.2.2.2.2.2.2.1,r106.2.2.2.2.2.2.2.1,r106.2.2.2.2.2.2.2.2.1,r106.2.2.2.2.2.2.2.2.2.1,r106.2.2.2.2.2.2.2.2.2.2.1,r106.2.2.2.2.2.2.2.2.2.2.2.1,r106.2.2.2.2.2.2.2.2.2.2.2.2.1,r106.2.2.2.2.2.2.2.2.2.2.2.2.2.1,r106.2.2.2.2.2.2.2.2.2.2.2.2.2.2.1,r106.2.2.2.2.2.2.2.2.2.2.2.2.2.2.2.1,kids101++([r106.1]:List Int),r106.2.2.2.2.2.2.2.2.2.2.2.2.2.2.2.2.1,r106.2.2.2.2.2.2.2.2.2.2.2.2.2.2.2.2.2))
 else none
 else
 ((gI l102 c1).bind fun y107=>
 (gI l102 c1).bind fun y108=>
 bif decide (l103.length+List.length ([(y47.1,y47.2.1,kids101)]:TN)<=1000000) then
 ((bif y47.1==2 then
 some (.inl (decide (y47.2.1>=t97),t86,t87,t88,t89,t90,t91,t92,t93,t94,t95,t96,t97,t98,t99,t100,Zaq l102 c1 (l103.length:Int),l103++([(y47.1,y47.2.1,kids101)]:TN)))
 else
 some (.inl (false,t86,t87,t88,t89,t90,t91,t92,t93,t94,t95,t96,t97,t98,t99,t100,Zaq l102 c1 (l103.length:Int),l103++([(y47.1,y47.2.1,kids101)]:TN)))).bind (Sum.elim (ZA4 y47) some)).bind (Sum.elim (ZA5 c1) some)
 else none).map .inr
def Z8W (rec62:Int->TN->TS->TI->Int->Int->Int->Int->(List Int)->(List (List Int))->(List Int)->ByteArray->Int->Int->Int->Bool->(List Int)->TN->Option Y1) (c1:Int):Y31->Option Y1:=fun (x19,t20,t21,t22,t23,t24,t25,t26,t27,t28,t29,t30,t31,t32,t33,t34,l35,l36)=>
 bif x19 then
 some (0,t20,t21,t22,t23,t24,t25,t26,t27,t28,t29,t30,t31,t32,t33,true,l35,l36)
 else
 (gI l35 c1).bind fun y40=>
 (gI l35 c1).bind fun y41=>
 bif decide (y41>=0) then
 (gI l35 c1).bind fun y42=>
 (gI l35 c1).bind fun y43=>
 some (y43,t20,t21,t22,t23,t24,t25,t26,t27,t28,t29,t30,t31,t32,t33,t34,l35,l36)
 else
 (gI l35 c1).bind fun y44=>
 (gI l35 c1).bind fun y45=>
 (gI t29 c1).bind fun y46=>
 (gI t20 y46).bind fun y47=>
 Zao (ZA6 rec62 c1 y47) (0,t20,t21,t22,t23,t24,t25,t26,t27,t28,t29,t30,t31,t32,t33,t34,[],Zaq l35 c1 (-2),l36)
def G62 (rec62:Int->TN->TS->TI->Int->Int->Int->Int->(List Int)->(List (List Int))->(List Int)->ByteArray->Int->Int->Int->Bool->(List Int)->TN->Option Y1) (c1:Int) (t2:TN) (t3:TS) (t4:TI) (t5:Int) (t6:Int) (t7:Int) (t8:Int) (t9:List Int) (t10:List (List Int)) (t11:List Int) (t12:ByteArray) (t13:Int) (t14:Int) (t15:Int) (t16:Bool) (l17:List Int) (l18:TN):Option Y1:=
 (bif t16 then
 some (.inl (true,t2,t3,t4,t5,t6,t7,t8,t9,t10,t11,t12,t13,t14,t15,t16,l17,l18))
 else
 (gI l17 c1).bind fun y37=>
 (gI l17 c1).bind fun y38=>
 bif y38==(-2) then
 some (.inl (true,t2,t3,t4,t5,t6,t7,t8,t9,t10,t11,t12,t13,t14,t15,t16,l17,l18))
 else
 (gI t11 c1).bind fun y39=>
 some (.inl (decide (y39 < 0),t2,t3,t4,t5,t6,t7,t8,t9,t10,t11,t12,t13,t14,t15,t16,l17,l18))).bind (Sum.elim (Z8W rec62 c1) some)
def N62 (n:Nat):Int->TN->TS->TI->Int->Int->Int->Int->(List Int)->(List (List Int))->(List Int)->ByteArray->Int->Int->Int->Bool->(List Int)->TN->Option Y1:=Nat.rec (motive:=fun _=>Int->TN->TS->TI->Int->Int->Int->Int->(List Int)->(List (List Int))->(List Int)->ByteArray->Int->Int->Int->Bool->(List Int)->TN->Option Y1) (fun _ _ _ _ _ _ _ _ _ _ _ _ _ _ _ _ _ _=>none) (fun _ ih=>G62 ih) n
def F62 (c1:Int) (t2:TN) (t3:TS) (t4:TI) (t5:Int) (t6:Int) (t7:Int) (t8:Int) (t9:List Int) (t10:List (List Int)) (t11:List Int) (t12:ByteArray) (t13:Int) (t14:Int) (t15:Int) (t16:Bool) (l17:List Int) (l18:TN):Option Y1:=N62 1000 c1 t2 t3 t4 t5 t6 t7 t8 t9 t10 t11 t12 t13 t14 t15 t16 l17 l18
def Z8S:(Bool×ByteArray×Int×Int×Int×TN×TS×TI×Int×Int×Int×Int×List Int×List (List Int)×List Int×ByteArray×Int×Int×Int×Bool×List Int×TN)->Option Y14:=fun (x52,l53,l54,l55,l56,t57,t58,t59,t60,t61,t62,t63,t64,t65,t66,t67,t68,t69,t70,t71,l72,l73)=>
 bif x52 then
 some ((empty,0,[],0,0),false)
 else
 some ((t67,t68,l73,t69,t70),true)
def Zxl (x1:TT×List Int×List (List Int)) (ch2:List Int):Y26->Option (Y26⊕Y14):=fun (i25,l26,l27,l28,l29,t30,t31,t32,t33,t34,t35,t36,t37,t38,t39,t40,t41,t42,t43,t44,l45)=>
 bif decide (i25 < (ch2.length:Int)) then
 (gI l45 i25).bind fun y46=>
 (gI l45 i25).bind fun y47=>
 some (.inl (wrap .i64 (i25+1),l26,l27,l28,l29,t30,t31,t32,t33,t34,t35,t36,t37,t38,t39,t40,t41,t42,t43,t44,Zaq l45 i25 (-1)))
 else
 ((gI x1.2.1 x1.1.2.2.2.1).bind fun y48=>
 (F62 y48 t30 t31 t32 t33 t34 t35 t36 t37 t38 t39 t40 t41 t42 t43 t44 l45 []).bind fun r49=>
 (gI x1.2.1 x1.1.2.2.2.2.1).bind fun y50=>
 (F62 y50 r49.2.1 r49.2.2.1 r49.2.2.2.1 r49.2.2.2.2.1 r49.2.2.2.2.2.1 r49.2.2.2.2.2.2.1 r49.2.2.2.2.2.2.2.1 r49.2.2.2.2.2.2.2.2.1 r49.2.2.2.2.2.2.2.2.2.1 r49.2.2.2.2.2.2.2.2.2.2.1 r49.2.2.2.2.2.2.2.2.2.2.2.1 r49.2.2.2.2.2.2.2.2.2.2.2.2.1 r49.1 r49.2.2.2.2.2.2.2.2.2.2.2.2.2.2.1 r49.2.2.2.2.2.2.2.2.2.2.2.2.2.2.2.1 r49.2.2.2.2.2.2.2.2.2.2.2.2.2.2.2.2.1 r49.2.2.2.2.2.2.2.2.2.2.2.2.2.2.2.2.2).bind fun r51=>
 (bif r51.2.2.2.2.2.2.2.2.2.2.2.2.2.2.2.1 then
 some (.inl (true,l26,l27,l28,l29,r51.2.1,r51.2.2.1,r51.2.2.2.1,r51.2.2.2.2.1,r51.2.2.2.2.2.1,r51.2.2.2.2.2.2.1,r51.2.2.2.2.2.2.2.1,r51.2.2.2.2.2.2.2.2.1,r51.2.2.2.2.2.2.2.2.2.1,r51.2.2.2.2.2.2.2.2.2.2.1,r51.2.2.2.2.2.2.2.2.2.2.2.1,r51.2.2.2.2.2.2.2.2.2.2.2.2.1,r51.2.2.2.2.2.2.2.2.2.2.2.2.2.1,r51.1,r51.2.2.2.2.2.2.2.2.2.2.2.2.2.2.2.1,r51.2.2.2.2.2.2.2.2.2.2.2.2.2.2.2.2.1,r51.2.2.2.2.2.2.2.2.2.2.2.2.2.2.2.2.2))
 else
 (F63 (r51.2.2.2.2.2.2.2.2.2.2.2.1,r51.2.2.2.2.2.2.2.2.2.2.2.2.1,r51.2.2.2.2.2.2.2.2.2.2.2.2.2.2.2.2.2,r51.2.2.2.2.2.2.2.2.2.2.2.2.2.1,r51.1)).bind fun r74=>
 some (.inl (!r74,l26,l27,l28,l29,r51.2.1,r51.2.2.1,r51.2.2.2.1,r51.2.2.2.2.1,r51.2.2.2.2.2.1,r51.2.2.2.2.2.2.1,r51.2.2.2.2.2.2.2.1,r51.2.2.2.2.2.2.2.2.1,r51.2.2.2.2.2.2.2.2.2.1,r51.2.2.2.2.2.2.2.2.2.2.1,r51.2.2.2.2.2.2.2.2.2.2.2.1,r51.2.2.2.2.2.2.2.2.2.2.2.2.1,r51.2.2.2.2.2.2.2.2.2.2.2.2.2.1,r51.1,r51.2.2.2.2.2.2.2.2.2.2.2.2.2.2.2.1,r51.2.2.2.2.2.2.2.2.2.2.2.2.2.2.2.2.1,r51.2.2.2.2.2.2.2.2.2.2.2.2.2.2.2.2.2))).bind (Sum.elim Z8S some)).map .inr
def F37 (x1:TT×List Int×List (List Int)) (ch2:List Int):Option Y14:=
 (F61 x1 ch2).bind fun r3=>
 bif !r3 then
 some ((empty,0,[],0,0),false)
 else
 bif decide ((0:Int)<=(ch2.length:Int)/\((ch2.length:Int):Int)=(ch2.length:Int)/\((ch2.length:Int):Int)<=1000000) then
 Zao (Zxl x1 ch2) (0,empty,0,0,0,x1.1.1,x1.1.2.1,x1.1.2.2.1,x1.1.2.2.2.1,x1.1.2.2.2.2.1,x1.1.2.2.2.2.2.1,x1.1.2.2.2.2.2.2,x1.2.1,x1.2.2,ch2,empty,0,0,0,false,(replicate (toNat (ch2.length:Int)) 0:List Int))
 else none
def F18 (s1:TT) (ch2:List Int):Option Y14:=
 (F20 s1).bind fun r3=>
 bif !r3 then
 some ((empty,0,[],0,0),false)
 else
 (F21 s1).bind fun r4=>
 (F37 r4 ch2).bind fun r5=>
 some r5
def ZDJ:Bool->Option Int:=fun x7=>
 bif x7 then
 some 2
 else
 some 0
def ZDK (n1:Int×Int×List Int):Bool->Option Int:=fun x6=>
 bif x6 then
 some 2
 else
 (bif decide (n1.1>=4) then
 some (.inl (decide (n1.1<=19)))
 else
 some (.inl false)).bind (Sum.elim ZDJ some)
def ZDL (n1:Int×Int×List Int):Bool->Option Int:=fun x5=>
 bif x5 then
 some 20
 else
 (bif n1.1==29 then
 some (.inl true)
 else
 bif n1.1==20 then
 some (.inl true)
 else
 some (.inl (n1.1==21))).bind (Sum.elim (ZDK n1) some)
def ZuO (n1:Int×Int×List Int):Bool->Option Int:=fun x4=>
 bif x4 then
 some 4
 else
 bif n1.1==31 then
 some 6
 else
 bif n1.1==30 then
 some 12
 else
 (bif n1.1==7 then
 some (.inl true)
 else
 some (.inl (n1.1==8))).bind (Sum.elim (ZDL n1) some)
def ZrN (n1:Int×Int×List Int):Bool->Option Int:=fun x3=>
 bif x3 then
 some 3
 else
 (bif n1.1==6 then
 some (.inl true)
 else
 bif n1.1==23 then
 some (.inl true)
 else
 some (.inl (n1.1==28))).bind (Sum.elim (ZuO n1) some)
def ZuQ (n1:Int×Int×List Int):Bool->Option Int:=fun x2=>
 bif x2 then
 some 1
 else
 (bif n1.1==22 then
 some (.inl true)
 else
 some (.inl (n1.1==27))).bind (Sum.elim (ZrN n1) some)
def F19 (n1:Int×Int×List Int):Option Int:=
 (bif n1.1==1 then
 some (.inl true)
 else
 bif n1.1==2 then
 some (.inl true)
 else
 some (.inl (n1.1==24))).bind (Sum.elim (ZuQ n1) some)
def ZER (r3:(ByteArray×Int×TN×Int×Int)×Bool):(Int×Int)->Option ((Int×Int)⊕(Int×Bool)):=fun (n6,i7)=>
 bif decide (i7 < (r3.1.2.2.1.length:Int)) then
 (gI r3.1.2.2.1 i7).bind fun y8=>
 (F19 y8).bind fun r9=>
 some (.inl (wrap .i64 (n6+r9),wrap .i64 (i7+1)))
 else
 (some (n6,r3.2)).map .inr
def F6 (s1:TT) (ch2:List Int):Option (Int×Bool):=
 (F18 s1 ch2).bind fun r3=>
 Zao (ZER r3) (0,0)
def F66 (x1:TT×List Int×List (List Int)) (ch2:List Int) (c3:Int):Option Int:=
 (gI ch2 c3).bind fun y4=>
 bif decide (y4>=0) then
 (gI ch2 c3).bind fun y5=>
 some y5
 else
 (gI x1.2.2 c3).bind fun y6=>
 bif (y6.length:Int)==1 then
 (gI x1.2.2 c3).bind fun y7=>
 (gI y7 0).bind fun y8=>
 some y8
 else
 some (-1)
def Z7H (x1:TT×List Int×List (List Int)) (q3:Int) (y4:Int×Int×List Int):Int->Option (Int⊕Bool):=fun k6=>
 bif decide (k6 < (y4.2.2.length:Int)) then
 (gI y4.2.2 k6).bind fun y7=>
 (gI x1.2.1 y7).bind fun y8=>
 bif y8==q3 then
 (some true).map .inr
 else
 some (.inl (wrap .i64 (k6+1)))
 else
 (some false).map .inr
def F87 (x1:TT×List Int×List (List Int)) (f2:Int) (q3:Int):Option Bool:=
 (gI x1.1.1 f2).bind fun y4=>
 Zao (Z7H x1 q3 y4) 0
def ZAi (x1:TT×List Int×List (List Int)) (c3:Int) (q4:Int):Int->Option (Int⊕Bool):=fun k8=>
 (gI x1.2.2 c3).bind fun y9=>
 bif decide (k8 < (y9.length:Int)) then
 (gI x1.2.2 c3).bind fun y10=>
 (gI y10 k8).bind fun y11=>
 (F87 x1 y11 q4).bind fun r12=>
 bif !r12 then
 (some false).map .inr
 else
 some (.inl (wrap .i64 (k8+1)))
 else
 (some true).map .inr
def F65 (x1:TT×List Int×List (List Int)) (ch2:List Int) (c3:Int) (q4:Int):Option Bool:=
 (F66 x1 ch2 c3).bind fun r5=>
 bif decide (r5>=0) then
 (F87 x1 r5 q4).bind fun r6=>
 some r6
 else
 Zao (ZAi x1 c3 q4) 0
def ZDM (k29:Int):Y8->Option (Y5⊕(Y8⊕Y49)):=fun (ok31,done32)=>
 some (.inl (ok31,wrap .i64 (k29+1),done32))
def ZDN (x1:TT×List Int×List (List Int)) (ch2:List Int) (more11:Bool) (c12:Int) (y24:Int×Int×List Int):Y5->Option (Y5⊕(Y8⊕Y49)):=fun (ok28,k29,done30)=>
 bif decide (k29 < (y24.2.2.length:Int)) then
 ((gI y24.2.2 k29).bind fun y33=>
 (gI x1.2.1 y33).bind fun y34=>
 bif ok28 then
 (gI done30 y34).bind fun y35=>
 (gI done30 y34).bind fun y36=>
 bif y36 then
 some (.inl (true,done30))
 else
 (F66 x1 ch2 y34).bind fun r37=>
 some (.inl (decide (r37 < 0),done30))
 else
 some (.inl (false,done30))).bind (Sum.elim (ZDM k29) some)
 else
 (bif ok28 then
 (gI done30 c12).bind fun y38=>
 (gI done30 c12).bind fun y39=>
 some (.inl (true,Zaq done30 c12 true))
 else
 some (.inl (more11,done30))).map .inr
def ZDf (x1:TT×List Int×List (List Int)) (ch2:List Int) (more11:Bool) (c12:Int) (f16:Int):Y8->Option (Y8⊕Y49):=fun (x20,done21)=>
 bif x20 then
 some (.inl (more11,done21))
 else
 (gI x1.1.1 f16).bind fun y24=>
 Zao (ZDN x1 ch2 more11 c12 y24) (true,0,done21)
def ZDO (x1:TT×List Int×List (List Int)) (ch2:List Int) (more11:Bool) (c12:Int):Y66->Option (Y8⊕Y49):=fun (f16,done17)=>
 ((gI done17 c12).bind fun y22=>
 (gI done17 c12).bind fun y23=>
 bif y23 then
 some (.inl (true,done17))
 else
 some (.inl (decide (f16 < 0),done17))).bind (Sum.elim (ZDf x1 ch2 more11 c12 f16) some)
def ZwK (c12:Int):Y8->Option Y49:=fun (more14,done15)=>
 some (.inl (more14,wrap .i64 (c12+1),done15))
def ZDg (x1:TT×List Int×List (List Int)) (ch2:List Int) (need3:List Bool):Y5->Option Y49:=fun (more11,c12,done13)=>
 bif decide (c12 < (need3.length:Int)) then
 (((gI need3 c12).bind fun y18=>
 bif y18 then
 (F66 x1 ch2 c12).bind fun r19=>
 some (.inl (r19,done13))
 else
 some (.inl ((-1),done13))).bind (Sum.elim (ZDO x1 ch2 more11 c12) some)).bind (Sum.elim (ZwK c12) some)
 else
 (some (.inl (more11,done13))).map .inr
def ZDP (c42:Int):Y8->Option (Y66⊕Bool):=fun (x44,done45)=>
 bif x44 then
 (some true).map .inr
 else
 some (.inl (wrap .i64 (c42+1),done45))
def ZDQ (x1:TT×List Int×List (List Int)) (ch2:List Int) (need3:List Bool):Y66->Option (Y66⊕Bool):=fun (c42,done43)=>
 bif decide (c42 < (need3.length:Int)) then
 ((gI need3 c42).bind fun y46=>
 bif y46 then
 (F66 x1 ch2 c42).bind fun r47=>
 bif decide (r47>=0) then
 (gI done43 c42).bind fun y48=>
 (gI done43 c42).bind fun y49=>
 some (.inl (!y49,done43))
 else
 some (.inl (false,done43))
 else
 some (.inl (false,done43))).bind (Sum.elim (ZDP c42) some)
 else
 (some false).map .inr
def ZwL (x1:TT×List Int×List (List Int)) (ch2:List Int) (need3:List Bool):Y8->Option (Y8⊕Bool):=fun (more6,done7)=>
 bif more6 then
 Zao (ZDg x1 ch2 need3) (false,0,done7)
 else
 (Zao (ZDQ x1 ch2 need3) (0,done7)).map .inr
def F67 (x1:TT×List Int×List (List Int)) (ch2:List Int) (need3:List Bool):Option Bool:=
 bif decide ((0:Int)<=(need3.length:Int)/\((need3.length:Int):Int)=(need3.length:Int)/\((need3.length:Int):Int)<=1000000) then
 Zao (ZwL x1 ch2 need3) (true,(replicate (toNat (need3.length:Int)) false:List Bool))
 else none
def Z8E (more22:Bool) (q23:Int):Y8->Option (Y8⊕Y54):=fun (x31,need32)=>
 bif x31 then
 (gI need32 q23).bind fun y37=>
 (gI need32 q23).bind fun y38=>
 some (.inl (true,Zaq need32 q23 true))
 else
 some (.inl (more22,need32))
def Z8j (q23:Int):Y8->Option Y54:=fun (more29,need30)=>
 some (.inl (more29,wrap .i64 (q23+1),need30))
def Z7L (x1:TT×List Int×List (List Int)) (ch2:List Int) (c17:Int) (more22:Bool) (q23:Int):Y8->Option Y54:=fun (x25,need26)=>
 bif x25 then
 (((gI x1.2.1 q23).bind fun y33=>
 bif y33==q23 then
 (gI need26 q23).bind fun y34=>
 (gI need26 q23).bind fun y35=>
 bif !y35 then
 (F65 x1 ch2 c17 q23).bind fun r36=>
 some (.inl (r36,need26))
 else
 some (.inl (false,need26))
 else
 some (.inl (false,need26))).bind (Sum.elim (Z8E more22 q23) some)).bind (Sum.elim (Z8j q23) some)
 else
 (some (.inl (more22,wrap .i64 (c17+1),need26))).map .inr
def ZDR (x1:TT×List Int×List (List Int)) (ch2:List Int) (c17:Int):Y5->Option Y54:=fun (more22,q23,need24)=>
 (bif decide (q23 < (x1.2.1.length:Int)) then
 (gI need24 c17).bind fun y27=>
 (gI need24 c17).bind fun y28=>
 some (.inl (y28,need24))
 else
 some (.inl (false,need24))).bind (Sum.elim (Z7L x1 ch2 c17 more22 q23) some)
def Z7K (x1:TT×List Int×List (List Int)) (ch2:List Int):Y5->Option (Y5⊕(Y8⊕Y25)):=fun (more16,c17,need18)=>
 bif decide (c17 < (x1.2.1.length:Int)) then
 Zao (ZDR x1 ch2 c17) (more16,0,need18)
 else
 (some (.inl (more16,need18))).map .inr
def ZDS (x1:TT×List Int×List (List Int)) (cost46:Int) (c47:Int):Y28->Option (Y28⊕(Y39⊕(Y28⊕Y25))):=fun (least66,k67,need68,open69)=>
 (gI x1.2.2 c47).bind fun y70=>
 bif decide (k67 < (y70.length:Int)) then
 (gI x1.2.2 c47).bind fun y71=>
 (gI y71 k67).bind fun y72=>
 (gI x1.1.1 y72).bind fun y73=>
 (F19 y73).bind fun r74=>
 some (.inl (if r74 < least66 then r74 else least66,wrap .i64 (k67+1),need68,open69))
 else
 (some (.inl (wrap .i64 (cost46+least66),need68,open69))).map .inr
def ZDh (c47:Int):Y39->Option (Y28⊕Y25):=fun (cost50,need51,open52)=>
 some (.inl (cost50,wrap .i64 (c47+1),need51,open52))
def ZCE (x1:TT×List Int×List (List Int)) (ch2:List Int):Y28->Option (Y28⊕Y25):=fun (cost46,c47,need48,open49)=>
 bif decide (c47 < (x1.2.1.length:Int)) then
 ((gI need48 c47).bind fun y53=>
 (gI need48 c47).bind fun y54=>
 bif !y54 then
 some (.inl (cost46,need48,open49))
 else
 (F66 x1 ch2 c47).bind fun r55=>
 bif decide (r55>=0) then
 (gI x1.1.1 r55).bind fun y56=>
 (F19 y56).bind fun r57=>
 some (.inl (wrap .i64 (cost46+r57),need48,open49))
 else
 bif decide (open49.length+List.length ([c47]:List Int)<=1000000) then
 (gI x1.2.2 c47).bind fun y58=>
 (gI y58 0).bind fun y59=>
 (gI x1.1.1 y59).bind fun y60=>
 (F19 y60).bind fun r61=>
 Zao (ZDS x1 cost46 c47) (r61,0,need48,open49++([c47]:List Int))
 else none).bind (Sum.elim (ZDh c47) some)
 else
 ((F67 x1 ch2 need48).bind fun r75=>
 some (open49,cost46,!r75)).map .inr
def Z5y (x1:TT×List Int×List (List Int)) (ch2:List Int):Y8->Option (Y8⊕Y25):=fun (more11,need12)=>
 bif more11 then
 Zao (Z7K x1 ch2) (false,0,need12)
 else
 (Zao (ZCE x1 ch2) (0,0,need12,[])).map .inr
def F43 (x1:TT×List Int×List (List Int)) (ch2:List Int):Option Y25:=
 bif decide ((0:Int)<=(x1.2.1.length:Int)/\((x1.2.1.length:Int):Int)=(x1.2.1.length:Int)/\((x1.2.1.length:Int):Int)<=1000000) then
 (gI x1.2.1 x1.1.2.2.2.1).bind fun y3=>
 (gI x1.2.1 x1.1.2.2.2.2.1).bind fun y4=>
 (gI (replicate (toNat (x1.2.1.length:Int)) false:List Bool) y3).bind fun y5=>
 (gI (replicate (toNat (x1.2.1.length:Int)) false:List Bool) y3).bind fun y6=>
 (gI (Zaq (replicate (toNat (x1.2.1.length:Int)) false:List Bool) y3 true) y4).bind fun y7=>
 (gI (Zaq (replicate (toNat (x1.2.1.length:Int)) false:List Bool) y3 true) y4).bind fun y8=>
 Zao (Z5y x1 ch2) (true,Zaq (Zaq (replicate (toNat (x1.2.1.length:Int)) false:List Bool) y3 true) y4 true)
 else none
def Zyn (c5:Int):(List Int)->Option Y10:=fun out7=>
 some (.inl (wrap .i64 (c5+1),out7))
def ZDT (x1:TT×List Int×List (List Int)) (ch2:List Int):Y3->Option Y10:=fun (c5,out6)=>
 bif decide (c5 < (out6.length:Int)) then
 ((gI x1.2.1 c5).bind fun y8=>
 bif y8==c5 then
 (F66 x1 ch2 c5).bind fun r9=>
 (gI out6 c5).bind fun y10=>
 (gI out6 c5).bind fun y11=>
 some (.inl (Zaq out6 c5 r9))
 else
 some (.inl out6)).bind (Sum.elim (Zyn c5) some)
 else
 (some out6).map .inr
def F44 (x1:TT×List Int×List (List Int)) (ch2:List Int):Option (List Int):=
 bif decide (ch2.length<=1000000) then
 Zao (ZDT x1 ch2) (0,ch2)
 else none
def ZDU (k23:Int):Y8->Option (Y5⊕Y55):=fun (more31,in32)=>
 some (.inl (more31,wrap .i64 (k23+1),in32))
def Z8G (x1:TT×List Int×List (List Int)) (ch2:List Int) (c17:Int) (more22:Bool) (k23:Int):Y8->Option (Y5⊕Y55):=fun (x25,in26)=>
 bif x25 then
 ((gI ch2 c17).bind fun y33=>
 (gI x1.1.1 y33).bind fun y34=>
 (gI y34.2.2 k23).bind fun y35=>
 (gI x1.2.1 y35).bind fun y36=>
 (gI in26 y36).bind fun y37=>
 (gI in26 y36).bind fun y38=>
 bif !y38 then
 (gI in26 y36).bind fun y39=>
 (gI in26 y36).bind fun y40=>
 some (.inl (true,Zaq in26 y36 true))
 else
 some (.inl (more22,in26))).bind (Sum.elim (ZDU k23) some)
 else
 (some (.inl (more22,wrap .i64 (c17+1),in26))).map .inr
def ZDV (x1:TT×List Int×List (List Int)) (ch2:List Int) (c17:Int):Y5->Option (Y5⊕Y55):=fun (more22,k23,in24)=>
 ((gI in24 c17).bind fun y27=>
 (gI in24 c17).bind fun y28=>
 bif y28 then
 (gI ch2 c17).bind fun y29=>
 (gI x1.1.1 y29).bind fun y30=>
 some (.inl (decide (k23 < (y30.2.2.length:Int)),in24))
 else
 some (.inl (false,in24))).bind (Sum.elim (Z8G x1 ch2 c17 more22 k23) some)
def ZDW (x1:TT×List Int×List (List Int)) (ch2:List Int):Y5->Option Y55:=fun (more16,c17,in18)=>
 bif decide (c17 < (ch2.length:Int)) then
 Zao (ZDV x1 ch2 c17) (more16,0,in18)
 else
 (some (.inl (more16,in18))).map .inr
def ZDX (c44:Int):Y68->Option (Y39⊕(List Int)):=fun (in47,out48)=>
 some (.inl (wrap .i64 (c44+1),in47,out48))
def ZDY:Y39->Option (Y39⊕(List Int)):=fun (c44,in45,out46)=>
 bif decide (c44 < (out46.length:Int)) then
 ((gI in45 c44).bind fun y49=>
 (gI in45 c44).bind fun y50=>
 bif !y50 then
 (gI out46 c44).bind fun y51=>
 (gI out46 c44).bind fun y52=>
 some (.inl (in45,Zaq out46 c44 (-1)))
 else
 some (.inl (in45,out46))).bind (Sum.elim (ZDX c44) some)
 else
 (some out46).map .inr
def Z8k (x1:TT×List Int×List (List Int)) (ch2:List Int):Y8->Option (Y8⊕(List Int)):=fun (more11,in12)=>
 bif more11 then
 Zao (ZDW x1 ch2) (false,0,in12)
 else
 (bif decide (ch2.length<=1000000) then
 Zao ZDY (0,in12,ch2)
 else none).map .inr
def F45 (x1:TT×List Int×List (List Int)) (ch2:List Int):Option (List Int):=
 bif decide ((0:Int)<=(ch2.length:Int)/\((ch2.length:Int):Int)=(ch2.length:Int)/\((ch2.length:Int):Int)<=1000000) then
 (gI x1.2.1 x1.1.2.2.2.1).bind fun y3=>
 (gI x1.2.1 x1.1.2.2.2.2.1).bind fun y4=>
 (gI (replicate (toNat (ch2.length:Int)) false:List Bool) y3).bind fun y5=>
 (gI (replicate (toNat (ch2.length:Int)) false:List Bool) y3).bind fun y6=>
 (gI (Zaq (replicate (toNat (ch2.length:Int)) false:List Bool) y3 true) y4).bind fun y7=>
 (gI (Zaq (replicate (toNat (ch2.length:Int)) false:List Bool) y3 true) y4).bind fun y8=>
 Zao (Z8k x1 ch2) (true,Zaq (Zaq (replicate (toNat (ch2.length:Int)) false:List Bool) y3 true) y4 true)
 else none
def ZyL (n1:Int):Y3->Option Y10:=fun (i4,l5)=>
 bif decide (i4 < n1) then
 (gI l5 i4).bind fun y6=>
 (gI l5 i4).bind fun y7=>
 some (.inl (wrap .i64 (i4+1),Zaq l5 i4 (-1)))
 else
 (some l5).map .inr
def F23 (n1:Int):Option (List Int):=
 bif decide ((0:Int)<=n1/\(n1:Int)=n1/\(n1:Int)<=1000000) then
 Zao (ZyL n1) (0,(replicate (toNat n1) 0:List Int))
 else none
def ZDZ (rec22:TN->TS->TI->Int->Int->Int->Int->(List Int)->(List (List Int))->Int->Int->Bool->(List Int)->Int->(List Int)->Option Y2) (r16:List Int×Int×Bool) (y40:List Int) (k82:Int):(Bool×TN×TS×TI×Int×Int×Int×Int×List Int×List (List Int)×Int×Int×Bool×List Int×Int×List Int×Int×Int×Int×Int×List Zbb)->Option (Y13⊕Y2):=fun (x103,y104,y105,y106,y107,y108,y109,y110,y111,y112,y113,y114,y115,y116,y117,ch118,l119,l120,t121,t122,l123)=>
 bif x103 then
 bif decide (ch118.length<=1000000) then
 (gI r16.1 0).bind fun y124=>
 (gI y40 k82).bind fun y125=>
 (gI ch118 y124).bind fun y126=>
 (gI ch118 y124).bind fun y127=>
 (rec22 y104 y105 y106 y107 y108 y109 y110 y111 y112 y113 y114 y115 y116 y117 (Zaq ch118 y124 y125)).bind fun r128=>
 bif decide (l123.length+List.length ([Zbb.mk r128.1 r128.2.1 r128.2.2.2.2.2.2.2.2.2.2.2.2.2.2.2.2]:List Zbb)<=1000000) then
 some (.inl (wrap .i64 (k82+1),r128.2.2.1,r128.2.2.2.1,r128.2.2.2.2.1,r128.2.2.2.2.2.1,r128.2.2.2.2.2.2.1,r128.2.2.2.2.2.2.2.1,r128.2.2.2.2.2.2.2.2.1,r128.2.2.2.2.2.2.2.2.2.1,r128.2.2.2.2.2.2.2.2.2.2.1,r128.2.2.2.2.2.2.2.2.2.2.2.1,r128.2.2.2.2.2.2.2.2.2.2.2.2.1,r128.2.2.2.2.2.2.2.2.2.2.2.2.2.1,r128.2.2.2.2.2.2.2.2.2.2.2.2.2.2.1,r128.2.2.2.2.2.2.2.2.2.2.2.2.2.2.2.1,ch118,l119,l120,t121,t122,l123++([Zbb.mk r128.1 r128.2.1 r128.2.2.2.2.2.2.2.2.2.2.2.2.2.2.2.2]:List Zbb)))
 else none
 else none
 else
 (some (t121,t122,y104,y105,y106,y107,y108,y109,y110,y111,y112,y113,y114,y115,y116,y117,l123)).map .inr
def Zyo (rec22:TN->TS->TI->Int->Int->Int->Int->(List Int)->(List (List Int))->Int->Int->Bool->(List Int)->Int->(List Int)->Option Y2) (r16:List Int×Int×Bool) (y40:List Int):Y13->Option (Y13⊕Y2):=fun (k82,y83,y84,y85,y86,y87,y88,y89,y90,y91,y92,y93,y94,y95,y96,ch97,l98,l99,t100,t101,l102)=>
 (bif decide (k82 < (y40.length:Int)) then
 some (.inl (decide (y93<=y92),y83,y84,y85,y86,y87,y88,y89,y90,y91,y92,y93,y94,y95,y96,ch97,l98,l99,t100,t101,l102))
 else
 some (.inl (false,y83,y84,y85,y86,y87,y88,y89,y90,y91,y92,y93,y94,y95,y96,ch97,l98,l99,t100,t101,l102))).bind (Sum.elim (ZDZ rec22 r16 y40 k82) some)
def ZCF (rec22:TN->TS->TI->Int->Int->Int->Int->(List Int)->(List (List Int))->Int->Int->Bool->(List Int)->Int->(List Int)->Option Y2) (r16:List Int×Int×Bool):(Bool×TN×TS×TI×Int×Int×Int×Int×List Int×List (List Int)×Int×Int×Bool×List Int×Int×List Int×Int×Int)->Option Y2:=fun (x17,y18,y19,y20,y21,y22,y23,y24,y25,y26,y27,y28,y29,y30,y31,ch32,l33,l34)=>
 bif x17 then
 some (1,0,y18,y19,y20,y21,y22,y23,y24,y25,y26,y27,y28,y29,y30,y31,[])
 else
 bif (r16.1.length:Int)==0 then
 (F44 ((y18,y19,y20,y21,y22,y23,y24),y25,y26) ch32).bind fun r35=>
 (F37 ((y18,y19,y20,y21,y22,y23,y24),y25,y26) r35).bind fun r36=>
 bif !r36.2 then
 some (2,0,y18,y19,y20,y21,y22,y23,y24,y25,y26,y27,y28,y29,y30,y31,[])
 else
 (F45 ((y18,y19,y20,y21,y22,y23,y24),y25,y26) r35).bind fun r37=>
 some (1,0,y18,y19,y20,y21,y22,y23,y24,y25,y26,y27,y28,true,r37,r16.2.1,[])
 else
 (gI r16.1 0).bind fun y38=>
 (gI r16.1 0).bind fun y39=>
 (gI y26 y39).bind fun y40=>
 Zao (Zyo rec22 r16 y40) (0,y18,y19,y20,y21,y22,y23,y24,y25,y26,y27,y28,y29,y30,y31,ch32,l33,l34,3,y38,[])
def G22 (rec22:TN->TS->TI->Int->Int->Int->Int->(List Int)->(List (List Int))->Int->Int->Bool->(List Int)->Int->(List Int)->Option Y2) (y1:TN) (y2:TS) (y3:TI) (y4:Int) (y5:Int) (y6:Int) (y7:Int) (y8:List Int) (y9:List (List Int)) (y10:Int) (y11:Int) (y12:Bool) (y13:List Int) (y14:Int) (ch15:List Int):Option Y2:=
 bif decide ((wrap .i64 (y11+1)) > y10) then
 some (0,0,y1,y2,y3,y4,y5,y6,y7,y8,y9,y10,wrap .i64 (y11+1),y12,y13,y14,[])
 else
 (F43 ((y1,y2,y3,y4,y5,y6,y7),y8,y9) ch15).bind fun r16=>
 bif !r16.2.2 then
 some (2,0,y1,y2,y3,y4,y5,y6,y7,y8,y9,y10,wrap .i64 (y11+1),y12,y13,y14,[])
 else
 (bif y12 then
 some (.inl (decide (r16.2.1>=y14),y1,y2,y3,y4,y5,y6,y7,y8,y9,y10,wrap .i64 (y11+1),y12,y13,y14,ch15,0,0))
 else
 some (.inl (false,y1,y2,y3,y4,y5,y6,y7,y8,y9,y10,wrap .i64 (y11+1),y12,y13,y14,ch15,0,0))).bind (Sum.elim (ZCF rec22 r16) some)
def N22 (n:Nat):TN->TS->TI->Int->Int->Int->Int->(List Int)->(List (List Int))->Int->Int->Bool->(List Int)->Int->(List Int)->Option Y2:=Nat.rec (motive:=fun _=>TN->TS->TI->Int->Int->Int->Int->(List Int)->(List (List Int))->Int->Int->Bool->(List Int)->Int->(List Int)->Option Y2) (fun _ _ _ _ _ _ _ _ _ _ _ _ _ _ _=>none) (fun _ ih=>G22 ih) n
def F22 (y1:TN) (y2:TS) (y3:TI) (y4:Int) (y5:Int) (y6:Int) (y7:Int) (y8:List Int) (y9:List (List Int)) (y10:Int) (y11:Int) (y12:Bool) (y13:List Int) (y14:Int) (ch15:List Int):Option Y2:=N22 1000 y1 y2 y3 y4 y5 y6 y7 y8 y9 y10 y11 y12 y13 y14 ch15
def Z0f (s1:TT) (most2:Int):(Bool×Int×Int)->Option (List Int×Int×Y4×Int):=fun (x3,l4,l5)=>
 bif x3 then
 some ([],0,(0,0,[]),1)
 else
 (F21 s1).bind fun r7=>
 (F23 (s1.1.length:Int)).bind fun r8=>
 (F22 r7.1.1 r7.1.2.1 r7.1.2.2.1 r7.1.2.2.2.1 r7.1.2.2.2.2.1 r7.1.2.2.2.2.2.1 r7.1.2.2.2.2.2.2 r7.2.1 r7.2.2 most2 0 false [] 0 r8).bind fun r9=>
 bif decide (r9.2.2.2.2.2.2.2.2.2.2.2.2.1 > r9.2.2.2.2.2.2.2.2.2.2.2.1) then
 some ([],0,(0,0,[]),202)
 else
 bif !r9.2.2.2.2.2.2.2.2.2.2.2.2.2.1 then
 some ([],0,(0,0,[]),201)
 else
 some (r9.2.2.2.2.2.2.2.2.2.2.2.2.2.2.1,r9.2.2.2.2.2.2.2.2.2.2.2.2.2.2.2.1,(r9.1,r9.2.1,r9.2.2.2.2.2.2.2.2.2.2.2.2.2.2.2.2),0)
def F7 (s1:TT) (most2:Int):Option (List Int×Int×Y4×Int):=
 ((F20 s1).bind fun r6=>
 bif !r6 then
 some (.inl (true,0,0))
 else
 bif decide (most2 < 1) then
 some (.inl (true,0,0))
 else
 some (.inl (decide (most2 > 20000),0,0))).bind (Sum.elim (Z0f s1 most2) some)
def Z5G (deep2:Int) (rec8:(List Int)->Int->Option Y42):Y63->Option (Y63⊕Y42):=fun (l25,k26,l27,l28,t29,t30,l31)=>
 bif decide (k26 > 0) then
 (rec8 l25 (wrap .i64 (deep2+1))).bind fun r32=>
 bif decide (l31.length+List.length ([Zbb.mk r32.1.1 r32.1.2.1 r32.1.2.2]:List Zbb)<=1000000) then
 some (.inl (r32.2,wrap .i64 (k26 - 1),l27,l28,t29,t30,l31++([Zbb.mk r32.1.1 r32.1.2.1 r32.1.2.2]:List Zbb)))
 else none
 else
 (some ((t29,t30,l31),l25)).map .inr
def Z5E (l1:List Int) (deep2:Int) (rec8:(List Int)->Int->Option Y42):(Bool×Int×Int)->Option Y42:=fun (x3,l4,l5)=>
 bif x3 then
 some ((1,0,[]),l1)
 else
 (gI l1 0).bind fun y6=>
 bif decide ((0:Int)<=1/\(1:Int)<=(l1.length:Int)/\(l1.length:Int)<=(l1.length:Int)) then
 (F14 6 y6).bind fun r7=>
 (gI ([3,1,2,1,3,4]:List Int) r7.1).bind fun y8=>
 (gI ([3,1,2,1,3,4]:List Int) r7.1).bind fun y9=>
 bif y9 != 3 then
 some ((y9,0,[]),slI l1 1 (l1.length:Int))
 else
 (F14 12 r7.2).bind fun r10=>
 (F14 2 r10.2).bind fun r11=>
 Zao (Z5G deep2 rec8) (slI l1 1 (l1.length:Int),wrap .i64 (2+r11.1),l4,l5,y9,r10.1,[])
 else none
def G8 (rec8:(List Int)->Int->Option Y42) (l1:List Int) (deep2:Int):Option Y42:=
 (bif (l1.length:Int)==0 then
 some (.inl (true,0,0))
 else
 some (.inl (decide (deep2 > 3),0,0))).bind (Sum.elim (Z5E l1 deep2 rec8) some)
def N8 (n:Nat):(List Int)->Int->Option Y42:=Nat.rec (motive:=fun _=>(List Int)->Int->Option Y42) (fun _ _=>none) (fun _ ih=>G8 ih) n
def F8 (l1:List Int) (deep2:Int):Option Y42:=N8 1000 l1 deep2
def F97 (i1:Int):Option ByteArray:=
 bif decide (i1 < 10) then
 bif decide ((0:Int)<=i1/\(i1:Int)<=wrap .i64 (i1+1)/\wrap .i64 (i1+1)<=(BS0.size:Int)) then
 some (slB BS0 i1 (wrap .i64 (i1+1)))
 else none
 else
 bif decide ((0:Int)<=wrap .i64 (i1 * 2)/\(wrap .i64 (i1 * 2):Int)<=wrap .i64 ((wrap .i64 (i1 * 2))+2)/\wrap .i64 ((wrap .i64 (i1 * 2))+2)<=(BS1.size:Int)) then
 some (slB BS1 (wrap .i64 (i1 * 2)) (wrap .i64 ((wrap .i64 (i1 * 2))+2)))
 else none
def ZxP (x1:Int):Option Int:=
 some (fdiv (wrap .i64 (x1 * 78913)) (2 ^ (min (toNat 18) (IntKind.bits .i64))))
def ZC6:(Int×Int)->Option Int:=fun (x6,n7)=>
 (gB BS2 (wrap .u8 x6)).bind fun b8=>
 some (wrap .i64 (n7+(wrap .i64 b8)))
def ZC7:(Int×Int)->Option Int:=fun (x4,n5)=>
 (bif decide (x4>=256) then
 some (.inl (fdiv x4 (2 ^ (min (toNat 8) (IntKind.bits .u64))),wrap .i64 (n5+8)))
 else
 some (.inl (x4,n5))).bind (Sum.elim ZC6 some)
def Ztn:(Int×Int)->Option Int:=fun (x2,n3)=>
 (bif decide (x2>=65536) then
 some (.inl (fdiv x2 (2 ^ (min (toNat 16) (IntKind.bits .u64))),wrap .i64 (n3+16)))
 else
 some (.inl (x2,n3))).bind (Sum.elim ZC7 some)
def ZxQ (x1:Int):Option Int:=
 (bif decide (x1>=4294967296) then
 some (.inl (fdiv x1 (2 ^ (min (toNat 32) (IntKind.bits .u64))),32))
 else
 some (.inl (x1,0))).bind (Sum.elim Ztn some)
def Z0q (b1:Bool):Option Int:=
 bif b1 then
 some 1
 else
 some 0
def F98 (d1:Int):Option Int:=
 (ZxQ d1).bind fun r2=>
 (ZxP r2).bind fun r3=>
 (gI GT0 r3).bind fun y4=>
 (Z0q (decide (d1>=y4))).bind fun r5=>
 some (wrap .i64 (r3+r5))
def ZCR:Bool->Option (Int×Bool):=fun x7=>
 bif x7 then
 some (2,true)
 else
 some (0,false)
def ZCS (op1:Int):Bool->Option (Int×Bool):=fun x6=>
 bif x6 then
 some ((-1),true)
 else
 (bif decide (op1>=4) then
 some (.inl (decide (op1<=19)))
 else
 some (.inl false)).bind (Sum.elim ZCR some)
def ZCT (op1:Int):Bool->Option (Int×Bool):=fun x5=>
 bif x5 then
 some (3,true)
 else
 (bif op1==30 then
 some (.inl true)
 else
 some (.inl (op1==31))).bind (Sum.elim (ZCS op1) some)
def ZCU (op1:Int):Bool->Option (Int×Bool):=fun x4=>
 bif x4 then
 some (2,true)
 else
 (bif op1==22 then
 some (.inl true)
 else
 some (.inl (op1==28))).bind (Sum.elim (ZCT op1) some)
def ZCV (op1:Int):Bool->Option (Int×Bool):=fun x3=>
 bif x3 then
 some (1,true)
 else
 (bif op1==23 then
 some (.inl true)
 else
 bif op1==27 then
 some (.inl true)
 else
 some (.inl (op1==29))).bind (Sum.elim (ZCU op1) some)
def ZCW (op1:Int):Bool->Option (Int×Bool):=fun x2=>
 bif x2 then
 some (0,true)
 else
 (bif op1==20 then
 some (.inl true)
 else
 bif op1==21 then
 some (.inl true)
 else
 bif op1==24 then
 some (.inl true)
 else
 some (.inl (op1==25))).bind (Sum.elim (ZCV op1) some)
def ZuR (op1:Int):Option (Int×Bool):=
 (bif op1==1 then
 some (.inl true)
 else
 bif op1==2 then
 some (.inl true)
 else
 bif op1==3 then
 some (.inl true)
 else
 some (.inl (op1==26))).bind (Sum.elim (ZCW op1) some)
def Z0r (kids1:Int):Option Int:=
 some (wrap .i64 (tdiv (wrap .i64 (kids1 - 1)) 2))
def Zt1 (s1:List Int) (ZjW:List Int):Int->Option (Int⊕Bool):=fun i4=>
 bif decide (i4 < (s1.length:Int)) then
 (gI s1 i4).bind fun y5=>
 (gI ZjW i4).bind fun y6=>
 bif y5 != y6 then
 (some false).map .inr
 else
 some (.inl (wrap .i64 (i4+1)))
 else
 (some true).map .inr
def Z0s (s1:List Int) (ZjW:List Int):Option Bool:=
 Zao (Zt1 s1 ZjW) 0
def Zt3 (kids1:Int):Y3->Option Y10:=fun (i5,l6)=>
 bif decide (i5 < kids1) then
 bif decide (l6.length+List.length ([1]:List Int)<=1000000) then
 some (.inl (wrap .i64 (i5+1),l6++([1]:List Int)))
 else none
 else
 ((Z0r kids1).bind fun r7=>
 (gI l6 0).bind fun y8=>
 (gI l6 0).bind fun y9=>
 (gI (Zaq l6 0 2) (wrap .i64 (r7+1))).bind fun y10=>
 (gI (Zaq l6 0 2) (wrap .i64 (r7+1))).bind fun y11=>
 some (Zaq (Zaq l6 0 2) (wrap .i64 (r7+1)) 2)).map .inr
def Z0t (kids1:Int):Option (List Int):=
 Zao (Zt3 kids1) (0,[])
def ZCj (op1:Int):Bool->Option (List Int):=fun x2=>
 bif x2 then
 some ([2,1]:List Int)
 else
 bif op1==28 then
 some ([2,1,1]:List Int)
 else
 bif op1==24 then
 some ([2]:List Int)
 else
 bif op1==25 then
 some ([3]:List Int)
 else
 some ([1,1]:List Int)
def ZrP (op1:Int):Option (List Int):=
 bif op1==22 then
 some ([1,1,1]:List Int)
 else
 (bif op1==23 then
 some (.inl true)
 else
 bif op1==27 then
 some (.inl true)
 else
 some (.inl (op1==29))).bind (Sum.elim (ZCj op1) some)
def Ztj:Bool->Option Bool:=fun x5=>
 some x5
def Ztl (s2:List Int):Int->Option (Int⊕Bool):=fun x12=>
 bif decide (x12 < (List.length (slI s2 1 (s2.length:Int)):Int)) then
 (gI (slI s2 1 (s2.length:Int)) x12).bind fun y13=>
 bif y13 != 1 then
 (some false).map .inr
 else
 some (.inl (wrap .i64 (x12+1)))
 else
 (some true).map .inr
def Zti (s2:List Int):Bool->Option Bool:=fun x9=>
 bif x9 then
 some false
 else
 bif decide ((0:Int)<=1/\(1:Int)<=(s2.length:Int)/\(s2.length:Int)<=(s2.length:Int)) then
 Zao (Ztl s2) 0
 else none
def ZCh:Bool->Option Bool:=fun x16=>
 some x16
def ZCk (n1:Int×Int×List Int) (s2:List Int):Bool->Option Bool:=fun x14=>
 bif x14 then
 ((gI s2 0).bind fun y17=>
 bif y17==1 then
 (gI s2 2).bind fun y18=>
 some (.inl (y18==2))
 else
 some (.inl false)).bind (Sum.elim ZCh some)
 else
 (ZrP n1.1).bind fun r19=>
 (Z0s s2 r19).bind fun r20=>
 some r20
def ZpB (n1:Int×Int×List Int) (s2:List Int):Bool->Option Bool:=fun x4=>
 bif x4 then
 some false
 else
 bif n1.1==31 then
 (bif decide ((s2.length:Int)>=3) then
 bif (tmod (s2.length:Int) 2)==1 then
 (Z0r (s2.length:Int)).bind fun r6=>
 bif decide (r6<=16) then
 (Z0t (s2.length:Int)).bind fun r7=>
 (Z0s s2 r7).bind fun r8=>
 some (.inl r8)
 else
 some (.inl false)
 else
 some (.inl false)
 else
 some (.inl false)).bind (Sum.elim Ztj some)
 else
 bif n1.1==30 then
 (bif decide ((s2.length:Int) < 1) then
 some (.inl true)
 else
 bif decide ((s2.length:Int) > 7) then
 some (.inl true)
 else
 (gI s2 0).bind fun y10=>
 some (.inl (y10 != 2))).bind (Sum.elim (Zti s2) some)
 else
 (bif n1.1==22 then
 (gI s2 1).bind fun y15=>
 some (.inl (y15==2))
 else
 some (.inl false)).bind (Sum.elim (ZCk n1 s2) some)
def Z0p (n1:Int×Int×List Int) (s2:List Int):Option Bool:=
 (ZuR n1.1).bind fun r3=>
 (bif !r3.2 then
 some (.inl true)
 else
 bif decide (r3.1>=0) then
 some (.inl (r3.1 != (s2.length:Int)))
 else
 some (.inl false)).bind (Sum.elim (ZpB n1 s2) some)
def ZcB:Bool->Option (Int⊕Bool):=fun x5=>
 (some x5).map .inr
def ZdO (l1:TN) (n2:Int×Int×List Int):Bool->Option (Int⊕Bool):=fun x4=>
 bif x4 then
 some (.inl 3)
 else
 bif n2.1==27 then
 (bif decide (n2.2.1>=1) then
 some (.inl (decide (n2.2.1<=1000016)))
 else
 some (.inl false)).bind (Sum.elim ZcB some)
 else
 bif n2.1==30 then
 some (.inl 7)
 else
 bif n2.1==31 then
 some (.inl 15)
 else
 bif n2.1==25 then
 (gI n2.2.2 0).bind fun y6=>
 (gI l1 y6).bind fun y7=>
 (Z0r (y7.2.2.length:Int)).bind fun r8=>
 some (.inl (wrap .i64 (r8 - 1)))
 else
 some (.inl 0)
def ZdP:Bool->Option Bool:=fun x9=>
 some x9
def ZaV (n2:Int×Int×List Int):Int->Option Bool:=fun most3=>
 (bif decide (n2.2.1>=0) then
 some (.inl (decide (n2.2.1<=most3)))
 else
 some (.inl false)).bind (Sum.elim ZdP some)
def Zcz (l1:TN) (n2:Int×Int×List Int):Option Bool:=
 (bif n2.1==1 then
 (some true).map .inr
 else
 bif n2.1==2 then
 some (.inl 5)
 else
 bif n2.1==3 then
 some (.inl 255)
 else
 (bif n2.1==23 then
 some (.inl true)
 else
 some (.inl (n2.1==28))).bind (Sum.elim (ZdO l1 n2) some)).bind (Sum.elim (ZaV n2) some)
def Zxn (known3:List Int) (x8:Int) (y10:Int):Y15->Option (Y3⊕Int):=fun (x11,s12)=>
 bif x11 then
 (some 0).map .inr
 else
 (gI known3 y10).bind fun y14=>
 bif decide (s12.length+List.length ([y14]:List Int)<=1000000) then
 some (.inl (wrap .i64 (x8+1),s12++([y14]:List Int)))
 else none
def Z9r (y4:Int×Int×List Int):Y15->Option (Unit⊕Int):=fun (x19,s20)=>
 bif x19 then
 (some 2).map .inr
 else
 bif y4.1==22 then
 (gI s20 1).bind fun y21=>
 (gI s20 1).bind fun y22=>
 (some y22).map .inr
 else
 bif y4.1==3 then
 bif (tmod y4.2.1 16)==0 then
 (some 2).map .inr
 else
 some (.inl ())
 else
 bif y4.1==25 then
 bif y4.2.1==0 then
 (some 2).map .inr
 else
 some (.inl ())
 else
 some (.inl ())
def Z9s:Unit->Option Int:=fun _=>
 some 1
def Z9t (y4:Int×Int×List Int):Y15->Option Int:=fun (x15,s16)=>
 bif x15 then
 some 0
 else
 (bif y4.1==31 then
 (some 3).map .inr
 else
 (bif y4.1==26 then
 some (.inl (true,s16))
 else
 bif y4.1==27 then
 some (.inl (true,s16))
 else
 bif y4.1==28 then
 some (.inl (true,s16))
 else
 bif y4.1==29 then
 some (.inl (true,s16))
 else
 some (.inl (y4.1==30,s16))).bind (Sum.elim (Z9r y4) some)).bind (Sum.elim Z9s some)
def Zxo (l1:TN) (i2:Int) (known3:List Int) (y4:Int×Int×List Int):Y3->Option (Y3⊕Int):=fun (x8,s9)=>
 bif decide (x8 < (y4.2.2.length:Int)) then
 (gI y4.2.2 x8).bind fun y10=>
 (bif decide (y10 < 0) then
 some (.inl (true,s9))
 else
 bif decide (y10>=i2) then
 some (.inl (true,s9))
 else
 (gI known3 y10).bind fun y13=>
 some (.inl (y13==0,s9))).bind (Sum.elim (Zxn known3 x8 y10) some)
 else
 (((Z0p y4 s9).bind fun r17=>
 bif !r17 then
 some (.inl (true,s9))
 else
 (Zcz l1 y4).bind fun r18=>
 some (.inl (!r18,s9))).bind (Sum.elim (Z9t y4) some)).map .inr
def F96 (l1:TN) (i2:Int) (known3:List Int):Option Int:=
 (gI l1 i2).bind fun y4=>
 Zao (Zxo l1 i2 known3 y4) (0,[])
def Zxc (l1:TN):Y3->Option Y10:=fun (x4,s5)=>
 bif decide (x4 < (l1.length:Int)) then
 (F96 l1 x4 s5).bind fun r6=>
 (gI s5 x4).bind fun y7=>
 (gI s5 x4).bind fun y8=>
 some (.inl (wrap .i64 (x4+1),Zaq s5 x4 r6))
 else
 (some s5).map .inr
def F94 (l1:TN):Option (List Int):=
 bif decide ((0:Int)<=(l1.length:Int)/\((l1.length:Int):Int)=(l1.length:Int)/\((l1.length:Int):Int)<=1000000) then
 Zao (Zxc l1) (0,(replicate (toNat (l1.length:Int)) 0:List Int))
 else none
def ZuU (l1:TN) (i2:Int):Bool->Option Int:=fun x3=>
 bif x3 then
 some 0
 else
 bif decide ((0:Int)<=0/\(0:Int)<=wrap .i64 (i2+1)/\wrap .i64 (i2+1)<=(l1.length:Int)) then
 (F94 (slI l1 0 (wrap .i64 (i2+1)))).bind fun r4=>
 (gI r4 i2).bind fun y5=>
 some y5
 else none
def F88 (l1:TN) (i2:Int):Option Int:=
 (bif decide (i2 < 0) then
 some (.inl true)
 else
 some (.inl (decide (i2>=(l1.length:Int))))).bind (Sum.elim (ZuU l1 i2) some)
def F89 (k1:Int):Option Int:=
 some k1
def ZDi:Y35->Option (List Int):=fun (nd48,x49,a50)=>
 bif decide (nd48 > 0) then
 (gI a50 0).bind fun y57=>
 (gI a50 0).bind fun y58=>
 some (Zaq a50 0 (wrap .u8 (wrap .u32 (48+x49))))
 else
 some a50
def Zxt:Y35->Option (List Int):=fun (nd33,x34,a35)=>
 (bif decide (nd33>=2) then
 (gB BS1 (wrap .u32 ((wrap .u32 ((tmod x34 100) * 2))+1))).bind fun b51=>
 (gB BS1 (wrap .u32 ((tmod x34 100) * 2))).bind fun b52=>
 (gI a35 (wrap .i64 (nd33 - 1))).bind fun y53=>
 (gI a35 (wrap .i64 (nd33 - 1))).bind fun y54=>
 (gI (Zaq a35 (wrap .i64 (nd33 - 1)) b51) (wrap .i64 (nd33 - 2))).bind fun y55=>
 (gI (Zaq a35 (wrap .i64 (nd33 - 1)) b51) (wrap .i64 (nd33 - 2))).bind fun y56=>
 some (.inl (wrap .i64 (nd33 - 2),wrap .u32 (tdiv x34 100),Zaq (Zaq a35 (wrap .i64 (nd33 - 1)) b51) (wrap .i64 (nd33 - 2)) b52))
 else
 some (.inl (nd33,x34,a35))).bind (Sum.elim ZDi some)
def Zxu:Y35->Option (Y35⊕(List Int)):=fun (u6,nd7,a8)=>
 bif decide (nd7>=8) then
 (gB BS1 (wrap .u32 ((wrap .u32 ((tmod (tmod (wrap .u32 (tmod u6 100000000)) 10000) 100) * 2))+1))).bind fun b9=>
 (gB BS1 (wrap .u32 ((tmod (tmod (wrap .u32 (tmod u6 100000000)) 10000) 100) * 2))).bind fun b10=>
 (gI a8 (wrap .i64 (nd7 - 1))).bind fun y11=>
 (gI a8 (wrap .i64 (nd7 - 1))).bind fun y12=>
 (gI (Zaq a8 (wrap .i64 (nd7 - 1)) b9) (wrap .i64 (nd7 - 2))).bind fun y13=>
 (gI (Zaq a8 (wrap .i64 (nd7 - 1)) b9) (wrap .i64 (nd7 - 2))).bind fun y14=>
 (gB BS1 (wrap .u32 ((wrap .u32 ((wrap .u32 (tdiv (tmod (wrap .u32 (tmod u6 100000000)) 10000) 100)) * 2))+1))).bind fun b15=>
 (gB BS1 (wrap .u32 ((wrap .u32 (tdiv (tmod (wrap .u32 (tmod u6 100000000)) 10000) 100)) * 2))).bind fun b16=>
 (gI (Zaq (Zaq a8 (wrap .i64 (nd7 - 1)) b9) (wrap .i64 (nd7 - 2)) b10) (wrap .i64 (nd7 - 3))).bind fun y17=>
 (gI (Zaq (Zaq a8 (wrap .i64 (nd7 - 1)) b9) (wrap .i64 (nd7 - 2)) b10) (wrap .i64 (nd7 - 3))).bind fun y18=>
 (gI (Zaq (Zaq (Zaq a8 (wrap .i64 (nd7 - 1)) b9) (wrap .i64 (nd7 - 2)) b10) (wrap .i64 (nd7 - 3)) b15) (wrap .i64 (nd7 - 4))).bind fun y19=>
 (gI (Zaq (Zaq (Zaq a8 (wrap .i64 (nd7 - 1)) b9) (wrap .i64 (nd7 - 2)) b10) (wrap .i64 (nd7 - 3)) b15) (wrap .i64 (nd7 - 4))).bind fun y20=>
 (gB BS1 (wrap .u32 ((wrap .u32 ((tmod (wrap .u32 (tdiv (wrap .u32 (tmod u6 100000000)) 10000)) 100) * 2))+1))).bind fun b21=>
 (gB BS1 (wrap .u32 ((tmod (wrap .u32 (tdiv (wrap .u32 (tmod u6 100000000)) 10000)) 100) * 2))).bind fun b22=>
 (gI (Zaq (Zaq (Zaq (Zaq a8 (wrap .i64 (nd7 - 1)) b9) (wrap .i64 (nd7 - 2)) b10) (wrap .i64 (nd7 - 3)) b15) (wrap .i64 (nd7 - 4)) b16) (wrap .i64 (nd7 - 5))).bind fun y23=>
 (gI (Zaq (Zaq (Zaq (Zaq a8 (wrap .i64 (nd7 - 1)) b9) (wrap .i64 (nd7 - 2)) b10) (wrap .i64 (nd7 - 3)) b15) (wrap .i64 (nd7 - 4)) b16) (wrap .i64 (nd7 - 5))).bind fun y24=>
 (gI (Zaq (Zaq (Zaq (Zaq (Zaq a8 (wrap .i64 (nd7 - 1)) b9) (wrap .i64 (nd7 - 2)) b10) (wrap .i64 (nd7 - 3)) b15) (wrap .i64 (nd7 - 4)) b16) (wrap .i64 (nd7 - 5)) b21) (wrap .i64 (nd7 - 6))).bind fun y25=>
 (gI (Zaq (Zaq (Zaq (Zaq (Zaq a8 (wrap .i64 (nd7 - 1)) b9) (wrap .i64 (nd7 - 2)) b10) (wrap .i64 (nd7 - 3)) b15) (wrap .i64 (nd7 - 4)) b16) (wrap .i64 (nd7 - 5)) b21) (wrap .i64 (nd7 - 6))).bind fun y26=>
 (gB BS1 (wrap .u32 ((wrap .u32 ((wrap .u32 (tdiv (wrap .u32 (tdiv (wrap .u32 (tmod u6 100000000)) 10000)) 100)) * 2))+1))).bind fun b27=>
 (gB BS1 (wrap .u32 ((wrap .u32 (tdiv (wrap .u32 (tdiv (wrap .u32 (tmod u6 100000000)) 10000)) 100)) * 2))).bind fun b28=>
 (gI (Zaq (Zaq (Zaq (Zaq (Zaq (Zaq a8 (wrap .i64 (nd7 - 1)) b9) (wrap .i64 (nd7 - 2)) b10) (wrap .i64 (nd7 - 3)) b15) (wrap .i64 (nd7 - 4)) b16) (wrap .i64 (nd7 - 5)) b21) (wrap .i64 (nd7 - 6)) b22) (wrap .i64 (nd7 - 7))).bind fun y29=>
 (gI (Zaq (Zaq (Zaq (Zaq (Zaq (Zaq a8 (wrap .i64 (nd7 - 1)) b9) (wrap .i64 (nd7 - 2)) b10) (wrap .i64 (nd7 - 3)) b15) (wrap .i64 (nd7 - 4)) b16) (wrap .i64 (nd7 - 5)) b21) (wrap .i64 (nd7 - 6)) b22) (wrap .i64 (nd7 - 7))).bind fun y30=>
 (gI (Zaq (Zaq (Zaq (Zaq (Zaq (Zaq (Zaq a8 (wrap .i64 (nd7 - 1)) b9) (wrap .i64 (nd7 - 2)) b10) (wrap .i64 (nd7 - 3)) b15) (wrap .i64 (nd7 - 4)) b16) (wrap .i64 (nd7 - 5)) b21) (wrap .i64 (nd7 - 6)) b22) (wrap .i64 (nd7 - 7)) b27) (wrap .i64 (nd7 - 8))).bind fun y31=>
 (gI (Zaq (Zaq (Zaq (Zaq (Zaq (Zaq (Zaq a8 (wrap .i64 (nd7 - 1)) b9) (wrap .i64 (nd7 - 2)) b10) (wrap .i64 (nd7 - 3)) b15) (wrap .i64 (nd7 - 4)) b16) (wrap .i64 (nd7 - 5)) b21) (wrap .i64 (nd7 - 6)) b22) (wrap .i64 (nd7 - 7)) b27) (wrap .i64 (nd7 - 8))).bind fun y32=>
 some (.inl (wrap .u64 (tdiv u6 100000000),wrap .i64 (nd7 - 8),Zaq (Zaq (Zaq (Zaq (Zaq (Zaq (Zaq (Zaq a8 (wrap .i64 (nd7 - 1)) b9) (wrap .i64 (nd7 - 2)) b10) (wrap .i64 (nd7 - 3)) b15) (wrap .i64 (nd7 - 4)) b16) (wrap .i64 (nd7 - 5)) b21) (wrap .i64 (nd7 - 6)) b22) (wrap .i64 (nd7 - 7)) b27) (wrap .i64 (nd7 - 8)) b28))
 else
 ((bif decide (nd7>=4) then
 (gB BS1 (wrap .u32 ((wrap .u32 ((tmod (tmod (wrap .u32 u6) 10000) 100) * 2))+1))).bind fun b36=>
 (gB BS1 (wrap .u32 ((tmod (tmod (wrap .u32 u6) 10000) 100) * 2))).bind fun b37=>
 (gI a8 (wrap .i64 (nd7 - 1))).bind fun y38=>
 (gI a8 (wrap .i64 (nd7 - 1))).bind fun y39=>
 (gI (Zaq a8 (wrap .i64 (nd7 - 1)) b36) (wrap .i64 (nd7 - 2))).bind fun y40=>
 (gI (Zaq a8 (wrap .i64 (nd7 - 1)) b36) (wrap .i64 (nd7 - 2))).bind fun y41=>
 (gB BS1 (wrap .u32 ((wrap .u32 ((wrap .u32 (tdiv (tmod (wrap .u32 u6) 10000) 100)) * 2))+1))).bind fun b42=>
 (gB BS1 (wrap .u32 ((wrap .u32 (tdiv (tmod (wrap .u32 u6) 10000) 100)) * 2))).bind fun b43=>
 (gI (Zaq (Zaq a8 (wrap .i64 (nd7 - 1)) b36) (wrap .i64 (nd7 - 2)) b37) (wrap .i64 (nd7 - 3))).bind fun y44=>
 (gI (Zaq (Zaq a8 (wrap .i64 (nd7 - 1)) b36) (wrap .i64 (nd7 - 2)) b37) (wrap .i64 (nd7 - 3))).bind fun y45=>
 (gI (Zaq (Zaq (Zaq a8 (wrap .i64 (nd7 - 1)) b36) (wrap .i64 (nd7 - 2)) b37) (wrap .i64 (nd7 - 3)) b42) (wrap .i64 (nd7 - 4))).bind fun y46=>
 (gI (Zaq (Zaq (Zaq a8 (wrap .i64 (nd7 - 1)) b36) (wrap .i64 (nd7 - 2)) b37) (wrap .i64 (nd7 - 3)) b42) (wrap .i64 (nd7 - 4))).bind fun y47=>
 some (.inl (wrap .i64 (nd7 - 4),wrap .u32 (tdiv (wrap .u32 u6) 10000),Zaq (Zaq (Zaq (Zaq a8 (wrap .i64 (nd7 - 1)) b36) (wrap .i64 (nd7 - 2)) b37) (wrap .i64 (nd7 - 3)) b42) (wrap .i64 (nd7 - 4)) b43))
 else
 some (.inl (nd7,wrap .u32 u6,a8))).bind (Sum.elim Zxt some)).map .inr
def F99 (u1:Int) (a2:List Int):Option (List Int):=
 Zao Zxu (u1,(a2.length:Int),a2)
def F95 (i1:Int) (base2:Int) (dst3:List Int):Option (List Int):=
 bif base2==10 then
 bif decide (i1 < 100) then
 (F97 (wrap .i64 i1)).bind fun r4=>
 bif decide (dst3.length+List.length (toB r4)<=1000000) then
 some (dst3++(toB r4))
 else none
 else
 (F98 i1).bind fun r5=>
 bif decide ((0:Int)<=r5/\r5<=(24:Int)) then
 (F99 i1 (slI (replicate 24 0:List Int) 0 r5)).bind fun r6=>
 bif decide (r5=r5) then
 bif decide (dst3.length+r6.length<=1000000) then
 some (dst3++r6)
 else none
 else none
 else none
 else
 none
def Zy9 (base2:Int):Y3->Option (List Int):=fun (u4,dst5)=>
 (F95 u4 base2 dst5).bind fun r6=>
 some r6
def F91 (i1:Int) (base2:Int) (dst3:List Int):Option (List Int):=
 (bif decide (i1 < 0) then
 bif decide (dst3.length+List.length ([45]:List Int)<=1000000) then
 some (.inl (wrap .u64 (0 - (wrap .u64 i1)),dst3++([45]:List Int)))
 else none
 else
 some (.inl (wrap .u64 i1,dst3))).bind (Sum.elim (Zy9 base2) some)
def F73 (i1:Int) (base2:Int) (dst3:List Int):Option (List Int):=
 (F91 i1 base2 dst3).bind fun r4=>
 some r4
def ZCz (n1:Int×Int×List Int):Y3->Option (Y3⊕ByteArray):=fun (x6,b7)=>
 bif decide (x6 < (n1.2.2.length:Int)) then
 (gI n1.2.2 x6).bind fun y8=>
 bif decide (b7.length+List.length ([32]:List Int)<=1000000) then
 (F89 y8).bind fun r9=>
 (F73 r9 10 (b7++([32]:List Int))).bind fun r10=>
 some (.inl (wrap .i64 (x6+1),r10))
 else none
 else
 (some (ofB b7)).map .inr
def ZC0 (n1:Int×Int×List Int):Option ByteArray:=
 (F73 n1.1 10 []).bind fun r2=>
 bif decide (r2.length+List.length ([32]:List Int)<=1000000) then
 (F73 n1.2.1 10 (r2++([32]:List Int))).bind fun r3=>
 Zao (ZCz n1) (0,r3)
 else none
def Zu5 (x5:Int) (r12:ByteArray):(Bool×List Int×List (ByteArray×Bool))->Option (Y46⊕Y67):=fun (x13,out14,l15)=>
 bif x13 then
 (some ([],false)).map .inr
 else
 some (.inl (wrap .i64 (x5+1),out14,ZfQ (ZaS .str) l15 r12 true))
def ZEa (l1:TN):Y46->Option (Y46⊕Y67):=fun (x5,out6,l7)=>
 bif decide (x5 < (l1.length:Int)) then
 (F88 l1 x5).bind fun r8=>
 (gI out6 x5).bind fun y9=>
 (gI out6 x5).bind fun y10=>
 (gI l1 x5).bind fun y11=>
 (ZC0 y11).bind fun r12=>
 ((gI (Zaq out6 x5 r8) x5).bind fun y16=>
 (gI (Zaq out6 x5 r8) x5).bind fun y17=>
 bif y17==0 then
 some (.inl (true,Zaq out6 x5 r8,l7))
 else
 some (.inl (getD (Zc3 (ZaS .str) l7 r12) false,Zaq out6 x5 r8,l7))).bind (Sum.elim (Zu5 x5 r12) some)
 else
 (some (out6,true)).map .inr
def F68 (l1:TN):Option Y67:=
 bif decide ((0:Int)<=(l1.length:Int)/\((l1.length:Int):Int)=(l1.length:Int)/\((l1.length:Int):Int)<=1000000) then
 Zao (ZEa l1) (0,(replicate (toNat (l1.length:Int)) 0:List Int),([]:List (ByteArray×Bool)))
 else none
def ZEb (l1:List Int) (i2:Int):Bool->Option Int:=fun x3=>
 bif x3 then
 some 0
 else
 (gI l1 i2).bind fun y4=>
 some y4
def F69 (l1:List Int) (i2:Int):Option Int:=
 (bif decide (i2 < 0) then
 some (.inl true)
 else
 some (.inl (decide (i2>=(l1.length:Int))))).bind (Sum.elim (ZEb l1 i2) some)
def ZEc (x7:Int):Bool->Option (Int⊕Bool):=fun x10=>
 bif x10 then
 (some false).map .inr
 else
 some (.inl (wrap .i64 (x7+1)))
def Z9x (s1:TT) (r2:List Int×Bool):Int->Option (Int⊕Bool):=fun x7=>
 bif decide (x7 < (s1.2.1.length:Int)) then
 (gI s1.2.1 x7).bind fun y8=>
 (F69 r2.1 y8.1).bind fun r9=>
 (bif r9==0 then
 some (.inl true)
 else
 (F69 r2.1 y8.2.1).bind fun r11=>
 some (.inl (r9 != r11))).bind (Sum.elim (ZEc x7) some)
 else
 (some true).map .inr
def Z9w (s1:TT) (r2:List Int×Bool):Bool->Option Bool:=fun x3=>
 bif x3 then
 some false
 else
 Zao (Z9x s1 r2) 0
def F46 (s1:TT):Option Bool:=
 bif decide ((s1.1.length:Int) > 2000) then
 some false
 else
 (F68 s1.1).bind fun r2=>
 (bif !r2.2 then
 some (.inl true)
 else
 (F69 r2.1 s1.2.2.2.1).bind fun r4=>
 bif r4 != 1 then
 some (.inl true)
 else
 (F69 r2.1 s1.2.2.2.2.1).bind fun r5=>
 some (.inl (r5 != 2))).bind (Sum.elim (Z9w s1 r2) some)
def Zxr:Y3->Option (Y3⊕Y3):=fun (i5,s6)=>
 (gI s6 i5).bind fun y7=>
 (gI s6 i5).bind fun y8=>
 bif y8 != i5 then
 (gI s6 i5).bind fun y9=>
 (gI s6 i5).bind fun y10=>
 (gI s6 y10).bind fun y11=>
 (gI s6 y10).bind fun y12=>
 (gI s6 i5).bind fun y13=>
 (gI s6 i5).bind fun y14=>
 (gI (Zaq s6 i5 y12) i5).bind fun y15=>
 (gI (Zaq s6 i5 y12) i5).bind fun y16=>
 some (.inl (y16,Zaq s6 i5 y12))
 else
 (some (i5,s6)).map .inr
def F72 (i1:Int) (s2:List Int):Option Y3:=
 Zao Zxr (i1,s2)
def F70 (i1:Int) (j2:Int) (s3:List Int):Option Y15:=
 (F72 i1 s3).bind fun r4=>
 (F72 j2 r4.2).bind fun r5=>
 bif r4.1==r5.1 then
 some (false,r5.2)
 else
 (gI r5.2 (if r5.1 > r4.1 then r5.1 else r4.1)).bind fun y6=>
 (gI r5.2 (if r5.1 > r4.1 then r5.1 else r4.1)).bind fun y7=>
 some (true,Zaq r5.2 (if r5.1 > r4.1 then r5.1 else r4.1) (if r5.1 < r4.1 then r5.1 else r4.1))
def Zy8 (n1:Int):Y3->Option Y10:=fun (i5,b6)=>
 bif decide (i5 < 8) then
 bif decide ((wrap .u64 (wrap .i64 (8 * i5))) < 0) then none else
 bif decide (b6.length+List.length ([wrap .u8 (fdiv n1 (2 ^ (min (toNat (wrap .u64 (wrap .i64 (8 * i5)))) (IntKind.bits .u64))))]:List Int)<=1000000) then
 some (.inl (wrap .i64 (i5+1),b6++([wrap .u8 (fdiv n1 (2 ^ (min (toNat (wrap .u64 (wrap .i64 (8 * i5)))) (IntKind.bits .u64))))]:List Int)))
 else none
 else
 (some b6).map .inr
def F90 (n1:Int) (b2:List Int):Option (List Int):=
 Zao (Zy8 n1) (0,b2)
def Zxe (x10:Int) (y13:Int):Y38->Option (Y22⊕Y47):=fun (x14,s15,b16)=>
 bif x14 then
 (some ((ByteArray.mk #[]),false,s15)).map .inr
 else
 (F72 y13 s15).bind fun r17=>
 (F90 (wrap .u64 r17.1) b16).bind fun r18=>
 some (.inl (wrap .i64 (x10+1),r17.2,r18))
def Zxk (n3:List Int):Y22->Option (Y22⊕Y47):=fun (x10,s11,b12)=>
 bif decide (x10 < (n3.length:Int)) then
 (gI n3 x10).bind fun y13=>
 (bif decide (y13 < 0) then
 some (.inl (true,s11,b12))
 else
 some (.inl (decide (y13>=(s11.length:Int)),s11,b12))).bind (Sum.elim (Zxe x10 y13) some)
 else
 (some (ofB b12,true,s11)).map .inr
def F71 (n1:Int) (n2:Int) (n3:List Int) (s4:List Int):Option Y47:=
 (F90 (wrap .u64 n1) []).bind fun r5=>
 (F90 (wrap .u64 n2) r5).bind fun r6=>
 Zao (Zxk n3) (0,s4,r6)
def ZDj:(Bool×List Int×Int×Int)->Option Y36:=fun (x15,s16,p17,p18)=>
 bif x15 then
 (F70 p17 p18 s16).bind fun r19=>
 some (.inl r19.2)
 else
 some (.inl s16)
def Z9y (x11:Int):(List Int)->Option Y10:=fun s13=>
 some (.inl (wrap .i64 (x11+1),s13))
def ZEd (x29:Int):(Bool×List Int×List (ByteArray×Int))->Option (Y43⊕Y37):=fun (on32,s33,l34)=>
 some (.inl (on32,wrap .i64 (x29+1),s33,l34))
def ZDk (l1:TN):Y43->Option (Y43⊕Y37):=fun (on28,x29,s30,l31)=>
 bif decide (x29 < (l1.length:Int)) then
 ((gI l1 x29).bind fun y35=>
 (F71 y35.1 y35.2.1 y35.2.2 s30).bind fun r36=>
 bif !r36.2.1 then
 some (.inl (on28,r36.2.2,l31))
 else
 bif !(Option.isSome (Zc3 (ZaS .str) l31 r36.1)) then
 some (.inl (on28,r36.2.2,ZfQ (ZaS .str) l31 r36.1 x29))
 else
 (F70 x29 (getD (Zc3 (ZaS .str) l31 r36.1) 0) r36.2.2).bind fun r37=>
 bif r37.1 then
 some (.inl (true,r37.2,l31))
 else
 some (.inl (on28,r37.2,l31))).bind (Sum.elim (ZEd x29) some)
 else
 (some (.inl (on28,s30))).map .inr
def ZEe (l1:TN):Y22->Option (Y22⊕(List Int)):=fun (x41,s42,out43)=>
 bif decide (x41 < (List.length (replicate (toNat (l1.length:Int)) 0:List Int):Int)) then
 (F72 x41 s42).bind fun r44=>
 (gI out43 x41).bind fun y45=>
 (gI out43 x41).bind fun y46=>
 some (.inl (wrap .i64 (x41+1),r44.2,Zaq out43 x41 r44.1))
 else
 (some out43).map .inr
def ZEf (l1:TN):Y15->Option Y37:=fun (on22,s23)=>
 bif on22 then
 Zao (ZDk l1) (false,0,s23,([]:List (ByteArray×Int)))
 else
 (bif decide ((0:Int)<=(l1.length:Int)/\((l1.length:Int):Int)=(l1.length:Int)/\((l1.length:Int):Int)<=1000000) then
 Zao (ZEe l1) (0,s23,(replicate (toNat (l1.length:Int)) 0:List Int))
 else none).map .inr
def ZEg (l1:TN) (pairs2:TP):Y3->Option Y10:=fun (x11,s12)=>
 bif decide (x11 < (pairs2.length:Int)) then
 ((gI pairs2 x11).bind fun y14=>
 (bif decide ((if y14.2 < y14.1 then y14.2 else y14.1)>=0) then
 some (.inl (decide ((if y14.2 > y14.1 then y14.2 else y14.1) < (l1.length:Int)),s12,y14.1,y14.2))
 else
 some (.inl (false,s12,y14.1,y14.2))).bind (Sum.elim ZDj some)).bind (Sum.elim (Z9y x11) some)
 else
 (Zao (ZEf l1) (true,s12)).map .inr
def ZEh (l1:TN) (pairs2:TP):Y3->Option Y10:=fun (x5,s6)=>
 bif decide (x5 < (List.length (replicate (toNat (l1.length:Int)) 0:List Int):Int)) then
 (gI s6 x5).bind fun y7=>
 (gI s6 x5).bind fun y8=>
 some (.inl (wrap .i64 (x5+1),Zaq s6 x5 x5))
 else
 (Zao (ZEg l1 pairs2) (0,s6)).map .inr
def F47 (l1:TN) (pairs2:TP):Option (List Int):=
 bif decide ((0:Int)<=(l1.length:Int)/\((l1.length:Int):Int)=(l1.length:Int)/\((l1.length:Int):Int)<=1000000) then
 Zao (ZEh l1 pairs2) (0,(replicate (toNat (l1.length:Int)) 0:List Int))
 else none
def F49 (i1:Int) (l2:TN) (l3:TS) (l4:TI) (l5:Int) (l6:Int) (l7:Int) (l8:Int) (l9:List Int) (l10:List Int) (l11:List (List Int)):Option Y45:=
 (gI l9 i1).bind fun y12=>
 some (y12,l2,l3,l4,l5,l6,l7,l8,l9,l10,l11)
def ZC1 (n1:Int×Int×List Int):Y41->Option (Y41⊕Y24):=fun (x26,b27,l28,l29,l30,l31,l32,l33,l34,l35,l36,l37)=>
 bif decide (x26 < (n1.2.2.length:Int)) then
 (gI n1.2.2 x26).bind fun y38=>
 bif decide (b27.length+List.length ([32]:List Int)<=1000000) then
 (F49 y38 l28 l29 l30 l31 l32 l33 l34 l35 l36 l37).bind fun r39=>
 (F73 r39.1 10 (b27++([32]:List Int))).bind fun r40=>
 some (.inl (wrap .i64 (x26+1),r40,r39.2.1,r39.2.2.1,r39.2.2.2.1,r39.2.2.2.2.1,r39.2.2.2.2.2.1,r39.2.2.2.2.2.2.1,r39.2.2.2.2.2.2.2.1,r39.2.2.2.2.2.2.2.2.1,r39.2.2.2.2.2.2.2.2.2.1,r39.2.2.2.2.2.2.2.2.2.2))
 else none
 else
 (some (ofB b27,l28,l29,l30,l31,l32,l33,l34,l35,l36,l37)).map .inr
def ZCs (n1:Int×Int×List Int) (l2:TN) (l3:TS) (l4:TI) (l5:Int) (l6:Int) (l7:Int) (l8:Int) (l9:List Int) (l10:List Int) (l11:List (List Int)):Option Y24:=
 (F73 n1.1 10 []).bind fun r12=>
 bif decide (r12.length+List.length ([32]:List Int)<=1000000) then
 (F73 n1.2.1 10 (r12++([32]:List Int))).bind fun r13=>
 Zao (ZC1 n1) (0,r13,l2,l3,l4,l5,l6,l7,l8,l9,l10,l11)
 else none
def ZAo (x33:Int) (y56:Int×Int×List Int) (y57:Int):Y21->Option (Y21⊕(Y12⊕Y51)):=fun (l58,l59,l60,l61,l62,l63,l64,l65,l66,l67,l68)=>
 (ZCs y56 l59 l60 l61 l62 l63 l64 l65 l66 l67 l68).bind fun r69=>
 bif !(getD (Zc3 (ZaS .str) l58 r69.1) false) then
 (gI r69.2.2.2.2.2.2.2.2.2.2 y57).bind fun y70=>
 (gI r69.2.2.2.2.2.2.2.2.2.2 y57).bind fun y71=>
 bif decide (y71.length+List.length ([x33]:List Int)<=1000000) then
 (gI r69.2.2.2.2.2.2.2.2.2.2 y57).bind fun y72=>
 (gI r69.2.2.2.2.2.2.2.2.2.2 y57).bind fun y73=>
 bif decide (y57=y57) then
 some (.inl (ZfQ (ZaS .str) l58 r69.1 true,r69.2.1,r69.2.2.1,r69.2.2.2.1,r69.2.2.2.2.1,r69.2.2.2.2.2.1,r69.2.2.2.2.2.2.1,r69.2.2.2.2.2.2.2.1,r69.2.2.2.2.2.2.2.2.1,r69.2.2.2.2.2.2.2.2.2.1,Zaq r69.2.2.2.2.2.2.2.2.2.2 y57 (y71++([x33]:List Int))))
 else none
 else none
 else
 some (.inl (l58,r69.2.1,r69.2.2.1,r69.2.2.2.1,r69.2.2.2.2.1,r69.2.2.2.2.2.1,r69.2.2.2.2.2.2.1,r69.2.2.2.2.2.2.2.1,r69.2.2.2.2.2.2.2.2.1,r69.2.2.2.2.2.2.2.2.2.1,r69.2.2.2.2.2.2.2.2.2.2))
def ZAq (x33:Int):Y21->Option (Y12⊕Y51):=fun (l45,l46,l47,l48,l49,l50,l51,l52,l53,l54,l55)=>
 some (.inl (wrap .i64 (x33+1),l45,l46,l47,l48,l49,l50,l51,l52,l53,l54,l55))
def ZDl (s1:TT):Y12->Option (Y12⊕Y51):=fun (x33,l34,l35,l36,l37,l38,l39,l40,l41,l42,l43,l44)=>
 bif decide (x33 < (s1.1.length:Int)) then
 ((gI s1.1 x33).bind fun y56=>
 (gI l42 x33).bind fun y57=>
 (bif y57==x33 then
 bif decide (l43.length+List.length ([x33]:List Int)<=1000000) then
 some (.inl (l34,l35,l36,l37,l38,l39,l40,l41,l42,l43++([x33]:List Int),l44))
 else none
 else
 some (.inl (l34,l35,l36,l37,l38,l39,l40,l41,l42,l43,l44))).bind (Sum.elim (ZAo x33 y56 y57) some)).bind (Sum.elim (ZAq x33) some)
 else
 (some ((some ((l35,l36,l37,l38,l39,l40,l41),l42,l43,l44)),true)).map .inr
def ZAp (s1:TT):(Int×TP)->Option ((Int×TP)⊕Y51):=fun (x6,pairs7)=>
 bif decide (x6 < (s1.2.1.length:Int)) then
 (gI s1.2.1 x6).bind fun y8=>
 bif decide (pairs7.length+List.length ([(y8.1,y8.2.1)]:TP)<=1000000) then
 some (.inl (wrap .i64 (x6+1),pairs7++([(y8.1,y8.2.1)]:TP)))
 else none
 else
 (bif decide ((0:Int)<=(s1.1.length:Int)/\((s1.1.length:Int):Int)=(s1.1.length:Int)/\((s1.1.length:Int):Int)<=1000000) then
 (F47 s1.1 pairs7).bind fun r9=>
 Zao (ZDl s1) (0,([]:List (ByteArray×Bool)),s1.1,s1.2.1,s1.2.2.1,s1.2.2.2.1,s1.2.2.2.2.1,s1.2.2.2.2.2.1,s1.2.2.2.2.2.2,r9,[],(replicate (toNat (s1.1.length:Int)) []:List (List Int)))
 else none).map .inr
def F24 (s1:TT):Option Y51:=
 (F46 s1).bind fun r2=>
 bif !r2 then
 some (none,false)
 else
 Zao (ZAp s1) (0,[])
def ZEi:Bool->Option Y50:=fun x7=>
 bif x7 then
 ((some false).map .inr).map .inr
 else
 some (.inl ())
def ZEj (x5:Int):Unit->Option (Int⊕Bool):=fun _=>
 some (.inl (wrap .i64 (x5+1)))
def Zyz (t1:Option Y0) (ch2:List Int):Int->Option (Int⊕Bool):=fun x5=>
 bif decide (x5 < (ch2.length:Int)) then
 ((gI ch2 x5).bind fun y6=>
 bif y6==(-1) then
 some (.inl ())
 else
 ((t1).bind fun p8=>
 (gI p8.2.1 x5).bind fun y9=>
 bif y9 != x5 then
 some (.inl true)
 else
 bif decide (y6 < 0) then
 some (.inl true)
 else
 (t1).bind fun p10=>
 bif decide (y6>=(p10.2.1.length:Int)) then
 some (.inl true)
 else
 (t1).bind fun p11=>
 (gI p11.2.1 y6).bind fun y12=>
 some (.inl (y12 != x5))).bind (Sum.elim ZEi some)).bind (Sum.elim (ZEj x5) some)
 else
 (some true).map .inr
def F56 (t1:Option Y0) (ch2:List Int):Option Bool:=
 (t1).bind fun p3=>
 bif (ch2.length:Int) != (p3.2.1.length:Int) then
 some false
 else
 Zao (Zyz t1 ch2) 0
def Z9U (rec74:Int->Bool->(List Int)->(Option Y0)->(List Int)->(List Int)->Option Y6) (class1:Int) (y28:Int×Int×List Int):Y60->Option (Y60⊕Y6):=fun (x35,l36,l37,l38,l39,l40)=>
 bif decide (x35 < (y28.2.2.length:Int)) then
 (gI y28.2.2 x35).bind fun y41=>
 (l38).bind fun p42=>
 (gI p42.2.1 y41).bind fun y43=>
 (rec74 y43 l36 l37 l38 l39 l40).bind fun r44=>
 some (.inl (wrap .i64 (x35+1),r44.1,r44.2.1,r44.2.2.1,r44.2.2.2.1,r44.2.2.2.2))
 else
 ((gI l39 class1).bind fun y45=>
 (gI l39 class1).bind fun y46=>
 bif decide (l40.length+List.length ([class1]:List Int)<=1000000) then
 some (l36,l37,l38,Zaq l39 class1 2,l40++([class1]:List Int))
 else none).map .inr
def Z9S (rec74:Int->Bool->(List Int)->(Option Y0)->(List Int)->(List Int)->Option Y6) (class1:Int):Y57->Option Y6:=fun (x15,l16,l17,l18,l19,l20)=>
 bif x15 then
 some (false,l17,l18,l19,l20)
 else
 (gI l19 class1).bind fun y24=>
 (gI l19 class1).bind fun y25=>
 (l18).bind fun p26=>
 (gI l17 class1).bind fun y27=>
 (gI p26.1.1 y27).bind fun y28=>
 Zao (Z9U rec74 class1 y28) (0,l16,l17,l18,Zaq l19 class1 1,l20)
def Z8R (rec74:Int->Bool->(List Int)->(Option Y0)->(List Int)->(List Int)->Option Y6) (class1:Int):Y57->Option Y6:=fun (x7,l8,l9,l10,l11,l12)=>
 bif x7 then
 some (l8,l9,l10,l11,l12)
 else
 ((gI l11 class1).bind fun y21=>
 (gI l11 class1).bind fun y22=>
 bif y22==1 then
 some (.inl (true,l8,l9,l10,l11,l12))
 else
 (gI l9 class1).bind fun y23=>
 some (.inl (decide (y23 < 0),l8,l9,l10,l11,l12))).bind (Sum.elim (Z9S rec74 class1) some)
def G74 (rec74:Int->Bool->(List Int)->(Option Y0)->(List Int)->(List Int)->Option Y6) (class1:Int) (l2:Bool) (l3:List Int) (l4:Option Y0) (l5:List Int) (l6:List Int):Option Y6:=
 ((gI l5 class1).bind fun y13=>
 (gI l5 class1).bind fun y14=>
 bif y14==2 then
 some (.inl (true,l2,l3,l4,l5,l6))
 else
 some (.inl (!l2,l2,l3,l4,l5,l6))).bind (Sum.elim (Z8R rec74 class1) some)
def N74 (n:Nat):Int->Bool->(List Int)->(Option Y0)->(List Int)->(List Int)->Option Y6:=Nat.rec (motive:=fun _=>Int->Bool->(List Int)->(Option Y0)->(List Int)->(List Int)->Option Y6) (fun _ _ _ _ _ _=>none) (fun _ ih=>G74 ih) n
def F74 (class1:Int) (l2:Bool) (l3:List Int) (l4:Option Y0) (l5:List Int) (l6:List Int):Option Y6:=N74 1000 class1 l2 l3 l4 l5 l6
def F50 (t1:Option Y0) (ch2:List Int):Option Y67:=
 (F56 t1 ch2).bind fun r3=>
 bif !r3 then
 some ([],false)
 else
 bif decide ((0:Int)<=(ch2.length:Int)/\((ch2.length:Int):Int)=(ch2.length:Int)/\((ch2.length:Int):Int)<=1000000) then
 (t1).bind fun p4=>
 (t1).bind fun p5=>
 (gI p4.2.1 p5.1.2.2.2.1).bind fun y6=>
 (F74 y6 true ch2 t1 (replicate (toNat (ch2.length:Int)) 0:List Int) []).bind fun r7=>
 (r7.2.2.1).bind fun p8=>
 (r7.2.2.1).bind fun p9=>
 (gI p8.2.1 p9.1.2.2.2.2.1).bind fun y10=>
 (F74 y10 r7.1 r7.2.1 r7.2.2.1 r7.2.2.2.1 r7.2.2.2.2).bind fun r11=>
 some (r11.2.2.2.2,r11.1)
 else none
def ZxA (y6:Int×Int×List Int) (y16:Int):Y15->Option (Y3⊕(Y3⊕Y10)):=fun (x19,out20)=>
 bif x19 then
 bif decide ((wrap .u64 y6.2.1) < 0) then none else
 some (.inl (ZeM .u32 (ofInt (IntKind.bits .u32) y16 &&& ~~~ (ofInt (IntKind.bits .u32) (wrap .u32 (1 * 2 ^ (min (toNat (wrap .u64 y6.2.1)) (IntKind.bits .u32)))))),out20))
 else
 some (.inl (y16,out20))
def Zx8 (x4:Int) (x12:Int):Y3->Option (Y3⊕Y10):=fun (h17,out18)=>
 (gI out18 x4).bind fun y21=>
 (gI out18 x4).bind fun y22=>
 (gI out18 x4).bind fun y23=>
 (gI out18 x4).bind fun y24=>
 some (.inl (wrap .i64 (x12+1),Zaq out18 x4 (ZeM .u32 (ofInt (IntKind.bits .u32) y22 ||| ofInt (IntKind.bits .u32) h17))))
def ZxC (x4:Int) (y6:Int×Int×List Int):Y3->Option (Y3⊕Y10):=fun (x12,out13)=>
 bif decide (x12 < (y6.2.2.length:Int)) then
 (gI y6.2.2 x12).bind fun y14=>
 (gI out13 y14).bind fun y15=>
 (gI out13 y14).bind fun y16=>
 ((bif y6.1==31 then
 some (.inl (decide (x12>=(wrap .i64 (tdiv (wrap .i64 ((y6.2.2.length:Int) - 1)) 2))),out13))
 else
 some (.inl (false,out13))).bind (Sum.elim (ZxA y6 y16) some)).bind (Sum.elim (Zx8 x4 x12) some)
 else
 (some (.inl (wrap .i64 (x4+1),out13))).map .inr
def ZxE (x4:Int) (y6:Int×Int×List Int):(List Int)->Option Y10:=fun out7=>
 Zao (ZxC x4 y6) (0,out7)
def ZxD (l1:TN):Y3->Option Y10:=fun (x4,out5)=>
 bif decide (x4 < (l1.length:Int)) then
 (gI l1 x4).bind fun y6=>
 (bif y6.1==3 then
 bif decide ((wrap .u64 (wrap .i64 (tdiv y6.2.1 16))) < 0) then none else
 (gI out5 x4).bind fun y8=>
 (gI out5 x4).bind fun y9=>
 some (.inl (Zaq out5 x4 (wrap .u32 (1 * 2 ^ (min (toNat (wrap .u64 (wrap .i64 (tdiv y6.2.1 16)))) (IntKind.bits .u32))))))
 else
 some (.inl out5)).bind (Sum.elim (ZxE x4 y6) some)
 else
 (some out5).map .inr
def F75 (l1:TN):Option (List Int):=
 bif decide ((0:Int)<=(l1.length:Int)/\((l1.length:Int):Int)=(l1.length:Int)/\((l1.length:Int):Int)<=1000000) then
 Zao (ZxD l1) (0,(replicate (toNat (l1.length:Int)) 0:List Int))
 else none
def ZEk (x8:Int):(List Int)->Option (Y3⊕Bool):=fun vars10=>
 some (.inl (wrap .i64 (x8+1),vars10))
def ZEl:Y15->Option ((List Int)⊕(Y3⊕Bool)):=fun (x24,vars25)=>
 bif x24 then
 ((some false).map .inr).map .inr
 else
 some (.inl vars25)
def ZEm (x18:Int):(List Int)->Option (Y3⊕Bool):=fun vars20=>
 some (.inl (wrap .i64 (x18+1),vars20))
def ZEn:Bool->Option Bool:=fun x27=>
 some x27
def ZEo (g1:ByteArray×Int×TN×Int×Int):Y3->Option (Y3⊕Bool):=fun (x18,vars19)=>
 bif decide (x18 < (g1.2.2.1.length:Int)) then
 ((gI g1.2.2.1 x18).bind fun y21=>
 bif y21.1==3 then
 (gI vars19 (wrap .i64 (tdiv y21.2.1 16))).bind fun y22=>
 bif decide ((wrap .i64 (tdiv y21.2.1 16)) < (16:Int)) then
 (gI vars19 (wrap .i64 (tdiv y21.2.1 16))).bind fun y23=>
 (bif decide (y23 > 0) then
 some (.inl (decide ((tmod y21.2.1 16)>=y23),vars19))
 else
 some (.inl (false,vars19))).bind (Sum.elim ZEl some)
 else none
 else
 some (.inl vars19)).bind (Sum.elim (ZEm x18) some)
 else
 ((F75 g1.2.2.1).bind fun r26=>
 ((gI r26 g1.2.2.2.1).bind fun y28=>
 bif y28==0 then
 (gI r26 g1.2.2.2.2).bind fun y29=>
 some (.inl (y29==0))
 else
 some (.inl false)).bind (Sum.elim ZEn some)).map .inr
def ZEp (g1:ByteArray×Int×TN×Int×Int):Y3->Option (Y3⊕Bool):=fun (x8,vars9)=>
 bif decide (x8 < (g1.2.2.1.length:Int)) then
 ((gI g1.2.2.1 x8).bind fun y11=>
 bif y11.1==31 then
 (gI vars9 y11.2.1).bind fun y12=>
 bif decide (y11.2.1 < (16:Int)) then
 (gI vars9 y11.2.1).bind fun y13=>
 bif decide (y13 > 0) then
 ((some false).map .inr).map .inr
 else
 (gI vars9 y11.2.1).bind fun y14=>
 bif decide (y11.2.1 < (16:Int)) then
 (gI vars9 y11.2.1).bind fun y15=>
 some (.inl (Zaq vars9 y11.2.1 (wrap .i64 (tdiv (wrap .i64 ((y11.2.2.length:Int) - 1)) 2))))
 else none
 else none
 else
 some (.inl vars9)).bind (Sum.elim (ZEk x8) some)
 else
 (Zao (ZEo g1) (0,vars9)).map .inr
def ZEq (g1:ByteArray×Int×TN×Int×Int):Bool->Option Bool:=fun x3=>
 bif x3 then
 some false
 else
 Zao (ZEp g1) (0,(replicate 16 0:List Int))
def F51 (g1:ByteArray×Int×TN×Int×Int):Option Bool:=
 (F68 g1.2.2.1).bind fun r2=>
 (bif !r2.2 then
 some (.inl true)
 else
 (F69 r2.1 g1.2.2.2.1).bind fun r4=>
 bif r4 != 1 then
 some (.inl true)
 else
 (F69 r2.1 g1.2.2.2.2).bind fun r5=>
 some (.inl (r5 != 2))).bind (Sum.elim (ZEq g1) some)
def ZEr (t1:Option Y0) (x25:Int) (y46:Int) (y49:Int×Int×List Int):Y44->Option (Y44⊕(Y48⊕(Y18⊕Y14))):=fun (x73,l74,l75,l76,l77,g78,g79,g80,g81,num82,kids83,l84)=>
 bif decide (x73 < (y49.2.2.length:Int)) then
 (gI y49.2.2 x73).bind fun y85=>
 (t1).bind fun p86=>
 (gI p86.2.1 y85).bind fun y87=>
 (gI num82 y87).bind fun y88=>
 (gI num82 y87).bind fun y89=>
 bif decide (kids83.length+List.length ([y89]:List Int)<=1000000) then
 some (.inl (wrap .i64 (x73+1),l74,l75,l76,l77,g78,g79,g80,g81,num82,kids83++([y89]:List Int),l84))
 else none
 else
 ((gI num82 y46).bind fun y90=>
 (gI num82 y46).bind fun y91=>
 bif decide (l84.length+List.length ([(y49.1,y49.2.1,kids83)]:TN)<=1000000) then
 bif y49.1==2 then
 some (.inl (l74,l75,l76,l77,g78,if (wrap .i64 (y49.2.1+1)) > g79 then wrap .i64 (y49.2.1+1) else g79,g80,g81,Zaq num82 y46 x25,l84++([(y49.1,y49.2.1,kids83)]:TN)))
 else
 some (.inl (l74,l75,l76,l77,g78,g79,g80,g81,Zaq num82 y46 x25,l84++([(y49.1,y49.2.1,kids83)]:TN)))
 else none).map .inr
def Z51 (x25:Int):Y48->Option (Y18⊕Y14):=fun (l36,l37,l38,l39,g40,g41,g42,g43,num44,l45)=>
 some (.inl (wrap .i64 (x25+1),l36,l37,l38,l39,g40,g41,g42,g43,num44,l45))
def Z50 (t1:Option Y0) (ch2:List Int) (r3:List Int×Bool):Y18->Option (Y18⊕Y14):=fun (x25,l26,l27,l28,l29,g30,g31,g32,g33,num34,l35)=>
 bif decide (x25 < (r3.1.length:Int)) then
 ((gI r3.1 x25).bind fun y46=>
 (t1).bind fun p47=>
 (gI ch2 y46).bind fun y48=>
 (gI p47.1.1 y48).bind fun y49=>
 Zao (ZEr t1 x25 y46 y49) (0,l26,l27,l28,l29,g30,g31,g32,g33,num34,[],l35)).bind (Sum.elim (Z51 x25) some)
 else
 ((t1).bind fun p92=>
 (t1).bind fun p93=>
 (gI p92.2.1 p93.1.2.2.2.1).bind fun y94=>
 (gI num34 y94).bind fun y95=>
 (gI num34 y94).bind fun y96=>
 (t1).bind fun p97=>
 (t1).bind fun p98=>
 (gI p97.2.1 p98.1.2.2.2.2.1).bind fun y99=>
 (gI num34 y99).bind fun y100=>
 (gI num34 y99).bind fun y101=>
 (F51 (g30,g31,l35,y96,y101)).bind fun r102=>
 bif !r102 then
 some ((empty,0,[],0,0),false)
 else
 some ((g30,g31,l35,y96,y101),true)).map .inr
def F25 (t1:Option Y0) (ch2:List Int):Option Y14:=
 (F50 t1 ch2).bind fun r3=>
 bif !r3.2 then
 some ((empty,0,[],0,0),false)
 else
 bif decide ((0:Int)<=(ch2.length:Int)/\((ch2.length:Int):Int)=(ch2.length:Int)/\((ch2.length:Int):Int)<=1000000) then
 Zao (Z50 t1 ch2 r3) (0,empty,0,0,0,empty,0,0,0,(replicate (toNat (ch2.length:Int)) 0:List Int),[])
 else none
def ZEs:Bool->Option Int:=fun x6=>
 bif x6 then
 some 20
 else
 some 0
def ZEt (n1:Int×Int×List Int):Bool->Option Int:=fun x5=>
 bif x5 then
 some 4
 else
 bif n1.1==31 then
 some 6
 else
 bif n1.1==30 then
 some 12
 else
 (bif n1.1==7 then
 some (.inl true)
 else
 some (.inl (n1.1==8))).bind (Sum.elim ZEs some)
def ZEu (n1:Int×Int×List Int):Bool->Option Int:=fun x4=>
 bif x4 then
 some 3
 else
 (bif n1.1==6 then
 some (.inl true)
 else
 bif n1.1==23 then
 some (.inl true)
 else
 some (.inl (n1.1==28))).bind (Sum.elim (ZEt n1) some)
def ZEv (n1:Int×Int×List Int):Bool->Option Int:=fun x3=>
 bif x3 then
 some 2
 else
 (bif n1.1==22 then
 some (.inl true)
 else
 some (.inl (n1.1==27))).bind (Sum.elim (ZEu n1) some)
def ZEw (n1:Int×Int×List Int):Bool->Option Int:=fun x2=>
 bif x2 then
 some 1
 else
 (bif n1.1==20 then
 some (.inl true)
 else
 bif n1.1==21 then
 some (.inl true)
 else
 bif n1.1==4 then
 some (.inl true)
 else
 bif n1.1==5 then
 some (.inl true)
 else
 bif n1.1==9 then
 some (.inl true)
 else
 bif n1.1==10 then
 some (.inl true)
 else
 bif n1.1==11 then
 some (.inl true)
 else
 bif n1.1==12 then
 some (.inl true)
 else
 bif n1.1==13 then
 some (.inl true)
 else
 bif n1.1==14 then
 some (.inl true)
 else
 bif n1.1==15 then
 some (.inl true)
 else
 bif n1.1==16 then
 some (.inl true)
 else
 bif n1.1==17 then
 some (.inl true)
 else
 bif n1.1==18 then
 some (.inl true)
 else
 bif n1.1==19 then
 some (.inl true)
 else
 some (.inl (n1.1==29))).bind (Sum.elim (ZEv n1) some)
def F52 (n1:Int×Int×List Int):Option Int:=
 (bif n1.1==1 then
 some (.inl true)
 else
 bif n1.1==2 then
 some (.inl true)
 else
 some (.inl (n1.1==24))).bind (Sum.elim (ZEw n1) some)
def ZEx (g1:ByteArray×Int×TN×Int×Int):(Int×Int)->Option ((Int×Int)⊕Int):=fun (n4,x5)=>
 bif decide (x5 < (g1.2.2.1.length:Int)) then
 (gI g1.2.2.1 x5).bind fun y6=>
 (F52 y6).bind fun r7=>
 some (.inl (wrap .i64 (n4+r7),wrap .i64 (x5+1)))
 else
 (some n4).map .inr
def F26 (g1:ByteArray×Int×TN×Int×Int):Option Int:=
 Zao (ZEx g1) (0,0)
def ZuW (t1:Option Y0) (class2:Int):Bool->Option (List Int):=fun x3=>
 bif x3 then
 some []
 else
 (t1).bind fun p5=>
 (gI p5.2.2.2 class2).bind fun y6=>
 some y6
def F55 (t1:Option Y0) (class2:Int):Option (List Int):=
 (bif decide (class2 < 0) then
 some (.inl true)
 else
 (t1).bind fun p4=>
 some (.inl (decide (class2>=(p4.2.2.2.length:Int))))).bind (Sum.elim (ZuW t1 class2) some)
def F77 (t1:Option Y0) (ch2:List Int) (class3:Int):Option Int:=
 (gI ch2 class3).bind fun y4=>
 bif decide (y4>=0) then
 (gI ch2 class3).bind fun y5=>
 some y5
 else
 (F55 t1 class3).bind fun r6=>
 bif (r6.length:Int)==1 then
 (gI r6 0).bind fun y7=>
 some y7
 else
 some (-1)
def Z7J (x14:Int):(TP×List (Int×Bool))->Option (Y62⊕Y52):=fun (l17,l18)=>
 some (.inl (wrap .i64 (x14+1),l17,l18))
def ZwS (t1:Option Y0) (x6:Int) (y10:Int×Int×List Int):Y62->Option (Y62⊕Y52):=fun (x14,l15,l16)=>
 bif decide (x14 < (y10.2.2.length:Int)) then
 ((gI y10.2.2 x14).bind fun y19=>
 (t1).bind fun p20=>
 (gI p20.2.1 y19).bind fun y21=>
 bif !(getD (Zc3 (ZaS (.int .i64)) l16 y21) false) then
 some (.inl (ZfQ (ZaS (.int .i64)) l15 y21 (wrap .i64 ((getD (Zc3 (ZaS (.int .i64)) l15 y21) 0)+1)),ZfQ (ZaS (.int .i64)) l16 y21 true))
 else
 some (.inl (l15,l16))).bind (Sum.elim (Z7J x14) some)
 else
 (some (.inl (wrap .i64 (x6+1),l15))).map .inr
def ZEy (x30:Int):(TP×List Int)->Option (Y69⊕(List Int)):=fun (l33,out34)=>
 some (.inl (wrap .i64 (x30+1),l33,out34))
def ZEz (t1:Option Y0) (r3:List Int) (y24:Int×Int×List Int):Y69->Option (Y69⊕(List Int)):=fun (x30,l31,out32)=>
 bif decide (x30 < (y24.2.2.length:Int)) then
 ((gI y24.2.2 x30).bind fun y35=>
 (t1).bind fun p36=>
 (gI p36.2.1 y35).bind fun y37=>
 bif (getD (Zc3 (ZaS (.int .i64)) l31 y37) 0)==(r3.length:Int) then
 bif decide (out32.length+List.length ([y37]:List Int)<=1000000) then
 some (.inl (ZfQ (ZaS (.int .i64)) l31 y37 0,out32++([y37]:List Int)))
 else none
 else
 some (.inl (l31,out32))).bind (Sum.elim (ZEy x30) some)
 else
 (some out32).map .inr
def ZwT (t1:Option Y0) (r3:List Int):(Int×TP)->Option Y52:=fun (x6,l7)=>
 bif decide (x6 < (r3.length:Int)) then
 (gI r3 x6).bind fun y8=>
 (t1).bind fun p9=>
 (gI p9.1.1 y8).bind fun y10=>
 Zao (ZwS t1 x6 y10) (0,l7,([]:List (Int×Bool)))
 else
 ((t1).bind fun p22=>
 (gI r3 0).bind fun y23=>
 (gI p22.1.1 y23).bind fun y24=>
 Zao (ZEz t1 r3 y24) (0,l7,[])).map .inr
def F78 (t1:Option Y0) (class2:Int):Option (List Int):=
 (F55 t1 class2).bind fun r3=>
 Zao (ZwT t1 r3) (0,([]:TP))
def ZuZ (rec92:Int->(Option Y0)->(List Int)->(List Bool)->Bool->(List Int)->Option Y9) (c1:Int) (y22:Int×Int×List Int):Y58->Option (Y58⊕Y9):=fun (x29,l30,l31,l32,l33,l34)=>
 bif decide (x29 < (y22.2.2.length:Int)) then
 (gI y22.2.2 x29).bind fun y35=>
 (l30).bind fun p36=>
 (gI p36.2.1 y35).bind fun y37=>
 (rec92 y37 l30 l31 l32 l33 l34).bind fun r38=>
 some (.inl (wrap .i64 (x29+1),r38.1,r38.2.1,r38.2.2.1,r38.2.2.2.1,r38.2.2.2.2))
 else
 ((gI l34 c1).bind fun y39=>
 (gI l34 c1).bind fun y40=>
 some (l30,l31,l32,l33,Zaq l34 c1 2)).map .inr
def ZyC (rec92:Int->(Option Y0)->(List Int)->(List Bool)->Bool->(List Int)->Option Y9) (c1:Int) (r7:Int):(Bool×(Option Y0)×List Int×List Bool×Bool×List Int)->Option Y9:=fun (x8,l9,l10,l11,l12,l13)=>
 bif x8 then
 some (l9,l10,l11,l12,l13)
 else
 (gI l13 c1).bind fun y17=>
 (gI l13 c1).bind fun y18=>
 bif y18==1 then
 some (l9,l10,l11,true,l13)
 else
 (gI l13 c1).bind fun y19=>
 (gI l13 c1).bind fun y20=>
 (l9).bind fun p21=>
 (gI p21.1.1 r7).bind fun y22=>
 Zao (ZuZ rec92 c1 y22) (0,l9,l10,l11,l12,Zaq l13 c1 1)
def G92 (rec92:Int->(Option Y0)->(List Int)->(List Bool)->Bool->(List Int)->Option Y9) (c1:Int) (l2:Option Y0) (l3:List Int) (l4:List Bool) (l5:Bool) (l6:List Int):Option Y9:=
 (F77 l2 l3 c1).bind fun r7=>
 (bif decide (r7 < 0) then
 some (.inl (true,l2,l3,l4,l5,l6))
 else
 (gI l4 c1).bind fun y14=>
 bif !y14 then
 some (.inl (true,l2,l3,l4,l5,l6))
 else
 bif l5 then
 some (.inl (true,l2,l3,l4,l5,l6))
 else
 (gI l6 c1).bind fun y15=>
 (gI l6 c1).bind fun y16=>
 some (.inl (y16==2,l2,l3,l4,l5,l6))).bind (Sum.elim (ZyC rec92 c1 r7) some)
def N92 (n:Nat):Int->(Option Y0)->(List Int)->(List Bool)->Bool->(List Int)->Option Y9:=Nat.rec (motive:=fun _=>Int->(Option Y0)->(List Int)->(List Bool)->Bool->(List Int)->Option Y9) (fun _ _ _ _ _ _=>none) (fun _ ih=>G92 ih) n
def F92 (c1:Int) (l2:Option Y0) (l3:List Int) (l4:List Bool) (l5:Bool) (l6:List Int):Option Y9:=N92 1000 c1 l2 l3 l4 l5 l6
def ZE0 (p4:TT×List Int×List Int×List (List Int)):Y59->Option (Y59⊕Bool):=fun (x11,found12,l13,l14,l15,l16)=>
 bif decide (x11 < (p4.2.2.1.length:Int)) then
 (gI p4.2.2.1 x11).bind fun y17=>
 (F92 y17 l13 l14 l15 found12 l16).bind fun r18=>
 some (.inl (wrap .i64 (x11+1),r18.2.2.2.1,r18.1,r18.2.1,r18.2.2.1,r18.2.2.2.2))
 else
 (some found12).map .inr
def F79 (t1:Option Y0) (ch2:List Int) (need3:List Bool):Option Bool:=
 bif decide ((0:Int)<=(ch2.length:Int)/\((ch2.length:Int):Int)=(ch2.length:Int)/\((ch2.length:Int):Int)<=1000000) then
 (t1).bind fun p4=>
 Zao (ZE0 p4) (0,false,t1,ch2,need3,(replicate (toNat (ch2.length:Int)) 0:List Int))
 else none
def F76 (c1:Int) (l2:List Bool) (l3:List Int):Option Y68:=
 (gI l2 c1).bind fun y4=>
 (gI l2 c1).bind fun y5=>
 bif !y5 then
 (gI l2 c1).bind fun y6=>
 (gI l2 c1).bind fun y7=>
 bif decide (l3.length+List.length ([c1]:List Int)<=1000000) then
 some (Zaq l2 c1 true,l3++([c1]:List Int))
 else none
 else
 some (l2,l3)
def ZE1 (t1:Option Y0) (y23:Int×Int×List Int):Y34->Option (Y34⊕(Y40⊕Y29)):=fun (x29,l30,l31,l32,l33)=>
 bif decide (x29 < (y23.2.2.length:Int)) then
 (gI y23.2.2 x29).bind fun y34=>
 (t1).bind fun p35=>
 (gI p35.2.1 y34).bind fun y36=>
 (F76 y36 l32 l33).bind fun r37=>
 some (.inl (wrap .i64 (x29+1),l30,l31,r37.1,r37.2))
 else
 (some (.inl (l30,l31,l32,l33))).map .inr
def ZE2 (r38:List Int):Y34->Option (Y34⊕(Y40⊕Y29)):=fun (x44,l45,l46,l47,l48)=>
 bif decide (x44 < (r38.length:Int)) then
 (gI r38 x44).bind fun y49=>
 (F76 y49 l47 l48).bind fun r50=>
 some (.inl (wrap .i64 (x44+1),l45,l46,r50.1,r50.2))
 else
 (some (.inl (l45,l46,l47,l48))).map .inr
def ZE3 (least98:Int) (r118:Int):(Bool×Int×Bool×Int×Bool×List Bool×List Int×List Int)->Option (Y17⊕Y7):=fun (x119,l120,l121,s122,s123,l124,l125,l126)=>
 bif x119 then
 some (.inl (r118,l120,l121,s122,s123,l124,l125,l126))
 else
 some (.inl (least98,l120,l121,s122,s123,l124,l125,l126))
def ZE4 (x99:Int):Y17->Option Y7:=fun (least107,l108,l109,Z11,Z19,l112,l113,l114)=>
 some (.inl (least107,wrap .i64 (x99+1),l108,l109,Z11,Z19,l112,l113,l114))
def ZE5 (t1:Option Y0) (r88:List Int):(Int×Int×Int×Bool×Int×Bool×List Bool×List Int×List Int)->Option Y7:=fun (least98,x99,l100,l101,ZyN,ZyT,l104,l105,l106)=>
 bif decide (x99 < (r88.length:Int)) then
 ((gI r88 x99).bind fun y115=>
 (t1).bind fun p116=>
 (gI p116.1.1 y115).bind fun y117=>
 (F52 y117).bind fun r118=>
 (bif decide (least98 < 0) then
 some (.inl (true,l100,l101,ZyN,ZyT,l104,l105,l106))
 else
 some (.inl (decide (r118 < least98),l100,l101,ZyN,ZyT,l104,l105,l106))).bind (Sum.elim (ZE3 least98 r118) some)).bind (Sum.elim (ZE4 x99) some)
 else
 (some (.inl (l100,l101,wrap .i64 (ZyN+least98),ZyT,l104,l105,l106))).map .inr
def ZDm (x66:Int):(Int×Bool×Int×Bool×List Bool×List Int×List Int)->Option (Y17⊕Y29):=fun (l74,l75,s76,s77,l78,l79,l80)=>
 some (.inl (wrap .i64 (x66+1),l74,l75,s76,s77,l78,l79,l80))
def ZC8 (t1:Option Y0) (ch2:List Int) (p51:TT×List Int×List Int×List (List Int)):Y17->Option (Y17⊕Y29):=fun (x66,l67,l68,s69,s70,l71,l72,l73)=>
 bif decide (x66 < (p51.2.2.1.length:Int)) then
 ((gI p51.2.2.1 x66).bind fun y81=>
 (gI l71 y81).bind fun y82=>
 (gI l71 y81).bind fun y83=>
 bif !y83 then
 some (.inl (l67,l68,s69,s70,l71,l72,l73))
 else
 bif decide (l72.length+List.length ([y81]:List Int)<=1000000) then
 (F77 t1 ch2 y81).bind fun r84=>
 bif decide (r84>=0) then
 (t1).bind fun p85=>
 (gI p85.1.1 r84).bind fun y86=>
 (F52 y86).bind fun r87=>
 some (.inl (l67,l68,wrap .i64 (s69+r87),s70,l71,l72++([y81]:List Int),l73))
 else
 bif decide (l73.length+List.length ([y81]:List Int)<=1000000) then
 (F55 t1 y81).bind fun r88=>
 Zao (ZE5 t1 r88) ((-1),0,l67,l68,s69,s70,l71,l72++([y81]:List Int),l73++([y81]:List Int))
 else none
 else none).bind (Sum.elim (ZDm x66) some)
 else
 ((F79 t1 ch2 l71).bind fun r127=>
 some (l72,l73,s69,!r127)).map .inr
def ZDn (t1:Option Y0) (ch2:List Int):Y40->Option (Y40⊕Y29):=fun (l15,l16,l17,l18)=>
 bif decide ((l18.length:Int) > 0) then
 (gI l18 (wrap .i64 ((l18.length:Int) - 1))).bind fun y19=>
 (gI l18 (wrap .i64 ((l18.length:Int) - 1))).bind fun y20=>
 bif decide ((0:Int)<=0/\(0:Int)<=wrap .i64 ((l18.length:Int) - 1)/\wrap .i64 ((l18.length:Int) - 1)<=(l18.length:Int)) then
 (F77 t1 ch2 y20).bind fun r21=>
 bif decide (r21>=0) then
 (t1).bind fun p22=>
 (gI p22.1.1 r21).bind fun y23=>
 Zao (ZE1 t1 y23) (0,l15,l16,l17,slI l18 0 (wrap .i64 ((l18.length:Int) - 1)))
 else
 (F78 t1 y20).bind fun r38=>
 Zao (ZE2 r38) (0,l15,l16,l17,slI l18 0 (wrap .i64 ((l18.length:Int) - 1)))
 else none
 else
 ((t1).bind fun p51=>
 Zao (ZC8 t1 ch2 p51) (0,l15,l16,0,false,l17,[],[])).map .inr
def F53 (t1:Option Y0) (ch2:List Int):Option Y29:=
 bif decide ((0:Int)<=(ch2.length:Int)/\((ch2.length:Int):Int)=(ch2.length:Int)/\((ch2.length:Int):Int)<=1000000) then
 (t1).bind fun p3=>
 (t1).bind fun p4=>
 (gI p3.2.1 p4.1.2.2.2.1).bind fun y5=>
 (F76 y5 (replicate (toNat (ch2.length:Int)) false:List Bool) []).bind fun r6=>
 (t1).bind fun p7=>
 (t1).bind fun p8=>
 (gI p7.2.1 p8.1.2.2.2.2.1).bind fun y9=>
 (F76 y9 r6.1 r6.2).bind fun r10=>
 Zao (ZDn t1 ch2) (0,false,r10.1,r10.2)
 else none
def ZxJ (x6:Int):(List Int)->Option Y10:=fun out8=>
 some (.inl (wrap .i64 (x6+1),out8))
def ZxI (t1:Option Y0) (ch2:List Int) (s3:List Int×List Int×Int×Bool):Y3->Option Y10:=fun (x6,out7)=>
 bif decide (x6 < (s3.1.length:Int)) then
 ((gI s3.1 x6).bind fun y9=>
 (F77 t1 ch2 y9).bind fun r10=>
 bif decide (r10>=0) then
 (gI out7 y9).bind fun y11=>
 (gI out7 y9).bind fun y12=>
 some (.inl (Zaq out7 y9 r10))
 else
 some (.inl out7)).bind (Sum.elim (ZxJ x6) some)
 else
 (some out7).map .inr
def F80 (t1:Option Y0) (ch2:List Int) (s3:List Int×List Int×Int×Bool):Option (List Int):=
 bif decide (List.length ([]:List Int)+ch2.length<=1000000) then
 Zao (ZxI t1 ch2 s3) (0,([]:List Int)++ch2)
 else none
def F54 (t1:Option Y0) (ch2:List Int):Option Bool:=
 (F53 t1 ch2).bind fun r3=>
 bif !r3.2.2.2 then
 some true
 else
 bif decide ((r3.2.1.length:Int) > 0) then
 some false
 else
 (F80 t1 ch2 r3).bind fun r4=>
 (F25 t1 r4).bind fun r5=>
 some (!r5.2)
def Z5I:Bool->Option Bool:=fun x5=>
 some x5
def ZE6:Bool->Option Bool:=fun x7=>
 some x7
def Z8F (t1:Option Y0) (ch2:List Int) (cost3:Int) (w4:Int×Int×List Zbb) (rec27:(Option Y0)->(List Int)->Int->Y4->Option Bool) (r9:List Int):Int->Option (Int⊕Bool):=fun x13=>
 bif decide (x13 < (r9.length:Int)) then
 (gI r9 x13).bind fun y14=>
 bif decide (List.length ([]:List Int)+ch2.length<=1000000) then
 (gI (([]:List Int)++ch2) w4.2.1).bind fun y15=>
 (gI (([]:List Int)++ch2) w4.2.1).bind fun y16=>
 (gI w4.2.2 x13).bind fun y17=>
 (rec27 t1 (Zaq (([]:List Int)++ch2) w4.2.1 y14) cost3 (ZfP y17)).bind fun r18=>
 bif !r18 then
 (some false).map .inr
 else
 some (.inl (wrap .i64 (x13+1)))
 else none
 else
 (some true).map .inr
def ZE7 (t1:Option Y0) (ch2:List Int) (cost3:Int) (w4:Int×Int×List Zbb) (rec27:(Option Y0)->(List Int)->Int->Y4->Option Bool) (r9:List Int):Bool->Option Bool:=fun x10=>
 bif x10 then
 some false
 else
 Zao (Z8F t1 ch2 cost3 w4 rec27 r9) 0
def G27 (rec27:(Option Y0)->(List Int)->Int->Y4->Option Bool) (t1:Option Y0) (ch2:List Int) (cost3:Int) (w4:Int×Int×List Zbb):Option Bool:=
 bif w4.1==1 then
 (bif w4.2.1==0 then
 bif (w4.2.2.length:Int)==0 then
 (F53 t1 ch2).bind fun r6=>
 some (.inl (decide (r6.2.2.1>=cost3)))
 else
 some (.inl false)
 else
 some (.inl false)).bind (Sum.elim Z5I some)
 else
 bif w4.1==2 then
 (bif w4.2.1==0 then
 bif (w4.2.2.length:Int)==0 then
 (F54 t1 ch2).bind fun r8=>
 some (.inl r8)
 else
 some (.inl false)
 else
 some (.inl false)).bind (Sum.elim ZE6 some)
 else
 bif w4.1==3 then
 (F55 t1 w4.2.1).bind fun r9=>
 (bif decide ((r9.length:Int) < 2) then
 some (.inl true)
 else
 (gI ch2 w4.2.1).bind fun y11=>
 bif decide (y11>=0) then
 some (.inl true)
 else
 some (.inl ((w4.2.2.length:Int) != (r9.length:Int)))).bind (Sum.elim (ZE7 t1 ch2 cost3 w4 rec27 r9) some)
 else
 some false
def N27 (n:Nat):(Option Y0)->(List Int)->Int->Y4->Option Bool:=Nat.rec (motive:=fun _=>(Option Y0)->(List Int)->Int->Y4->Option Bool) (fun _ _ _ _=>none) (fun _ ih=>G27 ih) n
def F27 (t1:Option Y0) (ch2:List Int) (cost3:Int) (w4:Int×Int×List Zbb):Option Bool:=N27 1000 t1 ch2 cost3 w4
def ZE8 (n1:Int):Y3->Option Y10:=fun (x4,out5)=>
 bif decide (x4 < (List.length (replicate (toNat n1) 0:List Int):Int)) then
 (gI out5 x4).bind fun y6=>
 (gI out5 x4).bind fun y7=>
 some (.inl (wrap .i64 (x4+1),Zaq out5 x4 (-1)))
 else
 (some out5).map .inr
def F28 (n1:Int):Option (List Int):=
 bif decide ((0:Int)<=n1/\(n1:Int)=n1/\(n1:Int)<=1000000) then
 Zao (ZE8 n1) (0,(replicate (toNat n1) 0:List Int))
 else none
def Z2a:Bool->Option Bool:=fun x7=>
 some x7
def F9 (s1:TT) (ch2:List Int) (cost3:Int) (w4:Int×Int×List Zbb):Option Bool:=
 (F24 s1).bind fun r5=>
 bif !r5.2 then
 some false
 else
 (F25 r5.1 ch2).bind fun r6=>
 (bif r6.2 then
 (F26 r6.1).bind fun r8=>
 bif r8==cost3 then
 (F28 (s1.1.length:Int)).bind fun r9=>
 (F27 r5.1 r9 cost3 w4).bind fun r10=>
 some (.inl r10)
 else
 some (.inl false)
 else
 some (.inl false)).bind (Sum.elim Z2a some)
def ZAr:(Int×Int×Int×Int×List Zbb)->Option Y4:=fun (t17,t18,l19,l20,l21)=>
 some (t17,t18,l21)
def ZAt (how2:Int) (at3:Int) (rec10:Y4->Int->Int->Option Y4):(Bool×Int×Int×List Zbb×Int×Int)->Option Y4:=fun (x4,t5,t6,t7,l8,l9)=>
 bif x4 then
 (F17 (wrap .i64 (tdiv at3 3)) (t7.length:Int)).bind fun r11=>
 bif decide (t7.length<=1000000) then
 (gI t7 r11).bind fun y12=>
 (gI t7 r11).bind fun y13=>
 (rec10 (ZfP y13) how2 (wrap .i64 (tdiv at3 7))).bind fun r14=>
 (gI t7 r11).bind fun y15=>
 (gI t7 r11).bind fun y16=>
 some (t5,t6,Zaq t7 r11 (Zre r14))
 else none
 else
 ((F17 how2 5).bind fun r22=>
 bif r22==0 then
 (F17 (wrap .i64 (tdiv how2 5)) 5).bind fun r23=>
 some (.inl (r23,t6,l8,l9,t7))
 else
 bif r22==1 then
 (F17 (wrap .i64 (tdiv how2 5)) 14).bind fun r24=>
 some (.inl (t5,wrap .i64 (r24 - 1),l8,l9,t7))
 else
 bif r22==2 then
 bif decide (t7.length<=1000000) then
 bif decide (t7.length+List.length ([Zbb.mk 1 0 ([])]:List Zbb)<=1000000) then
 some (.inl (t5,t6,l8,l9,t7++([Zbb.mk 1 0 ([])]:List Zbb)))
 else none
 else none
 else
 bif r22==3 then
 some (.inl (t5,t6,l8,l9,[]))
 else
 some (.inl (t5,t6,l8,l9,t7))).bind (Sum.elim ZAr some)
def G10 (rec10:Y4->Int->Int->Option Y4) (t1:Int×Int×List Zbb) (how2:Int) (at3:Int):Option Y4:=
 (bif t1.1==3 then
 bif decide ((t1.2.2.length:Int) > 0) then
 (F17 at3 3).bind fun r10=>
 some (.inl (r10 != 0,t1.1,t1.2.1,t1.2.2,0,0))
 else
 some (.inl (false,t1.1,t1.2.1,t1.2.2,0,0))
 else
 some (.inl (false,t1.1,t1.2.1,t1.2.2,0,0))).bind (Sum.elim (ZAt how2 at3 rec10) some)
def N10 (n:Nat):Y4->Int->Int->Option Y4:=Nat.rec (motive:=fun _=>Y4->Int->Int->Option Y4) (fun _ _ _=>none) (fun _ ih=>G10 ih) n
def F10 (t1:Int×Int×List Zbb) (how2:Int) (at3:Int):Option Y4:=N10 1000 t1 how2 at3
def ZB5 (i19:Int):Bool->Option (Int⊕Bool):=fun x24=>
 bif x24 then
 (some false).map .inr
 else
 some (.inl (wrap .i64 (i19+1)))
def ZES:Bool->Option Bool:=fun x25=>
 some x25
def ZB6 (other5:List (List Int)) (r8:TT) (r10:Int×Bool) (r11:List Int×Int×Y4×Int) (taken13:Bool) (i19:Int):Bool->Option (Int⊕Bool):=fun x20=>
 bif x20 then
 (gI other5 i19).bind fun y21=>
 (F5 r8 y21).bind fun r22=>
 (F6 r8 r22).bind fun r23=>
 (bif r23.2 then
 bif taken13 then
 some (.inl (decide (r23.1 < r10.1)))
 else
 some (.inl false)
 else
 some (.inl false)).bind (Sum.elim (ZB5 i19) some)
 else
 ((bif r11.2.2.2 != 0 then
 (F11).bind fun r26=>
 some (.inl r26)
 else
 (F9 r8 r11.1 r11.2.1 r11.2.2.1).bind fun r27=>
 bif r27 then
 (F11).bind fun r28=>
 some (.inl r28)
 else
 some (.inl false)).bind (Sum.elim ZES some)).map .inr
def ZB7 (other5:List (List Int)) (r8:TT) (r10:Int×Bool) (r11:List Int×Int×Y4×Int) (taken13:Bool):Int->Option (Int⊕Bool):=fun i19=>
 (bif decide (i19 < (other5.length:Int)) then
 some (.inl (decide (i19 < 12)))
 else
 some (.inl false)).bind (Sum.elim (ZB6 other5 r8 r10 r11 taken13 i19) some)
def ZB8 (other5:List (List Int)) (r8:TT) (r10:Int×Bool) (r11:List Int×Int×Y4×Int) (taken13:Bool):Bool->Option Bool:=fun x17=>
 bif x17 then
 some false
 else
 Zao (ZB7 other5 r8 r10 r11 taken13) 0
def ZB4 (other5:List (List Int)) (r8:TT) (r10:Int×Bool) (r11:List Int×Int×Y4×Int):Bool->Option Bool:=fun taken13=>
 (bif taken13 then
 bif r11.2.2.2==0 then
 some (.inl (decide (r11.2.1 < r10.1)))
 else
 some (.inl false)
 else
 some (.inl false)).bind (Sum.elim (ZB8 other5 r8 r10 r11 taken13) some)
def F3 (l1:List Int) (pairs2:List Int) (which3:List Int) (trees4:List Int) (other5:List (List Int)) (how6:Int) (at7:Int):Option Bool:=
 (F4 l1 pairs2).bind fun r8=>
 (F5 r8 which3).bind fun r9=>
 (F6 r8 r9).bind fun r10=>
 (F7 r8 200).bind fun r11=>
 (F8 trees4 0).bind fun r12=>
 (bif r10.2 then
 (F9 r8 r9 r10.1 r12.1).bind fun r14=>
 bif r14 then
 some (.inl true)
 else
 (F10 r11.2.2.1 how6 at7).bind fun r15=>
 (F9 r8 r9 r10.1 r15).bind fun r16=>
 some (.inl r16)
 else
 some (.inl false)).bind (Sum.elim (ZB4 other5 r8 r10 r11) some)
end
end Go.Dat
