/-
  What the program's functions compute, as plain functions. Printed by program.
-/
import Derived.Test.YtalnenapfoedpaaDoorE2Run
namespace Go.Dat
open Go.Eng
noncomputable section
abbrev TN:=List (Int×Int×List Int)
abbrev TS:=List (Int×Int×Int×List Int×List Int)
abbrev TI:=List (Int×Int×Int)
abbrev TP:=List (Int×Int)
abbrev TT:=TN×TS×TI×Int×Int×Int×Int
abbrev TQ:=TN×TS×Int×Int
abbrev Y0:=TT×List Int×List Int×List (List Int)
abbrev Y1:=Int×TN×TS×TI×Int×Int×Int×Int×List Int×List (List Int)×List Int×ByteArray×Int×Int×Int×Bool×List Int×TN
abbrev Y2:=Int×List Int
abbrev Y3:=Int×Int×(Option Y0)×Int×Int×Bool×List Int×Bool×List Zbb
abbrev Y4:=Bool×List Int×(Option Y0)×List Int×List Int
abbrev Y5:=(Int×Int×Int×Bool×Int×Bool×List Bool×List Int×List Int)⊕((Int×Bool×Int×Bool×List Bool×List Int×List Int)⊕((Int×Int×Bool×Int×Bool×List Bool×List Int×List Int)⊕(List Int×List Int×Int×Bool)))
abbrev Y6:=(Option Y0)×List Int×List Bool×Bool×List Int
abbrev Y7:=(Int×Int×Int×Int×Int×TN×TS×TI×Int×Int×Int×Int×List Int×List (List Int))⊕(TT×List Int×List (List Int))
abbrev Y8:=Y2⊕(List Int)
abbrev Y9:=Bool×List Int
abbrev Y10:=Int×(List (ByteArray×Bool))×TN×TS×TI×Int×Int×Int×Int×List Int×List Int×List (List Int)
abbrev Y11:=(ByteArray×Int×TN×Int×Int)×Bool
abbrev Y12:=Int×List (List Bool)×List Bool
abbrev Y13:=Int×Int×Bool×Int×Bool×List Bool×List Int×List Int
abbrev Y14:=Int×ByteArray×Int×Int×Int×ByteArray×Int×Int×Int×List Int×TN
abbrev Y15:=(Int×List (List Bool))⊕(List (List Bool))
abbrev Y16:=(List (ByteArray×Bool))×TN×TS×TI×Int×Int×Int×Int×List Int×List Int×List (List Int)
abbrev Y17:=(Bool×Int×Int×Int×Int×Int×TN×TS×TI×Int×Int×Int×Int×List Int×List (List Int))⊕((Int×Int×Int×Int×TN×TS×TI×Int×Int×Int×Int×List Int×List (List Int))⊕Y7)
abbrev Y18:=Int×List Int×List Int
abbrev Y19:=Int×Int×Int×Int×Int×TN×Int×Int×Int×Int×TS
abbrev Y20:=ByteArray×TN×TS×TI×Int×Int×Int×Int×List Int×List Int×List (List Int)
abbrev Y21:=Int×Int×List Int
abbrev Y22:=Int×ByteArray×Int×Int×Int×TN×TS×TI×Int×Int×Int×Int×List Int×List (List Int)×List Int×ByteArray×Int×Int×Int×Bool×List Int
abbrev Y23:=Bool×Int×List Int
abbrev Y24:=List Int×List Int×Int×Bool
abbrev Y25:=Int×TN×TS×TI×Int×Int×Int×Int×List Int×List (List Int)×List Int×ByteArray×Int×Int×Int×Bool×List Int×List Int×TN
abbrev Y26:=Bool×TN×TS×TI×Int×Int×Int×Int×List Int×List (List Int)×List Int×ByteArray×Int×Int×Int×Bool×List Int×TN
abbrev Y27:=TN×TS×TI×Int×Int×Int×Int×List Int×List (List Int)×List Int×ByteArray×Int×Int×Int×Bool×List Int×TN
abbrev Y28:=TN⊕((Int×TN)⊕TN)
abbrev Y29:=Int×Int×Bool×List Bool×List Int
abbrev Y30:=Int×(Option Y0)×Int×Int×Bool×List Int×Bool×List Int×Int×Int×Int×Int×List Zbb
abbrev Y31:=Bool×List Int×List Int
abbrev Y32:=Int×Bool×List Bool×List Int
abbrev Y33:=(List Int)⊕Y8
abbrev Y34:=Y9⊕(List Int)
abbrev Y35:=Int×List Int×TN×TS×TI×Int×Int×Int×Int×List Int×List Int×List (List Int)
abbrev Y36:=Bool×Int×List Int×List (ByteArray×Int)
abbrev Y37:=Int×ByteArray×Int×Int×Int×ByteArray×Int×Int×Int×List Int×List Int×TN
abbrev Y38:=Int×TN×TS×TI×Int×Int×Int×Int×List Int×List Int×List (List Int)
abbrev Y39:=Int×Bool×Bool×List Int
abbrev Y40:=Int×List Int×List (ByteArray×Bool)
abbrev Y41:=Int×Int×List Zbb
abbrev Y42:=ByteArray×Bool×List Int
abbrev Y43:=ByteArray×Int×Int×Int×ByteArray×Int×Int×Int×List Int×TN
abbrev Y44:=Unit⊕(Int⊕Bool)
abbrev Y45:=(Option Y0)×Bool
abbrev Y46:=(Int×TP)⊕(List Int)
abbrev Y47:=Bool×Int×List Int×List Int
abbrev Y48:=TN×Int×Int×Int×List Int
abbrev Y49:=Int×(Option Y0)×List Int×List Bool×Bool×List Int
abbrev Y50:=Int×Bool×(Option Y0)×List Int×List Bool×List Int
abbrev Y51:=Bool×Bool×List Int×(Option Y0)×List Int×List Int
abbrev Y52:=Int×Bool×List Int×(Option Y0)×List Int×List Int
abbrev Y53:=Int×TP×List (Int×Bool)
abbrev Y54:=List (List Bool)×List Bool
abbrev Y55:=TN×Int×Int×List Int
abbrev Y56:=Int×TN×Int×Int×Int×List Int×List Int
abbrev Y57:=List Int×Bool
abbrev Y58:=Int×TP×List Int
set_option linter.unusedVariables false
def GT0:List Int:=[1,10,100,1000,10000,100000,1000000,10000000,100000000,1000000000,10000000000,100000000000,1000000000000,10000000000000,100000000000000,1000000000000000,10000000000000000,100000000000000000,1000000000000000000,10000000000000000000]
def BS0:ByteArray:=ByteArray.mk #[48,49,50,51,52,53,54,55,56,57,97,98,99,100,101,102,103,104,105,106,107,108,109,110,111,112,113,114,115,116,117,118,119,120,121,122]
def BS1:ByteArray:=ByteArray.mk #[48,48,48,49,48,50,48,51,48,52,48,53,48,54,48,55,48,56,48,57,49,48,49,49,49,50,49,51,49,52,49,53,49,54,49,55,49,56,49,57,50,48,50,49,50,50,50,51,50,52,50,53,50,54,50,55,50,56,50,57,51,48,51,49,51,50,51,51,51,52,51,53,51,54,51,55,51,56,51,57,52,48,52,49,52,50,52,51,52,52,52,53,52,54,52,55,52,56,52,57,53,48,53,49,53,50,53,51,53,52,53,53,53,54,53,55,53,56,53,57,54,48,54,49,54,50,54,51,54,52,54,53,54,54,54,55,54,56,54,57,55,48,55,49,55,50,55,51,55,52,55,53,55,54,55,55,55,56,55,57,56,48,56,49,56,50,56,51,56,52,56,53,56,54,56,55,56,56,56,57,57,48,57,49,57,50,57,51,57,52,57,53,57,54,57,55,57,56,57,57]
def BS2:ByteArray:=ByteArray.mk #[0,1,2,2,3,3,3,3,4,4,4,4,4,4,4,4,5,5,5,5,5,5,5,5,5,5,5,5,5,5,5,5,6,6,6,6,6,6,6,6,6,6,6,6,6,6,6,6,6,6,6,6,6,6,6,6,6,6,6,6,6,6,6,6,7,7,7,7,7,7,7,7,7,7,7,7,7,7,7,7,7,7,7,7,7,7,7,7,7,7,7,7,7,7,7,7,7,7,7,7,7,7,7,7,7,7,7,7,7,7,7,7,7,7,7,7,7,7,7,7,7,7,7,7,7,7,7,7,8,8,8,8,8,8,8,8,8,8,8,8,8,8,8,8,8,8,8,8,8,8,8,8,8,8,8,8,8,8,8,8,8,8,8,8,8,8,8,8,8,8,8,8,8,8,8,8,8,8,8,8,8,8,8,8,8,8,8,8,8,8,8,8,8,8,8,8,8,8,8,8,8,8,8,8,8,8,8,8,8,8,8,8,8,8,8,8,8,8,8,8,8,8,8,8,8,8,8,8,8,8,8,8,8,8,8,8,8,8,8,8,8,8,8,8,8,8,8,8,8,8,8,8,8,8,8,8]
def F7:Option Bool:=some true
def ZyM:Int->Option Int:=fun n3=>
 some n3
def F23 (n1:Int) (m2:Int):Option Int:=
 bif decide (m2=0) then none else
 (bif decide ((Int.tmod n1 m2) < 0) then
 some (.inl (IntKind.wrap .i64 ((Int.tmod n1 m2)+m2)))
 else
 some (.inl (Int.tmod n1 m2))).bind (Sum.elim ZyM some)
def F25 (n1:Int) (raw2:Int):Option Int:=
 (F23 n1 24).bind fun r3=>
 bif decide (r3 < 10) then
 (gI ([0,1,(-1),2,(-9223372036854775808),9223372036854775807,4294967296,(-2147483648),63,64]:List Int) r3).bind fun y4=>
 (gI ([0,1,(-1),2,(-9223372036854775808),9223372036854775807,4294967296,(-2147483648),63,64]:List Int) r3).bind fun y5=>
 some y5
 else
 bif decide (r3 < 22) then
 (F23 (IntKind.wrap .i64 (Int.tdiv n1 24)) 17).bind fun r6=>
 some (IntKind.wrap .i64 (r6 - 6))
 else
 some raw2
def Z9l:Bool->Option (Int×Bool):=fun x6=>
 bif x6 then
 some ((-1),true)
 else
 some (0,false)
def Z9m (op1:Int):Bool->Option (Int×Bool):=fun x5=>
 bif x5 then
 some (3,true)
 else
 (bif op1==30 then
 some (.inl true)
 else
 some (.inl (op1==31))).bind (Sum.elim Z9l some)
def Z9n (op1:Int):Bool->Option (Int×Bool):=fun x4=>
 bif x4 then
 some (2,true)
 else
 (bif op1==22 then
 some (.inl true)
 else
 some (.inl (op1==28))).bind (Sum.elim (Z9m op1) some)
def Z9o (op1:Int):Bool->Option (Int×Bool):=fun x3=>
 bif x3 then
 some (1,true)
 else
 (bif decide (op1>=4) then
 bif decide (op1<=19) then
 some (.inl true)
 else
 bif op1==23 then
 some (.inl true)
 else
 bif op1==27 then
 some (.inl true)
 else
 some (.inl (op1==29))
 else
 bif op1==23 then
 some (.inl true)
 else
 bif op1==27 then
 some (.inl true)
 else
 some (.inl (op1==29))).bind (Sum.elim (Z9n op1) some)
def Z5H (op1:Int):Bool->Option (Int×Bool):=fun x2=>
 bif x2 then
 some (0,true)
 else
 (bif op1==20 then
 some (.inl true)
 else
 bif op1==21 then
 some (.inl true)
 else
 bif op1==24 then
 some (.inl true)
 else
 some (.inl (op1==25))).bind (Sum.elim (Z9o op1) some)
def F26 (op1:Int):Option (Int×Bool):=
 (bif op1==1 then
 some (.inl true)
 else
 bif op1==2 then
 some (.inl true)
 else
 bif op1==3 then
 some (.inl true)
 else
 some (.inl (op1==26))).bind (Sum.elim (Z5H op1) some)
def Zyh (op1:Int):Bool->Option Int:=fun x2=>
 bif x2 then
 some 3
 else
 bif op1==27 then
 some 1000016
 else
 bif op1==30 then
 some 7
 else
 bif op1==31 then
 some 15
 else
 bif op1==25 then
 some 15
 else
 some (-1)
def F83 (op1:Int):Option Int:=
 bif op1==2 then
 some 5
 else
 bif op1==3 then
 some 255
 else
 (bif op1==23 then
 some (.inl true)
 else
 some (.inl (op1==28))).bind (Sum.elim (Zyh op1) some)
def Z7J:Bool->Option Bool:=fun x4=>
 some x4
def F78 (op1:Int) (n2:Int):Option Bool:=
 bif op1==1 then
 some true
 else
 (F83 op1).bind fun r3=>
 bif decide (r3 < 0) then
 some (n2==0)
 else
 (bif decide (n2>=0) then
 bif decide (n2<=r3) then
 bif op1 != 27 then
 some (.inl true)
 else
 some (.inl (decide (n2 > 0)))
 else
 some (.inl false)
 else
 some (.inl false)).bind (Sum.elim Z7J some)
def F79 (ok1:Bool) (n2:Int):Option Int:=
 bif ok1 then
 some n2
 else
 some 0
def ZxI (k1:List Int):Int->Option (Int⊕Bool):=fun i3=>
 bif decide (i3 < (k1.length:Int)) then
 (gI k1 i3).bind fun y4=>
 bif y4 != 1 then
 (some false).map .inr
 else
 some (.inl (IntKind.wrap .i64 (i3+1)))
 else
 (some true).map .inr
def F80 (k1:List Int):Option Bool:=
 Zao (ZxI k1) 0
def ZwI (k3:List Int):Bool->Option Int:=fun x8=>
 bif x8 then
 some 0
 else
 (gI k3 1).bind fun y13=>
 some y13
def ZwH:Int->Option Int:=fun x14=>
 some x14
def ZwG (n2:Int×Int×List Int):Bool->Option Int:=fun x21=>
 bif x21 then
 some 0
 else
 (F79 (n2.2.1==0) 1).bind fun r25=>
 some (IntKind.wrap .i64 (r25+1))
def Z6P:Int->Option Int:=fun x27=>
 some x27
def Z6Q:Int->Option Int:=fun x32=>
 some x32
def Z6Z:Int->Option Int:=fun x39=>
 some x39
def Z7j:Int->Option Int:=fun x46=>
 some x46
def ZwF (n2:Int×Int×List Int) (k3:List Int):Bool->Option Int:=fun x26=>
 bif x26 then
 ((gI k3 0).bind fun y28=>
 bif y28==2 then
 (gI k3 1).bind fun y29=>
 (F79 (y29==1) 2).bind fun r30=>
 some (.inl r30)
 else
 (F79 false 2).bind fun r31=>
 some (.inl r31)).bind (Sum.elim Z6P some)
 else
 bif n2.1==28 then
 ((gI k3 0).bind fun y33=>
 bif y33==2 then
 (gI k3 1).bind fun y34=>
 bif y34==1 then
 (gI k3 2).bind fun y35=>
 (F79 (y35==1) 2).bind fun r36=>
 some (.inl r36)
 else
 (F79 false 2).bind fun r37=>
 some (.inl r37)
 else
 (F79 false 2).bind fun r38=>
 some (.inl r38)).bind (Sum.elim Z6Q some)
 else
 bif n2.1==30 then
 (bif decide ((k3.length:Int)>=1) then
 bif decide ((k3.length:Int)<=7) then
 (gI k3 0).bind fun y40=>
 bif y40==2 then
 bif decide ((0:Int)<=1/\(1:Int)<=(k3.length:Int)/\(k3.length:Int)<=(k3.length:Int)) then
 (F80 (slI k3 1 (k3.length:Int))).bind fun r41=>
 (F79 r41 2).bind fun r42=>
 some (.inl r42)
 else none
 else
 (F79 false 2).bind fun r43=>
 some (.inl r43)
 else
 (F79 false 2).bind fun r44=>
 some (.inl r44)
 else
 (F79 false 2).bind fun r45=>
 some (.inl r45)).bind (Sum.elim Z6Z some)
 else
 bif n2.1==31 then
 (bif (Int.tmod (k3.length:Int) 2)==1 then
 bif decide ((IntKind.wrap .i64 (Int.tdiv (k3.length:Int) 2))>=1) then
 bif decide ((IntKind.wrap .i64 (Int.tdiv (k3.length:Int) 2))<=16) then
 (gI k3 0).bind fun y47=>
 bif y47==2 then
 bif decide ((0:Int)<=1/\(1:Int)<=IntKind.wrap .i64 ((IntKind.wrap .i64 (Int.tdiv (k3.length:Int) 2))+1)/\IntKind.wrap .i64 ((IntKind.wrap .i64 (Int.tdiv (k3.length:Int) 2))+1)<=(k3.length:Int)) then
 (F80 (slI k3 1 (IntKind.wrap .i64 ((IntKind.wrap .i64 (Int.tdiv (k3.length:Int) 2))+1)))).bind fun r48=>
 bif r48 then
 (gI k3 (IntKind.wrap .i64 ((IntKind.wrap .i64 (Int.tdiv (k3.length:Int) 2))+1))).bind fun y49=>
 bif y49==2 then
 bif decide ((0:Int)<=IntKind.wrap .i64 ((IntKind.wrap .i64 (Int.tdiv (k3.length:Int) 2))+2)/\(IntKind.wrap .i64 ((IntKind.wrap .i64 (Int.tdiv (k3.length:Int) 2))+2):Int)<=(k3.length:Int)/\(k3.length:Int)<=(k3.length:Int)) then
 (F80 (slI k3 (IntKind.wrap .i64 ((IntKind.wrap .i64 (Int.tdiv (k3.length:Int) 2))+2)) (k3.length:Int))).bind fun r50=>
 (F79 r50 3).bind fun r51=>
 some (.inl r51)
 else none
 else
 (F79 false 3).bind fun r52=>
 some (.inl r52)
 else
 (F79 false 3).bind fun r53=>
 some (.inl r53)
 else none
 else
 (F79 false 3).bind fun r54=>
 some (.inl r54)
 else
 (F79 false 3).bind fun r55=>
 some (.inl r55)
 else
 (F79 false 3).bind fun r56=>
 some (.inl r56)
 else
 (F79 false 3).bind fun r57=>
 some (.inl r57)).bind (Sum.elim Z7j some)
 else
 (F80 k3).bind fun r58=>
 (F79 r58 1).bind fun r59=>
 some r59
def ZwJ (l1:TN) (n2:Int×Int×List Int) (k3:List Int):Bool->Option Int:=fun x5=>
 bif x5 then
 some 0
 else
 bif n2.1==3 then
 bif (Int.tmod n2.2.1 16)==0 then
 some 2
 else
 some 1
 else
 bif n2.1==26 then
 some 2
 else
 bif n2.1==22 then
 ((gI k3 0).bind fun y9=>
 bif y9 != 1 then
 some (.inl true)
 else
 (gI k3 1).bind fun y10=>
 (gI k3 2).bind fun y11=>
 bif y10 != y11 then
 some (.inl true)
 else
 (gI k3 1).bind fun y12=>
 some (.inl (y12==3))).bind (Sum.elim (ZwI k3) some)
 else
 bif n2.1==23 then
 ((gI k3 0).bind fun y15=>
 bif y15==2 then
 (gI k3 1).bind fun y16=>
 (F79 (y16==1) 1).bind fun r17=>
 some (.inl r17)
 else
 (F79 false 1).bind fun r18=>
 some (.inl r18)).bind (Sum.elim ZwH some)
 else
 bif n2.1==24 then
 (gI k3 0).bind fun y19=>
 (F79 (y19==2) 1).bind fun r20=>
 some r20
 else
 bif n2.1==25 then
 ((gI k3 0).bind fun y22=>
 bif y22 != 3 then
 some (.inl true)
 else
 (gI n2.2.2 0).bind fun y23=>
 (gI l1 y23).bind fun y24=>
 some (.inl (decide (n2.2.1>=(IntKind.wrap .i64 (Int.tdiv (y24.2.2.length:Int) 2)))))).bind (Sum.elim (ZwG n2) some)
 else
 (bif n2.1==27 then
 some (.inl true)
 else
 some (.inl (n2.1==29))).bind (Sum.elim (ZwF n2 k3) some)
def F66 (l1:TN) (n2:Int×Int×List Int) (k3:List Int):Option Int:=
 (F26 n2.1).bind fun r4=>
 (bif !r4.2 then
 some (.inl true)
 else
 bif decide (r4.1>=0) then
 bif (n2.2.2.length:Int) != r4.1 then
 some (.inl true)
 else
 (F78 n2.1 n2.2.1).bind fun r6=>
 some (.inl (!r6))
 else
 (F78 n2.1 n2.2.1).bind fun r7=>
 some (.inl (!r7))).bind (Sum.elim (ZwJ l1 n2 k3) some)
def Z8E (ok18:Bool) (j19:Int) (y24:Int):Y31->Option (Y47⊕(Y31⊕Y33)):=fun (x25,out26,k27)=>
 bif x25 then
 (some (.inl (false,out26,k27))).map .inr
 else
 (gI out26 y24).bind fun y30=>
 (gI out26 y24).bind fun y31=>
 bif decide (k27.length+List.length ([y31]:List Int)<=1000000) then
 some (.inl (ok18,IntKind.wrap .i64 (j19+1),out26,k27++([y31]:List Int)))
 else none
def Z7K (l1:TN) (i5:Int):Y47->Option (Y47⊕(Y31⊕Y33)):=fun (ok18,j19,out20,k21)=>
 (gI l1 i5).bind fun y22=>
 bif decide (j19 < (y22.2.2.length:Int)) then
 (gI l1 i5).bind fun y23=>
 (gI y23.2.2 j19).bind fun y24=>
 (bif decide (y24 < 0) then
 some (.inl (true,out20,k21))
 else
 bif decide (y24>=i5) then
 some (.inl (true,out20,k21))
 else
 (gI out20 y24).bind fun y28=>
 (gI out20 y24).bind fun y29=>
 some (.inl (y29==0,out20,k21))).bind (Sum.elim (Z8E ok18 j19 y24) some)
 else
 (some (.inl (ok18,out20,k21))).map .inr
def Z8j (l1:TN) (i5:Int):Y31->Option Y33:=fun (ok8,out9,k10)=>
 bif ok8 then
 (gI l1 i5).bind fun y32=>
 (F66 l1 y32 k10).bind fun r33=>
 bif decide (out9.length+List.length ([r33]:List Int)<=1000000) then
 some (.inl (out9++([r33]:List Int)))
 else none
 else
 bif decide (out9.length+List.length ([0]:List Int)<=1000000) then
 some (.inl (out9++([0]:List Int)))
 else none
def Z7L (i5:Int):(List Int)->Option Y8:=fun out7=>
 some (.inl (IntKind.wrap .i64 (i5+1),out7))
def Z5y (l1:TN):Y2->Option Y8:=fun (i5,out6)=>
 bif decide (i5 < (l1.length:Int)) then
 ((Zao (Z7K l1 i5) (true,0,out6,[])).bind (Sum.elim (Z8j l1 i5) some)).bind (Sum.elim (Z7L i5) some)
 else
 (some out6).map .inr
def F43 (l1:TN):Option (List Int):=
 Zao (Z5y l1) (0,[])
def Z5I (i8:Int):(List Int)->Option (Y2⊕Int):=fun all10=>
 some (.inl (IntKind.wrap .i64 (i8+1),all10))
def Z8F (l1:TN) (sort2:Int) (n3:Int) (r4:List Int):Y2->Option (Y2⊕Int):=fun (i8,all9)=>
 bif decide (i8 < (l1.length:Int)) then
 ((gI r4 i8).bind fun y11=>
 bif y11==sort2 then
 bif decide (all9.length+List.length ([i8]:List Int)<=1000000) then
 some (.inl (all9++([i8]:List Int)))
 else none
 else
 some (.inl all9)).bind (Sum.elim (Z5I i8) some)
 else
 ((F23 n3 (all9.length:Int)).bind fun r12=>
 (gI all9 (IntKind.wrap .i64 ((IntKind.wrap .i64 ((all9.length:Int) - 1)) - r12))).bind fun y13=>
 (gI all9 (IntKind.wrap .i64 ((IntKind.wrap .i64 ((all9.length:Int) - 1)) - r12))).bind fun y14=>
 some y14).map .inr
def F27 (l1:TN) (sort2:Int) (n3:Int):Option Int:=
 (F43 l1).bind fun r4=>
 Zao (Z8F l1 sort2 n3 r4) (0,[])
def Zyn:Bool->Option Int:=fun x2=>
 bif x2 then
 some 2
 else
 some 1
def F44 (op1:Int):Option Int:=
 (bif op1==27 then
 some (.inl true)
 else
 bif op1==28 then
 some (.inl true)
 else
 some (.inl (op1==29))).bind (Sum.elim Zyn some)
def Z5J:Bool->Option Int:=fun x3=>
 bif x3 then
 some 2
 else
 some 1
def F28 (op1:Int) (k2:Int):Option Int:=
 (bif k2==0 then
 (F44 op1).bind fun r4=>
 bif r4==2 then
 some (.inl true)
 else
 bif op1==23 then
 some (.inl true)
 else
 some (.inl (op1==24))
 else
 some (.inl false)).bind (Sum.elim Z5J some)
def Z8k (a1:Int×Int×List Int) (b2:Int×Int×List Int):Int->Option (Int⊕Bool):=fun i5=>
 bif decide (i5 < (a1.2.2.length:Int)) then
 (gI a1.2.2 i5).bind fun y6=>
 (gI b2.2.2 i5).bind fun y7=>
 bif y6 != y7 then
 (some false).map .inr
 else
 some (.inl (IntKind.wrap .i64 (i5+1)))
 else
 (some true).map .inr
def Z8G (a1:Int×Int×List Int) (b2:Int×Int×List Int):Bool->Option Bool:=fun x3=>
 bif x3 then
 some false
 else
 Zao (Z8k a1 b2) 0
def F45 (a1:Int×Int×List Int) (b2:Int×Int×List Int):Option Bool:=
 (bif a1.1 != b2.1 then
 some (.inl true)
 else
 bif a1.2.1 != b2.2.1 then
 some (.inl true)
 else
 some (.inl ((a1.2.2.length:Int) != (b2.2.2.length:Int)))).bind (Sum.elim (Z8G a1 b2) some)
def Z8H (l1:TN) (n2:Int×Int×List Int):Int->Option (Int⊕Bool):=fun i4=>
 bif decide (i4 < (l1.length:Int)) then
 (gI l1 i4).bind fun y5=>
 (F45 y5 n2).bind fun r6=>
 bif r6 then
 (some true).map .inr
 else
 some (.inl (IntKind.wrap .i64 (i4+1)))
 else
 (some false).map .inr
def F30 (l1:TN) (n2:Int×Int×List Int):Option Bool:=
 Zao (Z8H l1 n2) 0
def F29 (x1:Int) (l2:List Int):Option Y21:=
 bif (l2.length:Int)==0 then
 some (0,x1,l2)
 else
 (gI l2 0).bind fun y3=>
 (gI l2 0).bind fun y4=>
 bif decide ((0:Int)<=1/\(1:Int)<=(l2.length:Int)/\(l2.length:Int)<=(l2.length:Int)) then
 some (y4,x1,slI l2 1 (l2.length:Int))
 else none
def Z7r (l1:List Int) (i5:Int):(Bool×TN×Int×Int×Int×List Int)->Option (Y48⊕Y28):=fun (x20,out21,x22,n23,n24,l25)=>
 bif x20 then
 (gI l1 i5).bind fun y28=>
 (F23 (IntKind.wrap .i64 (Int.tdiv y28 9)) 5).bind fun r29=>
 (gI ([23,27,28,29,24]:List Int) r29).bind fun y30=>
 (gI ([23,27,28,29,24]:List Int) r29).bind fun y31=>
 some (.inl (out21,x22,y31,n24,l25))
 else
 some (.inl (out21,x22,n23,n24,l25))
def Z7s (l1:List Int) (i5:Int):(Bool×TN×Int×Int×List Int)->Option (Y55⊕Y28):=fun (x76,out77,n78,n79,l80)=>
 bif x76 then
 (gI l1 i5).bind fun y81=>
 (F23 (IntKind.wrap .i64 (Int.tdiv y81 5)) 2).bind fun r82=>
 some (.inl (out77,n78,r82,l80))
 else
 some (.inl (out77,n78,n79,l80))
def Z7t:Y55->Option Y28:=fun (out72,n73,n74,l75)=>
 (F30 out72 (n73,n74,l75)).bind fun r83=>
 bif !r83 then
 bif decide (out72.length+List.length ([(n73,n74,l75)]:TN)<=1000000) then
 some (.inl (out72++([(n73,n74,l75)]:TN)))
 else none
 else
 some (.inl out72)
def Z7M (l1:List Int) (i5:Int):Y55->Option Y28:=fun (out66,n67,n68,l69)=>
 ((bif n67==23 then
 some (.inl (true,out66,n67,n68,l69))
 else
 some (.inl (n67==28,out66,n67,n68,l69))).bind (Sum.elim (Z7s l1 i5) some)).bind (Sum.elim Z7t some)
def Z8I (l1:List Int) (i5:Int) (r42:Int×Bool):Y56->Option (Y56⊕Y28):=fun (j56,out57,x58,n59,n60,l61,l62)=>
 bif decide (j56 < r42.1) then
 (F28 n59 j56).bind fun r63=>
 (F29 x58 l61).bind fun r64=>
 (F27 out57 r63 r64.1).bind fun r65=>
 bif decide (l62.length+List.length ([r65]:List Int)<=1000000) then
 some (.inl (IntKind.wrap .i64 (j56+1),out57,r64.2.1,n59,n60,r64.2.2,l62++([r65]:List Int)))
 else none
 else
 ((bif n59==27 then
 (gI l1 i5).bind fun y70=>
 (F23 (IntKind.wrap .i64 (Int.tdiv y70 5)) 2).bind fun r71=>
 some (.inl (out57,n59,IntKind.wrap .i64 (1+r71),l62))
 else
 some (.inl (out57,n59,n60,l62))).bind (Sum.elim (Z7M l1 i5) some)).map .inr
def Z7N (l1:List Int) (i5:Int):Y48->Option Y28:=fun (out32,x33,n34,n35,l36)=>
 (F26 n34).bind fun r42=>
 Zao (Z8I l1 i5 r42) (0,out32,x33,n34,n35,l36,[])
def Z7u (l1:List Int) (i5:Int):Y48->Option Y28:=fun (out15,x16,n17,n18,l19)=>
 ((gI l1 i5).bind fun y37=>
 (F23 y37 11).bind fun r38=>
 bif r38==0 then
 (gI l1 i5).bind fun y39=>
 (gI l1 i5).bind fun y40=>
 (F25 (IntKind.wrap .i64 (Int.tdiv y39 11)) y40).bind fun r41=>
 some (.inl (out15,x16,1,r41,l19))
 else
 some (.inl (out15,x16,n17,n18,l19))).bind (Sum.elim (Z7N l1 i5) some)
def Z7O (i5:Int):TN->Option ((Int×TN)⊕TN):=fun out9=>
 some (.inl (IntKind.wrap .i64 (i5+1),out9))
def Z7v (l1:List Int) (values2:Bool) (i5:Int):(Bool×TN)->Option ((Int×TN)⊕TN):=fun (x7,out8)=>
 bif x7 then
 ((gI l1 i5).bind fun y10=>
 (gI l1 i5).bind fun y11=>
 (gI l1 i5).bind fun y12=>
 (gI l1 i5).bind fun y13=>
 (F23 y13 19).bind fun r14=>
 ((bif !values2 then
 (gI l1 i5).bind fun y26=>
 (F23 y26 9).bind fun r27=>
 some (.inl (decide (r27 > 5),out8,0,IntKind.wrap .i64 (4+r14),0,([IntKind.wrap .i64 (Int.tdiv y10 7),IntKind.wrap .i64 (Int.tdiv y11 101),IntKind.wrap .i64 (Int.tdiv y12 1009)]:List Int)))
 else
 some (.inl (false,out8,0,IntKind.wrap .i64 (4+r14),0,([IntKind.wrap .i64 (Int.tdiv y10 7),IntKind.wrap .i64 (Int.tdiv y11 101),IntKind.wrap .i64 (Int.tdiv y12 1009)]:List Int)))).bind (Sum.elim (Z7r l1 i5) some)).bind (Sum.elim (Z7u l1 i5) some)).bind (Sum.elim (Z7O i5) some)
 else
 (some out8).map .inr
def Z8J (l1:List Int) (values2:Bool):(Int×TN)->Option ((Int×TN)⊕TN):=fun (i5,out6)=>
 (bif decide (i5 < (l1.length:Int)) then
 some (.inl (decide (i5 < 14),out6))
 else
 some (.inl (false,out6))).bind (Sum.elim (Z7v l1 values2 i5) some)
def F12 (l1:List Int) (values2:Bool):Option TN:=
 Zao (Z8J l1 values2) (0,([(2,0,[]),(2,1,[]),(26,0,[])]:TN))
def Z8l (sort2:Int) (i4:Int):Bool->Option (Int⊕Int):=fun v5=>
 bif v5==(sort2==1) then
 (some i4).map .inr
 else
 some (.inl (IntKind.wrap .i64 (i4 - 1)))
def Z5z (l1:TN) (sort2:Int):Int->Option (Int⊕Int):=fun i4=>
 bif decide (i4>=0) then
 ((gI l1 i4).bind fun y6=>
 bif decide (y6.1>=1) then
 (gI l1 i4).bind fun y7=>
 bif decide (y7.1<=24) then
 some (.inl true)
 else
 (gI l1 i4).bind fun y8=>
 bif y8.1==25 then
 (gI l1 i4).bind fun y9=>
 some (.inl (y9.2.1 != 0))
 else
 some (.inl false)
 else
 (gI l1 i4).bind fun y10=>
 bif y10.1==25 then
 (gI l1 i4).bind fun y11=>
 some (.inl (y11.2.1 != 0))
 else
 some (.inl false)).bind (Sum.elim (Z8l sort2 i4) some)
 else
 (some 0).map .inr
def F13 (l1:TN) (sort2:Int):Option Int:=
 Zao (Z5z l1 sort2) (IntKind.wrap .i64 ((l1.length:Int) - 1))
def F15 (n1:Int×Int×List Int):Option Bool:=
 some (decide (n1.1<=24))
def F14 (m1:Int) (d2:Int):Option (Int×Int):=
 (F23 d2 m1).bind fun r3=>
 bif decide (m1=0) then none else
 some (r3,IntKind.wrap .i64 (Int.tdiv (IntKind.wrap .i64 (d2 - r3)) m1))
def ZB1 (i27:Int):(Int×Int×Int×Int×TN×Int×Int×Int×Int×TS)->Option (Y19⊕TT):=fun (l49,l50,l51,l52,s53,s54,s55,s56,s57,l58)=>
 some (.inl (IntKind.wrap .i64 (i27+1),l49,l50,l51,l52,s53,s54,s55,s56,s57,l58))
def Z5O (pairs2:List Int) (i27:Int):(Bool×Int×Int×Int×Int×TN×Int×Int×Int×Int×TS)->Option (Y19⊕TT):=fun (x38,l39,l40,l41,l42,s43,s44,s45,s46,s47,l48)=>
 bif x38 then
 ((gI pairs2 i27).bind fun y59=>
 (F14 (s43.length:Int) y59).bind fun r60=>
 (F14 (s43.length:Int) r60.2).bind fun r61=>
 (gI s43 r60.1).bind fun y62=>
 (gI s43 r61.1).bind fun y63=>
 (F15 y62).bind fun r64=>
 (F15 y63).bind fun r65=>
 bif r64==r65 then
 bif decide (l48.length+List.length ([(r60.1,r61.1,1,[],[])]:TS)<=1000000) then
 some (.inl (l39,l40,l41,l42,s43,s44,s45,s46,s47,l48++([(r60.1,r61.1,1,[],[])]:TS)))
 else none
 else
 some (.inl (l39,l40,l41,l42,s43,s44,s45,s46,s47,l48))).bind (Sum.elim (ZB1 i27) some)
 else
 (some (s43,l48,[],s44,s45,s46,s47)).map .inr
def Z5R (pairs2:List Int):Y19->Option (Y19⊕TT):=fun (i27,l28,l29,l30,l31,s32,s33,s34,s35,s36,l37)=>
 (bif decide (i27 < (pairs2.length:Int)) then
 some (.inl (decide (i27 < 6),l28,l29,l30,l31,s32,s33,s34,s35,s36,l37))
 else
 some (.inl (false,l28,l29,l30,l31,s32,s33,s34,s35,s36,l37))).bind (Sum.elim (Z5O pairs2 i27) some)
def F5 (l1:List Int) (pairs2:List Int):Option TT:=
 (F12 l1 false).bind fun r3=>
 (F13 r3 1).bind fun r4=>
 (F13 r3 2).bind fun r5=>
 Zao (Z5R pairs2) (0,0,0,0,0,r3,r4,r5,0,0,[])
def F85 (i1:Int):Option ByteArray:=
 bif decide (i1 < 10) then
 bif decide ((0:Int)<=i1/\(i1:Int)<=IntKind.wrap .i64 (i1+1)/\IntKind.wrap .i64 (i1+1)<=(BS0.size:Int)) then
 some (slB BS0 i1 (IntKind.wrap .i64 (i1+1)))
 else none
 else
 bif decide ((0:Int)<=IntKind.wrap .i64 (i1 * 2)/\(IntKind.wrap .i64 (i1 * 2):Int)<=IntKind.wrap .i64 ((IntKind.wrap .i64 (i1 * 2))+2)/\IntKind.wrap .i64 ((IntKind.wrap .i64 (i1 * 2))+2)<=(BS1.size:Int)) then
 some (slB BS1 (IntKind.wrap .i64 (i1 * 2)) (IntKind.wrap .i64 ((IntKind.wrap .i64 (i1 * 2))+2)))
 else none
def F91 (x1:Int):Option Int:=
 some (Int.fdiv (IntKind.wrap .i64 (x1 * 78913)) (2 ^ (min (Int.toNat 18) (IntKind.bits .i64))))
def ZyF:(Int×Int)->Option Int:=fun (x6,n7)=>
 (gB BS2 (IntKind.wrap .u8 x6)).bind fun b8=>
 some (IntKind.wrap .i64 (n7+(IntKind.wrap .i64 b8)))
def ZyB:(Int×Int)->Option Int:=fun (x4,n5)=>
 (bif decide (x4>=256) then
 some (.inl (Int.fdiv x4 (2 ^ (min (Int.toNat 8) (IntKind.bits .u64))),IntKind.wrap .i64 (n5+8)))
 else
 some (.inl (x4,n5))).bind (Sum.elim ZyF some)
def ZyC:(Int×Int)->Option Int:=fun (x2,n3)=>
 (bif decide (x2>=65536) then
 some (.inl (Int.fdiv x2 (2 ^ (min (Int.toNat 16) (IntKind.bits .u64))),IntKind.wrap .i64 (n3+16)))
 else
 some (.inl (x2,n3))).bind (Sum.elim ZyB some)
def F92 (x1:Int):Option Int:=
 (bif decide (x1>=4294967296) then
 some (.inl (Int.fdiv x1 (2 ^ (min (Int.toNat 32) (IntKind.bits .u64))),32))
 else
 some (.inl (x1,0))).bind (Sum.elim ZyC some)
def F93 (b1:Bool):Option Int:=
 bif b1 then
 some 1
 else
 some 0
def F86 (d1:Int):Option Int:=
 (F92 d1).bind fun r2=>
 (F91 r2).bind fun r3=>
 (gI GT0 r3).bind fun y4=>
 (F93 (decide (d1>=y4))).bind fun r5=>
 some (IntKind.wrap .i64 (r3+r5))
def Z9p:Bool->Option (Int×Bool):=fun x7=>
 bif x7 then
 some (2,true)
 else
 some (0,false)
def Z9q (op1:Int):Bool->Option (Int×Bool):=fun x6=>
 bif x6 then
 some ((-1),true)
 else
 (bif decide (op1>=4) then
 some (.inl (decide (op1<=19)))
 else
 some (.inl false)).bind (Sum.elim Z9p some)
def Z9r (op1:Int):Bool->Option (Int×Bool):=fun x5=>
 bif x5 then
 some (3,true)
 else
 (bif op1==30 then
 some (.inl true)
 else
 some (.inl (op1==31))).bind (Sum.elim (Z9q op1) some)
def Z9s (op1:Int):Bool->Option (Int×Bool):=fun x4=>
 bif x4 then
 some (2,true)
 else
 (bif op1==22 then
 some (.inl true)
 else
 some (.inl (op1==28))).bind (Sum.elim (Z9r op1) some)
def Z9t (op1:Int):Bool->Option (Int×Bool):=fun x3=>
 bif x3 then
 some (1,true)
 else
 (bif op1==23 then
 some (.inl true)
 else
 bif op1==27 then
 some (.inl true)
 else
 some (.inl (op1==29))).bind (Sum.elim (Z9s op1) some)
def Zxn (op1:Int):Bool->Option (Int×Bool):=fun x2=>
 bif x2 then
 some (0,true)
 else
 (bif op1==20 then
 some (.inl true)
 else
 bif op1==21 then
 some (.inl true)
 else
 bif op1==24 then
 some (.inl true)
 else
 some (.inl (op1==25))).bind (Sum.elim (Z9t op1) some)
def F96 (op1:Int):Option (Int×Bool):=
 (bif op1==1 then
 some (.inl true)
 else
 bif op1==2 then
 some (.inl true)
 else
 bif op1==3 then
 some (.inl true)
 else
 some (.inl (op1==26))).bind (Sum.elim (Zxn op1) some)
def F97 (kids1:Int):Option Int:=
 some (IntKind.wrap .i64 (Int.tdiv (IntKind.wrap .i64 (kids1 - 1)) 2))
def Z9u (s1:List Int) (ZjW:List Int):Int->Option (Int⊕Bool):=fun i4=>
 bif decide (i4 < (s1.length:Int)) then
 (gI s1 i4).bind fun y5=>
 (gI ZjW i4).bind fun y6=>
 bif y5 != y6 then
 (some false).map .inr
 else
 some (.inl (IntKind.wrap .i64 (i4+1)))
 else
 (some true).map .inr
def F98 (s1:List Int) (ZjW:List Int):Option Bool:=
 Zao (Z9u s1 ZjW) 0
def Zxu (kids1:Int):Y2->Option Y8:=fun (i5,l6)=>
 bif decide (i5 < kids1) then
 bif decide (l6.length+List.length ([1]:List Int)<=1000000) then
 some (.inl (IntKind.wrap .i64 (i5+1),l6++([1]:List Int)))
 else none
 else
 ((F97 kids1).bind fun r7=>
 (gI l6 0).bind fun y8=>
 (gI l6 0).bind fun y9=>
 (gI (Zaq l6 0 2) (IntKind.wrap .i64 (r7+1))).bind fun y10=>
 (gI (Zaq l6 0 2) (IntKind.wrap .i64 (r7+1))).bind fun y11=>
 some (Zaq (Zaq l6 0 2) (IntKind.wrap .i64 (r7+1)) 2)).map .inr
def F99 (kids1:Int):Option (List Int):=
 Zao (Zxu kids1) (0,[])
def Z6S (op1:Int):Bool->Option (List Int):=fun x2=>
 bif x2 then
 some ([2,1]:List Int)
 else
 bif op1==28 then
 some ([2,1,1]:List Int)
 else
 bif op1==24 then
 some ([2]:List Int)
 else
 bif op1==25 then
 some ([3]:List Int)
 else
 some ([1,1]:List Int)
def ZuC (op1:Int):Option (List Int):=
 bif op1==22 then
 some ([1,1,1]:List Int)
 else
 (bif op1==23 then
 some (.inl true)
 else
 bif op1==27 then
 some (.inl true)
 else
 some (.inl (op1==29))).bind (Sum.elim (Z6S op1) some)
def Z7F:Bool->Option Bool:=fun x5=>
 some x5
def Zyy (s2:List Int):Int->Option (Int⊕Bool):=fun x12=>
 bif decide (x12 < (List.length (slI s2 1 (s2.length:Int)):Int)) then
 (gI (slI s2 1 (s2.length:Int)) x12).bind fun y13=>
 bif y13 != 1 then
 (some false).map .inr
 else
 some (.inl (IntKind.wrap .i64 (x12+1)))
 else
 (some true).map .inr
def Z7G (s2:List Int):Bool->Option Bool:=fun x9=>
 bif x9 then
 some false
 else
 bif decide ((0:Int)<=1/\(1:Int)<=(s2.length:Int)/\(s2.length:Int)<=(s2.length:Int)) then
 Zao (Zyy s2) 0
 else none
def Z7a:Bool->Option Bool:=fun x16=>
 some x16
def Z7e (n1:Int×Int×List Int) (s2:List Int):Bool->Option Bool:=fun x14=>
 bif x14 then
 ((gI s2 0).bind fun y17=>
 bif y17==1 then
 (gI s2 2).bind fun y18=>
 some (.inl (y18==2))
 else
 some (.inl false)).bind (Sum.elim Z7a some)
 else
 (ZuC n1.1).bind fun r19=>
 (F98 s2 r19).bind fun r20=>
 some r20
def Zyx (n1:Int×Int×List Int) (s2:List Int):Bool->Option Bool:=fun x4=>
 bif x4 then
 some false
 else
 bif n1.1==31 then
 (bif decide ((s2.length:Int)>=3) then
 bif (Int.tmod (s2.length:Int) 2)==1 then
 (F97 (s2.length:Int)).bind fun r6=>
 bif decide (r6<=16) then
 (F99 (s2.length:Int)).bind fun r7=>
 (F98 s2 r7).bind fun r8=>
 some (.inl r8)
 else
 some (.inl false)
 else
 some (.inl false)
 else
 some (.inl false)).bind (Sum.elim Z7F some)
 else
 bif n1.1==30 then
 (bif decide ((s2.length:Int) < 1) then
 some (.inl true)
 else
 bif decide ((s2.length:Int) > 7) then
 some (.inl true)
 else
 (gI s2 0).bind fun y10=>
 some (.inl (y10 != 2))).bind (Sum.elim (Z7G s2) some)
 else
 (bif n1.1==22 then
 (gI s2 1).bind fun y15=>
 some (.inl (y15==2))
 else
 some (.inl false)).bind (Sum.elim (Z7e n1 s2) some)
def F89 (n1:Int×Int×List Int) (s2:List Int):Option Bool:=
 (F96 n1.1).bind fun r3=>
 (bif !r3.2 then
 some (.inl true)
 else
 bif decide (r3.1>=0) then
 some (.inl (r3.1 != (s2.length:Int)))
 else
 some (.inl false)).bind (Sum.elim (Zyx n1 s2) some)
def Zy3:Bool->Option (Int⊕Bool):=fun x5=>
 (some x5).map .inr
def Zy4 (l1:TN) (n2:Int×Int×List Int):Bool->Option (Int⊕Bool):=fun x4=>
 bif x4 then
 some (.inl 3)
 else
 bif n2.1==27 then
 (bif decide (n2.2.1>=1) then
 some (.inl (decide (n2.2.1<=1000016)))
 else
 some (.inl false)).bind (Sum.elim Zy3 some)
 else
 bif n2.1==30 then
 some (.inl 7)
 else
 bif n2.1==31 then
 some (.inl 15)
 else
 bif n2.1==25 then
 (gI n2.2.2 0).bind fun y6=>
 (gI l1 y6).bind fun y7=>
 (F97 (y7.2.2.length:Int)).bind fun r8=>
 some (.inl (IntKind.wrap .i64 (r8 - 1)))
 else
 some (.inl 0)
def ZuY:Bool->Option Bool:=fun x9=>
 some x9
def Zy5 (n2:Int×Int×List Int):Int->Option Bool:=fun most3=>
 (bif decide (n2.2.1>=0) then
 some (.inl (decide (n2.2.1<=most3)))
 else
 some (.inl false)).bind (Sum.elim ZuY some)
def F90 (l1:TN) (n2:Int×Int×List Int):Option Bool:=
 (bif n2.1==1 then
 (some true).map .inr
 else
 bif n2.1==2 then
 some (.inl 5)
 else
 bif n2.1==3 then
 some (.inl 255)
 else
 (bif n2.1==23 then
 some (.inl true)
 else
 some (.inl (n2.1==28))).bind (Sum.elim (Zy4 l1 n2) some)).bind (Sum.elim (Zy5 n2) some)
def ZuH (known3:List Int) (x8:Int) (y10:Int):Y9->Option (Y2⊕Int):=fun (x11,s12)=>
 bif x11 then
 (some 0).map .inr
 else
 (gI known3 y10).bind fun y14=>
 bif decide (s12.length+List.length ([y14]:List Int)<=1000000) then
 some (.inl (IntKind.wrap .i64 (x8+1),s12++([y14]:List Int)))
 else none
def Z6V (y4:Int×Int×List Int):Y9->Option (Unit⊕Int):=fun (x19,s20)=>
 bif x19 then
 (some 2).map .inr
 else
 bif y4.1==22 then
 (gI s20 1).bind fun y21=>
 (gI s20 1).bind fun y22=>
 (some y22).map .inr
 else
 bif y4.1==3 then
 bif (Int.tmod y4.2.1 16)==0 then
 (some 2).map .inr
 else
 some (.inl ())
 else
 bif y4.1==25 then
 bif y4.2.1==0 then
 (some 2).map .inr
 else
 some (.inl ())
 else
 some (.inl ())
def Z6X:Unit->Option Int:=fun _=>
 some 1
def Zx7 (y4:Int×Int×List Int):Y9->Option Int:=fun (x15,s16)=>
 bif x15 then
 some 0
 else
 (bif y4.1==31 then
 (some 3).map .inr
 else
 (bif y4.1==26 then
 some (.inl (true,s16))
 else
 bif y4.1==27 then
 some (.inl (true,s16))
 else
 bif y4.1==28 then
 some (.inl (true,s16))
 else
 bif y4.1==29 then
 some (.inl (true,s16))
 else
 some (.inl (y4.1==30,s16))).bind (Sum.elim (Z6V y4) some)).bind (Sum.elim Z6X some)
def Zx6 (l1:TN) (i2:Int) (known3:List Int) (y4:Int×Int×List Int):Y2->Option (Y2⊕Int):=fun (x8,s9)=>
 bif decide (x8 < (y4.2.2.length:Int)) then
 (gI y4.2.2 x8).bind fun y10=>
 (bif decide (y10 < 0) then
 some (.inl (true,s9))
 else
 bif decide (y10>=i2) then
 some (.inl (true,s9))
 else
 (gI known3 y10).bind fun y13=>
 some (.inl (y13==0,s9))).bind (Sum.elim (ZuH known3 x8 y10) some)
 else
 (((F89 y4 s9).bind fun r17=>
 bif !r17 then
 some (.inl (true,s9))
 else
 (F90 l1 y4).bind fun r18=>
 some (.inl (!r18,s9))).bind (Sum.elim (Zx7 y4) some)).map .inr
def F84 (l1:TN) (i2:Int) (known3:List Int):Option Int:=
 (gI l1 i2).bind fun y4=>
 Zao (Zx6 l1 i2 known3 y4) (0,[])
def Zyb (l1:TN):Y2->Option Y8:=fun (x4,s5)=>
 bif decide (x4 < (l1.length:Int)) then
 (F84 l1 x4 s5).bind fun r6=>
 (gI s5 x4).bind fun y7=>
 (gI s5 x4).bind fun y8=>
 some (.inl (IntKind.wrap .i64 (x4+1),Zaq s5 x4 r6))
 else
 (some s5).map .inr
def F81 (l1:TN):Option (List Int):=
 bif decide ((0:Int)<=(l1.length:Int)/\((l1.length:Int):Int)=(l1.length:Int)/\((l1.length:Int):Int)<=1000000) then
 Zao (Zyb l1) (0,(List.replicate (Int.toNat (l1.length:Int)) 0:List Int))
 else none
def ZwK (l1:TN) (i2:Int):Bool->Option Int:=fun x3=>
 bif x3 then
 some 0
 else
 bif decide ((0:Int)<=0/\(0:Int)<=IntKind.wrap .i64 (i2+1)/\IntKind.wrap .i64 (i2+1)<=(l1.length:Int)) then
 (F81 (slI l1 0 (IntKind.wrap .i64 (i2+1)))).bind fun r4=>
 (gI r4 i2).bind fun y5=>
 some y5
 else none
def F67 (l1:TN) (i2:Int):Option Int:=
 (bif decide (i2 < 0) then
 some (.inl true)
 else
 some (.inl (decide (i2>=(l1.length:Int))))).bind (Sum.elim (ZwK l1 i2) some)
def F68 (k1:Int):Option Int:=
 some k1
def Z8K:Y21->Option (List Int):=fun (nd48,x49,a50)=>
 bif decide (nd48 > 0) then
 (gI a50 0).bind fun y57=>
 (gI a50 0).bind fun y58=>
 some (Zaq a50 0 (IntKind.wrap .u8 (IntKind.wrap .u32 (48+x49))))
 else
 some a50
def Zyp:Y21->Option (List Int):=fun (nd33,x34,a35)=>
 (bif decide (nd33>=2) then
 (gB BS1 (IntKind.wrap .u32 ((IntKind.wrap .u32 ((Int.tmod x34 100) * 2))+1))).bind fun b51=>
 (gB BS1 (IntKind.wrap .u32 ((Int.tmod x34 100) * 2))).bind fun b52=>
 (gI a35 (IntKind.wrap .i64 (nd33 - 1))).bind fun y53=>
 (gI a35 (IntKind.wrap .i64 (nd33 - 1))).bind fun y54=>
 (gI (Zaq a35 (IntKind.wrap .i64 (nd33 - 1)) b51) (IntKind.wrap .i64 (nd33 - 2))).bind fun y55=>
 (gI (Zaq a35 (IntKind.wrap .i64 (nd33 - 1)) b51) (IntKind.wrap .i64 (nd33 - 2))).bind fun y56=>
 some (.inl (IntKind.wrap .i64 (nd33 - 2),IntKind.wrap .u32 (Int.tdiv x34 100),Zaq (Zaq a35 (IntKind.wrap .i64 (nd33 - 1)) b51) (IntKind.wrap .i64 (nd33 - 2)) b52))
 else
 some (.inl (nd33,x34,a35))).bind (Sum.elim Z8K some)
def Z7H:Y21->Option (Y21⊕(List Int)):=fun (u6,nd7,a8)=>
 bif decide (nd7>=8) then
 (gB BS1 (IntKind.wrap .u32 ((IntKind.wrap .u32 ((Int.tmod (Int.tmod (IntKind.wrap .u32 (Int.tmod u6 100000000)) 10000) 100) * 2))+1))).bind fun b9=>
 (gB BS1 (IntKind.wrap .u32 ((Int.tmod (Int.tmod (IntKind.wrap .u32 (Int.tmod u6 100000000)) 10000) 100) * 2))).bind fun b10=>
 (gI a8 (IntKind.wrap .i64 (nd7 - 1))).bind fun y11=>
 (gI a8 (IntKind.wrap .i64 (nd7 - 1))).bind fun y12=>
 (gI (Zaq a8 (IntKind.wrap .i64 (nd7 - 1)) b9) (IntKind.wrap .i64 (nd7 - 2))).bind fun y13=>
 (gI (Zaq a8 (IntKind.wrap .i64 (nd7 - 1)) b9) (IntKind.wrap .i64 (nd7 - 2))).bind fun y14=>
 (gB BS1 (IntKind.wrap .u32 ((IntKind.wrap .u32 ((IntKind.wrap .u32 (Int.tdiv (Int.tmod (IntKind.wrap .u32 (Int.tmod u6 100000000)) 10000) 100)) * 2))+1))).bind fun b15=>
 (gB BS1 (IntKind.wrap .u32 ((IntKind.wrap .u32 (Int.tdiv (Int.tmod (IntKind.wrap .u32 (Int.tmod u6 100000000)) 10000) 100)) * 2))).bind fun b16=>
 (gI (Zaq (Zaq a8 (IntKind.wrap .i64 (nd7 - 1)) b9) (IntKind.wrap .i64 (nd7 - 2)) b10) (IntKind.wrap .i64 (nd7 - 3))).bind fun y17=>
 (gI (Zaq (Zaq a8 (IntKind.wrap .i64 (nd7 - 1)) b9) (IntKind.wrap .i64 (nd7 - 2)) b10) (IntKind.wrap .i64 (nd7 - 3))).bind fun y18=>
 (gI (Zaq (Zaq (Zaq a8 (IntKind.wrap .i64 (nd7 - 1)) b9) (IntKind.wrap .i64 (nd7 - 2)) b10) (IntKind.wrap .i64 (nd7 - 3)) b15) (IntKind.wrap .i64 (nd7 - 4))).bind fun y19=>
 (gI (Zaq (Zaq (Zaq a8 (IntKind.wrap .i64 (nd7 - 1)) b9) (IntKind.wrap .i64 (nd7 - 2)) b10) (IntKind.wrap .i64 (nd7 - 3)) b15) (IntKind.wrap .i64 (nd7 - 4))).bind fun y20=>
 (gB BS1 (IntKind.wrap .u32 ((IntKind.wrap .u32 ((Int.tmod (IntKind.wrap .u32 (Int.tdiv (IntKind.wrap .u32 (Int.tmod u6 100000000)) 10000)) 100) * 2))+1))).bind fun b21=>
 (gB BS1 (IntKind.wrap .u32 ((Int.tmod (IntKind.wrap .u32 (Int.tdiv (IntKind.wrap .u32 (Int.tmod u6 100000000)) 10000)) 100) * 2))).bind fun b22=>
 (gI (Zaq (Zaq (Zaq (Zaq a8 (IntKind.wrap .i64 (nd7 - 1)) b9) (IntKind.wrap .i64 (nd7 - 2)) b10) (IntKind.wrap .i64 (nd7 - 3)) b15) (IntKind.wrap .i64 (nd7 - 4)) b16) (IntKind.wrap .i64 (nd7 - 5))).bind fun y23=>
 (gI (Zaq (Zaq (Zaq (Zaq a8 (IntKind.wrap .i64 (nd7 - 1)) b9) (IntKind.wrap .i64 (nd7 - 2)) b10) (IntKind.wrap .i64 (nd7 - 3)) b15) (IntKind.wrap .i64 (nd7 - 4)) b16) (IntKind.wrap .i64 (nd7 - 5))).bind fun y24=>
 (gI (Zaq (Zaq (Zaq (Zaq (Zaq a8 (IntKind.wrap .i64 (nd7 - 1)) b9) (IntKind.wrap .i64 (nd7 - 2)) b10) (IntKind.wrap .i64 (nd7 - 3)) b15) (IntKind.wrap .i64 (nd7 - 4)) b16) (IntKind.wrap .i64 (nd7 - 5)) b21) (IntKind.wrap .i64 (nd7 - 6))).bind fun y25=>
 (gI (Zaq (Zaq (Zaq (Zaq (Zaq a8 (IntKind.wrap .i64 (nd7 - 1)) b9) (IntKind.wrap .i64 (nd7 - 2)) b10) (IntKind.wrap .i64 (nd7 - 3)) b15) (IntKind.wrap .i64 (nd7 - 4)) b16) (IntKind.wrap .i64 (nd7 - 5)) b21) (IntKind.wrap .i64 (nd7 - 6))).bind fun y26=>
 (gB BS1 (IntKind.wrap .u32 ((IntKind.wrap .u32 ((IntKind.wrap .u32 (Int.tdiv (IntKind.wrap .u32 (Int.tdiv (IntKind.wrap .u32 (Int.tmod u6 100000000)) 10000)) 100)) * 2))+1))).bind fun b27=>
 (gB BS1 (IntKind.wrap .u32 ((IntKind.wrap .u32 (Int.tdiv (IntKind.wrap .u32 (Int.tdiv (IntKind.wrap .u32 (Int.tmod u6 100000000)) 10000)) 100)) * 2))).bind fun b28=>
 (gI (Zaq (Zaq (Zaq (Zaq (Zaq (Zaq a8 (IntKind.wrap .i64 (nd7 - 1)) b9) (IntKind.wrap .i64 (nd7 - 2)) b10) (IntKind.wrap .i64 (nd7 - 3)) b15) (IntKind.wrap .i64 (nd7 - 4)) b16) (IntKind.wrap .i64 (nd7 - 5)) b21) (IntKind.wrap .i64 (nd7 - 6)) b22) (IntKind.wrap .i64 (nd7 - 7))).bind fun y29=>
 (gI (Zaq (Zaq (Zaq (Zaq (Zaq (Zaq a8 (IntKind.wrap .i64 (nd7 - 1)) b9) (IntKind.wrap .i64 (nd7 - 2)) b10) (IntKind.wrap .i64 (nd7 - 3)) b15) (IntKind.wrap .i64 (nd7 - 4)) b16) (IntKind.wrap .i64 (nd7 - 5)) b21) (IntKind.wrap .i64 (nd7 - 6)) b22) (IntKind.wrap .i64 (nd7 - 7))).bind fun y30=>
 (gI (Zaq (Zaq (Zaq (Zaq (Zaq (Zaq (Zaq a8 (IntKind.wrap .i64 (nd7 - 1)) b9) (IntKind.wrap .i64 (nd7 - 2)) b10) (IntKind.wrap .i64 (nd7 - 3)) b15) (IntKind.wrap .i64 (nd7 - 4)) b16) (IntKind.wrap .i64 (nd7 - 5)) b21) (IntKind.wrap .i64 (nd7 - 6)) b22) (IntKind.wrap .i64 (nd7 - 7)) b27) (IntKind.wrap .i64 (nd7 - 8))).bind fun y31=>
 (gI (Zaq (Zaq (Zaq (Zaq (Zaq (Zaq (Zaq a8 (IntKind.wrap .i64 (nd7 - 1)) b9) (IntKind.wrap .i64 (nd7 - 2)) b10) (IntKind.wrap .i64 (nd7 - 3)) b15) (IntKind.wrap .i64 (nd7 - 4)) b16) (IntKind.wrap .i64 (nd7 - 5)) b21) (IntKind.wrap .i64 (nd7 - 6)) b22) (IntKind.wrap .i64 (nd7 - 7)) b27) (IntKind.wrap .i64 (nd7 - 8))).bind fun y32=>
 some (.inl (IntKind.wrap .u64 (Int.tdiv u6 100000000),IntKind.wrap .i64 (nd7 - 8),Zaq (Zaq (Zaq (Zaq (Zaq (Zaq (Zaq (Zaq a8 (IntKind.wrap .i64 (nd7 - 1)) b9) (IntKind.wrap .i64 (nd7 - 2)) b10) (IntKind.wrap .i64 (nd7 - 3)) b15) (IntKind.wrap .i64 (nd7 - 4)) b16) (IntKind.wrap .i64 (nd7 - 5)) b21) (IntKind.wrap .i64 (nd7 - 6)) b22) (IntKind.wrap .i64 (nd7 - 7)) b27) (IntKind.wrap .i64 (nd7 - 8)) b28))
 else
 ((bif decide (nd7>=4) then
 (gB BS1 (IntKind.wrap .u32 ((IntKind.wrap .u32 ((Int.tmod (Int.tmod (IntKind.wrap .u32 u6) 10000) 100) * 2))+1))).bind fun b36=>
 (gB BS1 (IntKind.wrap .u32 ((Int.tmod (Int.tmod (IntKind.wrap .u32 u6) 10000) 100) * 2))).bind fun b37=>
 (gI a8 (IntKind.wrap .i64 (nd7 - 1))).bind fun y38=>
 (gI a8 (IntKind.wrap .i64 (nd7 - 1))).bind fun y39=>
 (gI (Zaq a8 (IntKind.wrap .i64 (nd7 - 1)) b36) (IntKind.wrap .i64 (nd7 - 2))).bind fun y40=>
 (gI (Zaq a8 (IntKind.wrap .i64 (nd7 - 1)) b36) (IntKind.wrap .i64 (nd7 - 2))).bind fun y41=>
 (gB BS1 (IntKind.wrap .u32 ((IntKind.wrap .u32 ((IntKind.wrap .u32 (Int.tdiv (Int.tmod (IntKind.wrap .u32 u6) 10000) 100)) * 2))+1))).bind fun b42=>
 (gB BS1 (IntKind.wrap .u32 ((IntKind.wrap .u32 (Int.tdiv (Int.tmod (IntKind.wrap .u32 u6) 10000) 100)) * 2))).bind fun b43=>
 (gI (Zaq (Zaq a8 (IntKind.wrap .i64 (nd7 - 1)) b36) (IntKind.wrap .i64 (nd7 - 2)) b37) (IntKind.wrap .i64 (nd7 - 3))).bind fun y44=>
 (gI (Zaq (Zaq a8 (IntKind.wrap .i64 (nd7 - 1)) b36) (IntKind.wrap .i64 (nd7 - 2)) b37) (IntKind.wrap .i64 (nd7 - 3))).bind fun y45=>
 (gI (Zaq (Zaq (Zaq a8 (IntKind.wrap .i64 (nd7 - 1)) b36) (IntKind.wrap .i64 (nd7 - 2)) b37) (IntKind.wrap .i64 (nd7 - 3)) b42) (IntKind.wrap .i64 (nd7 - 4))).bind fun y46=>
 (gI (Zaq (Zaq (Zaq a8 (IntKind.wrap .i64 (nd7 - 1)) b36) (IntKind.wrap .i64 (nd7 - 2)) b37) (IntKind.wrap .i64 (nd7 - 3)) b42) (IntKind.wrap .i64 (nd7 - 4))).bind fun y47=>
 some (.inl (IntKind.wrap .i64 (nd7 - 4),IntKind.wrap .u32 (Int.tdiv (IntKind.wrap .u32 u6) 10000),Zaq (Zaq (Zaq (Zaq a8 (IntKind.wrap .i64 (nd7 - 1)) b36) (IntKind.wrap .i64 (nd7 - 2)) b37) (IntKind.wrap .i64 (nd7 - 3)) b42) (IntKind.wrap .i64 (nd7 - 4)) b43))
 else
 some (.inl (nd7,IntKind.wrap .u32 u6,a8))).bind (Sum.elim Zyp some)).map .inr
def F87 (u1:Int) (a2:List Int):Option (List Int):=
 Zao Z7H (u1,(a2.length:Int),a2)
def F82 (i1:Int) (base2:Int) (dst3:List Int):Option (List Int):=
 bif base2==10 then
 bif decide (i1 < 100) then
 (F85 (IntKind.wrap .i64 i1)).bind fun r4=>
 bif decide (dst3.length+List.length (toB r4)<=1000000) then
 some (dst3++(toB r4))
 else none
 else
 (F86 i1).bind fun r5=>
 bif decide ((0:Int)<=r5/\r5<=(24:Int)) then
 (F87 i1 (slI (List.replicate 24 0:List Int) 0 r5)).bind fun r6=>
 bif decide (r5=r5) then
 bif decide (dst3.length+r6.length<=1000000) then
 some (dst3++r6)
 else none
 else none
 else none
 else
 none
def Z9v (base2:Int):Y2->Option (List Int):=fun (u4,dst5)=>
 (F82 u4 base2 dst5).bind fun r6=>
 some r6
def F70 (i1:Int) (base2:Int) (dst3:List Int):Option (List Int):=
 (bif decide (i1 < 0) then
 bif decide (dst3.length+List.length ([45]:List Int)<=1000000) then
 some (.inl (IntKind.wrap .u64 (0 - (IntKind.wrap .u64 i1)),dst3++([45]:List Int)))
 else none
 else
 some (.inl (IntKind.wrap .u64 i1,dst3))).bind (Sum.elim (Z9v base2) some)
def F51 (i1:Int) (base2:Int) (dst3:List Int):Option (List Int):=
 (F70 i1 base2 dst3).bind fun r4=>
 some r4
def Z7x (n1:Int×Int×List Int):Y2->Option (Y2⊕ByteArray):=fun (x6,b7)=>
 bif decide (x6 < (n1.2.2.length:Int)) then
 (gI n1.2.2 x6).bind fun y8=>
 bif decide (b7.length+List.length ([32]:List Int)<=1000000) then
 (F68 y8).bind fun r9=>
 (F51 r9 10 (b7++([32]:List Int))).bind fun r10=>
 some (.inl (IntKind.wrap .i64 (x6+1),r10))
 else none
 else
 (some (ofB b7)).map .inr
def Z7y (n1:Int×Int×List Int):Option ByteArray:=
 (F51 n1.1 10 []).bind fun r2=>
 bif decide (r2.length+List.length ([32]:List Int)<=1000000) then
 (F51 n1.2.1 10 (r2++([32]:List Int))).bind fun r3=>
 Zao (Z7x n1) (0,r3)
 else none
def Z9w (x5:Int) (r12:ByteArray):(Bool×List Int×List (ByteArray×Bool))->Option (Y40⊕Y57):=fun (x13,out14,l15)=>
 bif x13 then
 (some ([],false)).map .inr
 else
 some (.inl (IntKind.wrap .i64 (x5+1),out14,ZfQ (ZaS .str) l15 r12 true))
def Z9x (l1:TN):Y40->Option (Y40⊕Y57):=fun (x5,out6,l7)=>
 bif decide (x5 < (l1.length:Int)) then
 (F67 l1 x5).bind fun r8=>
 (gI out6 x5).bind fun y9=>
 (gI out6 x5).bind fun y10=>
 (gI l1 x5).bind fun y11=>
 (Z7y y11).bind fun r12=>
 ((gI (Zaq out6 x5 r8) x5).bind fun y16=>
 (gI (Zaq out6 x5 r8) x5).bind fun y17=>
 bif y17==0 then
 some (.inl (true,Zaq out6 x5 r8,l7))
 else
 some (.inl (Option.getD (Zc3 (ZaS .str) l7 r12) false,Zaq out6 x5 r8,l7))).bind (Sum.elim (Z9w x5 r12) some)
 else
 (some (out6,true)).map .inr
def F46 (l1:TN):Option Y57:=
 bif decide ((0:Int)<=(l1.length:Int)/\((l1.length:Int):Int)=(l1.length:Int)/\((l1.length:Int):Int)<=1000000) then
 Zao (Z9x l1) (0,(List.replicate (Int.toNat (l1.length:Int)) 0:List Int),([]:List (ByteArray×Bool)))
 else none
def Z9y (l1:List Int) (i2:Int):Bool->Option Int:=fun x3=>
 bif x3 then
 some 0
 else
 (gI l1 i2).bind fun y4=>
 some y4
def F47 (l1:List Int) (i2:Int):Option Int:=
 (bif decide (i2 < 0) then
 some (.inl true)
 else
 some (.inl (decide (i2>=(l1.length:Int))))).bind (Sum.elim (Z9y l1 i2) some)
def Z9z (x7:Int):Bool->Option (Int⊕Bool):=fun x10=>
 bif x10 then
 (some false).map .inr
 else
 some (.inl (IntKind.wrap .i64 (x7+1)))
def Z90 (s1:TT) (r2:List Int×Bool):Int->Option (Int⊕Bool):=fun x7=>
 bif decide (x7 < (s1.2.1.length:Int)) then
 (gI s1.2.1 x7).bind fun y8=>
 (F47 r2.1 y8.1).bind fun r9=>
 (bif r9==0 then
 some (.inl true)
 else
 (F47 r2.1 y8.2.1).bind fun r11=>
 some (.inl (r9 != r11))).bind (Sum.elim (Z9z x7) some)
 else
 (some true).map .inr
def Z5B (s1:TT) (r2:List Int×Bool):Bool->Option Bool:=fun x3=>
 bif x3 then
 some false
 else
 Zao (Z90 s1 r2) 0
def F31 (s1:TT):Option Bool:=
 bif decide ((s1.1.length:Int) > 2000) then
 some false
 else
 (F46 s1.1).bind fun r2=>
 (bif !r2.2 then
 some (.inl true)
 else
 (F47 r2.1 s1.2.2.2.1).bind fun r4=>
 bif r4 != 1 then
 some (.inl true)
 else
 (F47 r2.1 s1.2.2.2.2.1).bind fun r5=>
 some (.inl (r5 != 2))).bind (Sum.elim (Z5B s1 r2) some)
def Z91:Y2->Option (Y2⊕Y2):=fun (i5,s6)=>
 (gI s6 i5).bind fun y7=>
 (gI s6 i5).bind fun y8=>
 bif y8 != i5 then
 (gI s6 i5).bind fun y9=>
 (gI s6 i5).bind fun y10=>
 (gI s6 y10).bind fun y11=>
 (gI s6 y10).bind fun y12=>
 (gI s6 i5).bind fun y13=>
 (gI s6 i5).bind fun y14=>
 (gI (Zaq s6 i5 y12) i5).bind fun y15=>
 (gI (Zaq s6 i5 y12) i5).bind fun y16=>
 some (.inl (y16,Zaq s6 i5 y12))
 else
 (some (i5,s6)).map .inr
def F50 (i1:Int) (s2:List Int):Option Y2:=
 Zao Z91 (i1,s2)
def F48 (i1:Int) (j2:Int) (s3:List Int):Option Y9:=
 (F50 i1 s3).bind fun r4=>
 (F50 j2 r4.2).bind fun r5=>
 bif r4.1==r5.1 then
 some (false,r5.2)
 else
 (gI r5.2 (if r5.1 > r4.1 then r5.1 else r4.1)).bind fun y6=>
 (gI r5.2 (if r5.1 > r4.1 then r5.1 else r4.1)).bind fun y7=>
 some (true,Zaq r5.2 (if r5.1 > r4.1 then r5.1 else r4.1) (if r5.1 < r4.1 then r5.1 else r4.1))
def Z92 (n1:Int):Y2->Option Y8:=fun (i5,b6)=>
 bif decide (i5 < 8) then
 bif decide ((IntKind.wrap .u64 (IntKind.wrap .i64 (8 * i5))) < 0) then none else
 bif decide (b6.length+List.length ([IntKind.wrap .u8 (Int.fdiv n1 (2 ^ (min (Int.toNat (IntKind.wrap .u64 (IntKind.wrap .i64 (8 * i5)))) (IntKind.bits .u64))))]:List Int)<=1000000) then
 some (.inl (IntKind.wrap .i64 (i5+1),b6++([IntKind.wrap .u8 (Int.fdiv n1 (2 ^ (min (Int.toNat (IntKind.wrap .u64 (IntKind.wrap .i64 (8 * i5)))) (IntKind.bits .u64))))]:List Int)))
 else none
 else
 (some b6).map .inr
def F69 (n1:Int) (b2:List Int):Option (List Int):=
 Zao (Z92 n1) (0,b2)
def Z93 (x10:Int) (y13:Int):Y31->Option (Y18⊕Y42):=fun (x14,s15,b16)=>
 bif x14 then
 (some ((ByteArray.mk #[]),false,s15)).map .inr
 else
 (F50 y13 s15).bind fun r17=>
 (F69 (IntKind.wrap .u64 r17.1) b16).bind fun r18=>
 some (.inl (IntKind.wrap .i64 (x10+1),r17.2,r18))
def Z94 (n3:List Int):Y18->Option (Y18⊕Y42):=fun (x10,s11,b12)=>
 bif decide (x10 < (n3.length:Int)) then
 (gI n3 x10).bind fun y13=>
 (bif decide (y13 < 0) then
 some (.inl (true,s11,b12))
 else
 some (.inl (decide (y13>=(s11.length:Int)),s11,b12))).bind (Sum.elim (Z93 x10 y13) some)
 else
 (some (ofB b12,true,s11)).map .inr
def F49 (n1:Int) (n2:Int) (n3:List Int) (s4:List Int):Option Y42:=
 (F69 (IntKind.wrap .u64 n1) []).bind fun r5=>
 (F69 (IntKind.wrap .u64 n2) r5).bind fun r6=>
 Zao (Z94 n3) (0,s4,r6)
def Z8L:(Bool×List Int×Int×Int)->Option Y33:=fun (x15,s16,p17,p18)=>
 bif x15 then
 (F48 p17 p18 s16).bind fun r19=>
 some (.inl r19.2)
 else
 some (.inl s16)
def Z8M (x11:Int):(List Int)->Option Y8:=fun s13=>
 some (.inl (IntKind.wrap .i64 (x11+1),s13))
def Z95 (x29:Int):(Bool×List Int×List (ByteArray×Int))->Option (Y36⊕Y34):=fun (on32,s33,l34)=>
 some (.inl (on32,IntKind.wrap .i64 (x29+1),s33,l34))
def Z8N (l1:TN):Y36->Option (Y36⊕Y34):=fun (on28,x29,s30,l31)=>
 bif decide (x29 < (l1.length:Int)) then
 ((gI l1 x29).bind fun y35=>
 (F49 y35.1 y35.2.1 y35.2.2 s30).bind fun r36=>
 bif !r36.2.1 then
 some (.inl (on28,r36.2.2,l31))
 else
 bif !(Option.isSome (Zc3 (ZaS .str) l31 r36.1)) then
 some (.inl (on28,r36.2.2,ZfQ (ZaS .str) l31 r36.1 x29))
 else
 (F48 x29 (Option.getD (Zc3 (ZaS .str) l31 r36.1) 0) r36.2.2).bind fun r37=>
 bif r37.1 then
 some (.inl (true,r37.2,l31))
 else
 some (.inl (on28,r37.2,l31))).bind (Sum.elim (Z95 x29) some)
 else
 (some (.inl (on28,s30))).map .inr
def Z96 (l1:TN):Y18->Option (Y18⊕(List Int)):=fun (x41,s42,out43)=>
 bif decide (x41 < (List.length (List.replicate (Int.toNat (l1.length:Int)) 0:List Int):Int)) then
 (F50 x41 s42).bind fun r44=>
 (gI out43 x41).bind fun y45=>
 (gI out43 x41).bind fun y46=>
 some (.inl (IntKind.wrap .i64 (x41+1),r44.2,Zaq out43 x41 r44.1))
 else
 (some out43).map .inr
def Z97 (l1:TN):Y9->Option Y34:=fun (on22,s23)=>
 bif on22 then
 Zao (Z8N l1) (false,0,s23,([]:List (ByteArray×Int)))
 else
 (bif decide ((0:Int)<=(l1.length:Int)/\((l1.length:Int):Int)=(l1.length:Int)/\((l1.length:Int):Int)<=1000000) then
 Zao (Z96 l1) (0,s23,(List.replicate (Int.toNat (l1.length:Int)) 0:List Int))
 else none).map .inr
def Z98 (l1:TN) (pairs2:TP):Y2->Option Y8:=fun (x11,s12)=>
 bif decide (x11 < (pairs2.length:Int)) then
 ((gI pairs2 x11).bind fun y14=>
 (bif decide ((if y14.2 < y14.1 then y14.2 else y14.1)>=0) then
 some (.inl (decide ((if y14.2 > y14.1 then y14.2 else y14.1) < (l1.length:Int)),s12,y14.1,y14.2))
 else
 some (.inl (false,s12,y14.1,y14.2))).bind (Sum.elim Z8L some)).bind (Sum.elim (Z8M x11) some)
 else
 (Zao (Z97 l1) (true,s12)).map .inr
def Z99 (l1:TN) (pairs2:TP):Y2->Option Y8:=fun (x5,s6)=>
 bif decide (x5 < (List.length (List.replicate (Int.toNat (l1.length:Int)) 0:List Int):Int)) then
 (gI s6 x5).bind fun y7=>
 (gI s6 x5).bind fun y8=>
 some (.inl (IntKind.wrap .i64 (x5+1),Zaq s6 x5 x5))
 else
 (Zao (Z98 l1 pairs2) (0,s6)).map .inr
def F32 (l1:TN) (pairs2:TP):Option (List Int):=
 bif decide ((0:Int)<=(l1.length:Int)/\((l1.length:Int):Int)=(l1.length:Int)/\((l1.length:Int):Int)<=1000000) then
 Zao (Z99 l1 pairs2) (0,(List.replicate (Int.toNat (l1.length:Int)) 0:List Int))
 else none
def F34 (i1:Int) (l2:TN) (l3:TS) (l4:TI) (l5:Int) (l6:Int) (l7:Int) (l8:Int) (l9:List Int) (l10:List Int) (l11:List (List Int)):Option Y38:=
 (gI l9 i1).bind fun y12=>
 some (y12,l2,l3,l4,l5,l6,l7,l8,l9,l10,l11)
def Z7z (n1:Int×Int×List Int):Y35->Option (Y35⊕Y20):=fun (x26,b27,l28,l29,l30,l31,l32,l33,l34,l35,l36,l37)=>
 bif decide (x26 < (n1.2.2.length:Int)) then
 (gI n1.2.2 x26).bind fun y38=>
 bif decide (b27.length+List.length ([32]:List Int)<=1000000) then
 (F34 y38 l28 l29 l30 l31 l32 l33 l34 l35 l36 l37).bind fun r39=>
 (F51 r39.1 10 (b27++([32]:List Int))).bind fun r40=>
 some (.inl (IntKind.wrap .i64 (x26+1),r40,r39.2.1,r39.2.2.1,r39.2.2.2.1,r39.2.2.2.2.1,r39.2.2.2.2.2.1,r39.2.2.2.2.2.2.1,r39.2.2.2.2.2.2.2.1,r39.2.2.2.2.2.2.2.2.1,r39.2.2.2.2.2.2.2.2.2.1,r39.2.2.2.2.2.2.2.2.2.2))
 else none
 else
 (some (ofB b27,l28,l29,l30,l31,l32,l33,l34,l35,l36,l37)).map .inr
def Z7k (n1:Int×Int×List Int) (l2:TN) (l3:TS) (l4:TI) (l5:Int) (l6:Int) (l7:Int) (l8:Int) (l9:List Int) (l10:List Int) (l11:List (List Int)):Option Y20:=
 (F51 n1.1 10 []).bind fun r12=>
 bif decide (r12.length+List.length ([32]:List Int)<=1000000) then
 (F51 n1.2.1 10 (r12++([32]:List Int))).bind fun r13=>
 Zao (Z7z n1) (0,r13,l2,l3,l4,l5,l6,l7,l8,l9,l10,l11)
 else none
def Z9A (x33:Int) (y56:Int×Int×List Int) (y57:Int):Y16->Option (Y16⊕(Y10⊕Y45)):=fun (l58,l59,l60,l61,l62,l63,l64,l65,l66,l67,l68)=>
 (Z7k y56 l59 l60 l61 l62 l63 l64 l65 l66 l67 l68).bind fun r69=>
 bif !(Option.getD (Zc3 (ZaS .str) l58 r69.1) false) then
 (gI r69.2.2.2.2.2.2.2.2.2.2 y57).bind fun y70=>
 (gI r69.2.2.2.2.2.2.2.2.2.2 y57).bind fun y71=>
 bif decide (y71.length+List.length ([x33]:List Int)<=1000000) then
 (gI r69.2.2.2.2.2.2.2.2.2.2 y57).bind fun y72=>
 (gI r69.2.2.2.2.2.2.2.2.2.2 y57).bind fun y73=>
 bif decide (y57=y57) then
 some (.inl (ZfQ (ZaS .str) l58 r69.1 true,r69.2.1,r69.2.2.1,r69.2.2.2.1,r69.2.2.2.2.1,r69.2.2.2.2.2.1,r69.2.2.2.2.2.2.1,r69.2.2.2.2.2.2.2.1,r69.2.2.2.2.2.2.2.2.1,r69.2.2.2.2.2.2.2.2.2.1,Zaq r69.2.2.2.2.2.2.2.2.2.2 y57 (y71++([x33]:List Int))))
 else none
 else none
 else
 some (.inl (l58,r69.2.1,r69.2.2.1,r69.2.2.2.1,r69.2.2.2.2.1,r69.2.2.2.2.2.1,r69.2.2.2.2.2.2.1,r69.2.2.2.2.2.2.2.1,r69.2.2.2.2.2.2.2.2.1,r69.2.2.2.2.2.2.2.2.2.1,r69.2.2.2.2.2.2.2.2.2.2))
def Z9B (x33:Int):Y16->Option (Y10⊕Y45):=fun (l45,l46,l47,l48,l49,l50,l51,l52,l53,l54,l55)=>
 some (.inl (IntKind.wrap .i64 (x33+1),l45,l46,l47,l48,l49,l50,l51,l52,l53,l54,l55))
def Z8O (s1:TT):Y10->Option (Y10⊕Y45):=fun (x33,l34,l35,l36,l37,l38,l39,l40,l41,l42,l43,l44)=>
 bif decide (x33 < (s1.1.length:Int)) then
 ((gI s1.1 x33).bind fun y56=>
 (gI l42 x33).bind fun y57=>
 (bif y57==x33 then
 bif decide (l43.length+List.length ([x33]:List Int)<=1000000) then
 some (.inl (l34,l35,l36,l37,l38,l39,l40,l41,l42,l43++([x33]:List Int),l44))
 else none
 else
 some (.inl (l34,l35,l36,l37,l38,l39,l40,l41,l42,l43,l44))).bind (Sum.elim (Z9A x33 y56 y57) some)).bind (Sum.elim (Z9B x33) some)
 else
 (some ((some ((l35,l36,l37,l38,l39,l40,l41),l42,l43,l44)),true)).map .inr
def Z9C (s1:TT):(Int×TP)->Option ((Int×TP)⊕Y45):=fun (x6,pairs7)=>
 bif decide (x6 < (s1.2.1.length:Int)) then
 (gI s1.2.1 x6).bind fun y8=>
 bif decide (pairs7.length+List.length ([(y8.1,y8.2.1)]:TP)<=1000000) then
 some (.inl (IntKind.wrap .i64 (x6+1),pairs7++([(y8.1,y8.2.1)]:TP)))
 else none
 else
 (bif decide ((0:Int)<=(s1.1.length:Int)/\((s1.1.length:Int):Int)=(s1.1.length:Int)/\((s1.1.length:Int):Int)<=1000000) then
 (F32 s1.1 pairs7).bind fun r9=>
 Zao (Z8O s1) (0,([]:List (ByteArray×Bool)),s1.1,s1.2.1,s1.2.2.1,s1.2.2.2.1,s1.2.2.2.2.1,s1.2.2.2.2.2.1,s1.2.2.2.2.2.2,r9,[],(List.replicate (Int.toNat (s1.1.length:Int)) []:List (List Int)))
 else none).map .inr
def F16 (s1:TT):Option Y45:=
 (F31 s1).bind fun r2=>
 bif !r2 then
 some (none,false)
 else
 Zao (Z9C s1) (0,[])
def Zx1 (t1:Option Y0) (class2:Int):Bool->Option (List Int):=fun x3=>
 bif x3 then
 some []
 else
 (t1).bind fun p5=>
 (gI p5.2.2.2 class2).bind fun y6=>
 some y6
def F38 (t1:Option Y0) (class2:Int):Option (List Int):=
 (bif decide (class2 < 0) then
 some (.inl true)
 else
 (t1).bind fun p4=>
 some (.inl (decide (class2>=(p4.2.2.2.length:Int))))).bind (Sum.elim (Zx1 t1 class2) some)
def F53 (t1:Option Y0) (ch2:List Int) (class3:Int):Option Int:=
 (gI ch2 class3).bind fun y4=>
 bif decide (y4>=0) then
 (gI ch2 class3).bind fun y5=>
 some y5
 else
 (F38 t1 class3).bind fun r6=>
 bif (r6.length:Int)==1 then
 (gI r6 0).bind fun y7=>
 some y7
 else
 some (-1)
def ZuN (x14:Int):(TP×List (Int×Bool))->Option (Y53⊕Y46):=fun (l17,l18)=>
 some (.inl (IntKind.wrap .i64 (x14+1),l17,l18))
def Z9D (t1:Option Y0) (x6:Int) (y10:Int×Int×List Int):Y53->Option (Y53⊕Y46):=fun (x14,l15,l16)=>
 bif decide (x14 < (y10.2.2.length:Int)) then
 ((gI y10.2.2 x14).bind fun y19=>
 (t1).bind fun p20=>
 (gI p20.2.1 y19).bind fun y21=>
 bif !(Option.getD (Zc3 (ZaS (.int .i64)) l16 y21) false) then
 some (.inl (ZfQ (ZaS (.int .i64)) l15 y21 (IntKind.wrap .i64 ((Option.getD (Zc3 (ZaS (.int .i64)) l15 y21) 0)+1)),ZfQ (ZaS (.int .i64)) l16 y21 true))
 else
 some (.inl (l15,l16))).bind (Sum.elim (ZuN x14) some)
 else
 (some (.inl (IntKind.wrap .i64 (x6+1),l15))).map .inr
def Z9E (x30:Int):(TP×List Int)->Option (Y58⊕(List Int)):=fun (l33,out34)=>
 some (.inl (IntKind.wrap .i64 (x30+1),l33,out34))
def Z9F (t1:Option Y0) (r3:List Int) (y24:Int×Int×List Int):Y58->Option (Y58⊕(List Int)):=fun (x30,l31,out32)=>
 bif decide (x30 < (y24.2.2.length:Int)) then
 ((gI y24.2.2 x30).bind fun y35=>
 (t1).bind fun p36=>
 (gI p36.2.1 y35).bind fun y37=>
 bif (Option.getD (Zc3 (ZaS (.int .i64)) l31 y37) 0)==(r3.length:Int) then
 bif decide (out32.length+List.length ([y37]:List Int)<=1000000) then
 some (.inl (ZfQ (ZaS (.int .i64)) l31 y37 0,out32++([y37]:List Int)))
 else none
 else
 some (.inl (l31,out32))).bind (Sum.elim (Z9E x30) some)
 else
 (some out32).map .inr
def Z9G (t1:Option Y0) (r3:List Int):(Int×TP)->Option Y46:=fun (x6,l7)=>
 bif decide (x6 < (r3.length:Int)) then
 (gI r3 x6).bind fun y8=>
 (t1).bind fun p9=>
 (gI p9.1.1 y8).bind fun y10=>
 Zao (Z9D t1 x6 y10) (0,l7,([]:List (Int×Bool)))
 else
 ((t1).bind fun p22=>
 (gI r3 0).bind fun y23=>
 (gI p22.1.1 y23).bind fun y24=>
 Zao (Z9F t1 r3 y24) (0,l7,[])).map .inr
def F54 (t1:Option Y0) (class2:Int):Option (List Int):=
 (F38 t1 class2).bind fun r3=>
 Zao (Z9G t1 r3) (0,([]:TP))
def Z9H:Bool->Option Int:=fun x6=>
 bif x6 then
 some 20
 else
 some 0
def Z9I (n1:Int×Int×List Int):Bool->Option Int:=fun x5=>
 bif x5 then
 some 4
 else
 bif n1.1==31 then
 some 6
 else
 bif n1.1==30 then
 some 12
 else
 (bif n1.1==7 then
 some (.inl true)
 else
 some (.inl (n1.1==8))).bind (Sum.elim Z9H some)
def Z9J (n1:Int×Int×List Int):Bool->Option Int:=fun x4=>
 bif x4 then
 some 3
 else
 (bif n1.1==6 then
 some (.inl true)
 else
 bif n1.1==23 then
 some (.inl true)
 else
 some (.inl (n1.1==28))).bind (Sum.elim (Z9I n1) some)
def ZrO (n1:Int×Int×List Int):Bool->Option Int:=fun x3=>
 bif x3 then
 some 2
 else
 (bif n1.1==22 then
 some (.inl true)
 else
 some (.inl (n1.1==27))).bind (Sum.elim (Z9J n1) some)
def ZuW (n1:Int×Int×List Int):Bool->Option Int:=fun x2=>
 bif x2 then
 some 1
 else
 (bif n1.1==20 then
 some (.inl true)
 else
 bif n1.1==21 then
 some (.inl true)
 else
 bif n1.1==4 then
 some (.inl true)
 else
 bif n1.1==5 then
 some (.inl true)
 else
 bif n1.1==9 then
 some (.inl true)
 else
 bif n1.1==10 then
 some (.inl true)
 else
 bif n1.1==11 then
 some (.inl true)
 else
 bif n1.1==12 then
 some (.inl true)
 else
 bif n1.1==13 then
 some (.inl true)
 else
 bif n1.1==14 then
 some (.inl true)
 else
 bif n1.1==15 then
 some (.inl true)
 else
 bif n1.1==16 then
 some (.inl true)
 else
 bif n1.1==17 then
 some (.inl true)
 else
 bif n1.1==18 then
 some (.inl true)
 else
 bif n1.1==19 then
 some (.inl true)
 else
 some (.inl (n1.1==29))).bind (Sum.elim (ZrO n1) some)
def F55 (n1:Int×Int×List Int):Option Int:=
 (bif n1.1==1 then
 some (.inl true)
 else
 bif n1.1==2 then
 some (.inl true)
 else
 some (.inl (n1.1==24))).bind (Sum.elim (ZuW n1) some)
def Zxk (rec71:Int->(Option Y0)->(List Int)->(List Bool)->Bool->(List Int)->Option Y6) (c1:Int) (y22:Int×Int×List Int):Y49->Option (Y49⊕Y6):=fun (x29,l30,l31,l32,l33,l34)=>
 bif decide (x29 < (y22.2.2.length:Int)) then
 (gI y22.2.2 x29).bind fun y35=>
 (l30).bind fun p36=>
 (gI p36.2.1 y35).bind fun y37=>
 (rec71 y37 l30 l31 l32 l33 l34).bind fun r38=>
 some (.inl (IntKind.wrap .i64 (x29+1),r38.1,r38.2.1,r38.2.2.1,r38.2.2.2.1,r38.2.2.2.2))
 else
 ((gI l34 c1).bind fun y39=>
 (gI l34 c1).bind fun y40=>
 some (l30,l31,l32,l33,Zaq l34 c1 2)).map .inr
def Zxe (rec71:Int->(Option Y0)->(List Int)->(List Bool)->Bool->(List Int)->Option Y6) (c1:Int) (r7:Int):(Bool×(Option Y0)×List Int×List Bool×Bool×List Int)->Option Y6:=fun (x8,l9,l10,l11,l12,l13)=>
 bif x8 then
 some (l9,l10,l11,l12,l13)
 else
 (gI l13 c1).bind fun y17=>
 (gI l13 c1).bind fun y18=>
 bif y18==1 then
 some (l9,l10,l11,true,l13)
 else
 (gI l13 c1).bind fun y19=>
 (gI l13 c1).bind fun y20=>
 (l9).bind fun p21=>
 (gI p21.1.1 r7).bind fun y22=>
 Zao (Zxk rec71 c1 y22) (0,l9,l10,l11,l12,Zaq l13 c1 1)
def G71 (rec71:Int->(Option Y0)->(List Int)->(List Bool)->Bool->(List Int)->Option Y6) (c1:Int) (l2:Option Y0) (l3:List Int) (l4:List Bool) (l5:Bool) (l6:List Int):Option Y6:=
 (F53 l2 l3 c1).bind fun r7=>
 (bif decide (r7 < 0) then
 some (.inl (true,l2,l3,l4,l5,l6))
 else
 (gI l4 c1).bind fun y14=>
 bif !y14 then
 some (.inl (true,l2,l3,l4,l5,l6))
 else
 bif l5 then
 some (.inl (true,l2,l3,l4,l5,l6))
 else
 (gI l6 c1).bind fun y15=>
 (gI l6 c1).bind fun y16=>
 some (.inl (y16==2,l2,l3,l4,l5,l6))).bind (Sum.elim (Zxe rec71 c1 r7) some)
def N71 (n:Nat):Int->(Option Y0)->(List Int)->(List Bool)->Bool->(List Int)->Option Y6:=Nat.rec (motive:=fun _=>Int->(Option Y0)->(List Int)->(List Bool)->Bool->(List Int)->Option Y6) (fun _ _ _ _ _ _=>none) (fun _ ih=>G71 ih) n
def F71 (c1:Int) (l2:Option Y0) (l3:List Int) (l4:List Bool) (l5:Bool) (l6:List Int):Option Y6:=N71 1000 c1 l2 l3 l4 l5 l6
def Zyz (p4:TT×List Int×List Int×List (List Int)):Y50->Option (Y50⊕Bool):=fun (x11,found12,l13,l14,l15,l16)=>
 bif decide (x11 < (p4.2.2.1.length:Int)) then
 (gI p4.2.2.1 x11).bind fun y17=>
 (F71 y17 l13 l14 l15 found12 l16).bind fun r18=>
 some (.inl (IntKind.wrap .i64 (x11+1),r18.2.2.2.1,r18.1,r18.2.1,r18.2.2.1,r18.2.2.2.2))
 else
 (some found12).map .inr
def F56 (t1:Option Y0) (ch2:List Int) (need3:List Bool):Option Bool:=
 bif decide ((0:Int)<=(ch2.length:Int)/\((ch2.length:Int):Int)=(ch2.length:Int)/\((ch2.length:Int):Int)<=1000000) then
 (t1).bind fun p4=>
 Zao (Zyz p4) (0,false,t1,ch2,need3,(List.replicate (Int.toNat (ch2.length:Int)) 0:List Int))
 else none
def F52 (c1:Int) (l2:List Bool) (l3:List Int):Option (List Bool×List Int):=
 (gI l2 c1).bind fun y4=>
 (gI l2 c1).bind fun y5=>
 bif !y5 then
 (gI l2 c1).bind fun y6=>
 (gI l2 c1).bind fun y7=>
 bif decide (l3.length+List.length ([c1]:List Int)<=1000000) then
 some (Zaq l2 c1 true,l3++([c1]:List Int))
 else none
 else
 some (l2,l3)
def Z9K (t1:Option Y0) (y23:Int×Int×List Int):Y29->Option (Y29⊕(Y32⊕Y24)):=fun (x29,l30,l31,l32,l33)=>
 bif decide (x29 < (y23.2.2.length:Int)) then
 (gI y23.2.2 x29).bind fun y34=>
 (t1).bind fun p35=>
 (gI p35.2.1 y34).bind fun y36=>
 (F52 y36 l32 l33).bind fun r37=>
 some (.inl (IntKind.wrap .i64 (x29+1),l30,l31,r37.1,r37.2))
 else
 (some (.inl (l30,l31,l32,l33))).map .inr
def Z9L (r38:List Int):Y29->Option (Y29⊕(Y32⊕Y24)):=fun (x44,l45,l46,l47,l48)=>
 bif decide (x44 < (r38.length:Int)) then
 (gI r38 x44).bind fun y49=>
 (F52 y49 l47 l48).bind fun r50=>
 some (.inl (IntKind.wrap .i64 (x44+1),l45,l46,r50.1,r50.2))
 else
 (some (.inl (l45,l46,l47,l48))).map .inr
def Z9M (least98:Int) (r118:Int):(Bool×Int×Bool×Int×Bool×List Bool×List Int×List Int)->Option (Y13⊕Y5):=fun (x119,l120,l121,s122,s123,l124,l125,l126)=>
 bif x119 then
 some (.inl (r118,l120,l121,s122,s123,l124,l125,l126))
 else
 some (.inl (least98,l120,l121,s122,s123,l124,l125,l126))
def Z9N (x99:Int):Y13->Option Y5:=fun (least107,l108,l109,s110,s111,l112,l113,l114)=>
 some (.inl (least107,IntKind.wrap .i64 (x99+1),l108,l109,s110,s111,l112,l113,l114))
def Z9O (t1:Option Y0) (r88:List Int):(Int×Int×Int×Bool×Int×Bool×List Bool×List Int×List Int)->Option Y5:=fun (least98,x99,l100,l101,s102,s103,l104,l105,l106)=>
 bif decide (x99 < (r88.length:Int)) then
 ((gI r88 x99).bind fun y115=>
 (t1).bind fun p116=>
 (gI p116.1.1 y115).bind fun y117=>
 (F55 y117).bind fun r118=>
 (bif decide (least98 < 0) then
 some (.inl (true,l100,l101,s102,s103,l104,l105,l106))
 else
 some (.inl (decide (r118 < least98),l100,l101,s102,s103,l104,l105,l106))).bind (Sum.elim (Z9M least98 r118) some)).bind (Sum.elim (Z9N x99) some)
 else
 (some (.inl (l100,l101,IntKind.wrap .i64 (s102+least98),s103,l104,l105,l106))).map .inr
def Z8P (x66:Int):(Int×Bool×Int×Bool×List Bool×List Int×List Int)->Option (Y13⊕Y24):=fun (l74,l75,s76,s77,l78,l79,l80)=>
 some (.inl (IntKind.wrap .i64 (x66+1),l74,l75,s76,s77,l78,l79,l80))
def Z7P (t1:Option Y0) (ch2:List Int) (p51:TT×List Int×List Int×List (List Int)):Y13->Option (Y13⊕Y24):=fun (x66,l67,l68,s69,s70,l71,l72,l73)=>
 bif decide (x66 < (p51.2.2.1.length:Int)) then
 ((gI p51.2.2.1 x66).bind fun y81=>
 (gI l71 y81).bind fun y82=>
 (gI l71 y81).bind fun y83=>
 bif !y83 then
 some (.inl (l67,l68,s69,s70,l71,l72,l73))
 else
 bif decide (l72.length+List.length ([y81]:List Int)<=1000000) then
 (F53 t1 ch2 y81).bind fun r84=>
 bif decide (r84>=0) then
 (t1).bind fun p85=>
 (gI p85.1.1 r84).bind fun y86=>
 (F55 y86).bind fun r87=>
 some (.inl (l67,l68,IntKind.wrap .i64 (s69+r87),s70,l71,l72++([y81]:List Int),l73))
 else
 bif decide (l73.length+List.length ([y81]:List Int)<=1000000) then
 (F38 t1 y81).bind fun r88=>
 Zao (Z9O t1 r88) ((-1),0,l67,l68,s69,s70,l71,l72++([y81]:List Int),l73++([y81]:List Int))
 else none
 else none).bind (Sum.elim (Z8P x66) some)
 else
 ((F56 t1 ch2 l71).bind fun r127=>
 some (l72,l73,s69,!r127)).map .inr
def Z8Q (t1:Option Y0) (ch2:List Int):Y32->Option (Y32⊕Y24):=fun (l15,l16,l17,l18)=>
 bif decide ((l18.length:Int) > 0) then
 (gI l18 (IntKind.wrap .i64 ((l18.length:Int) - 1))).bind fun y19=>
 (gI l18 (IntKind.wrap .i64 ((l18.length:Int) - 1))).bind fun y20=>
 bif decide ((0:Int)<=0/\(0:Int)<=IntKind.wrap .i64 ((l18.length:Int) - 1)/\IntKind.wrap .i64 ((l18.length:Int) - 1)<=(l18.length:Int)) then
 (F53 t1 ch2 y20).bind fun r21=>
 bif decide (r21>=0) then
 (t1).bind fun p22=>
 (gI p22.1.1 r21).bind fun y23=>
 Zao (Z9K t1 y23) (0,l15,l16,l17,slI l18 0 (IntKind.wrap .i64 ((l18.length:Int) - 1)))
 else
 (F54 t1 y20).bind fun r38=>
 Zao (Z9L r38) (0,l15,l16,l17,slI l18 0 (IntKind.wrap .i64 ((l18.length:Int) - 1)))
 else none
 else
 ((t1).bind fun p51=>
 Zao (Z7P t1 ch2 p51) (0,l15,l16,0,false,l17,[],[])).map .inr
def F35 (t1:Option Y0) (ch2:List Int):Option Y24:=
 bif decide ((0:Int)<=(ch2.length:Int)/\((ch2.length:Int):Int)=(ch2.length:Int)/\((ch2.length:Int):Int)<=1000000) then
 (t1).bind fun p3=>
 (t1).bind fun p4=>
 (gI p3.2.1 p4.1.2.2.2.1).bind fun y5=>
 (F52 y5 (List.replicate (Int.toNat (ch2.length:Int)) false:List Bool) []).bind fun r6=>
 (t1).bind fun p7=>
 (t1).bind fun p8=>
 (gI p7.2.1 p8.1.2.2.2.2.1).bind fun y9=>
 (F52 y9 r6.1 r6.2).bind fun r10=>
 Zao (Z8Q t1 ch2) (0,false,r10.1,r10.2)
 else none
def Z9P (x6:Int):(List Int)->Option Y8:=fun out8=>
 some (.inl (IntKind.wrap .i64 (x6+1),out8))
def Z9Q (t1:Option Y0) (ch2:List Int) (s3:List Int×List Int×Int×Bool):Y2->Option Y8:=fun (x6,out7)=>
 bif decide (x6 < (s3.1.length:Int)) then
 ((gI s3.1 x6).bind fun y9=>
 (F53 t1 ch2 y9).bind fun r10=>
 bif decide (r10>=0) then
 (gI out7 y9).bind fun y11=>
 (gI out7 y9).bind fun y12=>
 some (.inl (Zaq out7 y9 r10))
 else
 some (.inl out7)).bind (Sum.elim (Z9P x6) some)
 else
 (some out7).map .inr
def F36 (t1:Option Y0) (ch2:List Int) (s3:List Int×List Int×Int×Bool):Option (List Int):=
 bif decide (List.length ([]:List Int)+ch2.length<=1000000) then
 Zao (Z9Q t1 ch2 s3) (0,([]:List Int)++ch2)
 else none
def Zxq:Bool->Option Y44:=fun x7=>
 bif x7 then
 ((some false).map .inr).map .inr
 else
 some (.inl ())
def Zxs (x5:Int):Unit->Option (Int⊕Bool):=fun _=>
 some (.inl (IntKind.wrap .i64 (x5+1)))
def Zxr (t1:Option Y0) (ch2:List Int):Int->Option (Int⊕Bool):=fun x5=>
 bif decide (x5 < (ch2.length:Int)) then
 ((gI ch2 x5).bind fun y6=>
 bif y6==(-1) then
 some (.inl ())
 else
 ((t1).bind fun p8=>
 (gI p8.2.1 x5).bind fun y9=>
 bif y9 != x5 then
 some (.inl true)
 else
 bif decide (y6 < 0) then
 some (.inl true)
 else
 (t1).bind fun p10=>
 bif decide (y6>=(p10.2.1.length:Int)) then
 some (.inl true)
 else
 (t1).bind fun p11=>
 (gI p11.2.1 y6).bind fun y12=>
 some (.inl (y12 != x5))).bind (Sum.elim Zxq some)).bind (Sum.elim (Zxs x5) some)
 else
 (some true).map .inr
def F72 (t1:Option Y0) (ch2:List Int):Option Bool:=
 (t1).bind fun p3=>
 bif (ch2.length:Int) != (p3.2.1.length:Int) then
 some false
 else
 Zao (Zxr t1 ch2) 0
def Zxz (rec73:Int->Bool->(List Int)->(Option Y0)->(List Int)->(List Int)->Option Y4) (class1:Int) (y28:Int×Int×List Int):Y52->Option (Y52⊕Y4):=fun (x35,l36,l37,l38,l39,l40)=>
 bif decide (x35 < (y28.2.2.length:Int)) then
 (gI y28.2.2 x35).bind fun y41=>
 (l38).bind fun p42=>
 (gI p42.2.1 y41).bind fun y43=>
 (rec73 y43 l36 l37 l38 l39 l40).bind fun r44=>
 some (.inl (IntKind.wrap .i64 (x35+1),r44.1,r44.2.1,r44.2.2.1,r44.2.2.2.1,r44.2.2.2.2))
 else
 ((gI l39 class1).bind fun y45=>
 (gI l39 class1).bind fun y46=>
 bif decide (l40.length+List.length ([class1]:List Int)<=1000000) then
 some (l36,l37,l38,Zaq l39 class1 2,l40++([class1]:List Int))
 else none).map .inr
def ZuD (rec73:Int->Bool->(List Int)->(Option Y0)->(List Int)->(List Int)->Option Y4) (class1:Int):Y51->Option Y4:=fun (x15,l16,l17,l18,l19,l20)=>
 bif x15 then
 some (false,l17,l18,l19,l20)
 else
 (gI l19 class1).bind fun y24=>
 (gI l19 class1).bind fun y25=>
 (l18).bind fun p26=>
 (gI l17 class1).bind fun y27=>
 (gI p26.1.1 y27).bind fun y28=>
 Zao (Zxz rec73 class1 y28) (0,l16,l17,l18,Zaq l19 class1 1,l20)
def ZuE (rec73:Int->Bool->(List Int)->(Option Y0)->(List Int)->(List Int)->Option Y4) (class1:Int):Y51->Option Y4:=fun (x7,l8,l9,l10,l11,l12)=>
 bif x7 then
 some (l8,l9,l10,l11,l12)
 else
 ((gI l11 class1).bind fun y21=>
 (gI l11 class1).bind fun y22=>
 bif y22==1 then
 some (.inl (true,l8,l9,l10,l11,l12))
 else
 (gI l9 class1).bind fun y23=>
 some (.inl (decide (y23 < 0),l8,l9,l10,l11,l12))).bind (Sum.elim (ZuD rec73 class1) some)
def G73 (rec73:Int->Bool->(List Int)->(Option Y0)->(List Int)->(List Int)->Option Y4) (class1:Int) (l2:Bool) (l3:List Int) (l4:Option Y0) (l5:List Int) (l6:List Int):Option Y4:=
 ((gI l5 class1).bind fun y13=>
 (gI l5 class1).bind fun y14=>
 bif y14==2 then
 some (.inl (true,l2,l3,l4,l5,l6))
 else
 some (.inl (!l2,l2,l3,l4,l5,l6))).bind (Sum.elim (ZuE rec73 class1) some)
def N73 (n:Nat):Int->Bool->(List Int)->(Option Y0)->(List Int)->(List Int)->Option Y4:=Nat.rec (motive:=fun _=>Int->Bool->(List Int)->(Option Y0)->(List Int)->(List Int)->Option Y4) (fun _ _ _ _ _ _=>none) (fun _ ih=>G73 ih) n
def F73 (class1:Int) (l2:Bool) (l3:List Int) (l4:Option Y0) (l5:List Int) (l6:List Int):Option Y4:=N73 1000 class1 l2 l3 l4 l5 l6
def F57 (t1:Option Y0) (ch2:List Int):Option Y57:=
 (F72 t1 ch2).bind fun r3=>
 bif !r3 then
 some ([],false)
 else
 bif decide ((0:Int)<=(ch2.length:Int)/\((ch2.length:Int):Int)=(ch2.length:Int)/\((ch2.length:Int):Int)<=1000000) then
 (t1).bind fun p4=>
 (t1).bind fun p5=>
 (gI p4.2.1 p5.1.2.2.2.1).bind fun y6=>
 (F73 y6 true ch2 t1 (List.replicate (Int.toNat (ch2.length:Int)) 0:List Int) []).bind fun r7=>
 (r7.2.2.1).bind fun p8=>
 (r7.2.2.1).bind fun p9=>
 (gI p8.2.1 p9.1.2.2.2.2.1).bind fun y10=>
 (F73 y10 r7.1 r7.2.1 r7.2.2.1 r7.2.2.2.1 r7.2.2.2.2).bind fun r11=>
 some (r11.2.2.2.2,r11.1)
 else none
def Z9R (y6:Int×Int×List Int) (y16:Int):Y9->Option (Y2⊕(Y2⊕Y8)):=fun (x19,out20)=>
 bif x19 then
 bif decide ((IntKind.wrap .u64 y6.2.1) < 0) then none else
 some (.inl (ZeM .u32 (BitVec.ofInt (IntKind.bits .u32) y16 &&& ~~~ (BitVec.ofInt (IntKind.bits .u32) (IntKind.wrap .u32 (1 * 2 ^ (min (Int.toNat (IntKind.wrap .u64 y6.2.1)) (IntKind.bits .u32)))))),out20))
 else
 some (.inl (y16,out20))
def Z9S (x4:Int) (x12:Int):Y2->Option (Y2⊕Y8):=fun (h17,out18)=>
 (gI out18 x4).bind fun y21=>
 (gI out18 x4).bind fun y22=>
 (gI out18 x4).bind fun y23=>
 (gI out18 x4).bind fun y24=>
 some (.inl (IntKind.wrap .i64 (x12+1),Zaq out18 x4 (ZeM .u32 (BitVec.ofInt (IntKind.bits .u32) y22 ||| BitVec.ofInt (IntKind.bits .u32) h17))))
def Z9T (x4:Int) (y6:Int×Int×List Int):Y2->Option (Y2⊕Y8):=fun (x12,out13)=>
 bif decide (x12 < (y6.2.2.length:Int)) then
 (gI y6.2.2 x12).bind fun y14=>
 (gI out13 y14).bind fun y15=>
 (gI out13 y14).bind fun y16=>
 ((bif y6.1==31 then
 some (.inl (decide (x12>=(IntKind.wrap .i64 (Int.tdiv (IntKind.wrap .i64 ((y6.2.2.length:Int) - 1)) 2))),out13))
 else
 some (.inl (false,out13))).bind (Sum.elim (Z9R y6 y16) some)).bind (Sum.elim (Z9S x4 x12) some)
 else
 (some (.inl (IntKind.wrap .i64 (x4+1),out13))).map .inr
def Z8R (x4:Int) (y6:Int×Int×List Int):(List Int)->Option Y8:=fun out7=>
 Zao (Z9T x4 y6) (0,out7)
def Z9U (l1:TN):Y2->Option Y8:=fun (x4,out5)=>
 bif decide (x4 < (l1.length:Int)) then
 (gI l1 x4).bind fun y6=>
 (bif y6.1==3 then
 bif decide ((IntKind.wrap .u64 (IntKind.wrap .i64 (Int.tdiv y6.2.1 16))) < 0) then none else
 (gI out5 x4).bind fun y8=>
 (gI out5 x4).bind fun y9=>
 some (.inl (Zaq out5 x4 (IntKind.wrap .u32 (1 * 2 ^ (min (Int.toNat (IntKind.wrap .u64 (IntKind.wrap .i64 (Int.tdiv y6.2.1 16)))) (IntKind.bits .u32))))))
 else
 some (.inl out5)).bind (Sum.elim (Z8R x4 y6) some)
 else
 (some out5).map .inr
def F74 (l1:TN):Option (List Int):=
 bif decide ((0:Int)<=(l1.length:Int)/\((l1.length:Int):Int)=(l1.length:Int)/\((l1.length:Int):Int)<=1000000) then
 Zao (Z9U l1) (0,(List.replicate (Int.toNat (l1.length:Int)) 0:List Int))
 else none
def Z9V (x8:Int):(List Int)->Option (Y2⊕Bool):=fun vars10=>
 some (.inl (IntKind.wrap .i64 (x8+1),vars10))
def Z9W:Y9->Option ((List Int)⊕(Y2⊕Bool)):=fun (x24,vars25)=>
 bif x24 then
 ((some false).map .inr).map .inr
 else
 some (.inl vars25)
def Z9X (x18:Int):(List Int)->Option (Y2⊕Bool):=fun vars20=>
 some (.inl (IntKind.wrap .i64 (x18+1),vars20))
def Z9Y:Bool->Option Bool:=fun x27=>
 some x27
def Z9Z (g1:ByteArray×Int×TN×Int×Int):Y2->Option (Y2⊕Bool):=fun (x18,vars19)=>
 bif decide (x18 < (g1.2.2.1.length:Int)) then
 ((gI g1.2.2.1 x18).bind fun y21=>
 bif y21.1==3 then
 (gI vars19 (IntKind.wrap .i64 (Int.tdiv y21.2.1 16))).bind fun y22=>
 bif decide ((IntKind.wrap .i64 (Int.tdiv y21.2.1 16)) < (16:Int)) then
 (gI vars19 (IntKind.wrap .i64 (Int.tdiv y21.2.1 16))).bind fun y23=>
 (bif decide (y23 > 0) then
 some (.inl (decide ((Int.tmod y21.2.1 16)>=y23),vars19))
 else
 some (.inl (false,vars19))).bind (Sum.elim Z9W some)
 else none
 else
 some (.inl vars19)).bind (Sum.elim (Z9X x18) some)
 else
 ((F74 g1.2.2.1).bind fun r26=>
 ((gI r26 g1.2.2.2.1).bind fun y28=>
 bif y28==0 then
 (gI r26 g1.2.2.2.2).bind fun y29=>
 some (.inl (y29==0))
 else
 some (.inl false)).bind (Sum.elim Z9Y some)).map .inr
def ZyH (g1:ByteArray×Int×TN×Int×Int):Y2->Option (Y2⊕Bool):=fun (x8,vars9)=>
 bif decide (x8 < (g1.2.2.1.length:Int)) then
 ((gI g1.2.2.1 x8).bind fun y11=>
 bif y11.1==31 then
 (gI vars9 y11.2.1).bind fun y12=>
 bif decide (y11.2.1 < (16:Int)) then
 (gI vars9 y11.2.1).bind fun y13=>
 bif decide (y13 > 0) then
 ((some false).map .inr).map .inr
 else
 (gI vars9 y11.2.1).bind fun y14=>
 bif decide (y11.2.1 < (16:Int)) then
 (gI vars9 y11.2.1).bind fun y15=>
 some (.inl (Zaq vars9 y11.2.1 (IntKind.wrap .i64 (Int.tdiv (IntKind.wrap .i64 ((y11.2.2.length:Int) - 1)) 2))))
 else none
 else none
 else
 some (.inl vars9)).bind (Sum.elim (Z9V x8) some)
 else
 (Zao (Z9Z g1) (0,vars9)).map .inr
def ZAa (g1:ByteArray×Int×TN×Int×Int):Bool->Option Bool:=fun x3=>
 bif x3 then
 some false
 else
 Zao (ZyH g1) (0,(List.replicate 16 0:List Int))
def F58 (g1:ByteArray×Int×TN×Int×Int):Option Bool:=
 (F46 g1.2.2.1).bind fun r2=>
 (bif !r2.2 then
 some (.inl true)
 else
 (F47 r2.1 g1.2.2.2.1).bind fun r4=>
 bif r4 != 1 then
 some (.inl true)
 else
 (F47 r2.1 g1.2.2.2.2).bind fun r5=>
 some (.inl (r5 != 2))).bind (Sum.elim (ZAa g1) some)
def ZAb (t1:Option Y0) (x25:Int) (y46:Int) (y49:Int×Int×List Int):Y37->Option (Y37⊕(Y43⊕(Y14⊕Y11))):=fun (x73,l74,l75,l76,l77,g78,g79,g80,g81,num82,kids83,l84)=>
 bif decide (x73 < (y49.2.2.length:Int)) then
 (gI y49.2.2 x73).bind fun y85=>
 (t1).bind fun p86=>
 (gI p86.2.1 y85).bind fun y87=>
 (gI num82 y87).bind fun y88=>
 (gI num82 y87).bind fun y89=>
 bif decide (kids83.length+List.length ([y89]:List Int)<=1000000) then
 some (.inl (IntKind.wrap .i64 (x73+1),l74,l75,l76,l77,g78,g79,g80,g81,num82,kids83++([y89]:List Int),l84))
 else none
 else
 ((gI num82 y46).bind fun y90=>
 (gI num82 y46).bind fun y91=>
 bif decide (l84.length+List.length ([(y49.1,y49.2.1,kids83)]:TN)<=1000000) then
 bif y49.1==2 then
 some (.inl (l74,l75,l76,l77,g78,if (IntKind.wrap .i64 (y49.2.1+1)) > g79 then IntKind.wrap .i64 (y49.2.1+1) else g79,g80,g81,Zaq num82 y46 x25,l84++([(y49.1,y49.2.1,kids83)]:TN)))
 else
 some (.inl (l74,l75,l76,l77,g78,g79,g80,g81,Zaq num82 y46 x25,l84++([(y49.1,y49.2.1,kids83)]:TN)))
 else none).map .inr
def Z8S (x25:Int):Y43->Option (Y14⊕Y11):=fun (l36,l37,l38,l39,g40,g41,g42,g43,num44,l45)=>
 some (.inl (IntKind.wrap .i64 (x25+1),l36,l37,l38,l39,g40,g41,g42,g43,num44,l45))
def Zxl (t1:Option Y0) (ch2:List Int) (r3:List Int×Bool):Y14->Option (Y14⊕Y11):=fun (x25,l26,l27,l28,l29,g30,g31,g32,g33,num34,l35)=>
 bif decide (x25 < (r3.1.length:Int)) then
 ((gI r3.1 x25).bind fun y46=>
 (t1).bind fun p47=>
 (gI ch2 y46).bind fun y48=>
 (gI p47.1.1 y48).bind fun y49=>
 Zao (ZAb t1 x25 y46 y49) (0,l26,l27,l28,l29,g30,g31,g32,g33,num34,[],l35)).bind (Sum.elim (Z8S x25) some)
 else
 ((t1).bind fun p92=>
 (t1).bind fun p93=>
 (gI p92.2.1 p93.1.2.2.2.1).bind fun y94=>
 (gI num34 y94).bind fun y95=>
 (gI num34 y94).bind fun y96=>
 (t1).bind fun p97=>
 (t1).bind fun p98=>
 (gI p97.2.1 p98.1.2.2.2.2.1).bind fun y99=>
 (gI num34 y99).bind fun y100=>
 (gI num34 y99).bind fun y101=>
 (F58 (g30,g31,l35,y96,y101)).bind fun r102=>
 bif !r102 then
 some ((ByteArray.empty,0,[],0,0),false)
 else
 some ((g30,g31,l35,y96,y101),true)).map .inr
def F37 (t1:Option Y0) (ch2:List Int):Option Y11:=
 (F57 t1 ch2).bind fun r3=>
 bif !r3.2 then
 some ((ByteArray.empty,0,[],0,0),false)
 else
 bif decide ((0:Int)<=(ch2.length:Int)/\((ch2.length:Int):Int)=(ch2.length:Int)/\((ch2.length:Int):Int)<=1000000) then
 Zao (Zxl t1 ch2 r3) (0,ByteArray.empty,0,0,0,ByteArray.empty,0,0,0,(List.replicate (Int.toNat (ch2.length:Int)) 0:List Int),[])
 else none
def ZAc (n1:Int):Y2->Option Y8:=fun (x4,out5)=>
 bif decide (x4 < (List.length (List.replicate (Int.toNat n1) 0:List Int):Int)) then
 (gI out5 x4).bind fun y6=>
 (gI out5 x4).bind fun y7=>
 some (.inl (IntKind.wrap .i64 (x4+1),Zaq out5 x4 (-1)))
 else
 (some out5).map .inr
def F18 (n1:Int):Option (List Int):=
 bif decide ((0:Int)<=n1/\(n1:Int)=n1/\(n1:Int)<=1000000) then
 Zao (ZAc n1) (0,(List.replicate (Int.toNat n1) 0:List Int))
 else none
def ZAd (rec17:(Option Y0)->Int->Int->Bool->(List Int)->Bool->(List Int)->Option Y3) (y30:Int) (r31:List Int):Y30->Option (Y30⊕Y3):=fun (x57,s58,s59,s60,s61,s62,s63,ch64,l65,l66,tree67,tree68,l69)=>
 bif decide (x57 < (r31.length:Int)) then
 (gI r31 x57).bind fun y70=>
 bif decide (List.length ([]:List Int)+ch64.length<=1000000) then
 (gI (([]:List Int)++ch64) y30).bind fun y71=>
 (gI (([]:List Int)++ch64) y30).bind fun y72=>
 (rec17 s58 s59 s60 s61 s62 s63 (Zaq (([]:List Int)++ch64) y30 y70)).bind fun r73=>
 bif decide (l69.length+List.length ([Zbb.mk r73.1 r73.2.1 r73.2.2.2.2.2.2.2.2]:List Zbb)<=1000000) then
 some (.inl (IntKind.wrap .i64 (x57+1),r73.2.2.1,r73.2.2.2.1,r73.2.2.2.2.1,r73.2.2.2.2.2.1,r73.2.2.2.2.2.2.1,r73.2.2.2.2.2.2.2.1,ch64,l65,l66,tree67,tree68,l69++([Zbb.mk r73.1 r73.2.1 r73.2.2.2.2.2.2.2.2]:List Zbb)))
 else none
 else none
 else
 (some (tree67,tree68,s58,s59,s60,s61,s62,s63,l69)).map .inr
def Z8m (rec17:(Option Y0)->Int->Int->Bool->(List Int)->Bool->(List Int)->Option Y3) (r17:List Int×List Int×Int×Bool):(Bool×(Option Y0)×Int×Int×Bool×List Int×Bool×List Int×Int×Int)->Option Y3:=fun (x18,s19,s20,s21,s22,s23,s24,ch25,l26,l27)=>
 bif x18 then
 some (1,0,s19,s20,s21,s22,s23,s24,[])
 else
 bif (r17.2.1.length:Int)==0 then
 (F36 s19 ch25 r17).bind fun r28=>
 (F37 s19 r28).bind fun r29=>
 bif !r29.2 then
 some (2,0,s19,s20,s21,s22,s23,s24,[])
 else
 bif List.isEmpty r28 then none else
 some (1,0,s19,s20,r17.2.2.1,false,r28,s24,[])
 else
 (gI r17.2.1 0).bind fun y30=>
 (F38 s19 y30).bind fun r31=>
 Zao (ZAd rec17 y30 r31) (0,s19,s20,s21,s22,s23,s24,ch25,l26,l27,3,y30,[])
def Z8T (rec17:(Option Y0)->Int->Int->Bool->(List Int)->Bool->(List Int)->Option Y3):((Option Y0)×Int×Int×Bool×List Int×Bool×List Int×Int×Int)->Option Y3:=fun (s8,s9,s10,s11,s12,s13,ch14,l15,l16)=>
 bif s13 then
 some (0,0,s8,s9,s10,s11,s12,s13,[])
 else
 (F35 s8 ch14).bind fun r17=>
 bif !r17.2.2.2 then
 some (2,0,s8,IntKind.wrap .i64 (s9 - 1),s10,s11,s12,s13,[])
 else
 (bif !s11 then
 some (.inl (decide (r17.2.2.1>=s10),s8,IntKind.wrap .i64 (s9 - 1),s10,s11,s12,s13,ch14,l15,l16))
 else
 some (.inl (false,s8,IntKind.wrap .i64 (s9 - 1),s10,s11,s12,s13,ch14,l15,l16))).bind (Sum.elim (Z8m rec17 r17) some)
def G17 (rec17:(Option Y0)->Int->Int->Bool->(List Int)->Bool->(List Int)->Option Y3) (s1:Option Y0) (s2:Int) (s3:Int) (s4:Bool) (s5:List Int) (s6:Bool) (ch7:List Int):Option Y3:=
 (bif s2==0 then
 some (.inl (s1,s2,s3,s4,s5,true,ch7,0,0))
 else
 some (.inl (s1,s2,s3,s4,s5,s6,ch7,0,0))).bind (Sum.elim (Z8T rec17) some)
def N17 (n:Nat):(Option Y0)->Int->Int->Bool->(List Int)->Bool->(List Int)->Option Y3:=Nat.rec (motive:=fun _=>(Option Y0)->Int->Int->Bool->(List Int)->Bool->(List Int)->Option Y3) (fun _ _ _ _ _ _ _=>none) (fun _ ih=>G17 ih) n
def F17 (s1:Option Y0) (s2:Int) (s3:Int) (s4:Bool) (s5:List Int) (s6:Bool) (ch7:List Int):Option Y3:=N17 1000 s1 s2 s3 s4 s5 s6 ch7
def Z6J (s1:TT) (most2:Int) (r3:(Option Y0)×Bool):(Bool×Int×Int)->Option (List Int×Int×Y41×Int):=fun (x4,l5,l6)=>
 bif x4 then
 some ([],0,(0,0,[]),1)
 else
 (F18 (s1.1.length:Int)).bind fun r7=>
 (F17 r3.1 most2 0 true [] false r7).bind fun r8=>
 bif r8.2.2.2.2.2.2.2.1 then
 some ([],0,(0,0,[]),202)
 else
 bif r8.2.2.2.2.2.1 then
 some ([],0,(0,0,[]),201)
 else
 some (r8.2.2.2.2.2.2.1,r8.2.2.2.2.1,(r8.1,r8.2.1,r8.2.2.2.2.2.2.2.2),0)
def F6 (s1:TT) (most2:Int):Option (List Int×Int×Y41×Int):=
 (F16 s1).bind fun r3=>
 (bif !r3.2 then
 some (.inl (true,0,0))
 else
 bif decide (most2 < 1) then
 some (.inl (true,0,0))
 else
 some (.inl (decide (most2 > 20000),0,0))).bind (Sum.elim (Z6J s1 most2 r3) some)
def ZuM:Bool->Option Bool:=fun x3=>
 some x3
def F42 (l1:TN) (i2:Int):Option Bool:=
 (bif decide (i2>=0) then
 some (.inl (decide (i2 < (l1.length:Int))))
 else
 some (.inl false)).bind (Sum.elim ZuM some)
def ZAe (l1:TN) (i4:Int):Int->Option (Int⊕(Int⊕Bool)):=fun k7=>
 bif decide (k7 < i4) then
 (gI l1 k7).bind fun y8=>
 (gI l1 i4).bind fun y9=>
 (F45 y8 y9).bind fun r10=>
 bif r10 then
 ((some false).map .inr).map .inr
 else
 some (.inl (IntKind.wrap .i64 (k7+1)))
 else
 (some (.inl (IntKind.wrap .i64 (i4+1)))).map .inr
def Zx5 (l1:TN) (r2:List Int):Int->Option (Int⊕Bool):=fun i4=>
 bif decide (i4 < (l1.length:Int)) then
 (gI r2 i4).bind fun y5=>
 bif y5==0 then
 (some false).map .inr
 else
 Zao (ZAe l1 i4) 0
 else
 (some true).map .inr
def F59 (l1:TN):Option Bool:=
 (F43 l1).bind fun r2=>
 Zao (Zx5 l1 r2) 0
def ZAf:Bool->Option Bool:=fun x3=>
 some x3
def F60 (l1:TN) (s2:Int×Int×Int×List Int×List Int):Option Bool:=
 ((F42 l1 s2.1).bind fun r4=>
 bif r4 then
 (F42 l1 s2.2.1).bind fun r5=>
 some (.inl r5)
 else
 some (.inl false)).bind (Sum.elim ZAf some)
def ZAg (t10:Int):Bool->Option (Int⊕Bool):=fun x12=>
 bif x12 then
 (some false).map .inr
 else
 some (.inl (IntKind.wrap .i64 (t10+1)))
def ZxG (s1:TT) (r2:List Int):Int->Option (Int⊕Bool):=fun t10=>
 bif decide (t10 < (s1.2.1.length:Int)) then
 (gI s1.2.1 t10).bind fun y11=>
 ((F60 s1.1 y11).bind fun r13=>
 bif !r13 then
 some (.inl true)
 else
 (gI r2 y11.1).bind fun y14=>
 (gI r2 y11.2.1).bind fun y15=>
 some (.inl (y14 != y15))).bind (Sum.elim (ZAg t10) some)
 else
 (some true).map .inr
def ZuI (s1:TT) (r2:List Int):Bool->Option Bool:=fun x3=>
 bif x3 then
 some false
 else
 Zao (ZxG s1 r2) 0
def F39 (s1:TT):Option Bool:=
 (F43 s1.1).bind fun r2=>
 (bif decide ((s1.1.length:Int) > 2000) then
 some (.inl true)
 else
 (F42 s1.1 s1.2.2.2.1).bind fun r4=>
 bif !r4 then
 some (.inl true)
 else
 (F42 s1.1 s1.2.2.2.2.1).bind fun r5=>
 bif !r5 then
 some (.inl true)
 else
 (gI r2 s1.2.2.2.1).bind fun y6=>
 bif y6 != 1 then
 some (.inl true)
 else
 (gI r2 s1.2.2.2.2.1).bind fun y7=>
 bif y7 != 2 then
 some (.inl true)
 else
 (F59 s1.1).bind fun r8=>
 some (.inl (!r8))).bind (Sum.elim (ZuI s1 r2) some)
def ZAh (i6:Int):Bool->Option (Int⊕Bool):=fun x9=>
 bif x9 then
 (some false).map .inr
 else
 some (.inl (IntKind.wrap .i64 (i6+1)))
def ZAi (a1:Int×Int×List Int) (b2:Int×Int×List Int) (c3:List Int):Int->Option (Int⊕Bool):=fun i6=>
 bif decide (i6 < (a1.2.2.length:Int)) then
 (gI a1.2.2 i6).bind fun y7=>
 (gI b2.2.2 i6).bind fun y8=>
 (bif decide (y7 < 0) then
 some (.inl true)
 else
 bif decide (y8 < 0) then
 some (.inl true)
 else
 bif decide (y7>=(c3.length:Int)) then
 some (.inl true)
 else
 bif decide (y8>=(c3.length:Int)) then
 some (.inl true)
 else
 (gI c3 y7).bind fun y10=>
 (gI c3 y8).bind fun y11=>
 some (.inl (y10 != y11))).bind (Sum.elim (ZAh i6) some)
 else
 (some true).map .inr
def ZAj (a1:Int×Int×List Int) (b2:Int×Int×List Int) (c3:List Int):Bool->Option Bool:=fun x4=>
 bif x4 then
 some false
 else
 Zao (ZAi a1 b2 c3) 0
def F65 (a1:Int×Int×List Int) (b2:Int×Int×List Int) (c3:List Int):Option Bool:=
 (bif a1.1 != b2.1 then
 some (.inl true)
 else
 bif a1.2.1 != b2.2.1 then
 some (.inl true)
 else
 some (.inl ((a1.2.2.length:Int) != (b2.2.2.length:Int)))).bind (Sum.elim (ZAj a1 b2 c3) some)
def Z56 (i14:Int):(List Int)->Option Y8:=fun c16=>
 some (.inl (IntKind.wrap .i64 (i14+1),c16))
def Z58 (y5:Int) (y7:Int) (y9:Int) (y11:Int):Y2->Option Y8:=fun (i14,c15)=>
 bif decide (i14 < (c15.length:Int)) then
 ((gI c15 i14).bind fun y17=>
 (gI c15 i14).bind fun y18=>
 bif y18==(if y11 > y9 then y11 else y9) then
 (gI c15 i14).bind fun y19=>
 (gI c15 i14).bind fun y20=>
 some (.inl (Zaq c15 i14 (if y7 < y5 then y7 else y5)))
 else
 some (.inl c15)).bind (Sum.elim (Z56 i14) some)
 else
 (some c15).map .inr
def F64 (a1:Int) (b2:Int) (c3:List Int):Option (List Int):=
 (gI c3 a1).bind fun y4=>
 (gI c3 a1).bind fun y5=>
 (gI c3 b2).bind fun y6=>
 (gI c3 b2).bind fun y7=>
 (gI c3 a1).bind fun y8=>
 (gI c3 a1).bind fun y9=>
 (gI c3 b2).bind fun y10=>
 (gI c3 b2).bind fun y11=>
 Zao (Z58 y5 y7 y9 y11) (0,c3)
def ZxK (y13:Int×Int) (y14:Int×Int):Y9->Option Y33:=fun (x15,c16)=>
 bif x15 then
 (F64 y13.1 y14.2 c16).bind fun r17=>
 some (.inl r17)
 else
 some (.inl c16)
def ZxM (i10:Int):(List Int)->Option Y8:=fun c12=>
 some (.inl (IntKind.wrap .i64 (i10+1),c12))
def ZAk (j26:Int) (more31:Bool) (i32:Int):Y9->Option (Y9⊕(Y23⊕(Y23⊕Y34))):=fun (x36,c37)=>
 bif x36 then
 (F64 i32 j26 c37).bind fun r45=>
 some (.inl (true,r45))
 else
 some (.inl (more31,c37))
def ZAl (i32:Int):Y9->Option (Y23⊕(Y23⊕Y34)):=fun (more34,c35)=>
 some (.inl (more34,IntKind.wrap .i64 (i32+1),c35))
def ZAm (l1:TN) (j26:Int):Y23->Option (Y23⊕(Y23⊕Y34)):=fun (more31,i32,c33)=>
 bif decide (i32 < j26) then
 (((gI c33 i32).bind fun y38=>
 (gI c33 i32).bind fun y39=>
 (gI c33 j26).bind fun y40=>
 (gI c33 j26).bind fun y41=>
 bif y39 != y41 then
 (gI l1 i32).bind fun y42=>
 (gI l1 j26).bind fun y43=>
 (F65 y42 y43 c33).bind fun r44=>
 some (.inl (r44,c33))
 else
 some (.inl (false,c33))).bind (Sum.elim (ZAk j26 more31 i32) some)).bind (Sum.elim (ZAl i32) some)
 else
 (some (.inl (more31,IntKind.wrap .i64 (j26+1),c33))).map .inr
def Z8U (l1:TN):Y23->Option (Y23⊕Y34):=fun (more25,j26,c27)=>
 bif decide (j26 < (l1.length:Int)) then
 Zao (ZAm l1 j26) (more25,0,c27)
 else
 (some (.inl (more25,c27))).map .inr
def ZAn (l1:TN):Y9->Option Y34:=fun (more20,c21)=>
 bif more20 then
 Zao (Z8U l1) (false,0,c21)
 else
 (some c21).map .inr
def ZxL (l1:TN) (pairs2:TP):Y2->Option Y8:=fun (i10,c11)=>
 bif decide (i10 < (pairs2.length:Int)) then
 ((gI pairs2 i10).bind fun y13=>
 (gI pairs2 i10).bind fun y14=>
 (bif decide (y13.1>=0) then
 bif decide (y14.2>=0) then
 bif decide (y13.1 < (l1.length:Int)) then
 some (.inl (decide (y14.2 < (l1.length:Int)),c11))
 else
 some (.inl (false,c11))
 else
 some (.inl (false,c11))
 else
 some (.inl (false,c11))).bind (Sum.elim (ZxK y13 y14) some)).bind (Sum.elim (ZxM i10) some)
 else
 (Zao (ZAn l1) (true,c11)).map .inr
def ZuJ (l1:TN) (pairs2:TP):Y2->Option Y8:=fun (i6,c7)=>
 bif decide (i6 < (l1.length:Int)) then
 bif decide (c7.length+List.length ([i6]:List Int)<=1000000) then
 some (.inl (IntKind.wrap .i64 (i6+1),c7++([i6]:List Int)))
 else none
 else
 (Zao (ZxL l1 pairs2) (0,c7)).map .inr
def F41 (l1:TN) (pairs2:TP):Option (List Int):=
 Zao (ZuJ l1 pairs2) (0,[])
def Zyo (s1:TT):(Int×TP)->Option Y46:=fun (t6,pairs7)=>
 bif decide (t6 < (s1.2.1.length:Int)) then
 (gI s1.2.1 t6).bind fun y8=>
 (gI s1.2.1 t6).bind fun y9=>
 bif decide (pairs7.length+List.length ([(y8.1,y9.2.1)]:TP)<=1000000) then
 some (.inl (IntKind.wrap .i64 (t6+1),pairs7++([(y8.1,y9.2.1)]:TP)))
 else none
 else
 ((F41 s1.1 pairs7).bind fun r10=>
 some r10).map .inr
def F22 (s1:TT):Option (List Int):=
 (F39 s1).bind fun r2=>
 bif !r2 then
 some []
 else
 Zao (Zyo s1) (0,[])
def ZAo (k9:Int):Bool->Option (Int⊕Bool):=fun x10=>
 bif x10 then
 (some false).map .inr
 else
 some (.inl (IntKind.wrap .i64 (k9+1)))
def ZAp (l1:TN) (one2:List Int) (y5:Int×Int×List Int) (y6:Int×Int×List Int):Int->Option (Int⊕Bool):=fun k9=>
 bif decide (k9 < (y5.2.2.length:Int)) then
 ((gI y5.2.2 k9).bind fun y11=>
 (F42 l1 y11).bind fun r12=>
 bif !r12 then
 some (.inl true)
 else
 (gI y6.2.2 k9).bind fun y13=>
 (F42 l1 y13).bind fun r14=>
 bif !r14 then
 some (.inl true)
 else
 (gI y5.2.2 k9).bind fun y15=>
 (gI one2 y15).bind fun y16=>
 (gI y6.2.2 k9).bind fun y17=>
 (gI one2 y17).bind fun y18=>
 some (.inl (y16 != y18))).bind (Sum.elim (ZAo k9) some)
 else
 (some true).map .inr
def ZAq (l1:TN) (one2:List Int) (y5:Int×Int×List Int) (y6:Int×Int×List Int):Bool->Option Bool:=fun x7=>
 bif x7 then
 some false
 else
 Zao (ZAp l1 one2 y5 y6) 0
def F24 (l1:TN) (one2:List Int) (a3:Int) (b4:Int):Option Bool:=
 (gI l1 a3).bind fun y5=>
 (gI l1 b4).bind fun y6=>
 (bif y5.1 != y6.1 then
 some (.inl true)
 else
 bif y5.2.1 != y6.2.1 then
 some (.inl true)
 else
 some (.inl ((y5.2.2.length:Int) != (y6.2.2.length:Int)))).bind (Sum.elim (ZAq l1 one2 y5 y6) some)
def ZAr (j60:Int):(Bool×Int×Int×Int×Int×TN×TS×TI×Int×Int×Int×Int×List Int×List (List Int))->Option Y17:=fun (first77,l78,l79,l80,l81,x82,x83,x84,x85,x86,x87,x88,x89,l90)=>
 some (.inl (first77,IntKind.wrap .i64 (j60+1),l78,l79,l80,l81,x82,x83,x84,x85,x86,x87,x88,x89,l90))
def ZAs (s1:TT) (i17:Int):(Bool×Int×Int×Int×Int×Int×TN×TS×TI×Int×Int×Int×Int×List Int×List (List Int))->Option Y17:=fun (first59,j60,l61,l62,l63,l64,x65,x66,x67,x68,x69,x70,x71,x72,l73)=>
 (gI x72 i17).bind fun y74=>
 (gI l73 y74).bind fun y75=>
 (gI l73 y74).bind fun y76=>
 bif decide (j60 < (y76.length:Int)) then
 (bif first59 then
 (gI x72 i17).bind fun y91=>
 (gI (Zaq l73 y74 y76) y91).bind fun y92=>
 (gI (Zaq l73 y74 y76) y91).bind fun y93=>
 (gI y93 j60).bind fun y94=>
 (gI y93 j60).bind fun y95=>
 (F24 s1.1 x72 y95 i17).bind fun r96=>
 some (.inl (!r96,l61,l62,l63,l64,x65,x66,x67,x68,x69,x70,x71,x72,Zaq (Zaq l73 y74 y76) y91 y93))
 else
 some (.inl (false,l61,l62,l63,l64,x65,x66,x67,x68,x69,x70,x71,x72,Zaq l73 y74 y76))).bind (Sum.elim (ZAr j60) some)
 else
 (bif first59 then
 (gI x72 i17).bind fun y97=>
 (gI x72 i17).bind fun y98=>
 (gI (Zaq l73 y74 y76) y98).bind fun y99=>
 (gI (Zaq l73 y74 y76) y98).bind fun y100=>
 bif decide (y100.length+List.length ([i17]:List Int)<=1000000) then
 (gI (Zaq l73 y74 y76) y97).bind fun y101=>
 (gI (Zaq l73 y74 y76) y97).bind fun y102=>
 bif decide (y97=y98) then
 some (.inl (l61,l62,l63,l64,x65,x66,x67,x68,x69,x70,x71,x72,Zaq (Zaq l73 y74 y76) y97 (y100++([i17]:List Int))))
 else none
 else none
 else
 some (.inl (l61,l62,l63,l64,x65,x66,x67,x68,x69,x70,x71,x72,Zaq l73 y74 y76))).map .inr
def ZAt (i17:Int):(Int×Int×Int×Int×TN×TS×TI×Int×Int×Int×Int×List Int×List (List Int))->Option Y7:=fun (l31,l32,l33,l34,x35,x36,x37,x38,x39,x40,x41,x42,l43)=>
 some (.inl (IntKind.wrap .i64 (i17+1),l31,l32,l33,l34,x35,x36,x37,x38,x39,x40,x41,x42,l43))
def Z8V (s1:TT):(Int×Int×Int×Int×Int×TN×TS×TI×Int×Int×Int×Int×List Int×List (List Int))->Option Y7:=fun (i17,l18,l19,l20,l21,x22,x23,x24,x25,x26,x27,x28,x29,l30)=>
 bif decide (i17 < (s1.1.length:Int)) then
 (Zao (ZAs s1 i17) (true,0,l18,l19,l20,l21,x22,x23,x24,x25,x26,x27,x28,x29,l30)).bind (Sum.elim (ZAt i17) some)
 else
 (some ((x22,x23,x24,x25,x26,x27,x28),x29,l30)).map .inr
def F10 (s1:TT):Option (TT×List Int×List (List Int)):=
 (F22 s1).bind fun r2=>
 bif decide ((0:Int)<=(s1.1.length:Int)/\((s1.1.length:Int):Int)=(s1.1.length:Int)/\((s1.1.length:Int):Int)<=1000000) then
 Zao (Z8V s1) (0,0,0,0,0,s1.1,s1.2.1,s1.2.2.1,s1.2.2.2.1,s1.2.2.2.2.1,s1.2.2.2.2.2.1,s1.2.2.2.2.2.2,r2,(List.replicate (Int.toNat (s1.1.length:Int)) []:List (List Int)))
 else none
def ZxN (i4:Int):Bool->Option (Int⊕Bool):=fun x5=>
 bif x5 then
 (some false).map .inr
 else
 some (.inl (IntKind.wrap .i64 (i4+1)))
def ZxO (x1:TT×List Int×List (List Int)) (ch2:List Int):Int->Option (Int⊕Bool):=fun i4=>
 bif decide (i4 < (ch2.length:Int)) then
 ((gI ch2 i4).bind fun y6=>
 bif y6 != (-1) then
 (gI x1.2.1 i4).bind fun y7=>
 bif y7 != i4 then
 some (.inl true)
 else
 (gI ch2 i4).bind fun y8=>
 (F42 x1.1.1 y8).bind fun r9=>
 bif !r9 then
 some (.inl true)
 else
 (gI ch2 i4).bind fun y10=>
 (gI x1.2.1 y10).bind fun y11=>
 some (.inl (y11 != i4))
 else
 some (.inl false)).bind (Sum.elim (ZxN i4) some)
 else
 (some true).map .inr
def F61 (x1:TT×List Int×List (List Int)) (ch2:List Int):Option Bool:=
 bif (ch2.length:Int) != (x1.2.1.length:Int) then
 some false
 else
 Zao (ZxO x1 ch2) 0
def ZxE (l1:TN) (i2:Int):Bool->Option Int:=fun x3=>
 bif x3 then
 some 0
 else
 bif decide ((0:Int)<=0/\(0:Int)<=IntKind.wrap .i64 (i2+1)/\IntKind.wrap .i64 (i2+1)<=(l1.length:Int)) then
 (F43 (slI l1 0 (IntKind.wrap .i64 (i2+1)))).bind fun r4=>
 (gI r4 i2).bind fun y5=>
 some y5
 else none
def F75 (l1:TN) (i2:Int):Option Int:=
 (bif decide (i2 < 0) then
 some (.inl true)
 else
 some (.inl (decide (i2>=(l1.length:Int))))).bind (Sum.elim (ZxE l1 i2) some)
def Zp2 (l1:TN) (i4:Int):Bool->Option (Int⊕Int):=fun x5=>
 bif x5 then
 (gI l1 i4).bind fun y8=>
 (some (IntKind.wrap .i64 (Int.tdiv (y8.2.2.length:Int) 2))).map .inr
 else
 some (.inl (IntKind.wrap .i64 (i4+1)))
def Zu4 (l1:TN) (n2:Int):Int->Option (Int⊕Int):=fun i4=>
 bif decide (i4 < (l1.length:Int)) then
 ((gI l1 i4).bind fun y6=>
 bif y6.1==31 then
 (gI l1 i4).bind fun y7=>
 some (.inl (y7.2.1==n2))
 else
 some (.inl false)).bind (Sum.elim (Zp2 l1 i4) some)
 else
 (some 0).map .inr
def F76 (l1:TN) (n2:Int):Option Int:=
 Zao (Zu4 l1 n2) 0
def ZAu (j17:Int):(Bool×List (List Bool)×List Bool)->Option (Y54⊕(Y12⊕(Y12⊕Y15))):=fun (x22,out23,h24)=>
 bif x22 then
 (gI h24 j17).bind fun y29=>
 (gI h24 j17).bind fun y30=>
 some (.inl (out23,Zaq h24 j17 true))
 else
 some (.inl (out23,h24))
def ZwR (j17:Int):Y54->Option (Y12⊕(Y12⊕Y15)):=fun (out20,h21)=>
 some (.inl (IntKind.wrap .i64 (j17+1),out20,h21))
def ZAv (y7:Int×Int×List Int) (k11:Int):Y12->Option (Y12⊕(Y12⊕Y15)):=fun (j17,out18,h19)=>
 bif decide (j17 < 16) then
 (((gI y7.2.2 k11).bind fun y25=>
 (gI out18 y25).bind fun y26=>
 (gI out18 y25).bind fun y27=>
 (gI y27 j17).bind fun y28=>
 bif y28 then
 bif y7.1 != 31 then
 some (.inl (true,out18,h19))
 else
 bif j17 != y7.2.1 then
 some (.inl (true,out18,h19))
 else
 some (.inl (decide (k11 < (IntKind.wrap .i64 (Int.tdiv (y7.2.2.length:Int) 2))),out18,h19))
 else
 some (.inl (false,out18,h19))).bind (Sum.elim (ZAu j17) some)).bind (Sum.elim (ZwR j17) some)
 else
 (some (.inl (IntKind.wrap .i64 (k11+1),out18,h19))).map .inr
def ZAw (i5:Int):Y54->Option Y15:=fun (out31,h32)=>
 bif decide (out31.length+List.length ([h32]:List (List Bool))<=1000000) then
 some (.inl (IntKind.wrap .i64 (i5+1),out31++([h32]:List (List Bool))))
 else none
def ZAx (i5:Int) (y7:Int×Int×List Int):Y12->Option (Y12⊕Y15):=fun (k11,out12,h13)=>
 bif decide (k11 < (y7.2.2.length:Int)) then
 Zao (ZAv y7 k11) (0,out12,h13)
 else
 ((bif y7.1==3 then
 (gI h13 (IntKind.wrap .i64 (Int.tdiv y7.2.1 16))).bind fun y33=>
 (gI h13 (IntKind.wrap .i64 (Int.tdiv y7.2.1 16))).bind fun y34=>
 some (.inl (out12,Zaq h13 (IntKind.wrap .i64 (Int.tdiv y7.2.1 16)) true))
 else
 some (.inl (out12,h13))).bind (Sum.elim (ZAw i5) some)).map .inr
def ZAy (l1:TN):(Int×List (List Bool))->Option Y15:=fun (i5,out6)=>
 bif decide (i5 < (l1.length:Int)) then
 bif decide ((0:Int)<=16/\(16:Int)=16/\(16:Int)<=1000000) then
 (gI l1 i5).bind fun y7=>
 Zao (ZAx i5 y7) (0,out6,(List.replicate (Int.toNat 16) false:List Bool))
 else none
 else
 (some out6).map .inr
def F77 (l1:TN):Option (List (List Bool)):=
 Zao (ZAy l1) (0,[])
def ZAz (k10:Int):Bool->Option (Int⊕Y44):=fun x12=>
 bif x12 then
 (((some false).map .inr).map .inr).map .inr
 else
 some (.inl (IntKind.wrap .i64 (k10+1)))
def ZA0:Bool->Option Y44:=fun x16=>
 bif x16 then
 ((some false).map .inr).map .inr
 else
 some (.inl ())
def Z55 (g1:ByteArray×Int×TN×Int×Int) (y8:Int×Int×List Int) (k10:Int):Bool->Option (Int⊕Y44):=fun x11=>
 bif x11 then
 ((gI g1.2.2.1 k10).bind fun y13=>
 bif y13.1==31 then
 (gI g1.2.2.1 k10).bind fun y14=>
 some (.inl (y14.2.1==y8.2.1))
 else
 some (.inl false)).bind (Sum.elim (ZAz k10) some)
 else
 (bif y8.1==3 then
 (F76 g1.2.2.1 (IntKind.wrap .i64 (Int.tdiv y8.2.1 16))).bind fun r15=>
 (bif decide (r15 > 0) then
 some (.inl (decide ((Int.tmod y8.2.1 16)>=r15)))
 else
 some (.inl false)).bind (Sum.elim ZA0 some)
 else
 some (.inl ())).map .inr
def ZA1 (g1:ByteArray×Int×TN×Int×Int) (i7:Int) (y8:Int×Int×List Int):Int->Option (Int⊕Y44):=fun k10=>
 (bif decide (k10 < i7) then
 some (.inl (y8.1==31))
 else
 some (.inl false)).bind (Sum.elim (Z55 g1 y8 k10) some)
def Z53 (i7:Int):Unit->Option (Int⊕Bool):=fun _=>
 some (.inl (IntKind.wrap .i64 (i7+1)))
def ZA2 (j19:Int):Bool->Option (Int⊕Bool):=fun x20=>
 bif x20 then
 (some false).map .inr
 else
 some (.inl (IntKind.wrap .i64 (j19+1)))
def ZA3 (g1:ByteArray×Int×TN×Int×Int) (r17:List (List Bool)):Int->Option (Int⊕Bool):=fun j19=>
 bif decide (j19 < 16) then
 ((gI r17 g1.2.2.2.1).bind fun y21=>
 (gI y21 j19).bind fun y22=>
 bif y22 then
 some (.inl true)
 else
 (gI r17 g1.2.2.2.2).bind fun y23=>
 (gI y23 j19).bind fun y24=>
 some (.inl y24)).bind (Sum.elim (ZA2 j19) some)
 else
 (some true).map .inr
def Z54 (g1:ByteArray×Int×TN×Int×Int):Int->Option (Int⊕Bool):=fun i7=>
 bif decide (i7 < (g1.2.2.1.length:Int)) then
 ((gI g1.2.2.1 i7).bind fun y8=>
 Zao (ZA1 g1 i7 y8) 0).bind (Sum.elim (Z53 i7) some)
 else
 ((F77 g1.2.2.1).bind fun r17=>
 Zao (ZA3 g1 r17) 0).map .inr
def Z52 (g1:ByteArray×Int×TN×Int×Int):Bool->Option Bool:=fun x2=>
 bif x2 then
 some false
 else
 Zao (Z54 g1) 0
def F63 (g1:ByteArray×Int×TN×Int×Int):Option Bool:=
 ((F59 g1.2.2.1).bind fun r3=>
 bif !r3 then
 some (.inl true)
 else
 (F75 g1.2.2.1 g1.2.2.2.1).bind fun r4=>
 bif r4 != 1 then
 some (.inl true)
 else
 (F75 g1.2.2.1 g1.2.2.2.2).bind fun r5=>
 some (.inl (r5 != 2))).bind (Sum.elim (Z52 g1) some)
def ZA4 (y47:Int×Int×List Int):Y26->Option (Y27⊕Y1):=fun (x126,t127,t128,t129,t130,t131,t132,t133,t134,t135,t136,t137,t138,t139,t140,t141,l142,l143)=>
 bif x126 then
 some (.inl (t127,t128,t129,t130,t131,t132,t133,t134,t135,t136,t137,IntKind.wrap .i64 (y47.2.1+1),t139,t140,t141,l142,l143))
 else
 some (.inl (t127,t128,t129,t130,t131,t132,t133,t134,t135,t136,t137,t138,t139,t140,t141,l142,l143))
def ZA5 (c1:Int):Y27->Option Y1:=fun (t109,t110,t111,t112,t113,t114,t115,t116,t117,t118,t119,t120,t121,t122,t123,l124,l125)=>
 (gI l124 c1).bind fun y144=>
 (gI l124 c1).bind fun y145=>
 some (y145,t109,t110,t111,t112,t113,t114,t115,t116,t117,t118,t119,t120,t121,t122,t123,l124,l125)
def ZA6 (rec62:Int->TN->TS->TI->Int->Int->Int->Int->(List Int)->(List (List Int))->(List Int)->ByteArray->Int->Int->Int->Bool->(List Int)->TN->Option Y1) (c1:Int) (y47:Int×Int×List Int):Y25->Option (Y25⊕Y1):=fun (k85,t86,t87,t88,t89,t90,t91,t92,t93,t94,t95,t96,t97,t98,t99,t100,kids101,l102,l103)=>
 bif decide (k85 < (y47.2.2.length:Int)) then
 (gI y47.2.2 k85).bind fun y104=>
 (gI t93 y104).bind fun y105=>
 (rec62 y105 t86 t87 t88 t89 t90 t91 t92 t93 t94 t95 t96 t97 t98 t99 t100 l102 l103).bind fun r106=>
 bif decide (kids101.length+List.length ([r106.1]:List Int)<=1000000) then
 some (.inl (IntKind.wrap .i64 (k85+1),r106.2.1,r106.2.2.1,r106.2.2.2.1,r106.2.2.2.2.1,r106.2.2.2.2.2.1,r106.2.2.2.2.2.2.1,r106.2.2.2.2.2.2.2.1,r106.2.2.2.2.2.2.2.2.1,r106.2.2.2.2.2.2.2.2.2.1,r106.2.2.2.2.2.2.2.2.2.2.1,r106.2.2.2.2.2.2.2.2.2.2.2.1,r106.2.2.2.2.2.2.2.2.2.2.2.2.1,r106.2.2.2.2.2.2.2.2.2.2.2.2.2.1,r106.2.2.2.2.2.2.2.2.2.2.2.2.2.2.1,r106.2.2.2.2.2.2.2.2.2.2.2.2.2.2.2.1,kids101++([r106.1]:List Int),r106.2.2.2.2.2.2.2.2.2.2.2.2.2.2.2.2.1,r106.2.2.2.2.2.2.2.2.2.2.2.2.2.2.2.2.2))
 else none
 else
 ((gI l102 c1).bind fun y107=>
 (gI l102 c1).bind fun y108=>
 bif decide (l103.length+List.length ([(y47.1,y47.2.1,kids101)]:TN)<=1000000) then
 ((bif y47.1==2 then
 some (.inl (decide (y47.2.1>=t97),t86,t87,t88,t89,t90,t91,t92,t93,t94,t95,t96,t97,t98,t99,t100,Zaq l102 c1 (l103.length:Int),l103++([(y47.1,y47.2.1,kids101)]:TN)))
 else
 some (.inl (false,t86,t87,t88,t89,t90,t91,t92,t93,t94,t95,t96,t97,t98,t99,t100,Zaq l102 c1 (l103.length:Int),l103++([(y47.1,y47.2.1,kids101)]:TN)))).bind (Sum.elim (ZA4 y47) some)).bind (Sum.elim (ZA5 c1) some)
 else none).map .inr
def Z8W (rec62:Int->TN->TS->TI->Int->Int->Int->Int->(List Int)->(List (List Int))->(List Int)->ByteArray->Int->Int->Int->Bool->(List Int)->TN->Option Y1) (c1:Int):Y26->Option Y1:=fun (x19,t20,t21,t22,t23,t24,t25,t26,t27,t28,t29,t30,t31,t32,t33,t34,l35,l36)=>
 bif x19 then
 some (0,t20,t21,t22,t23,t24,t25,t26,t27,t28,t29,t30,t31,t32,t33,true,l35,l36)
 else
 (gI l35 c1).bind fun y40=>
 (gI l35 c1).bind fun y41=>
 bif decide (y41>=0) then
 (gI l35 c1).bind fun y42=>
 (gI l35 c1).bind fun y43=>
 some (y43,t20,t21,t22,t23,t24,t25,t26,t27,t28,t29,t30,t31,t32,t33,t34,l35,l36)
 else
 (gI l35 c1).bind fun y44=>
 (gI l35 c1).bind fun y45=>
 (gI t29 c1).bind fun y46=>
 (gI t20 y46).bind fun y47=>
 Zao (ZA6 rec62 c1 y47) (0,t20,t21,t22,t23,t24,t25,t26,t27,t28,t29,t30,t31,t32,t33,t34,[],Zaq l35 c1 (-2),l36)
def G62 (rec62:Int->TN->TS->TI->Int->Int->Int->Int->(List Int)->(List (List Int))->(List Int)->ByteArray->Int->Int->Int->Bool->(List Int)->TN->Option Y1) (c1:Int) (t2:TN) (t3:TS) (t4:TI) (t5:Int) (t6:Int) (t7:Int) (t8:Int) (t9:List Int) (t10:List (List Int)) (t11:List Int) (t12:ByteArray) (t13:Int) (t14:Int) (t15:Int) (t16:Bool) (l17:List Int) (l18:TN):Option Y1:=
 (bif t16 then
 some (.inl (true,t2,t3,t4,t5,t6,t7,t8,t9,t10,t11,t12,t13,t14,t15,t16,l17,l18))
 else
 (gI l17 c1).bind fun y37=>
 (gI l17 c1).bind fun y38=>
 bif y38==(-2) then
 some (.inl (true,t2,t3,t4,t5,t6,t7,t8,t9,t10,t11,t12,t13,t14,t15,t16,l17,l18))
 else
 (gI t11 c1).bind fun y39=>
 some (.inl (decide (y39 < 0),t2,t3,t4,t5,t6,t7,t8,t9,t10,t11,t12,t13,t14,t15,t16,l17,l18))).bind (Sum.elim (Z8W rec62 c1) some)
def N62 (n:Nat):Int->TN->TS->TI->Int->Int->Int->Int->(List Int)->(List (List Int))->(List Int)->ByteArray->Int->Int->Int->Bool->(List Int)->TN->Option Y1:=Nat.rec (motive:=fun _=>Int->TN->TS->TI->Int->Int->Int->Int->(List Int)->(List (List Int))->(List Int)->ByteArray->Int->Int->Int->Bool->(List Int)->TN->Option Y1) (fun _ _ _ _ _ _ _ _ _ _ _ _ _ _ _ _ _ _=>none) (fun _ ih=>G62 ih) n
def F62 (c1:Int) (t2:TN) (t3:TS) (t4:TI) (t5:Int) (t6:Int) (t7:Int) (t8:Int) (t9:List Int) (t10:List (List Int)) (t11:List Int) (t12:ByteArray) (t13:Int) (t14:Int) (t15:Int) (t16:Bool) (l17:List Int) (l18:TN):Option Y1:=N62 1000 c1 t2 t3 t4 t5 t6 t7 t8 t9 t10 t11 t12 t13 t14 t15 t16 l17 l18
def ZwX:(Bool×ByteArray×Int×Int×Int×TN×TS×TI×Int×Int×Int×Int×List Int×List (List Int)×List Int×ByteArray×Int×Int×Int×Bool×List Int×TN)->Option Y11:=fun (x52,l53,l54,l55,l56,t57,t58,t59,t60,t61,t62,t63,t64,t65,t66,t67,t68,t69,t70,t71,l72,l73)=>
 bif x52 then
 some ((ByteArray.empty,0,[],0,0),false)
 else
 some ((t67,t68,l73,t69,t70),true)
def ZwW (x1:TT×List Int×List (List Int)) (ch2:List Int):Y22->Option (Y22⊕Y11):=fun (i25,l26,l27,l28,l29,t30,t31,t32,t33,t34,t35,t36,t37,t38,t39,t40,t41,t42,t43,t44,l45)=>
 bif decide (i25 < (ch2.length:Int)) then
 (gI l45 i25).bind fun y46=>
 (gI l45 i25).bind fun y47=>
 some (.inl (IntKind.wrap .i64 (i25+1),l26,l27,l28,l29,t30,t31,t32,t33,t34,t35,t36,t37,t38,t39,t40,t41,t42,t43,t44,Zaq l45 i25 (-1)))
 else
 ((gI x1.2.1 x1.1.2.2.2.1).bind fun y48=>
 (F62 y48 t30 t31 t32 t33 t34 t35 t36 t37 t38 t39 t40 t41 t42 t43 t44 l45 []).bind fun r49=>
 (gI x1.2.1 x1.1.2.2.2.2.1).bind fun y50=>
 (F62 y50 r49.2.1 r49.2.2.1 r49.2.2.2.1 r49.2.2.2.2.1 r49.2.2.2.2.2.1 r49.2.2.2.2.2.2.1 r49.2.2.2.2.2.2.2.1 r49.2.2.2.2.2.2.2.2.1 r49.2.2.2.2.2.2.2.2.2.1 r49.2.2.2.2.2.2.2.2.2.2.1 r49.2.2.2.2.2.2.2.2.2.2.2.1 r49.2.2.2.2.2.2.2.2.2.2.2.2.1 r49.1 r49.2.2.2.2.2.2.2.2.2.2.2.2.2.2.1 r49.2.2.2.2.2.2.2.2.2.2.2.2.2.2.2.1 r49.2.2.2.2.2.2.2.2.2.2.2.2.2.2.2.2.1 r49.2.2.2.2.2.2.2.2.2.2.2.2.2.2.2.2.2).bind fun r51=>
 (bif r51.2.2.2.2.2.2.2.2.2.2.2.2.2.2.2.1 then
 some (.inl (true,l26,l27,l28,l29,r51.2.1,r51.2.2.1,r51.2.2.2.1,r51.2.2.2.2.1,r51.2.2.2.2.2.1,r51.2.2.2.2.2.2.1,r51.2.2.2.2.2.2.2.1,r51.2.2.2.2.2.2.2.2.1,r51.2.2.2.2.2.2.2.2.2.1,r51.2.2.2.2.2.2.2.2.2.2.1,r51.2.2.2.2.2.2.2.2.2.2.2.1,r51.2.2.2.2.2.2.2.2.2.2.2.2.1,r51.2.2.2.2.2.2.2.2.2.2.2.2.2.1,r51.1,r51.2.2.2.2.2.2.2.2.2.2.2.2.2.2.2.1,r51.2.2.2.2.2.2.2.2.2.2.2.2.2.2.2.2.1,r51.2.2.2.2.2.2.2.2.2.2.2.2.2.2.2.2.2))
 else
 (F63 (r51.2.2.2.2.2.2.2.2.2.2.2.1,r51.2.2.2.2.2.2.2.2.2.2.2.2.1,r51.2.2.2.2.2.2.2.2.2.2.2.2.2.2.2.2.2,r51.2.2.2.2.2.2.2.2.2.2.2.2.2.1,r51.1)).bind fun r74=>
 some (.inl (!r74,l26,l27,l28,l29,r51.2.1,r51.2.2.1,r51.2.2.2.1,r51.2.2.2.2.1,r51.2.2.2.2.2.1,r51.2.2.2.2.2.2.1,r51.2.2.2.2.2.2.2.1,r51.2.2.2.2.2.2.2.2.1,r51.2.2.2.2.2.2.2.2.2.1,r51.2.2.2.2.2.2.2.2.2.2.1,r51.2.2.2.2.2.2.2.2.2.2.2.1,r51.2.2.2.2.2.2.2.2.2.2.2.2.1,r51.2.2.2.2.2.2.2.2.2.2.2.2.2.1,r51.1,r51.2.2.2.2.2.2.2.2.2.2.2.2.2.2.2.1,r51.2.2.2.2.2.2.2.2.2.2.2.2.2.2.2.2.1,r51.2.2.2.2.2.2.2.2.2.2.2.2.2.2.2.2.2))).bind (Sum.elim ZwX some)).map .inr
def F40 (x1:TT×List Int×List (List Int)) (ch2:List Int):Option Y11:=
 (F61 x1 ch2).bind fun r3=>
 bif !r3 then
 some ((ByteArray.empty,0,[],0,0),false)
 else
 bif decide ((0:Int)<=(ch2.length:Int)/\((ch2.length:Int):Int)=(ch2.length:Int)/\((ch2.length:Int):Int)<=1000000) then
 Zao (ZwW x1 ch2) (0,ByteArray.empty,0,0,0,x1.1.1,x1.1.2.1,x1.1.2.2.1,x1.1.2.2.2.1,x1.1.2.2.2.2.1,x1.1.2.2.2.2.2.1,x1.1.2.2.2.2.2.2,x1.2.1,x1.2.2,ch2,ByteArray.empty,0,0,0,false,(List.replicate (Int.toNat (ch2.length:Int)) 0:List Int))
 else none
def F20 (s1:TT) (ch2:List Int):Option Y11:=
 (F39 s1).bind fun r3=>
 bif !r3 then
 some ((ByteArray.empty,0,[],0,0),false)
 else
 (F10 s1).bind fun r4=>
 (F40 r4 ch2).bind fun r5=>
 some r5
def ZA7:Bool->Option Int:=fun x7=>
 bif x7 then
 some 2
 else
 some 0
def ZA8 (n1:Int×Int×List Int):Bool->Option Int:=fun x6=>
 bif x6 then
 some 2
 else
 (bif decide (n1.1>=4) then
 some (.inl (decide (n1.1<=19)))
 else
 some (.inl false)).bind (Sum.elim ZA7 some)
def ZA9 (n1:Int×Int×List Int):Bool->Option Int:=fun x5=>
 bif x5 then
 some 20
 else
 (bif n1.1==29 then
 some (.inl true)
 else
 bif n1.1==20 then
 some (.inl true)
 else
 some (.inl (n1.1==21))).bind (Sum.elim (ZA8 n1) some)
def ZAA (n1:Int×Int×List Int):Bool->Option Int:=fun x4=>
 bif x4 then
 some 4
 else
 bif n1.1==31 then
 some 6
 else
 bif n1.1==30 then
 some 12
 else
 (bif n1.1==7 then
 some (.inl true)
 else
 some (.inl (n1.1==8))).bind (Sum.elim (ZA9 n1) some)
def ZAB (n1:Int×Int×List Int):Bool->Option Int:=fun x3=>
 bif x3 then
 some 3
 else
 (bif n1.1==6 then
 some (.inl true)
 else
 bif n1.1==23 then
 some (.inl true)
 else
 some (.inl (n1.1==28))).bind (Sum.elim (ZAA n1) some)
def ZyK (n1:Int×Int×List Int):Bool->Option Int:=fun x2=>
 bif x2 then
 some 1
 else
 (bif n1.1==22 then
 some (.inl true)
 else
 some (.inl (n1.1==27))).bind (Sum.elim (ZAB n1) some)
def F21 (n1:Int×Int×List Int):Option Int:=
 (bif n1.1==1 then
 some (.inl true)
 else
 bif n1.1==2 then
 some (.inl true)
 else
 some (.inl (n1.1==24))).bind (Sum.elim (ZyK n1) some)
def Z5G (r3:(ByteArray×Int×TN×Int×Int)×Bool):(Int×Int)->Option ((Int×Int)⊕(Int×Bool)):=fun (n6,i7)=>
 bif decide (i7 < (r3.1.2.2.1.length:Int)) then
 (gI r3.1.2.2.1 i7).bind fun y8=>
 (F21 y8).bind fun r9=>
 some (.inl (IntKind.wrap .i64 (n6+r9),IntKind.wrap .i64 (i7+1)))
 else
 (some (n6,r3.2)).map .inr
def F8 (s1:TT) (ch2:List Int):Option (Int×Bool):=
 (F20 s1 ch2).bind fun r3=>
 Zao (Z5G r3) (0,0)
def ZGf (forms8:List (List Int)) (c12:Int) (k18:Int):Y9->Option (Y2⊕((List Int)⊕(Y2⊕Y9))):=fun (x21,ch22)=>
 bif x21 then
 (gI forms8 c12).bind fun y28=>
 (gI y28 (IntKind.wrap .i64 (k18+1))).bind fun y29=>
 (gI ch22 c12).bind fun y30=>
 (gI ch22 c12).bind fun y31=>
 (((some (true,Zaq ch22 c12 y29)).map .inr).map .inr).map .inr
 else
 some (.inl (IntKind.wrap .i64 (k18+1),ch22))
def ZFZ (forms8:List (List Int)) (c12:Int):Y2->Option (Y2⊕((List Int)⊕(Y2⊕Y9))):=fun (k18,ch19)=>
 (gI forms8 c12).bind fun y20=>
 bif decide (k18 < (y20.length:Int)) then
 ((gI ch19 c12).bind fun y23=>
 (gI ch19 c12).bind fun y24=>
 (gI forms8 c12).bind fun y25=>
 (gI y25 k18).bind fun y26=>
 bif y24==y26 then
 (gI forms8 c12).bind fun y27=>
 some (.inl (decide ((IntKind.wrap .i64 (k18+1)) < (y27.length:Int)),ch19))
 else
 some (.inl (false,ch19))).bind (Sum.elim (ZGf forms8 c12 k18) some)
 else
 ((gI forms8 c12).bind fun y32=>
 (gI y32 0).bind fun y33=>
 (gI ch19 c12).bind fun y34=>
 (gI ch19 c12).bind fun y35=>
 some (.inl (Zaq ch19 c12 y33))).map .inr
def ZGa (c12:Int):(List Int)->Option (Y2⊕Y9):=fun ch14=>
 some (.inl (IntKind.wrap .i64 (c12+1),ch14))
def ZGg (forms8:List (List Int)):Y2->Option (Y2⊕Y9):=fun (c12,ch13)=>
 bif decide (c12 < (ch13.length:Int)) then
 ((gI forms8 c12).bind fun y15=>
 bif (y15.length:Int)==0 then
 some (.inl ch13)
 else
 Zao (ZFZ forms8 c12) (0,ch13)).bind (Sum.elim (ZGa c12) some)
 else
 (some (false,ch13)).map .inr
def F11 (s1:TN) (s2:TS) (s3:TI) (s4:Int) (s5:Int) (s6:Int) (s7:Int) (forms8:List (List Int)) (ch9:List Int):Option Y9:=
 Zao (ZGg forms8) (0,ch9)
def Z2d (c9:Int):Y2->Option (Y21⊕Bool):=fun (many13,ch14)=>
 bif decide (many13 > 300) then
 (F7).bind fun r21=>
 (some r21).map .inr
 else
 some (.inl (many13,IntKind.wrap .i64 (c9+1),ch14))
def ZGl (least26:Int) (found27:Bool) (r33:Int×Bool):Y9->Option ((Int×Bool×List Int)⊕(Y39⊕Bool)):=fun (x34,ch35)=>
 bif x34 then
 some (.inl (r33.1,true,ch35))
 else
 some (.inl (least26,found27,ch35))
def ZEQ (r3:TT) (r4:TT×List Int×List (List Int)):(Int×Bool×List Int)->Option (Y39⊕Bool):=fun (least30,found31,ch32)=>
 (F11 r3.1 r3.2.1 r3.2.2.1 r3.2.2.2.1 r3.2.2.2.2.1 r3.2.2.2.2.2.1 r3.2.2.2.2.2.2 r4.2.2 ch32).bind fun r36=>
 some (.inl (least30,found31,r36.1,r36.2))
def ZGm:Bool->Option Bool:=fun x38=>
 some x38
def Z2e (r3:TT) (r4:TT×List Int×List (List Int)):Y39->Option (Y39⊕Bool):=fun (least26,found27,more28,ch29)=>
 bif more28 then
 ((F8 r3 ch29).bind fun r33=>
 (bif r33.2 then
 bif !found27 then
 some (.inl (true,ch29))
 else
 some (.inl (decide (r33.1 < least26),ch29))
 else
 some (.inl (false,ch29))).bind (Sum.elim (ZGl least26 found27 r33) some)).bind (Sum.elim (ZEQ r3 r4) some)
 else
 ((F6 r3 20000).bind fun r37=>
 (bif (r37.2.2.2==0)==found27 then
 bif !found27 then
 (F7).bind fun r39=>
 some (.inl r39)
 else
 bif r37.2.1==least26 then
 (F7).bind fun r40=>
 some (.inl r40)
 else
 some (.inl false)
 else
 some (.inl false)).bind (Sum.elim ZGm some)).map .inr
def Z2f (r3:TT) (r4:TT×List Int×List (List Int)):Y21->Option (Y21⊕Bool):=fun (many8,c9,ch10)=>
 bif decide (c9 < (ch10.length:Int)) then
 (gI ch10 c9).bind fun y11=>
 (gI ch10 c9).bind fun y12=>
 ((gI r4.2.2 c9).bind fun y15=>
 bif decide ((y15.length:Int) > 0) then
 (gI r4.2.2 c9).bind fun y16=>
 (gI y16 0).bind fun y17=>
 (gI (Zaq ch10 c9 (-1)) c9).bind fun y18=>
 (gI (Zaq ch10 c9 (-1)) c9).bind fun y19=>
 (gI r4.2.2 c9).bind fun y20=>
 some (.inl (IntKind.wrap .i64 (many8 * (y20.length:Int)),Zaq (Zaq ch10 c9 (-1)) c9 y17))
 else
 some (.inl (many8,Zaq ch10 c9 (-1)))).bind (Sum.elim (Z2d c9) some)
 else
 (Zao (Z2e r3 r4) (0,false,true,ch10)).map .inr
def F4 (l1:List Int) (pairs2:List Int):Option Bool:=
 (F5 l1 pairs2).bind fun r3=>
 (F10 r3).bind fun r4=>
 bif decide ((0:Int)<=(r4.2.1.length:Int)/\((r4.2.1.length:Int):Int)=(r4.2.1.length:Int)/\((r4.2.1.length:Int):Int)<=1000000) then
 Zao (Z2f r3 r4) (1,0,(List.replicate (Int.toNat (r4.2.1.length:Int)) 0:List Int))
 else none
end
end Go.Dat
