/-
  What the program's functions compute, as plain functions. Printed by program.
-/
import Derived.Test.YtalnenapfoedpaaGreatDoorE2Run
namespace Go.Dat
open Go.Eng
noncomputable section
abbrev TN:=List (Int×Int×List Int)
abbrev TS:=List (Int×Int×Int×List Int×List Int)
abbrev TI:=List (Int×Int×Int)
abbrev TP:=List (Int×Int)
abbrev TT:=TN×TS×TI×Int×Int×Int×Int
abbrev TQ:=TN×TS×Int×Int
abbrev Y0:=TT×List Int×List Int×List (List Int)
abbrev Y1:=Int×TN×TS×TI×Int×Int×Int×Int×List Int×List (List Int)×List Int×ByteArray×Int×Int×Int×Bool×List Int×TN
abbrev Y2:=Int×Int×TN×TS×TI×Int×Int×Int×Int×List Int×List (List Int)×Int×Int×Bool×List Int×Int×List Zbb
abbrev Y3:=Int×List Int
abbrev Y4:=Int×Int×(Option Y0)×Int×Int×Bool×List Int×Bool×List Zbb
abbrev Y5:=Int×Int×List Zbb
abbrev Y6:=Bool×Int×List Bool
abbrev Y7:=Int×List Int×Int×Int×Int×Int×TN×TS×TI
abbrev Y8:=Bool×List Int×(Option Y0)×List Int×List Int
abbrev Y9:=(Int×Int×Int×Bool×Int×Bool×List Bool×List Int×List Int)⊕((Int×Bool×Int×Bool×List Bool×List Int×List Int)⊕((Int×Int×Bool×Int×Bool×List Bool×List Int×List Int)⊕(List Int×List Int×Int×Bool)))
abbrev Y10:=Bool×List Bool
abbrev Y11:=Int×Int×Int×Int×Int×TN×Int×Int×Int×Int×TS
abbrev Y12:=Y3⊕(List Int)
abbrev Y13:=Int×Int×Int×Int×Int×Int×Int×Int×Int×(List (ByteArray×Int))×List Int×TN×TS×TI
abbrev Y14:=(Option Y0)×List Int×List Bool×Bool×List Int
abbrev Y15:=(Int×Int×Int×Int×Int×TN×TS×TI×Int×Int×Int×Int×List Int×List (List Int))⊕(TT×List Int×List (List Int))
abbrev Y16:=Int×(List (ByteArray×Bool))×TN×TS×TI×Int×Int×Int×Int×List Int×List Int×List (List Int)
abbrev Y17:=(ByteArray×Int×TN×Int×Int)×Bool
abbrev Y18:=Int×TN×TS×TI×Int×Int×Int×Int×List Int×List (List Int)×Int×Int×Bool×List Int×Int×List Int×Int×Int×Int×Int×List Zbb
abbrev Y19:=Bool×List Int
abbrev Y20:=Int×List (List Bool)×List Bool
abbrev Y21:=Int×Int×Bool×Int×Bool×List Bool×List Int×List Int
abbrev Y22:=Int×ByteArray×Int×Int×Int×ByteArray×Int×Int×Int×List Int×TN
abbrev Y23:=Int×List Int×Int×Int×Int×Int×Int×Int×TN×TS×TI×List Int
abbrev Y24:=(Int×List (List Bool))⊕(List (List Bool))
abbrev Y25:=(List (ByteArray×Bool))×TN×TS×TI×Int×Int×Int×Int×List Int×List Int×List (List Int)
abbrev Y26:=(Bool×Int×Int×Int×Int×Int×TN×TS×TI×Int×Int×Int×Int×List Int×List (List Int))⊕((Int×Int×Int×Int×TN×TS×TI×Int×Int×Int×Int×List Int×List (List Int))⊕Y15)
abbrev Y27:=Int×List Int×List Int
abbrev Y28:=ByteArray×TN×TS×TI×Int×Int×Int×Int×List Int×List Int×List (List Int)
abbrev Y29:=List Int×Int×Bool
abbrev Y30:=Int×ByteArray×Int×Int×Int×TN×TS×TI×Int×Int×Int×Int×List Int×List (List Int)×List Int×ByteArray×Int×Int×Int×Bool×List Int
abbrev Y31:=Bool×Int×List Int
abbrev Y32:=List Int×List Int×Int×Bool
abbrev Y33:=Int×Int×List Bool×List Int
abbrev Y34:=TT×List Int×List (List Int)
abbrev Y35:=Int×TN×TS×TI×Int×Int×Int×Int×List Int×List (List Int)×List Int×ByteArray×Int×Int×Int×Bool×List Int×List Int×TN
abbrev Y36:=ByteArray×Int
abbrev Y37:=Bool×TN×TS×TI×Int×Int×Int×Int×List Int×List (List Int)×List Int×ByteArray×Int×Int×Int×Bool×List Int×TN
abbrev Y38:=TN×TS×TI×Int×Int×Int×Int×List Int×List (List Int)×List Int×ByteArray×Int×Int×Int×Bool×List Int×TN
abbrev Y39:=TN⊕((Int×TN)⊕TN)
abbrev Y40:=(Int×List TT)⊕Bool
abbrev Y41:=Int×Int×Int×Int×Int×Int×Int×Int×Int×(List Y36)×List Int×Int×Int×TN×TS×TI×List Int
abbrev Y42:=Int×Int×Bool×List Bool×List Int
abbrev Y43:=Int×Int×List Int
abbrev Y44:=Int×(Option Y0)×Int×Int×Bool×List Int×Bool×List Int×Int×Int×Int×Int×List Zbb
abbrev Y45:=(List Int)⊕Y12
abbrev Y46:=Y19⊕(List Int)
abbrev Y47:=Bool×List Int×List Int
abbrev Y48:=Int×List Bool×List Int
abbrev Y49:=Int×Int×Int×Int×Int×TN×Int×Int×Int×Int×Int×Int×Int×Int×TS×List Int
abbrev Y50:=Int×Bool×List Bool×List Int
abbrev Y51:=Int×(List TT)×List (List Int)
abbrev Y52:=Int×List Int×TN×TS×TI×Int×Int×Int×Int×List Int×List Int×List (List Int)
abbrev Y53:=Int×ByteArray×Int×Int×Int×ByteArray×Int×Int×Int×List Int×List Int×TN
abbrev Y54:=Y5×List Int
abbrev Y55:=Int×(List TT)×List (List Int)×List Int
abbrev Y56:=Int×TN×TS×TI×Int×Int×Int×Int×List Int×List Int×List (List Int)
abbrev Y57:=Int×Int×Int×Int×Int×Int×Int×Int×Int×(List Y36)×TN×TS×TI
abbrev Y58:=Int×List Int×List (ByteArray×Bool)
abbrev Y59:=ByteArray×Bool×List Int
abbrev Y60:=Int×Int×Int×Int×Int×Int×Int×Int×Int×List Int×TN×TS×TI
abbrev Y61:=Y6⊕(Y10⊕Bool)
abbrev Y62:=Int×Int×Int×Int×Int×Int×Int×Int×Int×(List Y36)×TN×TI
abbrev Y63:=ByteArray×Int×Int×Int×ByteArray×Int×Int×Int×List Int×TN
abbrev Y64:=TN×Int×Int×List Int
abbrev Y65:=List Int×Int×Y5×Int
abbrev Y66:=Unit⊕(Int⊕Bool)
abbrev Y67:=(Option Y0)×Bool
abbrev Y68:=Int×Int×Int×Int×Int×Int×Int×Int×Int×TN×TS×TI
abbrev Y69:=(Int×TP)⊕(List Int)
abbrev Y70:=Y6⊕(Y6⊕(Y10⊕Y29))
abbrev Y71:=Y6⊕(Y10⊕(List Int))
abbrev Y72:=Int×List Int×Int×Int×Int×Int×List Int×TN×TS×TI
abbrev Y73:=Bool×Int×List Int×List Int
abbrev Y74:=Bool×Int×Int×Int×Int×TN×Int×Int×Int×Int×TS
abbrev Y75:=Bool×Int×List Int×List Y36
abbrev Y76:=Int×Int×Int×Int×Int×Int×Int×Int×Int×TN×TI
abbrev Y77:=TN×Int×Int×Int×List Int
abbrev Y78:=Bool×Bool×List Int×(Option Y0)×List Int×List Int
abbrev Y79:=Int×(Option Y0)×List Int×List Bool×Bool×List Int
abbrev Y80:=Int×Bool×(Option Y0)×List Int×List Bool×List Int
abbrev Y81:=Int×Bool×List Int×(Option Y0)×List Int×List Int
abbrev Y82:=List (List Bool)×List Bool
abbrev Y83:=Int×TP×List (Int×Bool)
abbrev Y84:=Int×(List TT)×List Int
abbrev Y85:=List Int×Int×Int×Int×Int×Int×List Zbb
abbrev Y86:=Int×TN×Int×Int×Int×List Int×List Int
abbrev Y87:=List Int×Bool
abbrev Y88:=Int×List Bool
abbrev Y89:=Int×List (List Int)
abbrev Y90:=Int×TP×List Int
set_option linter.unusedVariables false
def GT0:List Int:=[1,10,100,1000,10000,100000,1000000,10000000,100000000,1000000000,10000000000,100000000000,1000000000000,10000000000000,100000000000000,1000000000000000,10000000000000000,100000000000000000,1000000000000000000,10000000000000000000]
def BS0:ByteArray:=ByteArray.mk #[48,49,50,51,52,53,54,55,56,57,97,98,99,100,101,102,103,104,105,106,107,108,109,110,111,112,113,114,115,116,117,118,119,120,121,122]
def BS1:ByteArray:=ByteArray.mk #[48,48,48,49,48,50,48,51,48,52,48,53,48,54,48,55,48,56,48,57,49,48,49,49,49,50,49,51,49,52,49,53,49,54,49,55,49,56,49,57,50,48,50,49,50,50,50,51,50,52,50,53,50,54,50,55,50,56,50,57,51,48,51,49,51,50,51,51,51,52,51,53,51,54,51,55,51,56,51,57,52,48,52,49,52,50,52,51,52,52,52,53,52,54,52,55,52,56,52,57,53,48,53,49,53,50,53,51,53,52,53,53,53,54,53,55,53,56,53,57,54,48,54,49,54,50,54,51,54,52,54,53,54,54,54,55,54,56,54,57,55,48,55,49,55,50,55,51,55,52,55,53,55,54,55,55,55,56,55,57,56,48,56,49,56,50,56,51,56,52,56,53,56,54,56,55,56,56,56,57,57,48,57,49,57,50,57,51,57,52,57,53,57,54,57,55,57,56,57,57]
def BS2:ByteArray:=ByteArray.mk #[0,1,2,2,3,3,3,3,4,4,4,4,4,4,4,4,5,5,5,5,5,5,5,5,5,5,5,5,5,5,5,5,6,6,6,6,6,6,6,6,6,6,6,6,6,6,6,6,6,6,6,6,6,6,6,6,6,6,6,6,6,6,6,6,7,7,7,7,7,7,7,7,7,7,7,7,7,7,7,7,7,7,7,7,7,7,7,7,7,7,7,7,7,7,7,7,7,7,7,7,7,7,7,7,7,7,7,7,7,7,7,7,7,7,7,7,7,7,7,7,7,7,7,7,7,7,7,7,8,8,8,8,8,8,8,8,8,8,8,8,8,8,8,8,8,8,8,8,8,8,8,8,8,8,8,8,8,8,8,8,8,8,8,8,8,8,8,8,8,8,8,8,8,8,8,8,8,8,8,8,8,8,8,8,8,8,8,8,8,8,8,8,8,8,8,8,8,8,8,8,8,8,8,8,8,8,8,8,8,8,8,8,8,8,8,8,8,8,8,8,8,8,8,8,8,8,8,8,8,8,8,8,8,8,8,8,8,8,8,8,8,8,8,8,8,8,8,8,8,8,8,8,8,8,8,8]
def F18:Option Bool:=some true
def Z2a:Int->Option Int:=fun n3=>
 some n3
def F9 (n1:Int) (m2:Int):Option Int:=
 bif decide (m2=0) then none else
 (bif decide ((Int.tmod n1 m2) < 0) then
 some (.inl (IntKind.wrap .i64 ((Int.tmod n1 m2)+m2)))
 else
 some (.inl (Int.tmod n1 m2))).bind (Sum.elim Z2a some)
def F65 (n1:Int) (raw2:Int):Option Int:=
 (F9 n1 24).bind fun r3=>
 bif decide (r3 < 10) then
 (gI ([0,1,(-1),2,(-9223372036854775808),9223372036854775807,4294967296,(-2147483648),63,64]:List Int) r3).bind fun y4=>
 (gI ([0,1,(-1),2,(-9223372036854775808),9223372036854775807,4294967296,(-2147483648),63,64]:List Int) r3).bind fun y5=>
 some y5
 else
 bif decide (r3 < 22) then
 (F9 (IntKind.wrap .i64 (Int.tdiv n1 24)) 17).bind fun r6=>
 some (IntKind.wrap .i64 (r6 - 6))
 else
 some raw2
def ZwF:Bool->Option (Int×Bool):=fun x6=>
 bif x6 then
 some ((-1),true)
 else
 some (0,false)
def ZwG (op1:Int):Bool->Option (Int×Bool):=fun x5=>
 bif x5 then
 some (3,true)
 else
 (bif op1==30 then
 some (.inl true)
 else
 some (.inl (op1==31))).bind (Sum.elim ZwF some)
def ZwH (op1:Int):Bool->Option (Int×Bool):=fun x4=>
 bif x4 then
 some (2,true)
 else
 (bif op1==22 then
 some (.inl true)
 else
 some (.inl (op1==28))).bind (Sum.elim (ZwG op1) some)
def ZwI (op1:Int):Bool->Option (Int×Bool):=fun x3=>
 bif x3 then
 some (1,true)
 else
 (bif decide (op1>=4) then
 bif decide (op1<=19) then
 some (.inl true)
 else
 bif op1==23 then
 some (.inl true)
 else
 bif op1==27 then
 some (.inl true)
 else
 some (.inl (op1==29))
 else
 bif op1==23 then
 some (.inl true)
 else
 bif op1==27 then
 some (.inl true)
 else
 some (.inl (op1==29))).bind (Sum.elim (ZwH op1) some)
def ZwJ (op1:Int):Bool->Option (Int×Bool):=fun x2=>
 bif x2 then
 some (0,true)
 else
 (bif op1==20 then
 some (.inl true)
 else
 bif op1==21 then
 some (.inl true)
 else
 bif op1==24 then
 some (.inl true)
 else
 some (.inl (op1==25))).bind (Sum.elim (ZwI op1) some)
def F66 (op1:Int):Option (Int×Bool):=
 (bif op1==1 then
 some (.inl true)
 else
 bif op1==2 then
 some (.inl true)
 else
 bif op1==3 then
 some (.inl true)
 else
 some (.inl (op1==26))).bind (Sum.elim (ZwJ op1) some)
def Zmp (op1:Int):Bool->Option Int:=fun x2=>
 bif x2 then
 some 3
 else
 bif op1==27 then
 some 1000016
 else
 bif op1==30 then
 some 7
 else
 bif op1==31 then
 some 15
 else
 bif op1==25 then
 some 15
 else
 some (-1)
def Zu2 (op1:Int):Option Int:=
 bif op1==2 then
 some 5
 else
 bif op1==3 then
 some 255
 else
 (bif op1==23 then
 some (.inl true)
 else
 some (.inl (op1==28))).bind (Sum.elim (Zmp op1) some)
def Zkh:Bool->Option Bool:=fun x4=>
 some x4
def ZrF (op1:Int) (n2:Int):Option Bool:=
 bif op1==1 then
 some true
 else
 (Zu2 op1).bind fun r3=>
 bif decide (r3 < 0) then
 some (n2==0)
 else
 (bif decide (n2>=0) then
 bif decide (n2<=r3) then
 bif op1 != 27 then
 some (.inl true)
 else
 some (.inl (decide (n2 > 0)))
 else
 some (.inl false)
 else
 some (.inl false)).bind (Sum.elim Zkh some)
def ZfR (ok1:Bool) (n2:Int):Option Int:=
 bif ok1 then
 some n2
 else
 some 0
def Zp0 (k1:List Int):Int->Option (Int⊕Bool):=fun i3=>
 bif decide (i3 < (k1.length:Int)) then
 (gI k1 i3).bind fun y4=>
 bif y4 != 1 then
 (some false).map .inr
 else
 some (.inl (IntKind.wrap .i64 (i3+1)))
 else
 (some true).map .inr
def Zk9 (k1:List Int):Option Bool:=
 Zao (Zp0 k1) 0
def ZdO (k3:List Int):Bool->Option Int:=fun x8=>
 bif x8 then
 some 0
 else
 (gI k3 1).bind fun y13=>
 some y13
def ZcB:Int->Option Int:=fun x14=>
 some x14
def ZdP (n2:Int×Int×List Int):Bool->Option Int:=fun x21=>
 bif x21 then
 some 0
 else
 (ZfR (n2.2.1==0) 1).bind fun r25=>
 some (IntKind.wrap .i64 (r25+1))
def ZcC:Int->Option Int:=fun x27=>
 some x27
def ZcD:Int->Option Int:=fun x32=>
 some x32
def ZdQ:Int->Option Int:=fun x39=>
 some x39
def ZgP:Int->Option Int:=fun x46=>
 some x46
def ZbM (n2:Int×Int×List Int) (k3:List Int):Bool->Option Int:=fun x26=>
 bif x26 then
 ((gI k3 0).bind fun y28=>
 bif y28==2 then
 (gI k3 1).bind fun y29=>
 (ZfR (y29==1) 2).bind fun r30=>
 some (.inl r30)
 else
 (ZfR false 2).bind fun r31=>
 some (.inl r31)).bind (Sum.elim ZcC some)
 else
 bif n2.1==28 then
 ((gI k3 0).bind fun y33=>
 bif y33==2 then
 (gI k3 1).bind fun y34=>
 bif y34==1 then
 (gI k3 2).bind fun y35=>
 (ZfR (y35==1) 2).bind fun r36=>
 some (.inl r36)
 else
 (ZfR false 2).bind fun r37=>
 some (.inl r37)
 else
 (ZfR false 2).bind fun r38=>
 some (.inl r38)).bind (Sum.elim ZcD some)
 else
 bif n2.1==30 then
 (bif decide ((k3.length:Int)>=1) then
 bif decide ((k3.length:Int)<=7) then
 (gI k3 0).bind fun y40=>
 bif y40==2 then
 bif decide ((0:Int)<=1/\(1:Int)<=(k3.length:Int)/\(k3.length:Int)<=(k3.length:Int)) then
 (Zk9 (slI k3 1 (k3.length:Int))).bind fun r41=>
 (ZfR r41 2).bind fun r42=>
 some (.inl r42)
 else none
 else
 (ZfR false 2).bind fun r43=>
 some (.inl r43)
 else
 (ZfR false 2).bind fun r44=>
 some (.inl r44)
 else
 (ZfR false 2).bind fun r45=>
 some (.inl r45)).bind (Sum.elim ZdQ some)
 else
 bif n2.1==31 then
 (bif (Int.tmod (k3.length:Int) 2)==1 then
 bif decide ((IntKind.wrap .i64 (Int.tdiv (k3.length:Int) 2))>=1) then
 bif decide ((IntKind.wrap .i64 (Int.tdiv (k3.length:Int) 2))<=16) then
 (gI k3 0).bind fun y47=>
 bif y47==2 then
 bif decide ((0:Int)<=1/\(1:Int)<=IntKind.wrap .i64 ((IntKind.wrap .i64 (Int.tdiv (k3.length:Int) 2))+1)/\IntKind.wrap .i64 ((IntKind.wrap .i64 (Int.tdiv (k3.length:Int) 2))+1)<=(k3.length:Int)) then
 (Zk9 (slI k3 1 (IntKind.wrap .i64 ((IntKind.wrap .i64 (Int.tdiv (k3.length:Int) 2))+1)))).bind fun r48=>
 bif r48 then
 (gI k3 (IntKind.wrap .i64 ((IntKind.wrap .i64 (Int.tdiv (k3.length:Int) 2))+1))).bind fun y49=>
 bif y49==2 then
 bif decide ((0:Int)<=IntKind.wrap .i64 ((IntKind.wrap .i64 (Int.tdiv (k3.length:Int) 2))+2)/\(IntKind.wrap .i64 ((IntKind.wrap .i64 (Int.tdiv (k3.length:Int) 2))+2):Int)<=(k3.length:Int)/\(k3.length:Int)<=(k3.length:Int)) then
 (Zk9 (slI k3 (IntKind.wrap .i64 ((IntKind.wrap .i64 (Int.tdiv (k3.length:Int) 2))+2)) (k3.length:Int))).bind fun r50=>
 (ZfR r50 3).bind fun r51=>
 some (.inl r51)
 else none
 else
 (ZfR false 3).bind fun r52=>
 some (.inl r52)
 else
 (ZfR false 3).bind fun r53=>
 some (.inl r53)
 else none
 else
 (ZfR false 3).bind fun r54=>
 some (.inl r54)
 else
 (ZfR false 3).bind fun r55=>
 some (.inl r55)
 else
 (ZfR false 3).bind fun r56=>
 some (.inl r56)
 else
 (ZfR false 3).bind fun r57=>
 some (.inl r57)).bind (Sum.elim ZgP some)
 else
 (Zk9 k3).bind fun r58=>
 (ZfR r58 1).bind fun r59=>
 some r59
def ZaV (l1:TN) (n2:Int×Int×List Int) (k3:List Int):Bool->Option Int:=fun x5=>
 bif x5 then
 some 0
 else
 bif n2.1==3 then
 bif (Int.tmod n2.2.1 16)==0 then
 some 2
 else
 some 1
 else
 bif n2.1==26 then
 some 2
 else
 bif n2.1==22 then
 ((gI k3 0).bind fun y9=>
 bif y9 != 1 then
 some (.inl true)
 else
 (gI k3 1).bind fun y10=>
 (gI k3 2).bind fun y11=>
 bif y10 != y11 then
 some (.inl true)
 else
 (gI k3 1).bind fun y12=>
 some (.inl (y12==3))).bind (Sum.elim (ZdO k3) some)
 else
 bif n2.1==23 then
 ((gI k3 0).bind fun y15=>
 bif y15==2 then
 (gI k3 1).bind fun y16=>
 (ZfR (y16==1) 1).bind fun r17=>
 some (.inl r17)
 else
 (ZfR false 1).bind fun r18=>
 some (.inl r18)).bind (Sum.elim ZcB some)
 else
 bif n2.1==24 then
 (gI k3 0).bind fun y19=>
 (ZfR (y19==2) 1).bind fun r20=>
 some r20
 else
 bif n2.1==25 then
 ((gI k3 0).bind fun y22=>
 bif y22 != 3 then
 some (.inl true)
 else
 (gI n2.2.2 0).bind fun y23=>
 (gI l1 y23).bind fun y24=>
 some (.inl (decide (n2.2.1>=(IntKind.wrap .i64 (Int.tdiv (y24.2.2.length:Int) 2)))))).bind (Sum.elim (ZdP n2) some)
 else
 (bif n2.1==27 then
 some (.inl true)
 else
 some (.inl (n2.1==29))).bind (Sum.elim (ZbM n2 k3) some)
def Zcz (l1:TN) (n2:Int×Int×List Int) (k3:List Int):Option Int:=
 (F66 n2.1).bind fun r4=>
 (bif !r4.2 then
 some (.inl true)
 else
 bif decide (r4.1>=0) then
 bif (n2.2.2.length:Int) != r4.1 then
 some (.inl true)
 else
 (ZrF n2.1 n2.2.1).bind fun r6=>
 some (.inl (!r6))
 else
 (ZrF n2.1 n2.2.1).bind fun r7=>
 some (.inl (!r7))).bind (Sum.elim (ZaV l1 n2 k3) some)
def Zu3 (ok18:Bool) (j19:Int) (y24:Int):Y47->Option (Y73⊕(Y47⊕Y45)):=fun (x25,out26,k27)=>
 bif x25 then
 (some (.inl (false,out26,k27))).map .inr
 else
 (gI out26 y24).bind fun y30=>
 (gI out26 y24).bind fun y31=>
 bif decide (k27.length+List.length ([y31]:List Int)<=1000000) then
 some (.inl (ok18,IntKind.wrap .i64 (j19+1),out26,k27++([y31]:List Int)))
 else none
def Zp1 (l1:TN) (i5:Int):Y73->Option (Y73⊕(Y47⊕Y45)):=fun (ok18,j19,out20,k21)=>
 (gI l1 i5).bind fun y22=>
 bif decide (j19 < (y22.2.2.length:Int)) then
 (gI l1 i5).bind fun y23=>
 (gI y23.2.2 j19).bind fun y24=>
 (bif decide (y24 < 0) then
 some (.inl (true,out20,k21))
 else
 bif decide (y24>=i5) then
 some (.inl (true,out20,k21))
 else
 (gI out20 y24).bind fun y28=>
 (gI out20 y24).bind fun y29=>
 some (.inl (y29==0,out20,k21))).bind (Sum.elim (Zu3 ok18 j19 y24) some)
 else
 (some (.inl (ok18,out20,k21))).map .inr
def ZrG (l1:TN) (i5:Int):Y47->Option Y45:=fun (ok8,out9,k10)=>
 bif ok8 then
 (gI l1 i5).bind fun y32=>
 (Zcz l1 y32 k10).bind fun r33=>
 bif decide (out9.length+List.length ([r33]:List Int)<=1000000) then
 some (.inl (out9++([r33]:List Int)))
 else none
 else
 bif decide (out9.length+List.length ([0]:List Int)<=1000000) then
 some (.inl (out9++([0]:List Int)))
 else none
def Zp2 (i5:Int):(List Int)->Option Y12:=fun out7=>
 some (.inl (IntKind.wrap .i64 (i5+1),out7))
def Zu4 (l1:TN):Y3->Option Y12:=fun (i5,out6)=>
 bif decide (i5 < (l1.length:Int)) then
 ((Zao (Zp1 l1 i5) (true,0,out6,[])).bind (Sum.elim (ZrG l1 i5) some)).bind (Sum.elim (Zp2 i5) some)
 else
 (some out6).map .inr
def F76 (l1:TN):Option (List Int):=
 Zao (Zu4 l1) (0,[])
def ZwK (i8:Int):(List Int)->Option (Y3⊕Int):=fun all10=>
 some (.inl (IntKind.wrap .i64 (i8+1),all10))
def ZwL (l1:TN) (sort2:Int) (n3:Int) (r4:List Int):Y3->Option (Y3⊕Int):=fun (i8,all9)=>
 bif decide (i8 < (l1.length:Int)) then
 ((gI r4 i8).bind fun y11=>
 bif y11==sort2 then
 bif decide (all9.length+List.length ([i8]:List Int)<=1000000) then
 some (.inl (all9++([i8]:List Int)))
 else none
 else
 some (.inl all9)).bind (Sum.elim (ZwK i8) some)
 else
 ((F9 n3 (all9.length:Int)).bind fun r12=>
 (gI all9 (IntKind.wrap .i64 ((IntKind.wrap .i64 ((all9.length:Int) - 1)) - r12))).bind fun y13=>
 (gI all9 (IntKind.wrap .i64 ((IntKind.wrap .i64 ((all9.length:Int) - 1)) - r12))).bind fun y14=>
 some y14).map .inr
def F67 (l1:TN) (sort2:Int) (n3:Int):Option Int:=
 (F76 l1).bind fun r4=>
 Zao (ZwL l1 sort2 n3 r4) (0,[])
def ZwM:Bool->Option Int:=fun x2=>
 bif x2 then
 some 2
 else
 some 1
def F93 (op1:Int):Option Int:=
 (bif op1==27 then
 some (.inl true)
 else
 bif op1==28 then
 some (.inl true)
 else
 some (.inl (op1==29))).bind (Sum.elim ZwM some)
def Zu5:Bool->Option Int:=fun x3=>
 bif x3 then
 some 2
 else
 some 1
def F68 (op1:Int) (k2:Int):Option Int:=
 (bif k2==0 then
 (F93 op1).bind fun r4=>
 bif r4==2 then
 some (.inl true)
 else
 bif op1==23 then
 some (.inl true)
 else
 some (.inl (op1==24))
 else
 some (.inl false)).bind (Sum.elim Zu5 some)
def ZrH (a1:Int×Int×List Int) (b2:Int×Int×List Int):Int->Option (Int⊕Bool):=fun i5=>
 bif decide (i5 < (a1.2.2.length:Int)) then
 (gI a1.2.2 i5).bind fun y6=>
 (gI b2.2.2 i5).bind fun y7=>
 bif y6 != y7 then
 (some false).map .inr
 else
 some (.inl (IntKind.wrap .i64 (i5+1)))
 else
 (some true).map .inr
def Zu6 (a1:Int×Int×List Int) (b2:Int×Int×List Int):Bool->Option Bool:=fun x3=>
 bif x3 then
 some false
 else
 Zao (ZrH a1 b2) 0
def F86 (a1:Int×Int×List Int) (b2:Int×Int×List Int):Option Bool:=
 (bif a1.1 != b2.1 then
 some (.inl true)
 else
 bif a1.2.1 != b2.2.1 then
 some (.inl true)
 else
 some (.inl ((a1.2.2.length:Int) != (b2.2.2.length:Int)))).bind (Sum.elim (Zu6 a1 b2) some)
def ZwN (l1:TN) (n2:Int×Int×List Int):Int->Option (Int⊕Bool):=fun i4=>
 bif decide (i4 < (l1.length:Int)) then
 (gI l1 i4).bind fun y5=>
 (F86 y5 n2).bind fun r6=>
 bif r6 then
 (some true).map .inr
 else
 some (.inl (IntKind.wrap .i64 (i4+1)))
 else
 (some false).map .inr
def F70 (l1:TN) (n2:Int×Int×List Int):Option Bool:=
 Zao (ZwN l1 n2) 0
def F69 (x1:Int) (l2:List Int):Option Y43:=
 bif (l2.length:Int)==0 then
 some (0,x1,l2)
 else
 (gI l2 0).bind fun y3=>
 (gI l2 0).bind fun y4=>
 bif decide ((0:Int)<=1/\(1:Int)<=(l2.length:Int)/\(l2.length:Int)<=(l2.length:Int)) then
 some (y4,x1,slI l2 1 (l2.length:Int))
 else none
def ZrI (l1:List Int) (i5:Int):(Bool×TN×Int×Int×Int×List Int)->Option (Y77⊕Y39):=fun (x20,out21,x22,n23,n24,l25)=>
 bif x20 then
 (gI l1 i5).bind fun y28=>
 (F9 (IntKind.wrap .i64 (Int.tdiv y28 9)) 5).bind fun r29=>
 (gI ([23,27,28,29,24]:List Int) r29).bind fun y30=>
 (gI ([23,27,28,29,24]:List Int) r29).bind fun y31=>
 some (.inl (out21,x22,y31,n24,l25))
 else
 some (.inl (out21,x22,n23,n24,l25))
def ZrJ (l1:List Int) (i5:Int):(Bool×TN×Int×Int×List Int)->Option (Y64⊕Y39):=fun (x76,out77,n78,n79,l80)=>
 bif x76 then
 (gI l1 i5).bind fun y81=>
 (F9 (IntKind.wrap .i64 (Int.tdiv y81 5)) 2).bind fun r82=>
 some (.inl (out77,n78,r82,l80))
 else
 some (.inl (out77,n78,n79,l80))
def ZrK:Y64->Option Y39:=fun (out72,n73,n74,l75)=>
 (F70 out72 (n73,n74,l75)).bind fun r83=>
 bif !r83 then
 bif decide (out72.length+List.length ([(n73,n74,l75)]:TN)<=1000000) then
 some (.inl (out72++([(n73,n74,l75)]:TN)))
 else none
 else
 some (.inl out72)
def Zu7 (l1:List Int) (i5:Int):Y64->Option Y39:=fun (out66,n67,n68,l69)=>
 ((bif n67==23 then
 some (.inl (true,out66,n67,n68,l69))
 else
 some (.inl (n67==28,out66,n67,n68,l69))).bind (Sum.elim (ZrJ l1 i5) some)).bind (Sum.elim ZrK some)
def ZwO (l1:List Int) (i5:Int) (r42:Int×Bool):Y86->Option (Y86⊕Y39):=fun (j56,out57,x58,n59,n60,l61,l62)=>
 bif decide (j56 < r42.1) then
 (F68 n59 j56).bind fun r63=>
 (F69 x58 l61).bind fun r64=>
 (F67 out57 r63 r64.1).bind fun r65=>
 bif decide (l62.length+List.length ([r65]:List Int)<=1000000) then
 some (.inl (IntKind.wrap .i64 (j56+1),out57,r64.2.1,n59,n60,r64.2.2,l62++([r65]:List Int)))
 else none
 else
 ((bif n59==27 then
 (gI l1 i5).bind fun y70=>
 (F9 (IntKind.wrap .i64 (Int.tdiv y70 5)) 2).bind fun r71=>
 some (.inl (out57,n59,IntKind.wrap .i64 (1+r71),l62))
 else
 some (.inl (out57,n59,n60,l62))).bind (Sum.elim (Zu7 l1 i5) some)).map .inr
def Zu8 (l1:List Int) (i5:Int):Y77->Option Y39:=fun (out32,x33,n34,n35,l36)=>
 (F66 n34).bind fun r42=>
 Zao (ZwO l1 i5 r42) (0,out32,x33,n34,n35,l36,[])
def ZrL (l1:List Int) (i5:Int):Y77->Option Y39:=fun (out15,x16,n17,n18,l19)=>
 ((gI l1 i5).bind fun y37=>
 (F9 y37 11).bind fun r38=>
 bif r38==0 then
 (gI l1 i5).bind fun y39=>
 (gI l1 i5).bind fun y40=>
 (F65 (IntKind.wrap .i64 (Int.tdiv y39 11)) y40).bind fun r41=>
 some (.inl (out15,x16,1,r41,l19))
 else
 some (.inl (out15,x16,n17,n18,l19))).bind (Sum.elim (Zu8 l1 i5) some)
def Zu9 (i5:Int):TN->Option ((Int×TN)⊕TN):=fun out9=>
 some (.inl (IntKind.wrap .i64 (i5+1),out9))
def ZrM (l1:List Int) (values2:Bool) (i5:Int):(Bool×TN)->Option ((Int×TN)⊕TN):=fun (x7,out8)=>
 bif x7 then
 ((gI l1 i5).bind fun y10=>
 (gI l1 i5).bind fun y11=>
 (gI l1 i5).bind fun y12=>
 (gI l1 i5).bind fun y13=>
 (F9 y13 19).bind fun r14=>
 ((bif !values2 then
 (gI l1 i5).bind fun y26=>
 (F9 y26 9).bind fun r27=>
 some (.inl (decide (r27 > 5),out8,0,IntKind.wrap .i64 (4+r14),0,([IntKind.wrap .i64 (Int.tdiv y10 7),IntKind.wrap .i64 (Int.tdiv y11 101),IntKind.wrap .i64 (Int.tdiv y12 1009)]:List Int)))
 else
 some (.inl (false,out8,0,IntKind.wrap .i64 (4+r14),0,([IntKind.wrap .i64 (Int.tdiv y10 7),IntKind.wrap .i64 (Int.tdiv y11 101),IntKind.wrap .i64 (Int.tdiv y12 1009)]:List Int)))).bind (Sum.elim (ZrI l1 i5) some)).bind (Sum.elim (ZrL l1 i5) some)).bind (Sum.elim (Zu9 i5) some)
 else
 (some out8).map .inr
def ZwP (l1:List Int) (values2:Bool):(Int×TN)->Option ((Int×TN)⊕TN):=fun (i5,out6)=>
 (bif decide (i5 < (l1.length:Int)) then
 some (.inl (decide (i5 < 14),out6))
 else
 some (.inl (false,out6))).bind (Sum.elim (ZrM l1 values2 i5) some)
def F33 (l1:List Int) (values2:Bool):Option TN:=
 Zao (ZwP l1 values2) (0,([(2,0,[]),(2,1,[]),(26,0,[])]:TN))
def ZuA (sort2:Int) (i4:Int):Bool->Option (Int⊕Int):=fun v5=>
 bif v5==(sort2==1) then
 (some i4).map .inr
 else
 some (.inl (IntKind.wrap .i64 (i4 - 1)))
def ZwQ (l1:TN) (sort2:Int):Int->Option (Int⊕Int):=fun i4=>
 bif decide (i4>=0) then
 ((gI l1 i4).bind fun y6=>
 bif decide (y6.1>=1) then
 (gI l1 i4).bind fun y7=>
 bif decide (y7.1<=24) then
 some (.inl true)
 else
 (gI l1 i4).bind fun y8=>
 bif y8.1==25 then
 (gI l1 i4).bind fun y9=>
 some (.inl (y9.2.1 != 0))
 else
 some (.inl false)
 else
 (gI l1 i4).bind fun y10=>
 bif y10.1==25 then
 (gI l1 i4).bind fun y11=>
 some (.inl (y11.2.1 != 0))
 else
 some (.inl false)).bind (Sum.elim (ZuA sort2 i4) some)
 else
 (some 0).map .inr
def F34 (l1:TN) (sort2:Int):Option Int:=
 Zao (ZwQ l1 sort2) (IntKind.wrap .i64 ((l1.length:Int) - 1))
def F36 (n1:Int×Int×List Int):Option Bool:=
 some (decide (n1.1<=24))
def F35 (m1:Int) (d2:Int):Option (Int×Int):=
 (F9 d2 m1).bind fun r3=>
 bif decide (m1=0) then none else
 some (r3,IntKind.wrap .i64 (Int.tdiv (IntKind.wrap .i64 (d2 - r3)) m1))
def Z2b (i27:Int):(Int×Int×Int×Int×TN×Int×Int×Int×Int×TS)->Option (Y11⊕TT):=fun (l49,l50,l51,l52,s53,s54,s55,s56,s57,l58)=>
 some (.inl (IntKind.wrap .i64 (i27+1),l49,l50,l51,l52,s53,s54,s55,s56,s57,l58))
def Z0f (pairs2:List Int) (i27:Int):Y74->Option (Y11⊕TT):=fun (x38,l39,l40,l41,l42,s43,s44,s45,s46,s47,l48)=>
 bif x38 then
 ((gI pairs2 i27).bind fun y59=>
 (F35 (s43.length:Int) y59).bind fun r60=>
 (F35 (s43.length:Int) r60.2).bind fun r61=>
 (gI s43 r60.1).bind fun y62=>
 (gI s43 r61.1).bind fun y63=>
 (F36 y62).bind fun r64=>
 (F36 y63).bind fun r65=>
 bif r64==r65 then
 bif decide (l48.length+List.length ([(r60.1,r61.1,1,[],[])]:TS)<=1000000) then
 some (.inl (l39,l40,l41,l42,s43,s44,s45,s46,s47,l48++([(r60.1,r61.1,1,[],[])]:TS)))
 else none
 else
 some (.inl (l39,l40,l41,l42,s43,s44,s45,s46,s47,l48))).bind (Sum.elim (Z2b i27) some)
 else
 (some (s43,l48,[],s44,s45,s46,s47)).map .inr
def Z2c (pairs2:List Int):Y11->Option (Y11⊕TT):=fun (i27,l28,l29,l30,l31,s32,s33,s34,s35,s36,l37)=>
 (bif decide (i27 < (pairs2.length:Int)) then
 some (.inl (decide (i27 < 6),l28,l29,l30,l31,s32,s33,s34,s35,s36,l37))
 else
 some (.inl (false,l28,l29,l30,l31,s32,s33,s34,s35,s36,l37))).bind (Sum.elim (Z0f pairs2 i27) some)
def F7 (l1:List Int) (pairs2:List Int):Option TT:=
 (F33 l1 false).bind fun r3=>
 (F34 r3 1).bind fun r4=>
 (F34 r3 2).bind fun r5=>
 Zao (Z2c pairs2) (0,0,0,0,0,r3,r4,r5,0,0,[])
def ZwR:Bool->Option Bool:=fun x3=>
 some x3
def F77 (l1:TN) (i2:Int):Option Bool:=
 (bif decide (i2>=0) then
 some (.inl (decide (i2 < (l1.length:Int))))
 else
 some (.inl false)).bind (Sum.elim ZwR some)
def ZwS (l1:TN) (i4:Int):Int->Option (Int⊕(Int⊕Bool)):=fun k7=>
 bif decide (k7 < i4) then
 (gI l1 k7).bind fun y8=>
 (gI l1 i4).bind fun y9=>
 (F86 y8 y9).bind fun r10=>
 bif r10 then
 ((some false).map .inr).map .inr
 else
 some (.inl (IntKind.wrap .i64 (k7+1)))
 else
 (some (.inl (IntKind.wrap .i64 (i4+1)))).map .inr
def ZwT (l1:TN) (r2:List Int):Int->Option (Int⊕Bool):=fun i4=>
 bif decide (i4 < (l1.length:Int)) then
 (gI r2 i4).bind fun y5=>
 bif y5==0 then
 (some false).map .inr
 else
 Zao (ZwS l1 i4) 0
 else
 (some true).map .inr
def F78 (l1:TN):Option Bool:=
 (F76 l1).bind fun r2=>
 Zao (ZwT l1 r2) 0
def ZwU:Bool->Option Bool:=fun x3=>
 some x3
def F79 (l1:TN) (s2:Int×Int×Int×List Int×List Int):Option Bool:=
 ((F77 l1 s2.1).bind fun r4=>
 bif r4 then
 (F77 l1 s2.2.1).bind fun r5=>
 some (.inl r5)
 else
 some (.inl false)).bind (Sum.elim ZwU some)
def ZwV (t10:Int):Bool->Option (Int⊕Bool):=fun x12=>
 bif x12 then
 (some false).map .inr
 else
 some (.inl (IntKind.wrap .i64 (t10+1)))
def ZwW (s1:TT) (r2:List Int):Int->Option (Int⊕Bool):=fun t10=>
 bif decide (t10 < (s1.2.1.length:Int)) then
 (gI s1.2.1 t10).bind fun y11=>
 ((F79 s1.1 y11).bind fun r13=>
 bif !r13 then
 some (.inl true)
 else
 (gI r2 y11.1).bind fun y14=>
 (gI r2 y11.2.1).bind fun y15=>
 some (.inl (y14 != y15))).bind (Sum.elim (ZwV t10) some)
 else
 (some true).map .inr
def ZwX (s1:TT) (r2:List Int):Bool->Option Bool:=fun x3=>
 bif x3 then
 some false
 else
 Zao (ZwW s1 r2) 0
def F40 (s1:TT):Option Bool:=
 (F76 s1.1).bind fun r2=>
 (bif decide ((s1.1.length:Int) > 2000) then
 some (.inl true)
 else
 (F77 s1.1 s1.2.2.2.1).bind fun r4=>
 bif !r4 then
 some (.inl true)
 else
 (F77 s1.1 s1.2.2.2.2.1).bind fun r5=>
 bif !r5 then
 some (.inl true)
 else
 (gI r2 s1.2.2.2.1).bind fun y6=>
 bif y6 != 1 then
 some (.inl true)
 else
 (gI r2 s1.2.2.2.2.1).bind fun y7=>
 bif y7 != 2 then
 some (.inl true)
 else
 (F78 s1.1).bind fun r8=>
 some (.inl (!r8))).bind (Sum.elim (ZwX s1 r2) some)
def ZwY (i6:Int):Bool->Option (Int⊕Bool):=fun x9=>
 bif x9 then
 (some false).map .inr
 else
 some (.inl (IntKind.wrap .i64 (i6+1)))
def ZwZ (a1:Int×Int×List Int) (b2:Int×Int×List Int) (c3:List Int):Int->Option (Int⊕Bool):=fun i6=>
 bif decide (i6 < (a1.2.2.length:Int)) then
 (gI a1.2.2 i6).bind fun y7=>
 (gI b2.2.2 i6).bind fun y8=>
 (bif decide (y7 < 0) then
 some (.inl true)
 else
 bif decide (y8 < 0) then
 some (.inl true)
 else
 bif decide (y7>=(c3.length:Int)) then
 some (.inl true)
 else
 bif decide (y8>=(c3.length:Int)) then
 some (.inl true)
 else
 (gI c3 y7).bind fun y10=>
 (gI c3 y8).bind fun y11=>
 some (.inl (y10 != y11))).bind (Sum.elim (ZwY i6) some)
 else
 (some true).map .inr
def Zxa (a1:Int×Int×List Int) (b2:Int×Int×List Int) (c3:List Int):Bool->Option Bool:=fun x4=>
 bif x4 then
 some false
 else
 Zao (ZwZ a1 b2 c3) 0
def F95 (a1:Int×Int×List Int) (b2:Int×Int×List Int) (c3:List Int):Option Bool:=
 (bif a1.1 != b2.1 then
 some (.inl true)
 else
 bif a1.2.1 != b2.2.1 then
 some (.inl true)
 else
 some (.inl ((a1.2.2.length:Int) != (b2.2.2.length:Int)))).bind (Sum.elim (Zxa a1 b2 c3) some)
def Zxb (i14:Int):(List Int)->Option Y12:=fun c16=>
 some (.inl (IntKind.wrap .i64 (i14+1),c16))
def Zxc (y5:Int) (y7:Int) (y9:Int) (y11:Int):Y3->Option Y12:=fun (i14,c15)=>
 bif decide (i14 < (c15.length:Int)) then
 ((gI c15 i14).bind fun y17=>
 (gI c15 i14).bind fun y18=>
 bif y18==(if y11 > y9 then y11 else y9) then
 (gI c15 i14).bind fun y19=>
 (gI c15 i14).bind fun y20=>
 some (.inl (Zaq c15 i14 (if y7 < y5 then y7 else y5)))
 else
 some (.inl c15)).bind (Sum.elim (Zxb i14) some)
 else
 (some c15).map .inr
def F94 (a1:Int) (b2:Int) (c3:List Int):Option (List Int):=
 (gI c3 a1).bind fun y4=>
 (gI c3 a1).bind fun y5=>
 (gI c3 b2).bind fun y6=>
 (gI c3 b2).bind fun y7=>
 (gI c3 a1).bind fun y8=>
 (gI c3 a1).bind fun y9=>
 (gI c3 b2).bind fun y10=>
 (gI c3 b2).bind fun y11=>
 Zao (Zxc y5 y7 y9 y11) (0,c3)
def Zxd (y13:Int×Int) (y14:Int×Int):Y19->Option Y45:=fun (x15,c16)=>
 bif x15 then
 (F94 y13.1 y14.2 c16).bind fun r17=>
 some (.inl r17)
 else
 some (.inl c16)
def Zxe (i10:Int):(List Int)->Option Y12:=fun c12=>
 some (.inl (IntKind.wrap .i64 (i10+1),c12))
def Zxf (j26:Int) (more31:Bool) (i32:Int):Y19->Option (Y19⊕(Y31⊕(Y31⊕Y46))):=fun (x36,c37)=>
 bif x36 then
 (F94 i32 j26 c37).bind fun r45=>
 some (.inl (true,r45))
 else
 some (.inl (more31,c37))
def Zxg (i32:Int):Y19->Option (Y31⊕(Y31⊕Y46)):=fun (more34,c35)=>
 some (.inl (more34,IntKind.wrap .i64 (i32+1),c35))
def Zxh (l1:TN) (j26:Int):Y31->Option (Y31⊕(Y31⊕Y46)):=fun (more31,i32,c33)=>
 bif decide (i32 < j26) then
 (((gI c33 i32).bind fun y38=>
 (gI c33 i32).bind fun y39=>
 (gI c33 j26).bind fun y40=>
 (gI c33 j26).bind fun y41=>
 bif y39 != y41 then
 (gI l1 i32).bind fun y42=>
 (gI l1 j26).bind fun y43=>
 (F95 y42 y43 c33).bind fun r44=>
 some (.inl (r44,c33))
 else
 some (.inl (false,c33))).bind (Sum.elim (Zxf j26 more31 i32) some)).bind (Sum.elim (Zxg i32) some)
 else
 (some (.inl (more31,IntKind.wrap .i64 (j26+1),c33))).map .inr
def ZuB (l1:TN):Y31->Option (Y31⊕Y46):=fun (more25,j26,c27)=>
 bif decide (j26 < (l1.length:Int)) then
 Zao (Zxh l1 j26) (more25,0,c27)
 else
 (some (.inl (more25,c27))).map .inr
def Zxi (l1:TN):Y19->Option Y46:=fun (more20,c21)=>
 bif more20 then
 Zao (ZuB l1) (false,0,c21)
 else
 (some c21).map .inr
def Zxj (l1:TN) (pairs2:TP):Y3->Option Y12:=fun (i10,c11)=>
 bif decide (i10 < (pairs2.length:Int)) then
 ((gI pairs2 i10).bind fun y13=>
 (gI pairs2 i10).bind fun y14=>
 (bif decide (y13.1>=0) then
 bif decide (y14.2>=0) then
 bif decide (y13.1 < (l1.length:Int)) then
 some (.inl (decide (y14.2 < (l1.length:Int)),c11))
 else
 some (.inl (false,c11))
 else
 some (.inl (false,c11))
 else
 some (.inl (false,c11))).bind (Sum.elim (Zxd y13 y14) some)).bind (Sum.elim (Zxe i10) some)
 else
 (Zao (Zxi l1) (true,c11)).map .inr
def Zxk (l1:TN) (pairs2:TP):Y3->Option Y12:=fun (i6,c7)=>
 bif decide (i6 < (l1.length:Int)) then
 bif decide (c7.length+List.length ([i6]:List Int)<=1000000) then
 some (.inl (IntKind.wrap .i64 (i6+1),c7++([i6]:List Int)))
 else none
 else
 (Zao (Zxj l1 pairs2) (0,c7)).map .inr
def F71 (l1:TN) (pairs2:TP):Option (List Int):=
 Zao (Zxk l1 pairs2) (0,[])
def Zxl (s1:TT):(Int×TP)->Option Y69:=fun (t6,pairs7)=>
 bif decide (t6 < (s1.2.1.length:Int)) then
 (gI s1.2.1 t6).bind fun y8=>
 (gI s1.2.1 t6).bind fun y9=>
 bif decide (pairs7.length+List.length ([(y8.1,y9.2.1)]:TP)<=1000000) then
 some (.inl (IntKind.wrap .i64 (t6+1),pairs7++([(y8.1,y9.2.1)]:TP)))
 else none
 else
 ((F71 s1.1 pairs7).bind fun r10=>
 some r10).map .inr
def F37 (s1:TT):Option (List Int):=
 (F40 s1).bind fun r2=>
 bif !r2 then
 some []
 else
 Zao (Zxl s1) (0,[])
def Z5M (k17:Int):(List Int×List Int)->Option (Y27⊕Y45):=fun (out20,all21)=>
 some (.inl (IntKind.wrap .i64 (k17+1),out20,all21))
def Z5F (i6:Int):Y27->Option Y45:=fun (n23,out24,all25)=>
 (F9 n23 13).bind fun r27=>
 bif r27 != 12 then
 (F9 n23 (all25.length:Int)).bind fun r28=>
 (gI all25 r28).bind fun y29=>
 (gI all25 r28).bind fun y30=>
 (gI out24 i6).bind fun y31=>
 (gI out24 i6).bind fun y32=>
 some (.inl (Zaq out24 i6 y30))
 else
 some (.inl out24)
def Z5N (l2:List Int) (r3:List Int) (i6:Int):Y27->Option (Y27⊕Y45):=fun (k17,out18,all19)=>
 bif decide (k17 < (r3.length:Int)) then
 ((gI r3 k17).bind fun y22=>
 bif y22==i6 then
 bif decide (all19.length+List.length ([k17]:List Int)<=1000000) then
 some (.inl (out18,all19++([k17]:List Int)))
 else none
 else
 some (.inl (out18,all19))).bind (Sum.elim (Z5M k17) some)
 else
 ((bif decide (i6 < (l2.length:Int)) then
 (gI l2 i6).bind fun y26=>
 some (.inl (y26,out18,all19))
 else
 some (.inl (0,out18,all19))).bind (Sum.elim (Z5F i6) some)).map .inr
def Z5E (i6:Int):(List Int)->Option Y12:=fun out8=>
 some (.inl (IntKind.wrap .i64 (i6+1),out8))
def Z5G (l2:List Int) (r3:List Int):Y3->Option Y12:=fun (i6,out7)=>
 bif decide (i6 < (r3.length:Int)) then
 ((gI out7 i6).bind fun y9=>
 (gI out7 i6).bind fun y10=>
 (gI r3 i6).bind fun y11=>
 bif y11 != i6 then
 some (.inl (Zaq out7 i6 (-1)))
 else
 Zao (Z5N l2 r3 i6) (i6,Zaq out7 i6 (-1),[])).bind (Sum.elim (Z5E i6) some)
 else
 (some out7).map .inr
def F8 (s1:TT) (l2:List Int):Option (List Int):=
 (F37 s1).bind fun r3=>
 bif decide ((0:Int)<=(r3.length:Int)/\((r3.length:Int):Int)=(r3.length:Int)/\((r3.length:Int):Int)<=1000000) then
 Zao (Z5G l2 r3) (0,(List.replicate (Int.toNat (r3.length:Int)) 0:List Int))
 else none
def Z0g (i1:Int):Option ByteArray:=
 bif decide (i1 < 10) then
 bif decide ((0:Int)<=i1/\(i1:Int)<=IntKind.wrap .i64 (i1+1)/\IntKind.wrap .i64 (i1+1)<=(BS0.size:Int)) then
 some (slB BS0 i1 (IntKind.wrap .i64 (i1+1)))
 else none
 else
 bif decide ((0:Int)<=IntKind.wrap .i64 (i1 * 2)/\(IntKind.wrap .i64 (i1 * 2):Int)<=IntKind.wrap .i64 ((IntKind.wrap .i64 (i1 * 2))+2)/\IntKind.wrap .i64 ((IntKind.wrap .i64 (i1 * 2))+2)<=(BS1.size:Int)) then
 some (slB BS1 (IntKind.wrap .i64 (i1 * 2)) (IntKind.wrap .i64 ((IntKind.wrap .i64 (i1 * 2))+2)))
 else none
def Z0O (x1:Int):Option Int:=
 some (Int.fdiv (IntKind.wrap .i64 (x1 * 78913)) (2 ^ (min (Int.toNat 18) (IntKind.bits .i64))))
def Zp3:(Int×Int)->Option Int:=fun (x6,n7)=>
 (gB BS2 (IntKind.wrap .u8 x6)).bind fun b8=>
 some (IntKind.wrap .i64 (n7+(IntKind.wrap .i64 b8)))
def Zp4:(Int×Int)->Option Int:=fun (x4,n5)=>
 (bif decide (x4>=256) then
 some (.inl (Int.fdiv x4 (2 ^ (min (Int.toNat 8) (IntKind.bits .u64))),IntKind.wrap .i64 (n5+8)))
 else
 some (.inl (x4,n5))).bind (Sum.elim Zp3 some)
def Zp5:(Int×Int)->Option Int:=fun (x2,n3)=>
 (bif decide (x2>=65536) then
 some (.inl (Int.fdiv x2 (2 ^ (min (Int.toNat 16) (IntKind.bits .u64))),IntKind.wrap .i64 (n3+16)))
 else
 some (.inl (x2,n3))).bind (Sum.elim Zp4 some)
def Z0h (x1:Int):Option Int:=
 (bif decide (x1>=4294967296) then
 some (.inl (Int.fdiv x1 (2 ^ (min (Int.toNat 32) (IntKind.bits .u64))),32))
 else
 some (.inl (x1,0))).bind (Sum.elim Zp5 some)
def Z0P (b1:Bool):Option Int:=
 bif b1 then
 some 1
 else
 some 0
def Z0i (d1:Int):Option Int:=
 (Z0h d1).bind fun r2=>
 (Z0O r2).bind fun r3=>
 (gI GT0 r3).bind fun y4=>
 (Z0P (decide (d1>=y4))).bind fun r5=>
 some (IntKind.wrap .i64 (r3+r5))
def F47 (k1:Int):Option Int:=
 some k1
def ZsQ:Bool->Option (Int×Bool):=fun x7=>
 bif x7 then
 some (2,true)
 else
 some (0,false)
def ZsR (op1:Int):Bool->Option (Int×Bool):=fun x6=>
 bif x6 then
 some ((-1),true)
 else
 (bif decide (op1>=4) then
 some (.inl (decide (op1<=19)))
 else
 some (.inl false)).bind (Sum.elim ZsQ some)
def ZsS (op1:Int):Bool->Option (Int×Bool):=fun x5=>
 bif x5 then
 some (3,true)
 else
 (bif op1==30 then
 some (.inl true)
 else
 some (.inl (op1==31))).bind (Sum.elim (ZsR op1) some)
def ZsT (op1:Int):Bool->Option (Int×Bool):=fun x4=>
 bif x4 then
 some (2,true)
 else
 (bif op1==22 then
 some (.inl true)
 else
 some (.inl (op1==28))).bind (Sum.elim (ZsS op1) some)
def ZsU (op1:Int):Bool->Option (Int×Bool):=fun x3=>
 bif x3 then
 some (1,true)
 else
 (bif op1==23 then
 some (.inl true)
 else
 bif op1==27 then
 some (.inl true)
 else
 some (.inl (op1==29))).bind (Sum.elim (ZsT op1) some)
def ZsV (op1:Int):Bool->Option (Int×Bool):=fun x2=>
 bif x2 then
 some (0,true)
 else
 (bif op1==20 then
 some (.inl true)
 else
 bif op1==21 then
 some (.inl true)
 else
 bif op1==24 then
 some (.inl true)
 else
 some (.inl (op1==25))).bind (Sum.elim (ZsU op1) some)
def Z0j (op1:Int):Option (Int×Bool):=
 (bif op1==1 then
 some (.inl true)
 else
 bif op1==2 then
 some (.inl true)
 else
 bif op1==3 then
 some (.inl true)
 else
 some (.inl (op1==26))).bind (Sum.elim (ZsV op1) some)
def ZsW (kids1:Int):Option Int:=
 some (IntKind.wrap .i64 (Int.tdiv (IntKind.wrap .i64 (kids1 - 1)) 2))
def ZsX (s1:List Int) (ZjW:List Int):Int->Option (Int⊕Bool):=fun i4=>
 bif decide (i4 < (s1.length:Int)) then
 (gI s1 i4).bind fun y5=>
 (gI ZjW i4).bind fun y6=>
 bif y5 != y6 then
 (some false).map .inr
 else
 some (.inl (IntKind.wrap .i64 (i4+1)))
 else
 (some true).map .inr
def ZvX (s1:List Int) (ZjW:List Int):Option Bool:=
 Zao (ZsX s1 ZjW) 0
def ZsY (kids1:Int):Y3->Option Y12:=fun (i5,l6)=>
 bif decide (i5 < kids1) then
 bif decide (l6.length+List.length ([1]:List Int)<=1000000) then
 some (.inl (IntKind.wrap .i64 (i5+1),l6++([1]:List Int)))
 else none
 else
 ((ZsW kids1).bind fun r7=>
 (gI l6 0).bind fun y8=>
 (gI l6 0).bind fun y9=>
 (gI (Zaq l6 0 2) (IntKind.wrap .i64 (r7+1))).bind fun y10=>
 (gI (Zaq l6 0 2) (IntKind.wrap .i64 (r7+1))).bind fun y11=>
 some (Zaq (Zaq l6 0 2) (IntKind.wrap .i64 (r7+1)) 2)).map .inr
def Zxm (kids1:Int):Option (List Int):=
 Zao (ZsY kids1) (0,[])
def Ze2 (op1:Int):Bool->Option (List Int):=fun x2=>
 bif x2 then
 some ([2,1]:List Int)
 else
 bif op1==28 then
 some ([2,1,1]:List Int)
 else
 bif op1==24 then
 some ([2]:List Int)
 else
 bif op1==25 then
 some ([3]:List Int)
 else
 some ([1,1]:List Int)
def Zp6 (op1:Int):Option (List Int):=
 bif op1==22 then
 some ([1,1,1]:List Int)
 else
 (bif op1==23 then
 some (.inl true)
 else
 bif op1==27 then
 some (.inl true)
 else
 some (.inl (op1==29))).bind (Sum.elim (Ze2 op1) some)
def ZhO:Bool->Option Bool:=fun x5=>
 some x5
def ZsZ (s2:List Int):Int->Option (Int⊕Bool):=fun x12=>
 bif decide (x12 < (List.length (slI s2 1 (s2.length:Int)):Int)) then
 (gI (slI s2 1 (s2.length:Int)) x12).bind fun y13=>
 bif y13 != 1 then
 (some false).map .inr
 else
 some (.inl (IntKind.wrap .i64 (x12+1)))
 else
 (some true).map .inr
def ZhP (s2:List Int):Bool->Option Bool:=fun x9=>
 bif x9 then
 some false
 else
 bif decide ((0:Int)<=1/\(1:Int)<=(s2.length:Int)/\(s2.length:Int)<=(s2.length:Int)) then
 Zao (ZsZ s2) 0
 else none
def ZdR:Bool->Option Bool:=fun x16=>
 some x16
def Ze3 (n1:Int×Int×List Int) (s2:List Int):Bool->Option Bool:=fun x14=>
 bif x14 then
 ((gI s2 0).bind fun y17=>
 bif y17==1 then
 (gI s2 2).bind fun y18=>
 some (.inl (y18==2))
 else
 some (.inl false)).bind (Sum.elim ZdR some)
 else
 (Zp6 n1.1).bind fun r19=>
 (ZvX s2 r19).bind fun r20=>
 some r20
def ZbC (n1:Int×Int×List Int) (s2:List Int):Bool->Option Bool:=fun x4=>
 bif x4 then
 some false
 else
 bif n1.1==31 then
 (bif decide ((s2.length:Int)>=3) then
 bif (Int.tmod (s2.length:Int) 2)==1 then
 (ZsW (s2.length:Int)).bind fun r6=>
 bif decide (r6<=16) then
 (Zxm (s2.length:Int)).bind fun r7=>
 (ZvX s2 r7).bind fun r8=>
 some (.inl r8)
 else
 some (.inl false)
 else
 some (.inl false)
 else
 some (.inl false)).bind (Sum.elim ZhO some)
 else
 bif n1.1==30 then
 (bif decide ((s2.length:Int) < 1) then
 some (.inl true)
 else
 bif decide ((s2.length:Int) > 7) then
 some (.inl true)
 else
 (gI s2 0).bind fun y10=>
 some (.inl (y10 != 2))).bind (Sum.elim (ZhP s2) some)
 else
 (bif n1.1==22 then
 (gI s2 1).bind fun y15=>
 some (.inl (y15==2))
 else
 some (.inl false)).bind (Sum.elim (Ze3 n1 s2) some)
def ZgQ (n1:Int×Int×List Int) (s2:List Int):Option Bool:=
 (Z0j n1.1).bind fun r3=>
 (bif !r3.2 then
 some (.inl true)
 else
 bif decide (r3.1>=0) then
 some (.inl (r3.1 != (s2.length:Int)))
 else
 some (.inl false)).bind (Sum.elim (ZbC n1 s2) some)
def Zta:Bool->Option (Int⊕Bool):=fun x5=>
 (some x5).map .inr
def Zp7 (l1:TN) (n2:Int×Int×List Int):Bool->Option (Int⊕Bool):=fun x4=>
 bif x4 then
 some (.inl 3)
 else
 bif n2.1==27 then
 (bif decide (n2.2.1>=1) then
 some (.inl (decide (n2.2.1<=1000016)))
 else
 some (.inl false)).bind (Sum.elim Zta some)
 else
 bif n2.1==30 then
 some (.inl 7)
 else
 bif n2.1==31 then
 some (.inl 15)
 else
 bif n2.1==25 then
 (gI n2.2.2 0).bind fun y6=>
 (gI l1 y6).bind fun y7=>
 (ZsW (y7.2.2.length:Int)).bind fun r8=>
 some (.inl (IntKind.wrap .i64 (r8 - 1)))
 else
 some (.inl 0)
def ZgR:Bool->Option Bool:=fun x9=>
 some x9
def Zp8 (n2:Int×Int×List Int):Int->Option Bool:=fun most3=>
 (bif decide (n2.2.1>=0) then
 some (.inl (decide (n2.2.1<=most3)))
 else
 some (.inl false)).bind (Sum.elim ZgR some)
def ZvY (l1:TN) (n2:Int×Int×List Int):Option Bool:=
 (bif n2.1==1 then
 (some true).map .inr
 else
 bif n2.1==2 then
 some (.inl 5)
 else
 bif n2.1==3 then
 some (.inl 255)
 else
 (bif n2.1==23 then
 some (.inl true)
 else
 some (.inl (n2.1==28))).bind (Sum.elim (Zp7 l1 n2) some)).bind (Sum.elim (Zp8 n2) some)
def Ztb (known3:List Int) (x8:Int) (y10:Int):Y19->Option (Y3⊕Int):=fun (x11,s12)=>
 bif x11 then
 (some 0).map .inr
 else
 (gI known3 y10).bind fun y14=>
 bif decide (s12.length+List.length ([y14]:List Int)<=1000000) then
 some (.inl (IntKind.wrap .i64 (x8+1),s12++([y14]:List Int)))
 else none
def ZcE (y4:Int×Int×List Int):Y19->Option (Unit⊕Int):=fun (x19,s20)=>
 bif x19 then
 (some 2).map .inr
 else
 bif y4.1==22 then
 (gI s20 1).bind fun y21=>
 (gI s20 1).bind fun y22=>
 (some y22).map .inr
 else
 bif y4.1==3 then
 bif (Int.tmod y4.2.1 16)==0 then
 (some 2).map .inr
 else
 some (.inl ())
 else
 bif y4.1==25 then
 bif y4.2.1==0 then
 (some 2).map .inr
 else
 some (.inl ())
 else
 some (.inl ())
def Zdb:Unit->Option Int:=fun _=>
 some 1
def Zbt (y4:Int×Int×List Int):Y19->Option Int:=fun (x15,s16)=>
 bif x15 then
 some 0
 else
 (bif y4.1==31 then
 (some 3).map .inr
 else
 (bif y4.1==26 then
 some (.inl (true,s16))
 else
 bif y4.1==27 then
 some (.inl (true,s16))
 else
 bif y4.1==28 then
 some (.inl (true,s16))
 else
 bif y4.1==29 then
 some (.inl (true,s16))
 else
 some (.inl (y4.1==30,s16))).bind (Sum.elim (ZcE y4) some)).bind (Sum.elim Zdb some)
def Ztc (l1:TN) (i2:Int) (known3:List Int) (y4:Int×Int×List Int):Y3->Option (Y3⊕Int):=fun (x8,s9)=>
 bif decide (x8 < (y4.2.2.length:Int)) then
 (gI y4.2.2 x8).bind fun y10=>
 (bif decide (y10 < 0) then
 some (.inl (true,s9))
 else
 bif decide (y10>=i2) then
 some (.inl (true,s9))
 else
 (gI known3 y10).bind fun y13=>
 some (.inl (y13==0,s9))).bind (Sum.elim (Ztb known3 x8 y10) some)
 else
 (((ZgQ y4 s9).bind fun r17=>
 bif !r17 then
 some (.inl (true,s9))
 else
 (ZvY l1 y4).bind fun r18=>
 some (.inl (!r18,s9))).bind (Sum.elim (Zbt y4) some)).map .inr
def Z0k (l1:TN) (i2:Int) (known3:List Int):Option Int:=
 (gI l1 i2).bind fun y4=>
 Zao (Ztc l1 i2 known3 y4) (0,[])
def Ztd (l1:TN):Y3->Option Y12:=fun (x4,s5)=>
 bif decide (x4 < (l1.length:Int)) then
 (Z0k l1 x4 s5).bind fun r6=>
 (gI s5 x4).bind fun y7=>
 (gI s5 x4).bind fun y8=>
 some (.inl (IntKind.wrap .i64 (x4+1),Zaq s5 x4 r6))
 else
 (some s5).map .inr
def Z0l (l1:TN):Option (List Int):=
 bif decide ((0:Int)<=(l1.length:Int)/\((l1.length:Int):Int)=(l1.length:Int)/\((l1.length:Int):Int)<=1000000) then
 Zao (Ztd l1) (0,(List.replicate (Int.toNat (l1.length:Int)) 0:List Int))
 else none
def Zte (l1:TN) (i2:Int):Bool->Option Int:=fun x3=>
 bif x3 then
 some 0
 else
 bif decide ((0:Int)<=0/\(0:Int)<=IntKind.wrap .i64 (i2+1)/\IntKind.wrap .i64 (i2+1)<=(l1.length:Int)) then
 (Z0l (slI l1 0 (IntKind.wrap .i64 (i2+1)))).bind fun r4=>
 (gI r4 i2).bind fun y5=>
 some y5
 else none
def Z0m (l1:TN) (i2:Int):Option Int:=
 (bif decide (i2 < 0) then
 some (.inl true)
 else
 some (.inl (decide (i2>=(l1.length:Int))))).bind (Sum.elim (Zte l1 i2) some)
def Zp9:Y43->Option (List Int):=fun (nd48,x49,a50)=>
 bif decide (nd48 > 0) then
 (gI a50 0).bind fun y57=>
 (gI a50 0).bind fun y58=>
 some (Zaq a50 0 (IntKind.wrap .u8 (IntKind.wrap .u32 (48+x49))))
 else
 some a50
def ZpA:Y43->Option (List Int):=fun (nd33,x34,a35)=>
 (bif decide (nd33>=2) then
 (gB BS1 (IntKind.wrap .u32 ((IntKind.wrap .u32 ((Int.tmod x34 100) * 2))+1))).bind fun b51=>
 (gB BS1 (IntKind.wrap .u32 ((Int.tmod x34 100) * 2))).bind fun b52=>
 (gI a35 (IntKind.wrap .i64 (nd33 - 1))).bind fun y53=>
 (gI a35 (IntKind.wrap .i64 (nd33 - 1))).bind fun y54=>
 (gI (Zaq a35 (IntKind.wrap .i64 (nd33 - 1)) b51) (IntKind.wrap .i64 (nd33 - 2))).bind fun y55=>
 (gI (Zaq a35 (IntKind.wrap .i64 (nd33 - 1)) b51) (IntKind.wrap .i64 (nd33 - 2))).bind fun y56=>
 some (.inl (IntKind.wrap .i64 (nd33 - 2),IntKind.wrap .u32 (Int.tdiv x34 100),Zaq (Zaq a35 (IntKind.wrap .i64 (nd33 - 1)) b51) (IntKind.wrap .i64 (nd33 - 2)) b52))
 else
 some (.inl (nd33,x34,a35))).bind (Sum.elim Zp9 some)
def ZhQ:Y43->Option (Y43⊕(List Int)):=fun (u6,nd7,a8)=>
 bif decide (nd7>=8) then
 (gB BS1 (IntKind.wrap .u32 ((IntKind.wrap .u32 ((Int.tmod (Int.tmod (IntKind.wrap .u32 (Int.tmod u6 100000000)) 10000) 100) * 2))+1))).bind fun b9=>
 (gB BS1 (IntKind.wrap .u32 ((Int.tmod (Int.tmod (IntKind.wrap .u32 (Int.tmod u6 100000000)) 10000) 100) * 2))).bind fun b10=>
 (gI a8 (IntKind.wrap .i64 (nd7 - 1))).bind fun y11=>
 (gI a8 (IntKind.wrap .i64 (nd7 - 1))).bind fun y12=>
 (gI (Zaq a8 (IntKind.wrap .i64 (nd7 - 1)) b9) (IntKind.wrap .i64 (nd7 - 2))).bind fun y13=>
 (gI (Zaq a8 (IntKind.wrap .i64 (nd7 - 1)) b9) (IntKind.wrap .i64 (nd7 - 2))).bind fun y14=>
 (gB BS1 (IntKind.wrap .u32 ((IntKind.wrap .u32 ((IntKind.wrap .u32 (Int.tdiv (Int.tmod (IntKind.wrap .u32 (Int.tmod u6 100000000)) 10000) 100)) * 2))+1))).bind fun b15=>
 (gB BS1 (IntKind.wrap .u32 ((IntKind.wrap .u32 (Int.tdiv (Int.tmod (IntKind.wrap .u32 (Int.tmod u6 100000000)) 10000) 100)) * 2))).bind fun b16=>
 (gI (Zaq (Zaq a8 (IntKind.wrap .i64 (nd7 - 1)) b9) (IntKind.wrap .i64 (nd7 - 2)) b10) (IntKind.wrap .i64 (nd7 - 3))).bind fun y17=>
 (gI (Zaq (Zaq a8 (IntKind.wrap .i64 (nd7 - 1)) b9) (IntKind.wrap .i64 (nd7 - 2)) b10) (IntKind.wrap .i64 (nd7 - 3))).bind fun y18=>
 (gI (Zaq (Zaq (Zaq a8 (IntKind.wrap .i64 (nd7 - 1)) b9) (IntKind.wrap .i64 (nd7 - 2)) b10) (IntKind.wrap .i64 (nd7 - 3)) b15) (IntKind.wrap .i64 (nd7 - 4))).bind fun y19=>
 (gI (Zaq (Zaq (Zaq a8 (IntKind.wrap .i64 (nd7 - 1)) b9) (IntKind.wrap .i64 (nd7 - 2)) b10) (IntKind.wrap .i64 (nd7 - 3)) b15) (IntKind.wrap .i64 (nd7 - 4))).bind fun y20=>
 (gB BS1 (IntKind.wrap .u32 ((IntKind.wrap .u32 ((Int.tmod (IntKind.wrap .u32 (Int.tdiv (IntKind.wrap .u32 (Int.tmod u6 100000000)) 10000)) 100) * 2))+1))).bind fun b21=>
 (gB BS1 (IntKind.wrap .u32 ((Int.tmod (IntKind.wrap .u32 (Int.tdiv (IntKind.wrap .u32 (Int.tmod u6 100000000)) 10000)) 100) * 2))).bind fun b22=>
 (gI (Zaq (Zaq (Zaq (Zaq a8 (IntKind.wrap .i64 (nd7 - 1)) b9) (IntKind.wrap .i64 (nd7 - 2)) b10) (IntKind.wrap .i64 (nd7 - 3)) b15) (IntKind.wrap .i64 (nd7 - 4)) b16) (IntKind.wrap .i64 (nd7 - 5))).bind fun y23=>
 (gI (Zaq (Zaq (Zaq (Zaq a8 (IntKind.wrap .i64 (nd7 - 1)) b9) (IntKind.wrap .i64 (nd7 - 2)) b10) (IntKind.wrap .i64 (nd7 - 3)) b15) (IntKind.wrap .i64 (nd7 - 4)) b16) (IntKind.wrap .i64 (nd7 - 5))).bind fun y24=>
 (gI (Zaq (Zaq (Zaq (Zaq (Zaq a8 (IntKind.wrap .i64 (nd7 - 1)) b9) (IntKind.wrap .i64 (nd7 - 2)) b10) (IntKind.wrap .i64 (nd7 - 3)) b15) (IntKind.wrap .i64 (nd7 - 4)) b16) (IntKind.wrap .i64 (nd7 - 5)) b21) (IntKind.wrap .i64 (nd7 - 6))).bind fun y25=>
 (gI (Zaq (Zaq (Zaq (Zaq (Zaq a8 (IntKind.wrap .i64 (nd7 - 1)) b9) (IntKind.wrap .i64 (nd7 - 2)) b10) (IntKind.wrap .i64 (nd7 - 3)) b15) (IntKind.wrap .i64 (nd7 - 4)) b16) (IntKind.wrap .i64 (nd7 - 5)) b21) (IntKind.wrap .i64 (nd7 - 6))).bind fun y26=>
 (gB BS1 (IntKind.wrap .u32 ((IntKind.wrap .u32 ((IntKind.wrap .u32 (Int.tdiv (IntKind.wrap .u32 (Int.tdiv (IntKind.wrap .u32 (Int.tmod u6 100000000)) 10000)) 100)) * 2))+1))).bind fun b27=>
 (gB BS1 (IntKind.wrap .u32 ((IntKind.wrap .u32 (Int.tdiv (IntKind.wrap .u32 (Int.tdiv (IntKind.wrap .u32 (Int.tmod u6 100000000)) 10000)) 100)) * 2))).bind fun b28=>
 (gI (Zaq (Zaq (Zaq (Zaq (Zaq (Zaq a8 (IntKind.wrap .i64 (nd7 - 1)) b9) (IntKind.wrap .i64 (nd7 - 2)) b10) (IntKind.wrap .i64 (nd7 - 3)) b15) (IntKind.wrap .i64 (nd7 - 4)) b16) (IntKind.wrap .i64 (nd7 - 5)) b21) (IntKind.wrap .i64 (nd7 - 6)) b22) (IntKind.wrap .i64 (nd7 - 7))).bind fun y29=>
 (gI (Zaq (Zaq (Zaq (Zaq (Zaq (Zaq a8 (IntKind.wrap .i64 (nd7 - 1)) b9) (IntKind.wrap .i64 (nd7 - 2)) b10) (IntKind.wrap .i64 (nd7 - 3)) b15) (IntKind.wrap .i64 (nd7 - 4)) b16) (IntKind.wrap .i64 (nd7 - 5)) b21) (IntKind.wrap .i64 (nd7 - 6)) b22) (IntKind.wrap .i64 (nd7 - 7))).bind fun y30=>
 (gI (Zaq (Zaq (Zaq (Zaq (Zaq (Zaq (Zaq a8 (IntKind.wrap .i64 (nd7 - 1)) b9) (IntKind.wrap .i64 (nd7 - 2)) b10) (IntKind.wrap .i64 (nd7 - 3)) b15) (IntKind.wrap .i64 (nd7 - 4)) b16) (IntKind.wrap .i64 (nd7 - 5)) b21) (IntKind.wrap .i64 (nd7 - 6)) b22) (IntKind.wrap .i64 (nd7 - 7)) b27) (IntKind.wrap .i64 (nd7 - 8))).bind fun y31=>
 (gI (Zaq (Zaq (Zaq (Zaq (Zaq (Zaq (Zaq a8 (IntKind.wrap .i64 (nd7 - 1)) b9) (IntKind.wrap .i64 (nd7 - 2)) b10) (IntKind.wrap .i64 (nd7 - 3)) b15) (IntKind.wrap .i64 (nd7 - 4)) b16) (IntKind.wrap .i64 (nd7 - 5)) b21) (IntKind.wrap .i64 (nd7 - 6)) b22) (IntKind.wrap .i64 (nd7 - 7)) b27) (IntKind.wrap .i64 (nd7 - 8))).bind fun y32=>
 some (.inl (IntKind.wrap .u64 (Int.tdiv u6 100000000),IntKind.wrap .i64 (nd7 - 8),Zaq (Zaq (Zaq (Zaq (Zaq (Zaq (Zaq (Zaq a8 (IntKind.wrap .i64 (nd7 - 1)) b9) (IntKind.wrap .i64 (nd7 - 2)) b10) (IntKind.wrap .i64 (nd7 - 3)) b15) (IntKind.wrap .i64 (nd7 - 4)) b16) (IntKind.wrap .i64 (nd7 - 5)) b21) (IntKind.wrap .i64 (nd7 - 6)) b22) (IntKind.wrap .i64 (nd7 - 7)) b27) (IntKind.wrap .i64 (nd7 - 8)) b28))
 else
 ((bif decide (nd7>=4) then
 (gB BS1 (IntKind.wrap .u32 ((IntKind.wrap .u32 ((Int.tmod (Int.tmod (IntKind.wrap .u32 u6) 10000) 100) * 2))+1))).bind fun b36=>
 (gB BS1 (IntKind.wrap .u32 ((Int.tmod (Int.tmod (IntKind.wrap .u32 u6) 10000) 100) * 2))).bind fun b37=>
 (gI a8 (IntKind.wrap .i64 (nd7 - 1))).bind fun y38=>
 (gI a8 (IntKind.wrap .i64 (nd7 - 1))).bind fun y39=>
 (gI (Zaq a8 (IntKind.wrap .i64 (nd7 - 1)) b36) (IntKind.wrap .i64 (nd7 - 2))).bind fun y40=>
 (gI (Zaq a8 (IntKind.wrap .i64 (nd7 - 1)) b36) (IntKind.wrap .i64 (nd7 - 2))).bind fun y41=>
 (gB BS1 (IntKind.wrap .u32 ((IntKind.wrap .u32 ((IntKind.wrap .u32 (Int.tdiv (Int.tmod (IntKind.wrap .u32 u6) 10000) 100)) * 2))+1))).bind fun b42=>
 (gB BS1 (IntKind.wrap .u32 ((IntKind.wrap .u32 (Int.tdiv (Int.tmod (IntKind.wrap .u32 u6) 10000) 100)) * 2))).bind fun b43=>
 (gI (Zaq (Zaq a8 (IntKind.wrap .i64 (nd7 - 1)) b36) (IntKind.wrap .i64 (nd7 - 2)) b37) (IntKind.wrap .i64 (nd7 - 3))).bind fun y44=>
 (gI (Zaq (Zaq a8 (IntKind.wrap .i64 (nd7 - 1)) b36) (IntKind.wrap .i64 (nd7 - 2)) b37) (IntKind.wrap .i64 (nd7 - 3))).bind fun y45=>
 (gI (Zaq (Zaq (Zaq a8 (IntKind.wrap .i64 (nd7 - 1)) b36) (IntKind.wrap .i64 (nd7 - 2)) b37) (IntKind.wrap .i64 (nd7 - 3)) b42) (IntKind.wrap .i64 (nd7 - 4))).bind fun y46=>
 (gI (Zaq (Zaq (Zaq a8 (IntKind.wrap .i64 (nd7 - 1)) b36) (IntKind.wrap .i64 (nd7 - 2)) b37) (IntKind.wrap .i64 (nd7 - 3)) b42) (IntKind.wrap .i64 (nd7 - 4))).bind fun y47=>
 some (.inl (IntKind.wrap .i64 (nd7 - 4),IntKind.wrap .u32 (Int.tdiv (IntKind.wrap .u32 u6) 10000),Zaq (Zaq (Zaq (Zaq a8 (IntKind.wrap .i64 (nd7 - 1)) b36) (IntKind.wrap .i64 (nd7 - 2)) b37) (IntKind.wrap .i64 (nd7 - 3)) b42) (IntKind.wrap .i64 (nd7 - 4)) b43))
 else
 some (.inl (nd7,IntKind.wrap .u32 u6,a8))).bind (Sum.elim ZpA some)).map .inr
def Z0n (u1:Int) (a2:List Int):Option (List Int):=
 Zao ZhQ (u1,(a2.length:Int),a2)
def Z0o (i1:Int) (base2:Int) (dst3:List Int):Option (List Int):=
 bif base2==10 then
 bif decide (i1 < 100) then
 (Z0g (IntKind.wrap .i64 i1)).bind fun r4=>
 bif decide (dst3.length+List.length (toB r4)<=1000000) then
 some (dst3++(toB r4))
 else none
 else
 (Z0i i1).bind fun r5=>
 bif decide ((0:Int)<=r5/\r5<=(24:Int)) then
 (Z0n i1 (slI (List.replicate 24 0:List Int) 0 r5)).bind fun r6=>
 bif decide (r5=r5) then
 bif decide (dst3.length+r6.length<=1000000) then
 some (dst3++r6)
 else none
 else none
 else none
 else
 none
def Ztf (base2:Int):Y3->Option (List Int):=fun (u4,dst5)=>
 (Z0o u4 base2 dst5).bind fun r6=>
 some r6
def Z0Q (i1:Int) (base2:Int) (dst3:List Int):Option (List Int):=
 (bif decide (i1 < 0) then
 bif decide (dst3.length+List.length ([45]:List Int)<=1000000) then
 some (.inl (IntKind.wrap .u64 (0 - (IntKind.wrap .u64 i1)),dst3++([45]:List Int)))
 else none
 else
 some (.inl (IntKind.wrap .u64 i1,dst3))).bind (Sum.elim (Ztf base2) some)
def F85 (i1:Int) (base2:Int) (dst3:List Int):Option (List Int):=
 (Z0Q i1 base2 dst3).bind fun r4=>
 some r4
def Zmq (n1:Int×Int×List Int):Y3->Option (Y3⊕ByteArray):=fun (x6,b7)=>
 bif decide (x6 < (n1.2.2.length:Int)) then
 (gI n1.2.2 x6).bind fun y8=>
 bif decide (b7.length+List.length ([32]:List Int)<=1000000) then
 (F47 y8).bind fun r9=>
 (F85 r9 10 (b7++([32]:List Int))).bind fun r10=>
 some (.inl (IntKind.wrap .i64 (x6+1),r10))
 else none
 else
 (some (ofB b7)).map .inr
def Zmr (n1:Int×Int×List Int):Option ByteArray:=
 (F85 n1.1 10 []).bind fun r2=>
 bif decide (r2.length+List.length ([32]:List Int)<=1000000) then
 (F85 n1.2.1 10 (r2++([32]:List Int))).bind fun r3=>
 Zao (Zmq n1) (0,r3)
 else none
def Zxn (x5:Int) (r12:ByteArray):(Bool×List Int×List (ByteArray×Bool))->Option (Y58⊕Y87):=fun (x13,out14,l15)=>
 bif x13 then
 (some ([],false)).map .inr
 else
 some (.inl (IntKind.wrap .i64 (x5+1),out14,ZfQ (ZaS .str) l15 r12 true))
def Zxo (l1:TN):Y58->Option (Y58⊕Y87):=fun (x5,out6,l7)=>
 bif decide (x5 < (l1.length:Int)) then
 (Z0m l1 x5).bind fun r8=>
 (gI out6 x5).bind fun y9=>
 (gI out6 x5).bind fun y10=>
 (gI l1 x5).bind fun y11=>
 (Zmr y11).bind fun r12=>
 ((gI (Zaq out6 x5 r8) x5).bind fun y16=>
 (gI (Zaq out6 x5 r8) x5).bind fun y17=>
 bif y17==0 then
 some (.inl (true,Zaq out6 x5 r8,l7))
 else
 some (.inl (Option.getD (Zc3 (ZaS .str) l7 r12) false,Zaq out6 x5 r8,l7))).bind (Sum.elim (Zxn x5 r12) some)
 else
 (some (out6,true)).map .inr
def F96 (l1:TN):Option Y87:=
 bif decide ((0:Int)<=(l1.length:Int)/\((l1.length:Int):Int)=(l1.length:Int)/\((l1.length:Int):Int)<=1000000) then
 Zao (Zxo l1) (0,(List.replicate (Int.toNat (l1.length:Int)) 0:List Int),([]:List (ByteArray×Bool)))
 else none
def Zxp (l1:List Int) (i2:Int):Bool->Option Int:=fun x3=>
 bif x3 then
 some 0
 else
 (gI l1 i2).bind fun y4=>
 some y4
def F97 (l1:List Int) (i2:Int):Option Int:=
 (bif decide (i2 < 0) then
 some (.inl true)
 else
 some (.inl (decide (i2>=(l1.length:Int))))).bind (Sum.elim (Zxp l1 i2) some)
def Zxq (x7:Int):Bool->Option (Int⊕Bool):=fun x10=>
 bif x10 then
 (some false).map .inr
 else
 some (.inl (IntKind.wrap .i64 (x7+1)))
def Zxr (s1:TT) (r2:List Int×Bool):Int->Option (Int⊕Bool):=fun x7=>
 bif decide (x7 < (s1.2.1.length:Int)) then
 (gI s1.2.1 x7).bind fun y8=>
 (F97 r2.1 y8.1).bind fun r9=>
 (bif r9==0 then
 some (.inl true)
 else
 (F97 r2.1 y8.2.1).bind fun r11=>
 some (.inl (r9 != r11))).bind (Sum.elim (Zxq x7) some)
 else
 (some true).map .inr
def Zxs (s1:TT) (r2:List Int×Bool):Bool->Option Bool:=fun x3=>
 bif x3 then
 some false
 else
 Zao (Zxr s1 r2) 0
def F72 (s1:TT):Option Bool:=
 bif decide ((s1.1.length:Int) > 2000) then
 some false
 else
 (F96 s1.1).bind fun r2=>
 (bif !r2.2 then
 some (.inl true)
 else
 (F97 r2.1 s1.2.2.2.1).bind fun r4=>
 bif r4 != 1 then
 some (.inl true)
 else
 (F97 r2.1 s1.2.2.2.2.1).bind fun r5=>
 some (.inl (r5 != 2))).bind (Sum.elim (Zxs s1 r2) some)
def Ztg:Y3->Option (Y3⊕Y3):=fun (i5,s6)=>
 (gI s6 i5).bind fun y7=>
 (gI s6 i5).bind fun y8=>
 bif y8 != i5 then
 (gI s6 i5).bind fun y9=>
 (gI s6 i5).bind fun y10=>
 (gI s6 y10).bind fun y11=>
 (gI s6 y10).bind fun y12=>
 (gI s6 i5).bind fun y13=>
 (gI s6 i5).bind fun y14=>
 (gI (Zaq s6 i5 y12) i5).bind fun y15=>
 (gI (Zaq s6 i5 y12) i5).bind fun y16=>
 some (.inl (y16,Zaq s6 i5 y12))
 else
 (some (i5,s6)).map .inr
def ZuC (i1:Int) (s2:List Int):Option Y3:=
 Zao Ztg (i1,s2)
def F98 (i1:Int) (j2:Int) (s3:List Int):Option Y19:=
 (ZuC i1 s3).bind fun r4=>
 (ZuC j2 r4.2).bind fun r5=>
 bif r4.1==r5.1 then
 some (false,r5.2)
 else
 (gI r5.2 (if r5.1 > r4.1 then r5.1 else r4.1)).bind fun y6=>
 (gI r5.2 (if r5.1 > r4.1 then r5.1 else r4.1)).bind fun y7=>
 some (true,Zaq r5.2 (if r5.1 > r4.1 then r5.1 else r4.1) (if r5.1 < r4.1 then r5.1 else r4.1))
def Zth (n1:Int):Y3->Option Y12:=fun (i5,b6)=>
 bif decide (i5 < 8) then
 bif decide ((IntKind.wrap .u64 (IntKind.wrap .i64 (8 * i5))) < 0) then none else
 bif decide (b6.length+List.length ([IntKind.wrap .u8 (Int.fdiv n1 (2 ^ (min (Int.toNat (IntKind.wrap .u64 (IntKind.wrap .i64 (8 * i5)))) (IntKind.bits .u64))))]:List Int)<=1000000) then
 some (.inl (IntKind.wrap .i64 (i5+1),b6++([IntKind.wrap .u8 (Int.fdiv n1 (2 ^ (min (Int.toNat (IntKind.wrap .u64 (IntKind.wrap .i64 (8 * i5)))) (IntKind.bits .u64))))]:List Int)))
 else none
 else
 (some b6).map .inr
def ZvZ (n1:Int) (b2:List Int):Option (List Int):=
 Zao (Zth n1) (0,b2)
def Zxt (x10:Int) (y13:Int):Y47->Option (Y27⊕Y59):=fun (x14,s15,b16)=>
 bif x14 then
 (some ((ByteArray.mk #[]),false,s15)).map .inr
 else
 (ZuC y13 s15).bind fun r17=>
 (ZvZ (IntKind.wrap .u64 r17.1) b16).bind fun r18=>
 some (.inl (IntKind.wrap .i64 (x10+1),r17.2,r18))
def Zxu (n3:List Int):Y27->Option (Y27⊕Y59):=fun (x10,s11,b12)=>
 bif decide (x10 < (n3.length:Int)) then
 (gI n3 x10).bind fun y13=>
 (bif decide (y13 < 0) then
 some (.inl (true,s11,b12))
 else
 some (.inl (decide (y13>=(s11.length:Int)),s11,b12))).bind (Sum.elim (Zxt x10 y13) some)
 else
 (some (ofB b12,true,s11)).map .inr
def F99 (n1:Int) (n2:Int) (n3:List Int) (s4:List Int):Option Y59:=
 (ZvZ (IntKind.wrap .u64 n1) []).bind fun r5=>
 (ZvZ (IntKind.wrap .u64 n2) r5).bind fun r6=>
 Zao (Zxu n3) (0,s4,r6)
def ZuD:(Bool×List Int×Int×Int)->Option Y45:=fun (x15,s16,p17,p18)=>
 bif x15 then
 (F98 p17 p18 s16).bind fun r19=>
 some (.inl r19.2)
 else
 some (.inl s16)
def ZuE (x11:Int):(List Int)->Option Y12:=fun s13=>
 some (.inl (IntKind.wrap .i64 (x11+1),s13))
def Zxv (x29:Int):(Bool×List Int×List Y36)->Option (Y75⊕Y46):=fun (on32,s33,l34)=>
 some (.inl (on32,IntKind.wrap .i64 (x29+1),s33,l34))
def ZuF (l1:TN):Y75->Option (Y75⊕Y46):=fun (on28,x29,s30,l31)=>
 bif decide (x29 < (l1.length:Int)) then
 ((gI l1 x29).bind fun y35=>
 (F99 y35.1 y35.2.1 y35.2.2 s30).bind fun r36=>
 bif !r36.2.1 then
 some (.inl (on28,r36.2.2,l31))
 else
 bif !(Option.isSome (Zc3 (ZaS .str) l31 r36.1)) then
 some (.inl (on28,r36.2.2,ZfQ (ZaS .str) l31 r36.1 x29))
 else
 (F98 x29 (Option.getD (Zc3 (ZaS .str) l31 r36.1) 0) r36.2.2).bind fun r37=>
 bif r37.1 then
 some (.inl (true,r37.2,l31))
 else
 some (.inl (on28,r37.2,l31))).bind (Sum.elim (Zxv x29) some)
 else
 (some (.inl (on28,s30))).map .inr
def Zxw (l1:TN):Y27->Option (Y27⊕(List Int)):=fun (x41,s42,out43)=>
 bif decide (x41 < (List.length (List.replicate (Int.toNat (l1.length:Int)) 0:List Int):Int)) then
 (ZuC x41 s42).bind fun r44=>
 (gI out43 x41).bind fun y45=>
 (gI out43 x41).bind fun y46=>
 some (.inl (IntKind.wrap .i64 (x41+1),r44.2,Zaq out43 x41 r44.1))
 else
 (some out43).map .inr
def Zxx (l1:TN):Y19->Option Y46:=fun (on22,s23)=>
 bif on22 then
 Zao (ZuF l1) (false,0,s23,([]:List Y36))
 else
 (bif decide ((0:Int)<=(l1.length:Int)/\((l1.length:Int):Int)=(l1.length:Int)/\((l1.length:Int):Int)<=1000000) then
 Zao (Zxw l1) (0,s23,(List.replicate (Int.toNat (l1.length:Int)) 0:List Int))
 else none).map .inr
def Zxy (l1:TN) (pairs2:TP):Y3->Option Y12:=fun (x11,s12)=>
 bif decide (x11 < (pairs2.length:Int)) then
 ((gI pairs2 x11).bind fun y14=>
 (bif decide ((if y14.2 < y14.1 then y14.2 else y14.1)>=0) then
 some (.inl (decide ((if y14.2 > y14.1 then y14.2 else y14.1) < (l1.length:Int)),s12,y14.1,y14.2))
 else
 some (.inl (false,s12,y14.1,y14.2))).bind (Sum.elim ZuD some)).bind (Sum.elim (ZuE x11) some)
 else
 (Zao (Zxx l1) (true,s12)).map .inr
def Zxz (l1:TN) (pairs2:TP):Y3->Option Y12:=fun (x5,s6)=>
 bif decide (x5 < (List.length (List.replicate (Int.toNat (l1.length:Int)) 0:List Int):Int)) then
 (gI s6 x5).bind fun y7=>
 (gI s6 x5).bind fun y8=>
 some (.inl (IntKind.wrap .i64 (x5+1),Zaq s6 x5 x5))
 else
 (Zao (Zxy l1 pairs2) (0,s6)).map .inr
def F73 (l1:TN) (pairs2:TP):Option (List Int):=
 bif decide ((0:Int)<=(l1.length:Int)/\((l1.length:Int):Int)=(l1.length:Int)/\((l1.length:Int):Int)<=1000000) then
 Zao (Zxz l1 pairs2) (0,(List.replicate (Int.toNat (l1.length:Int)) 0:List Int))
 else none
def F74 (i1:Int) (l2:TN) (l3:TS) (l4:TI) (l5:Int) (l6:Int) (l7:Int) (l8:Int) (l9:List Int) (l10:List Int) (l11:List (List Int)):Option Y56:=
 (gI l9 i1).bind fun y12=>
 some (y12,l2,l3,l4,l5,l6,l7,l8,l9,l10,l11)
def Zms (n1:Int×Int×List Int):Y52->Option (Y52⊕Y28):=fun (x26,b27,l28,l29,l30,l31,l32,l33,l34,l35,l36,l37)=>
 bif decide (x26 < (n1.2.2.length:Int)) then
 (gI n1.2.2 x26).bind fun y38=>
 bif decide (b27.length+List.length ([32]:List Int)<=1000000) then
 (F74 y38 l28 l29 l30 l31 l32 l33 l34 l35 l36 l37).bind fun r39=>
 (F85 r39.1 10 (b27++([32]:List Int))).bind fun r40=>
 some (.inl (IntKind.wrap .i64 (x26+1),r40,r39.2.1,r39.2.2.1,r39.2.2.2.1,r39.2.2.2.2.1,r39.2.2.2.2.2.1,r39.2.2.2.2.2.2.1,r39.2.2.2.2.2.2.2.1,r39.2.2.2.2.2.2.2.2.1,r39.2.2.2.2.2.2.2.2.2.1,r39.2.2.2.2.2.2.2.2.2.2))
 else none
 else
 (some (ofB b27,l28,l29,l30,l31,l32,l33,l34,l35,l36,l37)).map .inr
def Zki (n1:Int×Int×List Int) (l2:TN) (l3:TS) (l4:TI) (l5:Int) (l6:Int) (l7:Int) (l8:Int) (l9:List Int) (l10:List Int) (l11:List (List Int)):Option Y28:=
 (F85 n1.1 10 []).bind fun r12=>
 bif decide (r12.length+List.length ([32]:List Int)<=1000000) then
 (F85 n1.2.1 10 (r12++([32]:List Int))).bind fun r13=>
 Zao (Zms n1) (0,r13,l2,l3,l4,l5,l6,l7,l8,l9,l10,l11)
 else none
def Zx0 (x33:Int) (y56:Int×Int×List Int) (y57:Int):Y25->Option (Y25⊕(Y16⊕Y67)):=fun (l58,l59,l60,l61,l62,l63,l64,l65,l66,l67,l68)=>
 (Zki y56 l59 l60 l61 l62 l63 l64 l65 l66 l67 l68).bind fun r69=>
 bif !(Option.getD (Zc3 (ZaS .str) l58 r69.1) false) then
 (gI r69.2.2.2.2.2.2.2.2.2.2 y57).bind fun y70=>
 (gI r69.2.2.2.2.2.2.2.2.2.2 y57).bind fun y71=>
 bif decide (y71.length+List.length ([x33]:List Int)<=1000000) then
 (gI r69.2.2.2.2.2.2.2.2.2.2 y57).bind fun y72=>
 (gI r69.2.2.2.2.2.2.2.2.2.2 y57).bind fun y73=>
 bif decide (y57=y57) then
 some (.inl (ZfQ (ZaS .str) l58 r69.1 true,r69.2.1,r69.2.2.1,r69.2.2.2.1,r69.2.2.2.2.1,r69.2.2.2.2.2.1,r69.2.2.2.2.2.2.1,r69.2.2.2.2.2.2.2.1,r69.2.2.2.2.2.2.2.2.1,r69.2.2.2.2.2.2.2.2.2.1,Zaq r69.2.2.2.2.2.2.2.2.2.2 y57 (y71++([x33]:List Int))))
 else none
 else none
 else
 some (.inl (l58,r69.2.1,r69.2.2.1,r69.2.2.2.1,r69.2.2.2.2.1,r69.2.2.2.2.2.1,r69.2.2.2.2.2.2.1,r69.2.2.2.2.2.2.2.1,r69.2.2.2.2.2.2.2.2.1,r69.2.2.2.2.2.2.2.2.2.1,r69.2.2.2.2.2.2.2.2.2.2))
def Zx1 (x33:Int):Y25->Option (Y16⊕Y67):=fun (l45,l46,l47,l48,l49,l50,l51,l52,l53,l54,l55)=>
 some (.inl (IntKind.wrap .i64 (x33+1),l45,l46,l47,l48,l49,l50,l51,l52,l53,l54,l55))
def ZuG (s1:TT):Y16->Option (Y16⊕Y67):=fun (x33,l34,l35,l36,l37,l38,l39,l40,l41,l42,l43,l44)=>
 bif decide (x33 < (s1.1.length:Int)) then
 ((gI s1.1 x33).bind fun y56=>
 (gI l42 x33).bind fun y57=>
 (bif y57==x33 then
 bif decide (l43.length+List.length ([x33]:List Int)<=1000000) then
 some (.inl (l34,l35,l36,l37,l38,l39,l40,l41,l42,l43++([x33]:List Int),l44))
 else none
 else
 some (.inl (l34,l35,l36,l37,l38,l39,l40,l41,l42,l43,l44))).bind (Sum.elim (Zx0 x33 y56 y57) some)).bind (Sum.elim (Zx1 x33) some)
 else
 (some ((some ((l35,l36,l37,l38,l39,l40,l41),l42,l43,l44)),true)).map .inr
def Zx2 (s1:TT):(Int×TP)->Option ((Int×TP)⊕Y67):=fun (x6,pairs7)=>
 bif decide (x6 < (s1.2.1.length:Int)) then
 (gI s1.2.1 x6).bind fun y8=>
 bif decide (pairs7.length+List.length ([(y8.1,y8.2.1)]:TP)<=1000000) then
 some (.inl (IntKind.wrap .i64 (x6+1),pairs7++([(y8.1,y8.2.1)]:TP)))
 else none
 else
 (bif decide ((0:Int)<=(s1.1.length:Int)/\((s1.1.length:Int):Int)=(s1.1.length:Int)/\((s1.1.length:Int):Int)<=1000000) then
 (F73 s1.1 pairs7).bind fun r9=>
 Zao (ZuG s1) (0,([]:List (ByteArray×Bool)),s1.1,s1.2.1,s1.2.2.1,s1.2.2.2.1,s1.2.2.2.2.1,s1.2.2.2.2.2.1,s1.2.2.2.2.2.2,r9,[],(List.replicate (Int.toNat (s1.1.length:Int)) []:List (List Int)))
 else none).map .inr
def F38 (s1:TT):Option Y67:=
 (F72 s1).bind fun r2=>
 bif !r2 then
 some (none,false)
 else
 Zao (Zx2 s1) (0,[])
def Zx3:Bool->Option Y66:=fun x7=>
 bif x7 then
 ((some false).map .inr).map .inr
 else
 some (.inl ())
def Zx4 (x5:Int):Unit->Option (Int⊕Bool):=fun _=>
 some (.inl (IntKind.wrap .i64 (x5+1)))
def Zx5 (t1:Option Y0) (ch2:List Int):Int->Option (Int⊕Bool):=fun x5=>
 bif decide (x5 < (ch2.length:Int)) then
 ((gI ch2 x5).bind fun y6=>
 bif y6==(-1) then
 some (.inl ())
 else
 ((t1).bind fun p8=>
 (gI p8.2.1 x5).bind fun y9=>
 bif y9 != x5 then
 some (.inl true)
 else
 bif decide (y6 < 0) then
 some (.inl true)
 else
 (t1).bind fun p10=>
 bif decide (y6>=(p10.2.1.length:Int)) then
 some (.inl true)
 else
 (t1).bind fun p11=>
 (gI p11.2.1 y6).bind fun y12=>
 some (.inl (y12 != x5))).bind (Sum.elim Zx3 some)).bind (Sum.elim (Zx4 x5) some)
 else
 (some true).map .inr
def F59 (t1:Option Y0) (ch2:List Int):Option Bool:=
 (t1).bind fun p3=>
 bif (ch2.length:Int) != (p3.2.1.length:Int) then
 some false
 else
 Zao (Zx5 t1 ch2) 0
def Zx6 (rec84:Int->Bool->(List Int)->(Option Y0)->(List Int)->(List Int)->Option Y8) (class1:Int) (y28:Int×Int×List Int):Y81->Option (Y81⊕Y8):=fun (x35,l36,l37,l38,l39,l40)=>
 bif decide (x35 < (y28.2.2.length:Int)) then
 (gI y28.2.2 x35).bind fun y41=>
 (l38).bind fun p42=>
 (gI p42.2.1 y41).bind fun y43=>
 (rec84 y43 l36 l37 l38 l39 l40).bind fun r44=>
 some (.inl (IntKind.wrap .i64 (x35+1),r44.1,r44.2.1,r44.2.2.1,r44.2.2.2.1,r44.2.2.2.2))
 else
 ((gI l39 class1).bind fun y45=>
 (gI l39 class1).bind fun y46=>
 bif decide (l40.length+List.length ([class1]:List Int)<=1000000) then
 some (l36,l37,l38,Zaq l39 class1 2,l40++([class1]:List Int))
 else none).map .inr
def Zx7 (rec84:Int->Bool->(List Int)->(Option Y0)->(List Int)->(List Int)->Option Y8) (class1:Int):Y78->Option Y8:=fun (x15,l16,l17,l18,l19,l20)=>
 bif x15 then
 some (false,l17,l18,l19,l20)
 else
 (gI l19 class1).bind fun y24=>
 (gI l19 class1).bind fun y25=>
 (l18).bind fun p26=>
 (gI l17 class1).bind fun y27=>
 (gI p26.1.1 y27).bind fun y28=>
 Zao (Zx6 rec84 class1 y28) (0,l16,l17,l18,Zaq l19 class1 1,l20)
def ZuH (rec84:Int->Bool->(List Int)->(Option Y0)->(List Int)->(List Int)->Option Y8) (class1:Int):Y78->Option Y8:=fun (x7,l8,l9,l10,l11,l12)=>
 bif x7 then
 some (l8,l9,l10,l11,l12)
 else
 ((gI l11 class1).bind fun y21=>
 (gI l11 class1).bind fun y22=>
 bif y22==1 then
 some (.inl (true,l8,l9,l10,l11,l12))
 else
 (gI l9 class1).bind fun y23=>
 some (.inl (decide (y23 < 0),l8,l9,l10,l11,l12))).bind (Sum.elim (Zx7 rec84 class1) some)
def G84 (rec84:Int->Bool->(List Int)->(Option Y0)->(List Int)->(List Int)->Option Y8) (class1:Int) (l2:Bool) (l3:List Int) (l4:Option Y0) (l5:List Int) (l6:List Int):Option Y8:=
 ((gI l5 class1).bind fun y13=>
 (gI l5 class1).bind fun y14=>
 bif y14==2 then
 some (.inl (true,l2,l3,l4,l5,l6))
 else
 some (.inl (!l2,l2,l3,l4,l5,l6))).bind (Sum.elim (ZuH rec84 class1) some)
def N84 (n:Nat):Int->Bool->(List Int)->(Option Y0)->(List Int)->(List Int)->Option Y8:=Nat.rec (motive:=fun _=>Int->Bool->(List Int)->(Option Y0)->(List Int)->(List Int)->Option Y8) (fun _ _ _ _ _ _=>none) (fun _ ih=>G84 ih) n
def F84 (class1:Int) (l2:Bool) (l3:List Int) (l4:Option Y0) (l5:List Int) (l6:List Int):Option Y8:=N84 1000 class1 l2 l3 l4 l5 l6
def F45 (t1:Option Y0) (ch2:List Int):Option Y87:=
 (F59 t1 ch2).bind fun r3=>
 bif !r3 then
 some ([],false)
 else
 bif decide ((0:Int)<=(ch2.length:Int)/\((ch2.length:Int):Int)=(ch2.length:Int)/\((ch2.length:Int):Int)<=1000000) then
 (t1).bind fun p4=>
 (t1).bind fun p5=>
 (gI p4.2.1 p5.1.2.2.2.1).bind fun y6=>
 (F84 y6 true ch2 t1 (List.replicate (Int.toNat (ch2.length:Int)) 0:List Int) []).bind fun r7=>
 (r7.2.2.1).bind fun p8=>
 (r7.2.2.1).bind fun p9=>
 (gI p8.2.1 p9.1.2.2.2.2.1).bind fun y10=>
 (F84 y10 r7.1 r7.2.1 r7.2.2.1 r7.2.2.2.1 r7.2.2.2.2).bind fun r11=>
 some (r11.2.2.2.2,r11.1)
 else none
def Zti (y6:Int×Int×List Int) (y16:Int):Y19->Option (Y3⊕(Y3⊕Y12)):=fun (x19,out20)=>
 bif x19 then
 bif decide ((IntKind.wrap .u64 y6.2.1) < 0) then none else
 some (.inl (ZeM .u32 (BitVec.ofInt (IntKind.bits .u32) y16 &&& ~~~ (BitVec.ofInt (IntKind.bits .u32) (IntKind.wrap .u32 (1 * 2 ^ (min (Int.toNat (IntKind.wrap .u64 y6.2.1)) (IntKind.bits .u32)))))),out20))
 else
 some (.inl (y16,out20))
def Ztj (x4:Int) (x12:Int):Y3->Option (Y3⊕Y12):=fun (h17,out18)=>
 (gI out18 x4).bind fun y21=>
 (gI out18 x4).bind fun y22=>
 (gI out18 x4).bind fun y23=>
 (gI out18 x4).bind fun y24=>
 some (.inl (IntKind.wrap .i64 (x12+1),Zaq out18 x4 (ZeM .u32 (BitVec.ofInt (IntKind.bits .u32) y22 ||| BitVec.ofInt (IntKind.bits .u32) h17))))
def Ztk (x4:Int) (y6:Int×Int×List Int):Y3->Option (Y3⊕Y12):=fun (x12,out13)=>
 bif decide (x12 < (y6.2.2.length:Int)) then
 (gI y6.2.2 x12).bind fun y14=>
 (gI out13 y14).bind fun y15=>
 (gI out13 y14).bind fun y16=>
 ((bif y6.1==31 then
 some (.inl (decide (x12>=(IntKind.wrap .i64 (Int.tdiv (IntKind.wrap .i64 ((y6.2.2.length:Int) - 1)) 2))),out13))
 else
 some (.inl (false,out13))).bind (Sum.elim (Zti y6 y16) some)).bind (Sum.elim (Ztj x4 x12) some)
 else
 (some (.inl (IntKind.wrap .i64 (x4+1),out13))).map .inr
def ZpB (x4:Int) (y6:Int×Int×List Int):(List Int)->Option Y12:=fun out7=>
 Zao (Ztk x4 y6) (0,out7)
def Ztl (l1:TN):Y3->Option Y12:=fun (x4,out5)=>
 bif decide (x4 < (l1.length:Int)) then
 (gI l1 x4).bind fun y6=>
 (bif y6.1==3 then
 bif decide ((IntKind.wrap .u64 (IntKind.wrap .i64 (Int.tdiv y6.2.1 16))) < 0) then none else
 (gI out5 x4).bind fun y8=>
 (gI out5 x4).bind fun y9=>
 some (.inl (Zaq out5 x4 (IntKind.wrap .u32 (1 * 2 ^ (min (Int.toNat (IntKind.wrap .u64 (IntKind.wrap .i64 (Int.tdiv y6.2.1 16)))) (IntKind.bits .u32))))))
 else
 some (.inl out5)).bind (Sum.elim (ZpB x4 y6) some)
 else
 (some out5).map .inr
def Z0p (l1:TN):Option (List Int):=
 bif decide ((0:Int)<=(l1.length:Int)/\((l1.length:Int):Int)=(l1.length:Int)/\((l1.length:Int):Int)<=1000000) then
 Zao (Ztl l1) (0,(List.replicate (Int.toNat (l1.length:Int)) 0:List Int))
 else none
def Zx8 (x8:Int):(List Int)->Option (Y3⊕Bool):=fun vars10=>
 some (.inl (IntKind.wrap .i64 (x8+1),vars10))
def Zx9:Y19->Option ((List Int)⊕(Y3⊕Bool)):=fun (x24,vars25)=>
 bif x24 then
 ((some false).map .inr).map .inr
 else
 some (.inl vars25)
def ZxA (x18:Int):(List Int)->Option (Y3⊕Bool):=fun vars20=>
 some (.inl (IntKind.wrap .i64 (x18+1),vars20))
def ZxB:Bool->Option Bool:=fun x27=>
 some x27
def ZxC (g1:ByteArray×Int×TN×Int×Int):Y3->Option (Y3⊕Bool):=fun (x18,vars19)=>
 bif decide (x18 < (g1.2.2.1.length:Int)) then
 ((gI g1.2.2.1 x18).bind fun y21=>
 bif y21.1==3 then
 (gI vars19 (IntKind.wrap .i64 (Int.tdiv y21.2.1 16))).bind fun y22=>
 bif decide ((IntKind.wrap .i64 (Int.tdiv y21.2.1 16)) < (16:Int)) then
 (gI vars19 (IntKind.wrap .i64 (Int.tdiv y21.2.1 16))).bind fun y23=>
 (bif decide (y23 > 0) then
 some (.inl (decide ((Int.tmod y21.2.1 16)>=y23),vars19))
 else
 some (.inl (false,vars19))).bind (Sum.elim Zx9 some)
 else none
 else
 some (.inl vars19)).bind (Sum.elim (ZxA x18) some)
 else
 ((Z0p g1.2.2.1).bind fun r26=>
 ((gI r26 g1.2.2.2.1).bind fun y28=>
 bif y28==0 then
 (gI r26 g1.2.2.2.2).bind fun y29=>
 some (.inl (y29==0))
 else
 some (.inl false)).bind (Sum.elim ZxB some)).map .inr
def ZxD (g1:ByteArray×Int×TN×Int×Int):Y3->Option (Y3⊕Bool):=fun (x8,vars9)=>
 bif decide (x8 < (g1.2.2.1.length:Int)) then
 ((gI g1.2.2.1 x8).bind fun y11=>
 bif y11.1==31 then
 (gI vars9 y11.2.1).bind fun y12=>
 bif decide (y11.2.1 < (16:Int)) then
 (gI vars9 y11.2.1).bind fun y13=>
 bif decide (y13 > 0) then
 ((some false).map .inr).map .inr
 else
 (gI vars9 y11.2.1).bind fun y14=>
 bif decide (y11.2.1 < (16:Int)) then
 (gI vars9 y11.2.1).bind fun y15=>
 some (.inl (Zaq vars9 y11.2.1 (IntKind.wrap .i64 (Int.tdiv (IntKind.wrap .i64 ((y11.2.2.length:Int) - 1)) 2))))
 else none
 else none
 else
 some (.inl vars9)).bind (Sum.elim (Zx8 x8) some)
 else
 (Zao (ZxC g1) (0,vars9)).map .inr
def ZxE (g1:ByteArray×Int×TN×Int×Int):Bool->Option Bool:=fun x3=>
 bif x3 then
 some false
 else
 Zao (ZxD g1) (0,(List.replicate 16 0:List Int))
def F75 (g1:ByteArray×Int×TN×Int×Int):Option Bool:=
 (F96 g1.2.2.1).bind fun r2=>
 (bif !r2.2 then
 some (.inl true)
 else
 (F97 r2.1 g1.2.2.2.1).bind fun r4=>
 bif r4 != 1 then
 some (.inl true)
 else
 (F97 r2.1 g1.2.2.2.2).bind fun r5=>
 some (.inl (r5 != 2))).bind (Sum.elim (ZxE g1) some)
def ZxF (t1:Option Y0) (x25:Int) (y46:Int) (y49:Int×Int×List Int):Y53->Option (Y53⊕(Y63⊕(Y22⊕Y17))):=fun (x73,l74,l75,l76,l77,g78,g79,g80,g81,num82,kids83,l84)=>
 bif decide (x73 < (y49.2.2.length:Int)) then
 (gI y49.2.2 x73).bind fun y85=>
 (t1).bind fun p86=>
 (gI p86.2.1 y85).bind fun y87=>
 (gI num82 y87).bind fun y88=>
 (gI num82 y87).bind fun y89=>
 bif decide (kids83.length+List.length ([y89]:List Int)<=1000000) then
 some (.inl (IntKind.wrap .i64 (x73+1),l74,l75,l76,l77,g78,g79,g80,g81,num82,kids83++([y89]:List Int),l84))
 else none
 else
 ((gI num82 y46).bind fun y90=>
 (gI num82 y46).bind fun y91=>
 bif decide (l84.length+List.length ([(y49.1,y49.2.1,kids83)]:TN)<=1000000) then
 bif y49.1==2 then
 some (.inl (l74,l75,l76,l77,g78,if (IntKind.wrap .i64 (y49.2.1+1)) > g79 then IntKind.wrap .i64 (y49.2.1+1) else g79,g80,g81,Zaq num82 y46 x25,l84++([(y49.1,y49.2.1,kids83)]:TN)))
 else
 some (.inl (l74,l75,l76,l77,g78,g79,g80,g81,Zaq num82 y46 x25,l84++([(y49.1,y49.2.1,kids83)]:TN)))
 else none).map .inr
def ZuI (x25:Int):Y63->Option (Y22⊕Y17):=fun (l36,l37,l38,l39,g40,g41,g42,g43,num44,l45)=>
 some (.inl (IntKind.wrap .i64 (x25+1),l36,l37,l38,l39,g40,g41,g42,g43,num44,l45))
def ZxG (t1:Option Y0) (ch2:List Int) (r3:List Int×Bool):Y22->Option (Y22⊕Y17):=fun (x25,l26,l27,l28,l29,g30,g31,g32,g33,num34,l35)=>
 bif decide (x25 < (r3.1.length:Int)) then
 ((gI r3.1 x25).bind fun y46=>
 (t1).bind fun p47=>
 (gI ch2 y46).bind fun y48=>
 (gI p47.1.1 y48).bind fun y49=>
 Zao (ZxF t1 x25 y46 y49) (0,l26,l27,l28,l29,g30,g31,g32,g33,num34,[],l35)).bind (Sum.elim (ZuI x25) some)
 else
 ((t1).bind fun p92=>
 (t1).bind fun p93=>
 (gI p92.2.1 p93.1.2.2.2.1).bind fun y94=>
 (gI num34 y94).bind fun y95=>
 (gI num34 y94).bind fun y96=>
 (t1).bind fun p97=>
 (t1).bind fun p98=>
 (gI p97.2.1 p98.1.2.2.2.2.1).bind fun y99=>
 (gI num34 y99).bind fun y100=>
 (gI num34 y99).bind fun y101=>
 (F75 (g30,g31,l35,y96,y101)).bind fun r102=>
 bif !r102 then
 some ((ByteArray.empty,0,[],0,0),false)
 else
 some ((g30,g31,l35,y96,y101),true)).map .inr
def F39 (t1:Option Y0) (ch2:List Int):Option Y17:=
 (F45 t1 ch2).bind fun r3=>
 bif !r3.2 then
 some ((ByteArray.empty,0,[],0,0),false)
 else
 bif decide ((0:Int)<=(ch2.length:Int)/\((ch2.length:Int):Int)=(ch2.length:Int)/\((ch2.length:Int):Int)<=1000000) then
 Zao (ZxG t1 ch2 r3) (0,ByteArray.empty,0,0,0,ByteArray.empty,0,0,0,(List.replicate (Int.toNat (ch2.length:Int)) 0:List Int),[])
 else none
def F10 (s1:TT) (ch2:List Int):Option Y17:=
 (F38 s1).bind fun r3=>
 bif !r3.2 then
 some ((ByteArray.empty,0,[],0,0),false)
 else
 (F39 r3.1 ch2).bind fun r4=>
 some r4
def ZxH (k9:Int):Bool->Option (Int⊕Bool):=fun x10=>
 bif x10 then
 (some false).map .inr
 else
 some (.inl (IntKind.wrap .i64 (k9+1)))
def ZxI (l1:TN) (one2:List Int) (y5:Int×Int×List Int) (y6:Int×Int×List Int):Int->Option (Int⊕Bool):=fun k9=>
 bif decide (k9 < (y5.2.2.length:Int)) then
 ((gI y5.2.2 k9).bind fun y11=>
 (F77 l1 y11).bind fun r12=>
 bif !r12 then
 some (.inl true)
 else
 (gI y6.2.2 k9).bind fun y13=>
 (F77 l1 y13).bind fun r14=>
 bif !r14 then
 some (.inl true)
 else
 (gI y5.2.2 k9).bind fun y15=>
 (gI one2 y15).bind fun y16=>
 (gI y6.2.2 k9).bind fun y17=>
 (gI one2 y17).bind fun y18=>
 some (.inl (y16 != y18))).bind (Sum.elim (ZxH k9) some)
 else
 (some true).map .inr
def ZxJ (l1:TN) (one2:List Int) (y5:Int×Int×List Int) (y6:Int×Int×List Int):Bool->Option Bool:=fun x7=>
 bif x7 then
 some false
 else
 Zao (ZxI l1 one2 y5 y6) 0
def F80 (l1:TN) (one2:List Int) (a3:Int) (b4:Int):Option Bool:=
 (gI l1 a3).bind fun y5=>
 (gI l1 b4).bind fun y6=>
 (bif y5.1 != y6.1 then
 some (.inl true)
 else
 bif y5.2.1 != y6.2.1 then
 some (.inl true)
 else
 some (.inl ((y5.2.2.length:Int) != (y6.2.2.length:Int)))).bind (Sum.elim (ZxJ l1 one2 y5 y6) some)
def ZxK (j60:Int):(Bool×Int×Int×Int×Int×TN×TS×TI×Int×Int×Int×Int×List Int×List (List Int))->Option Y26:=fun (first77,l78,l79,l80,l81,x82,x83,x84,x85,x86,x87,x88,x89,l90)=>
 some (.inl (first77,IntKind.wrap .i64 (j60+1),l78,l79,l80,l81,x82,x83,x84,x85,x86,x87,x88,x89,l90))
def ZxL (s1:TT) (i17:Int):(Bool×Int×Int×Int×Int×Int×TN×TS×TI×Int×Int×Int×Int×List Int×List (List Int))->Option Y26:=fun (first59,j60,l61,l62,l63,l64,x65,x66,x67,x68,x69,x70,x71,x72,l73)=>
 (gI x72 i17).bind fun y74=>
 (gI l73 y74).bind fun y75=>
 (gI l73 y74).bind fun y76=>
 bif decide (j60 < (y76.length:Int)) then
 (bif first59 then
 (gI x72 i17).bind fun y91=>
 (gI (Zaq l73 y74 y76) y91).bind fun y92=>
 (gI (Zaq l73 y74 y76) y91).bind fun y93=>
 (gI y93 j60).bind fun y94=>
 (gI y93 j60).bind fun y95=>
 (F80 s1.1 x72 y95 i17).bind fun r96=>
 some (.inl (!r96,l61,l62,l63,l64,x65,x66,x67,x68,x69,x70,x71,x72,Zaq (Zaq l73 y74 y76) y91 y93))
 else
 some (.inl (false,l61,l62,l63,l64,x65,x66,x67,x68,x69,x70,x71,x72,Zaq l73 y74 y76))).bind (Sum.elim (ZxK j60) some)
 else
 (bif first59 then
 (gI x72 i17).bind fun y97=>
 (gI x72 i17).bind fun y98=>
 (gI (Zaq l73 y74 y76) y98).bind fun y99=>
 (gI (Zaq l73 y74 y76) y98).bind fun y100=>
 bif decide (y100.length+List.length ([i17]:List Int)<=1000000) then
 (gI (Zaq l73 y74 y76) y97).bind fun y101=>
 (gI (Zaq l73 y74 y76) y97).bind fun y102=>
 bif decide (y97=y98) then
 some (.inl (l61,l62,l63,l64,x65,x66,x67,x68,x69,x70,x71,x72,Zaq (Zaq l73 y74 y76) y97 (y100++([i17]:List Int))))
 else none
 else none
 else
 some (.inl (l61,l62,l63,l64,x65,x66,x67,x68,x69,x70,x71,x72,Zaq l73 y74 y76))).map .inr
def ZxM (i17:Int):(Int×Int×Int×Int×TN×TS×TI×Int×Int×Int×Int×List Int×List (List Int))->Option Y15:=fun (l31,l32,l33,l34,x35,x36,x37,x38,x39,x40,x41,x42,l43)=>
 some (.inl (IntKind.wrap .i64 (i17+1),l31,l32,l33,l34,x35,x36,x37,x38,x39,x40,x41,x42,l43))
def ZuJ (s1:TT):(Int×Int×Int×Int×Int×TN×TS×TI×Int×Int×Int×Int×List Int×List (List Int))->Option Y15:=fun (i17,l18,l19,l20,l21,x22,x23,x24,x25,x26,x27,x28,x29,l30)=>
 bif decide (i17 < (s1.1.length:Int)) then
 (Zao (ZxL s1 i17) (true,0,l18,l19,l20,l21,x22,x23,x24,x25,x26,x27,x28,x29,l30)).bind (Sum.elim (ZxM i17) some)
 else
 (some ((x22,x23,x24,x25,x26,x27,x28),x29,l30)).map .inr
def F41 (s1:TT):Option Y34:=
 (F37 s1).bind fun r2=>
 bif decide ((0:Int)<=(s1.1.length:Int)/\((s1.1.length:Int):Int)=(s1.1.length:Int)/\((s1.1.length:Int):Int)<=1000000) then
 Zao (ZuJ s1) (0,0,0,0,0,s1.1,s1.2.1,s1.2.2.1,s1.2.2.2.1,s1.2.2.2.2.1,s1.2.2.2.2.2.1,s1.2.2.2.2.2.2,r2,(List.replicate (Int.toNat (s1.1.length:Int)) []:List (List Int)))
 else none
def ZxN (i4:Int):Bool->Option (Int⊕Bool):=fun x5=>
 bif x5 then
 (some false).map .inr
 else
 some (.inl (IntKind.wrap .i64 (i4+1)))
def ZxO (x1:TT×List Int×List (List Int)) (ch2:List Int):Int->Option (Int⊕Bool):=fun i4=>
 bif decide (i4 < (ch2.length:Int)) then
 ((gI ch2 i4).bind fun y6=>
 bif y6 != (-1) then
 (gI x1.2.1 i4).bind fun y7=>
 bif y7 != i4 then
 some (.inl true)
 else
 (gI ch2 i4).bind fun y8=>
 (F77 x1.1.1 y8).bind fun r9=>
 bif !r9 then
 some (.inl true)
 else
 (gI ch2 i4).bind fun y10=>
 (gI x1.2.1 y10).bind fun y11=>
 some (.inl (y11 != i4))
 else
 some (.inl false)).bind (Sum.elim (ZxN i4) some)
 else
 (some true).map .inr
def F61 (x1:TT×List Int×List (List Int)) (ch2:List Int):Option Bool:=
 bif (ch2.length:Int) != (x1.2.1.length:Int) then
 some false
 else
 Zao (ZxO x1 ch2) 0
def Ztm (l1:TN) (i2:Int):Bool->Option Int:=fun x3=>
 bif x3 then
 some 0
 else
 bif decide ((0:Int)<=0/\(0:Int)<=IntKind.wrap .i64 (i2+1)/\IntKind.wrap .i64 (i2+1)<=(l1.length:Int)) then
 (F76 (slI l1 0 (IntKind.wrap .i64 (i2+1)))).bind fun r4=>
 (gI r4 i2).bind fun y5=>
 some y5
 else none
def ZxP (l1:TN) (i2:Int):Option Int:=
 (bif decide (i2 < 0) then
 some (.inl true)
 else
 some (.inl (decide (i2>=(l1.length:Int))))).bind (Sum.elim (Ztm l1 i2) some)
def Ztn (l1:TN) (i4:Int):Bool->Option (Int⊕Int):=fun x5=>
 bif x5 then
 (gI l1 i4).bind fun y8=>
 (some (IntKind.wrap .i64 (Int.tdiv (y8.2.2.length:Int) 2))).map .inr
 else
 some (.inl (IntKind.wrap .i64 (i4+1)))
def Zto (l1:TN) (n2:Int):Int->Option (Int⊕Int):=fun i4=>
 bif decide (i4 < (l1.length:Int)) then
 ((gI l1 i4).bind fun y6=>
 bif y6.1==31 then
 (gI l1 i4).bind fun y7=>
 some (.inl (y7.2.1==n2))
 else
 some (.inl false)).bind (Sum.elim (Ztn l1 i4) some)
 else
 (some 0).map .inr
def ZxQ (l1:TN) (n2:Int):Option Int:=
 Zao (Zto l1 n2) 0
def Ztp (j17:Int):(Bool×List (List Bool)×List Bool)->Option (Y82⊕(Y20⊕(Y20⊕Y24))):=fun (x22,out23,h24)=>
 bif x22 then
 (gI h24 j17).bind fun y29=>
 (gI h24 j17).bind fun y30=>
 some (.inl (out23,Zaq h24 j17 true))
 else
 some (.inl (out23,h24))
def Ztq (j17:Int):Y82->Option (Y20⊕(Y20⊕Y24)):=fun (out20,h21)=>
 some (.inl (IntKind.wrap .i64 (j17+1),out20,h21))
def Ztr (y7:Int×Int×List Int) (k11:Int):Y20->Option (Y20⊕(Y20⊕Y24)):=fun (j17,out18,h19)=>
 bif decide (j17 < 16) then
 (((gI y7.2.2 k11).bind fun y25=>
 (gI out18 y25).bind fun y26=>
 (gI out18 y25).bind fun y27=>
 (gI y27 j17).bind fun y28=>
 bif y28 then
 bif y7.1 != 31 then
 some (.inl (true,out18,h19))
 else
 bif j17 != y7.2.1 then
 some (.inl (true,out18,h19))
 else
 some (.inl (decide (k11 < (IntKind.wrap .i64 (Int.tdiv (y7.2.2.length:Int) 2))),out18,h19))
 else
 some (.inl (false,out18,h19))).bind (Sum.elim (Ztp j17) some)).bind (Sum.elim (Ztq j17) some)
 else
 (some (.inl (IntKind.wrap .i64 (k11+1),out18,h19))).map .inr
def Zts (i5:Int):Y82->Option Y24:=fun (out31,h32)=>
 bif decide (out31.length+List.length ([h32]:List (List Bool))<=1000000) then
 some (.inl (IntKind.wrap .i64 (i5+1),out31++([h32]:List (List Bool))))
 else none
def Ztt (i5:Int) (y7:Int×Int×List Int):Y20->Option (Y20⊕Y24):=fun (k11,out12,h13)=>
 bif decide (k11 < (y7.2.2.length:Int)) then
 Zao (Ztr y7 k11) (0,out12,h13)
 else
 ((bif y7.1==3 then
 (gI h13 (IntKind.wrap .i64 (Int.tdiv y7.2.1 16))).bind fun y33=>
 (gI h13 (IntKind.wrap .i64 (Int.tdiv y7.2.1 16))).bind fun y34=>
 some (.inl (out12,Zaq h13 (IntKind.wrap .i64 (Int.tdiv y7.2.1 16)) true))
 else
 some (.inl (out12,h13))).bind (Sum.elim (Zts i5) some)).map .inr
def Ztu (l1:TN):(Int×List (List Bool))->Option Y24:=fun (i5,out6)=>
 bif decide (i5 < (l1.length:Int)) then
 bif decide ((0:Int)<=16/\(16:Int)=16/\(16:Int)<=1000000) then
 (gI l1 i5).bind fun y7=>
 Zao (Ztt i5 y7) (0,out6,(List.replicate (Int.toNat 16) false:List Bool))
 else none
 else
 (some out6).map .inr
def Z0q (l1:TN):Option (List (List Bool)):=
 Zao (Ztu l1) (0,[])
def ZxR (k10:Int):Bool->Option (Int⊕Y66):=fun x12=>
 bif x12 then
 (((some false).map .inr).map .inr).map .inr
 else
 some (.inl (IntKind.wrap .i64 (k10+1)))
def ZxS:Bool->Option Y66:=fun x16=>
 bif x16 then
 ((some false).map .inr).map .inr
 else
 some (.inl ())
def ZxT (g1:ByteArray×Int×TN×Int×Int) (y8:Int×Int×List Int) (k10:Int):Bool->Option (Int⊕Y66):=fun x11=>
 bif x11 then
 ((gI g1.2.2.1 k10).bind fun y13=>
 bif y13.1==31 then
 (gI g1.2.2.1 k10).bind fun y14=>
 some (.inl (y14.2.1==y8.2.1))
 else
 some (.inl false)).bind (Sum.elim (ZxR k10) some)
 else
 (bif y8.1==3 then
 (ZxQ g1.2.2.1 (IntKind.wrap .i64 (Int.tdiv y8.2.1 16))).bind fun r15=>
 (bif decide (r15 > 0) then
 some (.inl (decide ((Int.tmod y8.2.1 16)>=r15)))
 else
 some (.inl false)).bind (Sum.elim ZxS some)
 else
 some (.inl ())).map .inr
def ZxU (g1:ByteArray×Int×TN×Int×Int) (i7:Int) (y8:Int×Int×List Int):Int->Option (Int⊕Y66):=fun k10=>
 (bif decide (k10 < i7) then
 some (.inl (y8.1==31))
 else
 some (.inl false)).bind (Sum.elim (ZxT g1 y8 k10) some)
def ZuK (i7:Int):Unit->Option (Int⊕Bool):=fun _=>
 some (.inl (IntKind.wrap .i64 (i7+1)))
def ZxV (j19:Int):Bool->Option (Int⊕Bool):=fun x20=>
 bif x20 then
 (some false).map .inr
 else
 some (.inl (IntKind.wrap .i64 (j19+1)))
def ZxW (g1:ByteArray×Int×TN×Int×Int) (r17:List (List Bool)):Int->Option (Int⊕Bool):=fun j19=>
 bif decide (j19 < 16) then
 ((gI r17 g1.2.2.2.1).bind fun y21=>
 (gI y21 j19).bind fun y22=>
 bif y22 then
 some (.inl true)
 else
 (gI r17 g1.2.2.2.2).bind fun y23=>
 (gI y23 j19).bind fun y24=>
 some (.inl y24)).bind (Sum.elim (ZxV j19) some)
 else
 (some true).map .inr
def ZxX (g1:ByteArray×Int×TN×Int×Int):Int->Option (Int⊕Bool):=fun i7=>
 bif decide (i7 < (g1.2.2.1.length:Int)) then
 ((gI g1.2.2.1 i7).bind fun y8=>
 Zao (ZxU g1 i7 y8) 0).bind (Sum.elim (ZuK i7) some)
 else
 ((Z0q g1.2.2.1).bind fun r17=>
 Zao (ZxW g1 r17) 0).map .inr
def ZxY (g1:ByteArray×Int×TN×Int×Int):Bool->Option Bool:=fun x2=>
 bif x2 then
 some false
 else
 Zao (ZxX g1) 0
def F82 (g1:ByteArray×Int×TN×Int×Int):Option Bool:=
 ((F78 g1.2.2.1).bind fun r3=>
 bif !r3 then
 some (.inl true)
 else
 (ZxP g1.2.2.1 g1.2.2.2.1).bind fun r4=>
 bif r4 != 1 then
 some (.inl true)
 else
 (ZxP g1.2.2.1 g1.2.2.2.2).bind fun r5=>
 some (.inl (r5 != 2))).bind (Sum.elim (ZxY g1) some)
def ZxZ (y47:Int×Int×List Int):Y37->Option (Y38⊕Y1):=fun (x126,t127,t128,t129,t130,t131,t132,t133,t134,t135,t136,t137,t138,t139,t140,t141,l142,l143)=>
 bif x126 then
 some (.inl (t127,t128,t129,t130,t131,t132,t133,t134,t135,t136,t137,IntKind.wrap .i64 (y47.2.1+1),t139,t140,t141,l142,l143))
 else
 some (.inl (t127,t128,t129,t130,t131,t132,t133,t134,t135,t136,t137,t138,t139,t140,t141,l142,l143))
def Zya (c1:Int):Y38->Option Y1:=fun (t109,t110,t111,t112,t113,t114,t115,t116,t117,t118,t119,t120,t121,t122,t123,l124,l125)=>
 (gI l124 c1).bind fun y144=>
 (gI l124 c1).bind fun y145=>
 some (y145,t109,t110,t111,t112,t113,t114,t115,t116,t117,t118,t119,t120,t121,t122,t123,l124,l125)
def Zyb (rec81:Int->TN->TS->TI->Int->Int->Int->Int->(List Int)->(List (List Int))->(List Int)->ByteArray->Int->Int->Int->Bool->(List Int)->TN->Option Y1) (c1:Int) (y47:Int×Int×List Int):Y35->Option (Y35⊕Y1):=fun (k85,t86,t87,t88,t89,t90,t91,t92,t93,t94,t95,t96,t97,t98,t99,t100,kids101,l102,l103)=>
 bif decide (k85 < (y47.2.2.length:Int)) then
 (gI y47.2.2 k85).bind fun y104=>
 (gI t93 y104).bind fun y105=>
 (rec81 y105 t86 t87 t88 t89 t90 t91 t92 t93 t94 t95 t96 t97 t98 t99 t100 l102 l103).bind fun r106=>
 bif decide (kids101.length+List.length ([r106.1]:List Int)<=1000000) then
 some (.inl (IntKind.wrap .i64 (k85+1),r106.2.1,r106.2.2.1,r106.2.2.2.1,r106.2.2.2.2.1,r106.2.2.2.2.2.1,r106.2.2.2.2.2.2.1,r106.2.2.2.2.2.2.2.1,r106.2.2.2.2.2.2.2.2.1,r106.2.2.2.2.2.2.2.2.2.1,r106.2.2.2.2.2.2.2.2.2.2.1,r106.2.2.2.2.2.2.2.2.2.2.2.1,r106.2.2.2.2.2.2.2.2.2.2.2.2.1,r106.2.2.2.2.2.2.2.2.2.2.2.2.2.1,r106.2.2.2.2.2.2.2.2.2.2.2.2.2.2.1,r106.2.2.2.2.2.2.2.2.2.2.2.2.2.2.2.1,kids101++([r106.1]:List Int),r106.2.2.2.2.2.2.2.2.2.2.2.2.2.2.2.2.1,r106.2.2.2.2.2.2.2.2.2.2.2.2.2.2.2.2.2))
 else none
 else
 ((gI l102 c1).bind fun y107=>
 (gI l102 c1).bind fun y108=>
 bif decide (l103.length+List.length ([(y47.1,y47.2.1,kids101)]:TN)<=1000000) then
 ((bif y47.1==2 then
 some (.inl (decide (y47.2.1>=t97),t86,t87,t88,t89,t90,t91,t92,t93,t94,t95,t96,t97,t98,t99,t100,Zaq l102 c1 (l103.length:Int),l103++([(y47.1,y47.2.1,kids101)]:TN)))
 else
 some (.inl (false,t86,t87,t88,t89,t90,t91,t92,t93,t94,t95,t96,t97,t98,t99,t100,Zaq l102 c1 (l103.length:Int),l103++([(y47.1,y47.2.1,kids101)]:TN)))).bind (Sum.elim (ZxZ y47) some)).bind (Sum.elim (Zya c1) some)
 else none).map .inr
def ZuL (rec81:Int->TN->TS->TI->Int->Int->Int->Int->(List Int)->(List (List Int))->(List Int)->ByteArray->Int->Int->Int->Bool->(List Int)->TN->Option Y1) (c1:Int):Y37->Option Y1:=fun (x19,t20,t21,t22,t23,t24,t25,t26,t27,t28,t29,t30,t31,t32,t33,t34,l35,l36)=>
 bif x19 then
 some (0,t20,t21,t22,t23,t24,t25,t26,t27,t28,t29,t30,t31,t32,t33,true,l35,l36)
 else
 (gI l35 c1).bind fun y40=>
 (gI l35 c1).bind fun y41=>
 bif decide (y41>=0) then
 (gI l35 c1).bind fun y42=>
 (gI l35 c1).bind fun y43=>
 some (y43,t20,t21,t22,t23,t24,t25,t26,t27,t28,t29,t30,t31,t32,t33,t34,l35,l36)
 else
 (gI l35 c1).bind fun y44=>
 (gI l35 c1).bind fun y45=>
 (gI t29 c1).bind fun y46=>
 (gI t20 y46).bind fun y47=>
 Zao (Zyb rec81 c1 y47) (0,t20,t21,t22,t23,t24,t25,t26,t27,t28,t29,t30,t31,t32,t33,t34,[],Zaq l35 c1 (-2),l36)
def G81 (rec81:Int->TN->TS->TI->Int->Int->Int->Int->(List Int)->(List (List Int))->(List Int)->ByteArray->Int->Int->Int->Bool->(List Int)->TN->Option Y1) (c1:Int) (t2:TN) (t3:TS) (t4:TI) (t5:Int) (t6:Int) (t7:Int) (t8:Int) (t9:List Int) (t10:List (List Int)) (t11:List Int) (t12:ByteArray) (t13:Int) (t14:Int) (t15:Int) (t16:Bool) (l17:List Int) (l18:TN):Option Y1:=
 (bif t16 then
 some (.inl (true,t2,t3,t4,t5,t6,t7,t8,t9,t10,t11,t12,t13,t14,t15,t16,l17,l18))
 else
 (gI l17 c1).bind fun y37=>
 (gI l17 c1).bind fun y38=>
 bif y38==(-2) then
 some (.inl (true,t2,t3,t4,t5,t6,t7,t8,t9,t10,t11,t12,t13,t14,t15,t16,l17,l18))
 else
 (gI t11 c1).bind fun y39=>
 some (.inl (decide (y39 < 0),t2,t3,t4,t5,t6,t7,t8,t9,t10,t11,t12,t13,t14,t15,t16,l17,l18))).bind (Sum.elim (ZuL rec81 c1) some)
def N81 (n:Nat):Int->TN->TS->TI->Int->Int->Int->Int->(List Int)->(List (List Int))->(List Int)->ByteArray->Int->Int->Int->Bool->(List Int)->TN->Option Y1:=Nat.rec (motive:=fun _=>Int->TN->TS->TI->Int->Int->Int->Int->(List Int)->(List (List Int))->(List Int)->ByteArray->Int->Int->Int->Bool->(List Int)->TN->Option Y1) (fun _ _ _ _ _ _ _ _ _ _ _ _ _ _ _ _ _ _=>none) (fun _ ih=>G81 ih) n
def F81 (c1:Int) (t2:TN) (t3:TS) (t4:TI) (t5:Int) (t6:Int) (t7:Int) (t8:Int) (t9:List Int) (t10:List (List Int)) (t11:List Int) (t12:ByteArray) (t13:Int) (t14:Int) (t15:Int) (t16:Bool) (l17:List Int) (l18:TN):Option Y1:=N81 1000 c1 t2 t3 t4 t5 t6 t7 t8 t9 t10 t11 t12 t13 t14 t15 t16 l17 l18
def ZuM:(Bool×ByteArray×Int×Int×Int×TN×TS×TI×Int×Int×Int×Int×List Int×List (List Int)×List Int×ByteArray×Int×Int×Int×Bool×List Int×TN)->Option Y17:=fun (x52,l53,l54,l55,l56,t57,t58,t59,t60,t61,t62,t63,t64,t65,t66,t67,t68,t69,t70,t71,l72,l73)=>
 bif x52 then
 some ((ByteArray.empty,0,[],0,0),false)
 else
 some ((t67,t68,l73,t69,t70),true)
def Zyc (x1:TT×List Int×List (List Int)) (ch2:List Int):Y30->Option (Y30⊕Y17):=fun (i25,l26,l27,l28,l29,t30,t31,t32,t33,t34,t35,t36,t37,t38,t39,t40,t41,t42,t43,t44,l45)=>
 bif decide (i25 < (ch2.length:Int)) then
 (gI l45 i25).bind fun y46=>
 (gI l45 i25).bind fun y47=>
 some (.inl (IntKind.wrap .i64 (i25+1),l26,l27,l28,l29,t30,t31,t32,t33,t34,t35,t36,t37,t38,t39,t40,t41,t42,t43,t44,Zaq l45 i25 (-1)))
 else
 ((gI x1.2.1 x1.1.2.2.2.1).bind fun y48=>
 (F81 y48 t30 t31 t32 t33 t34 t35 t36 t37 t38 t39 t40 t41 t42 t43 t44 l45 []).bind fun r49=>
 (gI x1.2.1 x1.1.2.2.2.2.1).bind fun y50=>
 (F81 y50 r49.2.1 r49.2.2.1 r49.2.2.2.1 r49.2.2.2.2.1 r49.2.2.2.2.2.1 r49.2.2.2.2.2.2.1 r49.2.2.2.2.2.2.2.1 r49.2.2.2.2.2.2.2.2.1 r49.2.2.2.2.2.2.2.2.2.1 r49.2.2.2.2.2.2.2.2.2.2.1 r49.2.2.2.2.2.2.2.2.2.2.2.1 r49.2.2.2.2.2.2.2.2.2.2.2.2.1 r49.1 r49.2.2.2.2.2.2.2.2.2.2.2.2.2.2.1 r49.2.2.2.2.2.2.2.2.2.2.2.2.2.2.2.1 r49.2.2.2.2.2.2.2.2.2.2.2.2.2.2.2.2.1 r49.2.2.2.2.2.2.2.2.2.2.2.2.2.2.2.2.2).bind fun r51=>
 (bif r51.2.2.2.2.2.2.2.2.2.2.2.2.2.2.2.1 then
 some (.inl (true,l26,l27,l28,l29,r51.2.1,r51.2.2.1,r51.2.2.2.1,r51.2.2.2.2.1,r51.2.2.2.2.2.1,r51.2.2.2.2.2.2.1,r51.2.2.2.2.2.2.2.1,r51.2.2.2.2.2.2.2.2.1,r51.2.2.2.2.2.2.2.2.2.1,r51.2.2.2.2.2.2.2.2.2.2.1,r51.2.2.2.2.2.2.2.2.2.2.2.1,r51.2.2.2.2.2.2.2.2.2.2.2.2.1,r51.2.2.2.2.2.2.2.2.2.2.2.2.2.1,r51.1,r51.2.2.2.2.2.2.2.2.2.2.2.2.2.2.2.1,r51.2.2.2.2.2.2.2.2.2.2.2.2.2.2.2.2.1,r51.2.2.2.2.2.2.2.2.2.2.2.2.2.2.2.2.2))
 else
 (F82 (r51.2.2.2.2.2.2.2.2.2.2.2.1,r51.2.2.2.2.2.2.2.2.2.2.2.2.1,r51.2.2.2.2.2.2.2.2.2.2.2.2.2.2.2.2.2,r51.2.2.2.2.2.2.2.2.2.2.2.2.2.1,r51.1)).bind fun r74=>
 some (.inl (!r74,l26,l27,l28,l29,r51.2.1,r51.2.2.1,r51.2.2.2.1,r51.2.2.2.2.1,r51.2.2.2.2.2.1,r51.2.2.2.2.2.2.1,r51.2.2.2.2.2.2.2.1,r51.2.2.2.2.2.2.2.2.1,r51.2.2.2.2.2.2.2.2.2.1,r51.2.2.2.2.2.2.2.2.2.2.1,r51.2.2.2.2.2.2.2.2.2.2.2.1,r51.2.2.2.2.2.2.2.2.2.2.2.2.1,r51.2.2.2.2.2.2.2.2.2.2.2.2.2.1,r51.1,r51.2.2.2.2.2.2.2.2.2.2.2.2.2.2.2.1,r51.2.2.2.2.2.2.2.2.2.2.2.2.2.2.2.2.1,r51.2.2.2.2.2.2.2.2.2.2.2.2.2.2.2.2.2))).bind (Sum.elim ZuM some)).map .inr
def F42 (x1:TT×List Int×List (List Int)) (ch2:List Int):Option Y17:=
 (F61 x1 ch2).bind fun r3=>
 bif !r3 then
 some ((ByteArray.empty,0,[],0,0),false)
 else
 bif decide ((0:Int)<=(ch2.length:Int)/\((ch2.length:Int):Int)=(ch2.length:Int)/\((ch2.length:Int):Int)<=1000000) then
 Zao (Zyc x1 ch2) (0,ByteArray.empty,0,0,0,x1.1.1,x1.1.2.1,x1.1.2.2.1,x1.1.2.2.2.1,x1.1.2.2.2.2.1,x1.1.2.2.2.2.2.1,x1.1.2.2.2.2.2.2,x1.2.1,x1.2.2,ch2,ByteArray.empty,0,0,0,false,(List.replicate (Int.toNat (ch2.length:Int)) 0:List Int))
 else none
def F11 (s1:TT) (ch2:List Int):Option Y17:=
 (F40 s1).bind fun r3=>
 bif !r3 then
 some ((ByteArray.empty,0,[],0,0),false)
 else
 (F41 s1).bind fun r4=>
 (F42 r4 ch2).bind fun r5=>
 some r5
def Zyd:Bool->Option Int:=fun x6=>
 bif x6 then
 some 20
 else
 some 0
def Zye (n1:Int×Int×List Int):Bool->Option Int:=fun x5=>
 bif x5 then
 some 4
 else
 bif n1.1==31 then
 some 6
 else
 bif n1.1==30 then
 some 12
 else
 (bif n1.1==7 then
 some (.inl true)
 else
 some (.inl (n1.1==8))).bind (Sum.elim Zyd some)
def Zyf (n1:Int×Int×List Int):Bool->Option Int:=fun x4=>
 bif x4 then
 some 3
 else
 (bif n1.1==6 then
 some (.inl true)
 else
 bif n1.1==23 then
 some (.inl true)
 else
 some (.inl (n1.1==28))).bind (Sum.elim (Zye n1) some)
def Zyg (n1:Int×Int×List Int):Bool->Option Int:=fun x3=>
 bif x3 then
 some 2
 else
 (bif n1.1==22 then
 some (.inl true)
 else
 some (.inl (n1.1==27))).bind (Sum.elim (Zyf n1) some)
def Zyh (n1:Int×Int×List Int):Bool->Option Int:=fun x2=>
 bif x2 then
 some 1
 else
 (bif n1.1==20 then
 some (.inl true)
 else
 bif n1.1==21 then
 some (.inl true)
 else
 bif n1.1==4 then
 some (.inl true)
 else
 bif n1.1==5 then
 some (.inl true)
 else
 bif n1.1==9 then
 some (.inl true)
 else
 bif n1.1==10 then
 some (.inl true)
 else
 bif n1.1==11 then
 some (.inl true)
 else
 bif n1.1==12 then
 some (.inl true)
 else
 bif n1.1==13 then
 some (.inl true)
 else
 bif n1.1==14 then
 some (.inl true)
 else
 bif n1.1==15 then
 some (.inl true)
 else
 bif n1.1==16 then
 some (.inl true)
 else
 bif n1.1==17 then
 some (.inl true)
 else
 bif n1.1==18 then
 some (.inl true)
 else
 bif n1.1==19 then
 some (.inl true)
 else
 some (.inl (n1.1==29))).bind (Sum.elim (Zyg n1) some)
def F83 (n1:Int×Int×List Int):Option Int:=
 (bif n1.1==1 then
 some (.inl true)
 else
 bif n1.1==2 then
 some (.inl true)
 else
 some (.inl (n1.1==24))).bind (Sum.elim (Zyh n1) some)
def Z5y (g1:ByteArray×Int×TN×Int×Int):(Int×Int)->Option ((Int×Int)⊕Int):=fun (n4,x5)=>
 bif decide (x5 < (g1.2.2.1.length:Int)) then
 (gI g1.2.2.1 x5).bind fun y6=>
 (F83 y6).bind fun r7=>
 some (.inl (IntKind.wrap .i64 (n4+r7),IntKind.wrap .i64 (x5+1)))
 else
 (some n4).map .inr
def F43 (g1:ByteArray×Int×TN×Int×Int):Option Int:=
 Zao (Z5y g1) (0,0)
def F12 (s1:TT) (ch2:List Int):Option (Int×Bool):=
 (F10 s1 ch2).bind fun r3=>
 bif !r3.2 then
 some (0,false)
 else
 (F43 r3.1).bind fun r4=>
 some (r4,true)
def Zyi:Bool->Option Int:=fun x7=>
 bif x7 then
 some 2
 else
 some 0
def Zyj (n1:Int×Int×List Int):Bool->Option Int:=fun x6=>
 bif x6 then
 some 2
 else
 (bif decide (n1.1>=4) then
 some (.inl (decide (n1.1<=19)))
 else
 some (.inl false)).bind (Sum.elim Zyi some)
def Zyk (n1:Int×Int×List Int):Bool->Option Int:=fun x5=>
 bif x5 then
 some 20
 else
 (bif n1.1==29 then
 some (.inl true)
 else
 bif n1.1==20 then
 some (.inl true)
 else
 some (.inl (n1.1==21))).bind (Sum.elim (Zyj n1) some)
def Zyl (n1:Int×Int×List Int):Bool->Option Int:=fun x4=>
 bif x4 then
 some 4
 else
 bif n1.1==31 then
 some 6
 else
 bif n1.1==30 then
 some 12
 else
 (bif n1.1==7 then
 some (.inl true)
 else
 some (.inl (n1.1==8))).bind (Sum.elim (Zyk n1) some)
def Zym (n1:Int×Int×List Int):Bool->Option Int:=fun x3=>
 bif x3 then
 some 3
 else
 (bif n1.1==6 then
 some (.inl true)
 else
 bif n1.1==23 then
 some (.inl true)
 else
 some (.inl (n1.1==28))).bind (Sum.elim (Zyl n1) some)
def Zyn (n1:Int×Int×List Int):Bool->Option Int:=fun x2=>
 bif x2 then
 some 1
 else
 (bif n1.1==22 then
 some (.inl true)
 else
 some (.inl (n1.1==27))).bind (Sum.elim (Zym n1) some)
def F44 (n1:Int×Int×List Int):Option Int:=
 (bif n1.1==1 then
 some (.inl true)
 else
 bif n1.1==2 then
 some (.inl true)
 else
 some (.inl (n1.1==24))).bind (Sum.elim (Zyn n1) some)
def Z5z (r3:(ByteArray×Int×TN×Int×Int)×Bool):(Int×Int)->Option ((Int×Int)⊕(Int×Bool)):=fun (n6,i7)=>
 bif decide (i7 < (r3.1.2.2.1.length:Int)) then
 (gI r3.1.2.2.1 i7).bind fun y8=>
 (F44 y8).bind fun r9=>
 some (.inl (IntKind.wrap .i64 (n6+r9),IntKind.wrap .i64 (i7+1)))
 else
 (some (n6,r3.2)).map .inr
def F13 (s1:TT) (ch2:List Int):Option (Int×Bool):=
 (F11 s1 ch2).bind fun r3=>
 Zao (Z5z r3) (0,0)
def ZGJ (x96:Int) (y110:Int):Y13->Option (Y13⊕(TT×Bool)):=fun (i173,l174,l175,l176,l177,o178,o179,o180,o181,l182,placed183,l184,l185,l186)=>
 (gI placed183 y110).bind fun y188=>
 (gI placed183 y110).bind fun y189=>
 some (.inl (IntKind.wrap .i64 (x96+1),l174,l175,l176,l177,o178,o179,o180,o181,l182,Zaq placed183 y110 i173,l184,l185,l186))
def ZGV (ch2:List Int) (r3:(Option Y0)×Bool) (x96:Int) (y110:Int) (y116:Int×Int×List Int):Y41->Option (Y41⊕(Y13⊕(TT×Bool))):=fun (x150,l151,l152,l153,l154,o155,o156,o157,o158,l159,placed160,n161,n162,l163,l164,l165,l166)=>
 bif decide (x150 < (y116.2.2.length:Int)) then
 (gI y116.2.2 x150).bind fun y167=>
 (r3.1).bind fun p168=>
 (gI p168.2.1 y167).bind fun y169=>
 (gI placed160 y169).bind fun y170=>
 (gI placed160 y169).bind fun y171=>
 bif decide (l166.length+List.length ([y171]:List Int)<=1000000) then
 some (.inl (IntKind.wrap .i64 (x150+1),l151,l152,l153,l154,o155,o156,o157,o158,l159,placed160,n161,n162,l163,l164,l165,l166++([y171]:List Int)))
 else none
 else
 ((Zmr (n161,n162,l166)).bind fun r172=>
 (bif !(Option.isSome (Zc3 (ZaS .str) l159 r172)) then
 bif decide (l163.length+List.length ([(n161,n162,l166)]:TN)<=1000000) then
 (gI ch2 y110).bind fun y187=>
 bif decide (l164.length+List.length ([(y187,(l163.length:Int),0,[],[])]:TS)<=1000000) then
 some (.inl ((l163.length:Int),l151,l152,l153,l154,o155,o156,o157,o158,ZfQ (ZaS .str) l159 r172 (l163.length:Int),placed160,l163++([(n161,n162,l166)]:TN),l164++([(y187,(l163.length:Int),0,[],[])]:TS),l165))
 else none
 else none
 else
 some (.inl (Option.getD (Zc3 (ZaS .str) l159 r172) 0,l151,l152,l153,l154,o155,o156,o157,o158,l159,placed160,l163,l164,l165))).bind (Sum.elim (ZGJ x96 y110) some)).map .inr
def ZGK (s1:TT) (ch2:List Int) (r3:(Option Y0)×Bool) (r5:List Int×Bool):Y13->Option (Y13⊕(TT×Bool)):=fun (x96,l97,l98,l99,l100,o101,o102,o103,o104,l105,placed106,l107,l108,l109)=>
 bif decide (x96 < (r5.1.length:Int)) then
 (gI r5.1 x96).bind fun y110=>
 (gI ch2 y110).bind fun y111=>
 (gI s1.1 y111).bind fun y112=>
 (gI ch2 y110).bind fun y113=>
 (gI s1.1 y113).bind fun y114=>
 (gI ch2 y110).bind fun y115=>
 (gI s1.1 y115).bind fun y116=>
 Zao (ZGV ch2 r3 x96 y110 y116) (0,l97,l98,l99,l100,o101,o102,o103,o104,l105,placed106,y112.1,y114.2.1,l107,l108,l109,[])
 else
 ((r3.1).bind fun p190=>
 (gI p190.2.1 s1.2.2.2.1).bind fun y191=>
 (gI placed106 y191).bind fun y192=>
 (gI placed106 y191).bind fun y193=>
 (r3.1).bind fun p194=>
 (gI p194.2.1 s1.2.2.2.2.1).bind fun y195=>
 (gI placed106 y195).bind fun y196=>
 (gI placed106 y195).bind fun y197=>
 some ((l107,l108,l109,y193,y197,o103,o104),true)).map .inr
def ZGW (s1:TT) (ch2:List Int) (r3:(Option Y0)×Bool) (r5:List Int×Bool):Y57->Option (Y57⊕(TT×Bool)):=fun (x68,l69,l70,l71,l72,o73,o74,o75,o76,l77,l78,l79,l80)=>
 bif decide (x68 < (s1.2.1.length:Int)) then
 (gI s1.2.1 x68).bind fun y81=>
 bif decide (List.length ([]:List Int)+y81.2.2.2.1.length<=1000000) then
 bif decide (List.length ([]:List Int)+y81.2.2.2.2.length<=1000000) then
 bif decide (l79.length+List.length ([(y81.1,y81.2.1,y81.2.2.1,([]:List Int)++y81.2.2.2.1,([]:List Int)++y81.2.2.2.2)]:TS)<=1000000) then
 some (.inl (IntKind.wrap .i64 (x68+1),l69,l70,l71,l72,o73,o74,o75,o76,l77,l78,l79++([(y81.1,y81.2.1,y81.2.2.1,([]:List Int)++y81.2.2.2.1,([]:List Int)++y81.2.2.2.2)]:TS),l80))
 else none
 else none
 else none
 else
 (bif decide ((0:Int)<=(ch2.length:Int)/\((ch2.length:Int):Int)=(ch2.length:Int)/\((ch2.length:Int):Int)<=1000000) then
 Zao (ZGK s1 ch2 r3 r5) (0,l69,l70,l71,l72,o73,o74,o75,o76,l77,(List.replicate (Int.toNat (ch2.length:Int)) 0:List Int),l78,l79,l80)
 else none).map .inr
def ZGX (s1:TT) (ch2:List Int) (r3:(Option Y0)×Bool) (r5:List Int×Bool):Y62->Option (Y62⊕(TT×Bool)):=fun (x29,l30,l31,l32,l33,o34,o35,o36,o37,l38,l39,l40)=>
 bif decide (x29 < (s1.1.length:Int)) then
 (gI s1.1 x29).bind fun y41=>
 bif decide (List.length ([]:List Int)+y41.2.2.length<=1000000) then
 bif decide (l39.length+List.length ([(y41.1,y41.2.1,([]:List Int)++y41.2.2)]:TN)<=1000000) then
 (Zmr y41).bind fun r42=>
 some (.inl (IntKind.wrap .i64 (x29+1),l30,l31,l32,l33,o34,o35,o36,o37,ZfQ (ZaS .str) l38 r42 x29,l39++([(y41.1,y41.2.1,([]:List Int)++y41.2.2)]:TN),l40))
 else none
 else none
 else
 (Zao (ZGW s1 ch2 r3 r5) (0,l30,l31,l32,l33,o34,o35,o36,o37,l38,l39,[],l40)).map .inr
def F14 (s1:TT) (ch2:List Int):Option (TT×Bool):=
 (F38 s1).bind fun r3=>
 bif !r3.2 then
 some (([],[],[],0,0,0,0),false)
 else
 (F39 r3.1 ch2).bind fun r4=>
 bif !r4.2 then
 some (([],[],[],0,0,0,0),false)
 else
 (F45 r3.1 ch2).bind fun r5=>
 bif decide (List.length ([]:TI)+s1.2.2.1.length<=1000000) then
 Zao (ZGX s1 ch2 r3 r5) (0,0,0,0,0,0,0,s1.2.2.2.2.2.1,s1.2.2.2.2.2.2,([]:List Y36),[],([]:TI)++s1.2.2.1)
 else none
def ZGY (i72:Int):(List Int×Int×Int×Int×Int×Int×Int×TN×TS×TI×List Int)->Option (Y23⊕Y7):=fun (at98,out99,out100,out101,out102,y103,y104,l105,l106,l107,l108)=>
 some (.inl (IntKind.wrap .i64 (i72+1),at98,out99,out100,out101,out102,y103,y104,l105,l106,l107,l108))
def ZGL (c11:Int):(List Int×Int×Int×Int×Int×TN×TS×TI)->Option Y7:=fun (at114,out115,out116,out117,out118,l119,l120,l121)=>
 (gI at114 c11).bind fun y129=>
 (gI at114 c11).bind fun y130=>
 some (y130,at114,out115,out116,out117,out118,l119,l120,l121)
def ZG6 (ch10:List Int) (c11:Int) (i72:Int):(Bool×List Int×Int×Int×Int×Int×Int×Int×TN×TS×TI×List Int)->Option (Y23⊕Y7):=fun (x84,at85,out86,out87,out88,out89,y90,y91,l92,l93,l94,l95)=>
 bif x84 then
 ((gI l92 i72).bind fun y109=>
 (gI l92 i72).bind fun y110=>
 (F86 y110 (y90,y91,l95)).bind fun r111=>
 bif r111 then
 (gI at85 c11).bind fun y112=>
 (gI at85 c11).bind fun y113=>
 some (.inl (Zaq at85 c11 i72,out86,out87,out88,out89,y90,y91,l92,l93,l94,l95))
 else
 some (.inl (at85,out86,out87,out88,out89,y90,y91,l92,l93,l94,l95))).bind (Sum.elim (ZGY i72) some)
 else
 (((gI at85 c11).bind fun y122=>
 (gI at85 c11).bind fun y123=>
 bif decide (y123 < 0) then
 (gI at85 c11).bind fun y124=>
 (gI at85 c11).bind fun y125=>
 bif decide (l92.length+List.length ([(y90,y91,l95)]:TN)<=1000000) then
 (gI ch10 c11).bind fun y126=>
 (gI (Zaq at85 c11 (l92.length:Int)) c11).bind fun y127=>
 (gI (Zaq at85 c11 (l92.length:Int)) c11).bind fun y128=>
 bif decide (l93.length+List.length ([(y126,y128,0,[],[])]:TS)<=1000000) then
 some (.inl (Zaq at85 c11 (l92.length:Int),out86,out87,out88,out89,l92++([(y90,y91,l95)]:TN),l93++([(y126,y128,0,[],[])]:TS),l94))
 else none
 else none
 else
 some (.inl (at85,out86,out87,out88,out89,l92,l93,l94))).bind (Sum.elim (ZGL c11) some)).map .inr
def ZGM (ch10:List Int) (c11:Int):Y23->Option (Y23⊕Y7):=fun (i72,at73,out74,out75,out76,out77,y78,y79,l80,l81,l82,l83)=>
 (bif decide (i72 < (l80.length:Int)) then
 (gI at73 c11).bind fun y96=>
 (gI at73 c11).bind fun y97=>
 some (.inl (decide (y97 < 0),at73,out74,out75,out76,out77,y78,y79,l80,l81,l82,l83))
 else
 some (.inl (false,at73,out74,out75,out76,out77,y78,y79,l80,l81,l82,l83))).bind (Sum.elim (ZG6 ch10 c11 i72) some)
def ZGZ (rec48:TN->TS->TI->Int->Int->Int->Int->(List Int)->(List (List Int))->(List Int)->Int->(List Int)->Int->Int->Int->Int->TN->TS->TI->Option Y7) (x1:TN) (x2:TS) (x3:TI) (x4:Int) (x5:Int) (x6:Int) (x7:Int) (x8:List Int) (x9:List (List Int)) (ch10:List Int) (c11:Int) (y25:Int×Int×List Int):Y72->Option (Y72⊕Y7):=fun (k45,at46,out47,out48,out49,out50,kids51,l52,l53,l54)=>
 bif decide (k45 < (y25.2.2.length:Int)) then
 (gI y25.2.2 k45).bind fun y55=>
 (gI x8 y55).bind fun y56=>
 (rec48 x1 x2 x3 x4 x5 x6 x7 x8 x9 ch10 y56 at46 out47 out48 out49 out50 l52 l53 l54).bind fun r57=>
 bif decide (kids51.length+List.length ([r57.1]:List Int)<=1000000) then
 some (.inl (IntKind.wrap .i64 (k45+1),r57.2.1,r57.2.2.1,r57.2.2.2.1,r57.2.2.2.2.1,r57.2.2.2.2.2.1,kids51++([r57.1]:List Int),r57.2.2.2.2.2.2.1,r57.2.2.2.2.2.2.2.1,r57.2.2.2.2.2.2.2.2))
 else none
 else
 ((gI at46 c11).bind fun y58=>
 (gI at46 c11).bind fun y59=>
 Zao (ZGM ch10 c11) (0,Zaq at46 c11 (-1),out47,out48,out49,out50,y25.1,y25.2.1,l52,l53,l54,kids51)).map .inr
def G48 (rec48:TN->TS->TI->Int->Int->Int->Int->(List Int)->(List (List Int))->(List Int)->Int->(List Int)->Int->Int->Int->Int->TN->TS->TI->Option Y7) (x1:TN) (x2:TS) (x3:TI) (x4:Int) (x5:Int) (x6:Int) (x7:Int) (x8:List Int) (x9:List (List Int)) (ch10:List Int) (c11:Int) (at12:List Int) (out13:Int) (out14:Int) (out15:Int) (out16:Int) (l17:TN) (l18:TS) (l19:TI):Option Y7:=
 (gI at12 c11).bind fun y20=>
 (gI at12 c11).bind fun y21=>
 bif decide (y21>=0) then
 (gI at12 c11).bind fun y22=>
 (gI at12 c11).bind fun y23=>
 some (y23,at12,out13,out14,out15,out16,l17,l18,l19)
 else
 (gI ch10 c11).bind fun y24=>
 (gI x1 y24).bind fun y25=>
 Zao (ZGZ rec48 x1 x2 x3 x4 x5 x6 x7 x8 x9 ch10 c11 y25) (0,at12,out13,out14,out15,out16,[],l17,l18,l19)
def N48 (n:Nat):TN->TS->TI->Int->Int->Int->Int->(List Int)->(List (List Int))->(List Int)->Int->(List Int)->Int->Int->Int->Int->TN->TS->TI->Option Y7:=Nat.rec (motive:=fun _=>TN->TS->TI->Int->Int->Int->Int->(List Int)->(List (List Int))->(List Int)->Int->(List Int)->Int->Int->Int->Int->TN->TS->TI->Option Y7) (fun _ _ _ _ _ _ _ _ _ _ _ _ _ _ _ _ _ _ _=>none) (fun _ ih=>G48 ih) n
def F48 (x1:TN) (x2:TS) (x3:TI) (x4:Int) (x5:Int) (x6:Int) (x7:Int) (x8:List Int) (x9:List (List Int)) (ch10:List Int) (c11:Int) (at12:List Int) (out13:Int) (out14:Int) (out15:Int) (out16:Int) (l17:TN) (l18:TS) (l19:TI):Option Y7:=N48 1000 x1 x2 x3 x4 x5 x6 x7 x8 x9 ch10 c11 at12 out13 out14 out15 out16 l17 l18 l19
def ZGN (s1:TT) (ch2:List Int) (r4:TT×List Int×List (List Int)):Y60->Option (Y60⊕(TT×Bool)):=fun (i87,l88,l89,l90,l91,out92,out93,out94,out95,at96,l97,l98,l99)=>
 bif decide (i87 < (at96.length:Int)) then
 (gI at96 i87).bind fun y100=>
 (gI at96 i87).bind fun y101=>
 some (.inl (IntKind.wrap .i64 (i87+1),l88,l89,l90,l91,out92,out93,out94,out95,Zaq at96 i87 (-1),l97,l98,l99))
 else
 ((gI r4.2.1 s1.2.2.2.1).bind fun y102=>
 (F48 r4.1.1 r4.1.2.1 r4.1.2.2.1 r4.1.2.2.2.1 r4.1.2.2.2.2.1 r4.1.2.2.2.2.2.1 r4.1.2.2.2.2.2.2 r4.2.1 r4.2.2 ch2 y102 at96 out92 out93 out94 out95 l97 l98 l99).bind fun r103=>
 (gI r4.2.1 s1.2.2.2.2.1).bind fun y104=>
 (F48 r4.1.1 r4.1.2.1 r4.1.2.2.1 r4.1.2.2.2.1 r4.1.2.2.2.2.1 r4.1.2.2.2.2.2.1 r4.1.2.2.2.2.2.2 r4.2.1 r4.2.2 ch2 y104 r103.2.1 r103.1 r103.2.2.2.1 r103.2.2.2.2.1 r103.2.2.2.2.2.1 r103.2.2.2.2.2.2.1 r103.2.2.2.2.2.2.2.1 r103.2.2.2.2.2.2.2.2).bind fun r105=>
 some ((r105.2.2.2.2.2.2.1,r105.2.2.2.2.2.2.2.1,r105.2.2.2.2.2.2.2.2,r105.2.2.1,r105.1,r105.2.2.2.2.1,r105.2.2.2.2.2.1),true)).map .inr
def ZHa (s1:TT) (ch2:List Int) (r4:TT×List Int×List (List Int)):Y68->Option (Y68⊕(TT×Bool)):=fun (t61,l62,l63,l64,l65,out66,out67,out68,out69,l70,l71,l72)=>
 bif decide (t61 < (s1.2.1.length:Int)) then
 (gI s1.2.1 t61).bind fun y73=>
 bif decide (y73.2.2.2.1.length<=1000000) then
 bif decide (y73.2.2.2.2.length<=1000000) then
 bif decide (l71.length+List.length ([y73]:TS)<=1000000) then
 some (.inl (IntKind.wrap .i64 (t61+1),l62,l63,l64,l65,out66,out67,out68,out69,l70,l71++([y73]:TS),l72))
 else none
 else none
 else none
 else
 (bif decide ((0:Int)<=(ch2.length:Int)/\((ch2.length:Int):Int)=(ch2.length:Int)/\((ch2.length:Int):Int)<=1000000) then
 Zao (ZGN s1 ch2 r4) (0,l62,l63,l64,l65,out66,out67,out68,out69,(List.replicate (Int.toNat (ch2.length:Int)) 0:List Int),l70,l71,l72)
 else none).map .inr
def ZHb (s1:TT) (ch2:List Int) (r4:TT×List Int×List (List Int)):Y76->Option (Y76⊕(TT×Bool)):=fun (i26,l27,l28,l29,l30,out31,out32,out33,out34,l35,l36)=>
 bif decide (i26 < (s1.1.length:Int)) then
 (gI s1.1 i26).bind fun y37=>
 bif decide (y37.2.2.length<=1000000) then
 bif decide (l35.length+List.length ([y37]:TN)<=1000000) then
 some (.inl (IntKind.wrap .i64 (i26+1),l27,l28,l29,l30,out31,out32,out33,out34,l35++([y37]:TN),l36))
 else none
 else none
 else
 (Zao (ZHa s1 ch2 r4) (0,l27,l28,l29,l30,out31,out32,out33,out34,l35,[],l36)).map .inr
def F15 (s1:TT) (ch2:List Int):Option (TT×Bool):=
 (F11 s1 ch2).bind fun r3=>
 bif !r3.2 then
 some (([],[],[],0,0,0,0),false)
 else
 (F41 s1).bind fun r4=>
 bif decide (s1.2.2.1.length<=1000000) then
 Zao (ZHb s1 ch2 r4) (0,0,0,0,0,0,0,s1.2.2.2.2.2.1,s1.2.2.2.2.2.2,[],s1.2.2.1)
 else none
def Z94 (a1:TN) (b2:TN):Int->Option (Int⊕Bool):=fun i4=>
 bif decide (i4 < (a1.length:Int)) then
 (gI a1 i4).bind fun y5=>
 (gI b2 i4).bind fun y6=>
 (F86 y5 y6).bind fun r7=>
 bif !r7 then
 (some false).map .inr
 else
 some (.inl (IntKind.wrap .i64 (i4+1)))
 else
 (some true).map .inr
def F49 (a1:TN) (b2:TN):Option Bool:=
 bif (a1.length:Int) != (b2.length:Int) then
 some false
 else
 Zao (Z94 a1 b2) 0
def Z9B:Bool->Option Bool:=fun x3=>
 some x3
def F16 (a1:ByteArray×Int×TN×Int×Int) (b2:ByteArray×Int×TN×Int×Int):Option Bool:=
 (bif a1.2.1==b2.2.1 then
 bif a1.2.2.2.1==b2.2.2.2.1 then
 bif a1.2.2.2.2==b2.2.2.2.2 then
 (F49 a1.2.2.1 b2.2.2.1).bind fun r4=>
 some (.inl r4)
 else
 some (.inl false)
 else
 some (.inl false)
 else
 some (.inl false)).bind (Sum.elim Z9B some)
def Zyo (a1:List Int) (b2:List Int):Int->Option (Int⊕Bool):=fun i4=>
 bif decide (i4 < (a1.length:Int)) then
 (gI a1 i4).bind fun y5=>
 (gI b2 i4).bind fun y6=>
 bif y5 != y6 then
 (some false).map .inr
 else
 some (.inl (IntKind.wrap .i64 (i4+1)))
 else
 (some true).map .inr
def F22 (a1:List Int) (b2:List Int):Option Bool:=
 bif (a1.length:Int) != (b2.length:Int) then
 some false
 else
 Zao (Zyo a1 b2) 0
def ZHc (i4:Int) (y5:Int×Int×Int×List Int×List Int) (y6:Int×Int×Int×List Int×List Int):Int->Option (Int⊕(Int⊕Bool)):=fun k10=>
 bif decide (k10 < (y5.2.2.2.2.length:Int)) then
 (gI y5.2.2.2.2 k10).bind fun y11=>
 (gI y6.2.2.2.2 k10).bind fun y12=>
 bif y11 != y12 then
 ((some false).map .inr).map .inr
 else
 some (.inl (IntKind.wrap .i64 (k10+1)))
 else
 (some (.inl (IntKind.wrap .i64 (i4+1)))).map .inr
def ZHd (i4:Int) (y5:Int×Int×Int×List Int×List Int) (y6:Int×Int×Int×List Int×List Int):Bool->Option (Int⊕Bool):=fun x7=>
 bif x7 then
 (some false).map .inr
 else
 Zao (ZHc i4 y5 y6) 0
def Z91 (a1:TS) (b2:TS):Int->Option (Int⊕Bool):=fun i4=>
 bif decide (i4 < (a1.length:Int)) then
 (gI a1 i4).bind fun y5=>
 (gI b2 i4).bind fun y6=>
 (bif y5.1 != y6.1 then
 some (.inl true)
 else
 bif y5.2.1 != y6.2.1 then
 some (.inl true)
 else
 bif y5.2.2.1 != y6.2.2.1 then
 some (.inl true)
 else
 (F22 y5.2.2.2.1 y6.2.2.2.1).bind fun r8=>
 bif !r8 then
 some (.inl true)
 else
 some (.inl ((y5.2.2.2.2.length:Int) != (y6.2.2.2.2.length:Int)))).bind (Sum.elim (ZHd i4 y5 y6) some)
 else
 (some true).map .inr
def F50 (a1:TS) (b2:TS):Option Bool:=
 bif (a1.length:Int) != (b2.length:Int) then
 some false
 else
 Zao (Z91 a1 b2) 0
def Z8T:Bool->Option Bool:=fun x3=>
 some x3
def F17 (a1:TT) (b2:TT):Option Bool:=
 (bif a1.2.2.2.1==b2.2.2.2.1 then
 bif a1.2.2.2.2.1==b2.2.2.2.2.1 then
 (F49 a1.1 b2.1).bind fun r4=>
 bif r4 then
 (F50 a1.2.1 b2.2.1).bind fun r5=>
 bif r5 then
 some (.inl ((a1.2.2.1.length:Int)==(b2.2.2.1.length:Int)))
 else
 some (.inl false)
 else
 some (.inl false)
 else
 some (.inl false)
 else
 some (.inl false)).bind (Sum.elim Z8T some)
def ZB8 (x16:Int):(Bool×List (List Int))->Option (Y89⊕Bool):=fun (x26,l27)=>
 bif x26 then
 (some false).map .inr
 else
 some (.inl (IntKind.wrap .i64 (x16+1),l27))
def ZB7 (raw4:List Int) (r7:TT) (r8:List Int) (bent9:List Int):Y89->Option (Y89⊕Bool):=fun (x16,l17)=>
 bif decide (x16 < (List.length ([r8,bent9,raw4]:List (List Int)):Int)) then
 (gI l17 x16).bind fun y18=>
 (gI l17 x16).bind fun y19=>
 (F10 r7 y19).bind fun r20=>
 (F11 r7 y19).bind fun r21=>
 (F12 r7 y19).bind fun r22=>
 (F13 r7 y19).bind fun r23=>
 (F14 r7 y19).bind fun r24=>
 (F15 r7 y19).bind fun r25=>
 (bif !(r20.2==r21.2) then
 some (.inl (true,l17))
 else
 bif !(r22.2==r23.2) then
 some (.inl (true,l17))
 else
 bif r22.1 != r23.1 then
 some (.inl (true,l17))
 else
 bif !(r24.2==r25.2) then
 some (.inl (true,l17))
 else
 (F16 r20.1 r21.1).bind fun r28=>
 bif !r28 then
 some (.inl (true,l17))
 else
 bif !(r20.1.1.toList==(ByteArray.mk #[]).toList) then
 some (.inl (true,l17))
 else
 (F17 r24.1 r25.1).bind fun r29=>
 some (.inl (!r29,l17))).bind (Sum.elim (ZB8 x16) some)
 else
 ((F18).bind fun r30=>
 some r30).map .inr
def ZB4 (raw4:List Int) (r7:TT) (r8:List Int):(List Int)->Option Bool:=fun bent9=>
 Zao (ZB7 raw4 r7 r8 bent9) (0,([r8,bent9,raw4]:List (List Int)))
def F3 (l1:List Int) (pairs2:List Int) (which3:List Int) (raw4:List Int) (at5:Int) (by6:Int):Option Bool:=
 (F7 l1 pairs2).bind fun r7=>
 (F8 r7 which3).bind fun r8=>
 bif decide (r8.length<=1000000) then
 (bif decide ((r8.length:Int) > 0) then
 (F9 at5 (r8.length:Int)).bind fun r10=>
 (F9 by6 (IntKind.wrap .i64 ((r8.length:Int)+3))).bind fun r11=>
 (gI r8 r10).bind fun y12=>
 (gI r8 r10).bind fun y13=>
 some (.inl (Zaq r8 r10 (IntKind.wrap .i64 (r11 - 2))))
 else
 some (.inl r8)).bind (Sum.elim (ZB4 raw4 r7 r8) some)
 else none
end
end Go.Dat
