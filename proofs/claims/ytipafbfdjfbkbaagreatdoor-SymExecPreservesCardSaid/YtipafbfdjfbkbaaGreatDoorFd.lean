import Derived.Test.YtipafbfdjfbkbaaGreatDoorE2Run
set_option linter.unusedVariables false
open Go.IntKind (wrap)
open Int (tdiv tmod toNat fdiv)
open BitVec (ofInt)
open List (replicate)
open ByteArray (empty)
namespace Go.Dat
open Go.Eng
noncomputable section
abbrev TN:=List (Int×Int×List Int)
abbrev TS:=List (Int×Int×Int×List Int×List Int)
abbrev TI:=List (Int×Int×Int)
abbrev TP:=List (Int×Int)
abbrev TT:=TN×TS×TI×Int×Int×Int×Int
abbrev TQ:=TN×TS×Int×Int
abbrev Y0:=Int×List (List Int)×List Int×Int×Int×Int×Int×List ReT×(List (ByteArray×Int))×(List (ByteArray×Int×TN×Int×Int))×ByteArray×Int×TN×Int×Int×List (List Bool)×List Int×Int×Int×Int×Int×List Int×List (List Int)×List Bool×List ReT×List (List ReT)
abbrev Y1:=ByteArray×Int
abbrev Y2:=ByteArray×Int×TN×Int×Int
abbrev Y3:=Int×Int×Int×Int×Int×List ReT×(List Y1)×(List Y2)×ByteArray×Int×TN×Int×Int×List (List Bool)×List Int×Int×Int×Int×Int×List (List Int)×List Int×List Int×List (List Int)×List Bool×List ReT×List (List ReT)
abbrev Y4:=List (List Int)×Int×Int×Int×Int×(List Y1)×(List Y2)×ByteArray×Int×TN×Int×Int×List (List Bool)×List Int×Int×Int×Int×Int×List Int×List Int×List (List Int)×List Bool×List ReT×List (List ReT)
abbrev Y5:=Int×List Int×TN×List Y1
abbrev Y6:=Bool×List Int×TN×List Y1
abbrev Y7:=Int×List Int
abbrev Y8:=Int×Bool×List Int×TN×List Y1
abbrev Y9:=Int×(List Y1)×(List Y2)×ByteArray×Int×TN×Int×Int×List (List Bool)×List Int×Int×Int×Int×Int×Int×Int×Int×Int×List (List Int)×List Int×Int×Int×Int×Int×List Int×List Int×List (List Int)×List Bool×List ReT×List (List ReT)
abbrev Y10:=List Int×List Int×TN×TN×List Y1
abbrev Y11:=Int×List (List Bool)×List Bool
abbrev Y12:=(Int×List (List Bool))⊕(List (List Bool))
abbrev Y13:=Bool×(List Y1)×(List Y2)×ByteArray×Int×TN×Int×Int×List (List Bool)×List Int×Int×Int×Int×Int×Int×Int×Int×Int×Int×List Int×List (List Int)×List Bool×List ReT×List (List ReT)
abbrev Y14:=(List Y1)×(List Y2)×ByteArray×Int×TN×Int×Int×List (List Bool)×List Int×Int×Int×Int×Int×List Int×List (List Int)×List Bool×List ReT×List (List ReT)
abbrev Y15:=(Int×Int×Int)⊕(TN⊕((TN×Int)⊕TN))
abbrev Y16:=Y7⊕(List Int)
abbrev Y17:=Int×ByteArray×Int×Int×Int×List Int×List Int×TN×List Y1
abbrev Y18:=TN⊕((Int×TN)⊕TN)
abbrev Y19:=Int×Int×Bool×List Int×TN×List Y1
abbrev Y20:=Int×Int×List Int×Int
abbrev Y21:=(List Bool)⊕((Int×List Bool)⊕Bool)
abbrev Y22:=List (List Int)×List Int×Int×Int×Int×Int
abbrev Y23:=Int×Int×List Int
abbrev Y24:=(Bool×Int×List Int×List Int)⊕((Bool×List Int×List Int)⊕((List Int)⊕Y16))
abbrev Y25:=Int×ByteArray×Int×Int×Int×List Int×List Int×List Int×TN×List Y1
abbrev Y26:=Int×List Int×List (ByteArray×Bool)
abbrev Y27:=List Int×List Int×TN×List Y1
abbrev Y28:=List Int×TN×List Y1
abbrev Y29:=Int×Int×Int×Int×Int×Int×Int×Int×List (List Int)
abbrev Y30:=TN×Int×Int×Int×List Int
abbrev Y31:=Int×List Int×List Int×List Int×TN×TN×List Y1
abbrev Y32:=Bool×List Int
abbrev Y33:=List (List Bool)×List Bool
abbrev Y34:=Int×List Bool
abbrev Y35:=Int×List Int×List Int×List Int×TN×List Y1
abbrev Y36:=TN×Int×Int×List Int
abbrev Y37:=Int×TN×Int×Int×Int×List Int×List Int
abbrev Y38:=Bool×Int×Int×Int
abbrev Y39:=Bool×List Int×List Int×TN×List Y1
abbrev Y40:=Int×List Int×List Int×TN×List Y1
abbrev Y41:=Int×Int×Int×Int
abbrev Y42:=Int×ByteArray×Int×Int×Int
def GT1:List Int:=[1,10,100,1000,10000,100000,1000000,10000000,100000000,1000000000,10000000000,100000000000,1000000000000,10000000000000,100000000000000,1000000000000000,10000000000000000,100000000000000000,1000000000000000000,10000000000000000000]
def BS0:ByteArray:=ByteArray.mk #[48,49,50,51,52,53,54,55,56,57,97,98,99,100,101,102,103,104,105,106,107,108,109,110,111,112,113,114,115,116,117,118,119,120,121,122]
def BS1:ByteArray:=ByteArray.mk #[48,48,48,49,48,50,48,51,48,52,48,53,48,54,48,55,48,56,48,57,49,48,49,49,49,50,49,51,49,52,49,53,49,54,49,55,49,56,49,57,50,48,50,49,50,50,50,51,50,52,50,53,50,54,50,55,50,56,50,57,51,48,51,49,51,50,51,51,51,52,51,53,51,54,51,55,51,56,51,57,52,48,52,49,52,50,52,51,52,52,52,53,52,54,52,55,52,56,52,57,53,48,53,49,53,50,53,51,53,52,53,53,53,54,53,55,53,56,53,57,54,48,54,49,54,50,54,51,54,52,54,53,54,54,54,55,54,56,54,57,55,48,55,49,55,50,55,51,55,52,55,53,55,54,55,55,55,56,55,57,56,48,56,49,56,50,56,51,56,52,56,53,56,54,56,55,56,56,56,57,57,48,57,49,57,50,57,51,57,52,57,53,57,54,57,55,57,56,57,57]
def BS2:ByteArray:=ByteArray.mk #[0,1,2,2,3,3,3,3,4,4,4,4,4,4,4,4,5,5,5,5,5,5,5,5,5,5,5,5,5,5,5,5,6,6,6,6,6,6,6,6,6,6,6,6,6,6,6,6,6,6,6,6,6,6,6,6,6,6,6,6,6,6,6,6,7,7,7,7,7,7,7,7,7,7,7,7,7,7,7,7,7,7,7,7,7,7,7,7,7,7,7,7,7,7,7,7,7,7,7,7,7,7,7,7,7,7,7,7,7,7,7,7,7,7,7,7,7,7,7,7,7,7,7,7,7,7,7,7,8,8,8,8,8,8,8,8,8,8,8,8,8,8,8,8,8,8,8,8,8,8,8,8,8,8,8,8,8,8,8,8,8,8,8,8,8,8,8,8,8,8,8,8,8,8,8,8,8,8,8,8,8,8,8,8,8,8,8,8,8,8,8,8,8,8,8,8,8,8,8,8,8,8,8,8,8,8,8,8,8,8,8,8,8,8,8,8,8,8,8,8,8,8,8,8,8,8,8,8,8,8,8,8,8,8,8,8,8,8,8,8,8,8,8,8,8,8,8,8,8,8,8,8,8,8,8,8]
def F10:Option Bool:=some true
def Z8l:Int->Option Int:=fun n3=>
 some n3
def F13 (n1:Int) (m2:Int):Option Int:=
 bif decide (m2=0) then none else
 (bif decide ((tmod n1 m2) < 0) then
 some (.inl (wrap .i64 ((tmod n1 m2)+m2)))
 else
 some (.inl (tmod n1 m2))).bind (Sum.elim Z8l some)
def F19 (n1:Int) (raw2:Int):Option Int:=
 (F13 n1 24).bind fun r3=>
 bif decide (r3 < 10) then
 (gI ([0,1,(-1),2,(-9223372036854775808),9223372036854775807,4294967296,(-2147483648),63,64]:List Int) r3).bind fun y4=>
 (gI ([0,1,(-1),2,(-9223372036854775808),9223372036854775807,4294967296,(-2147483648),63,64]:List Int) r3).bind fun y5=>
 some y5
 else
 bif decide (r3 < 22) then
 (F13 (wrap .i64 (tdiv n1 24)) 17).bind fun r6=>
 some (wrap .i64 (r6 - 6))
 else
 some raw2
def Z9l:Bool->Option (Int×Bool):=fun x6=>
 bif x6 then
 some ((-1),true)
 else
 some (0,false)
def Z9m (op1:Int):Bool->Option (Int×Bool):=fun x5=>
 bif x5 then
 some (3,true)
 else
 (bif op1==30 then
 some (.inl true)
 else
 some (.inl (op1==31))).bind (Sum.elim Z9l some)
def Z9n (op1:Int):Bool->Option (Int×Bool):=fun x4=>
 bif x4 then
 some (2,true)
 else
 (bif op1==22 then
 some (.inl true)
 else
 some (.inl (op1==28))).bind (Sum.elim (Z9m op1) some)
def Z9o (op1:Int):Bool->Option (Int×Bool):=fun x3=>
 bif x3 then
 some (1,true)
 else
 (bif decide (op1>=4) then
 bif decide (op1<=19) then
 some (.inl true)
 else
 bif op1==23 then
 some (.inl true)
 else
 bif op1==27 then
 some (.inl true)
 else
 some (.inl (op1==29))
 else
 bif op1==23 then
 some (.inl true)
 else
 bif op1==27 then
 some (.inl true)
 else
 some (.inl (op1==29))).bind (Sum.elim (Z9n op1) some)
def Z5H (op1:Int):Bool->Option (Int×Bool):=fun x2=>
 bif x2 then
 some (0,true)
 else
 (bif op1==20 then
 some (.inl true)
 else
 bif op1==21 then
 some (.inl true)
 else
 bif op1==24 then
 some (.inl true)
 else
 some (.inl (op1==25))).bind (Sum.elim (Z9o op1) some)
def F26 (op1:Int):Option (Int×Bool):=
 (bif op1==1 then
 some (.inl true)
 else
 bif op1==2 then
 some (.inl true)
 else
 bif op1==3 then
 some (.inl true)
 else
 some (.inl (op1==26))).bind (Sum.elim (Z5H op1) some)
def Ztv (op1:Int):Bool->Option Int:=fun x2=>
 bif x2 then
 some 3
 else
 bif op1==27 then
 some 1000016
 else
 bif op1==30 then
 some 7
 else
 bif op1==31 then
 some 15
 else
 bif op1==25 then
 some 15
 else
 some (-1)
def Z0r (op1:Int):Option Int:=
 bif op1==2 then
 some 5
 else
 bif op1==3 then
 some 255
 else
 (bif op1==23 then
 some (.inl true)
 else
 some (.inl (op1==28))).bind (Sum.elim (Ztv op1) some)
def ZuL:Bool->Option Bool:=fun x4=>
 some x4
def F81 (op1:Int) (n2:Int):Option Bool:=
 bif op1==1 then
 some true
 else
 (Z0r op1).bind fun r3=>
 bif decide (r3 < 0) then
 some (n2==0)
 else
 (bif decide (n2>=0) then
 bif decide (n2<=r3) then
 bif op1 != 27 then
 some (.inl true)
 else
 some (.inl (decide (n2 > 0)))
 else
 some (.inl false)
 else
 some (.inl false)).bind (Sum.elim ZuL some)
def F82 (ok1:Bool) (n2:Int):Option Int:=
 bif ok1 then
 some n2
 else
 some 0
def ZDI (k1:List Int):Int->Option (Int⊕Bool):=fun i3=>
 bif decide (i3 < (k1.length:Int)) then
 (gI k1 i3).bind fun y4=>
 bif y4 != 1 then
 (some false).map .inr
 else
 some (.inl (wrap .i64 (i3+1)))
 else
 (some true).map .inr
def F83 (k1:List Int):Option Bool:=
 Zao (ZDI k1) 0
def ZRz (k3:List Int):Bool->Option Int:=fun x8=>
 bif x8 then
 some 0
 else
 (gI k3 1).bind fun y13=>
 some y13
def ZRv:Int->Option Int:=fun x14=>
 some x14
def ZR3 (n2:Int×Int×List Int):Bool->Option Int:=fun x21=>
 bif x21 then
 some 0
 else
 (F82 (n2.2.1==0) 1).bind fun r25=>
 some (wrap .i64 (r25+1))
def ZRw:Int->Option Int:=fun x27=>
 some x27
def ZRu:Int->Option Int:=fun x32=>
 some x32
def ZR6:Int->Option Int:=fun x39=>
 some x39
def ZRD:Int->Option Int:=fun x46=>
 some x46
def ZRs (n2:Int×Int×List Int) (k3:List Int):Bool->Option Int:=fun x26=>
 bif x26 then
 ((gI k3 0).bind fun y28=>
 bif y28==2 then
 (gI k3 1).bind fun y29=>
 (F82 (y29==1) 2).bind fun r30=>
 some (.inl r30)
 else
 (F82 false 2).bind fun r31=>
 some (.inl r31)).bind (Sum.elim ZRw some)
 else
 bif n2.1==28 then
 ((gI k3 0).bind fun y33=>
 bif y33==2 then
 (gI k3 1).bind fun y34=>
 bif y34==1 then
 (gI k3 2).bind fun y35=>
 (F82 (y35==1) 2).bind fun r36=>
 some (.inl r36)
 else
 (F82 false 2).bind fun r37=>
 some (.inl r37)
 else
 (F82 false 2).bind fun r38=>
 some (.inl r38)).bind (Sum.elim ZRu some)
 else
 bif n2.1==30 then
 (bif decide ((k3.length:Int)>=1) then
 bif decide ((k3.length:Int)<=7) then
 (gI k3 0).bind fun y40=>
 bif y40==2 then
 bif decide ((0:Int)<=1/\(1:Int)<=(k3.length:Int)/\(k3.length:Int)<=(k3.length:Int)) then
 (F83 (slI k3 1 (k3.length:Int))).bind fun r41=>
 (F82 r41 2).bind fun r42=>
 some (.inl r42)
 else none
 else
 (F82 false 2).bind fun r43=>
 some (.inl r43)
 else
 (F82 false 2).bind fun r44=>
 some (.inl r44)
 else
 (F82 false 2).bind fun r45=>
 some (.inl r45)).bind (Sum.elim ZR6 some)
 else
 bif n2.1==31 then
 (bif (tmod (k3.length:Int) 2)==1 then
 bif decide ((wrap .i64 (tdiv (k3.length:Int) 2))>=1) then
 bif decide ((wrap .i64 (tdiv (k3.length:Int) 2))<=16) then
 (gI k3 0).bind fun y47=>
 bif y47==2 then
 bif decide ((0:Int)<=1/\(1:Int)<=wrap .i64 ((wrap .i64 (tdiv (k3.length:Int) 2))+1)/\wrap .i64 ((wrap .i64 (tdiv (k3.length:Int) 2))+1)<=(k3.length:Int)) then
 (F83 (slI k3 1 (wrap .i64 ((wrap .i64 (tdiv (k3.length:Int) 2))+1)))).bind fun r48=>
 bif r48 then
 (gI k3 (wrap .i64 ((wrap .i64 (tdiv (k3.length:Int) 2))+1))).bind fun y49=>
 bif y49==2 then
 bif decide ((0:Int)<=wrap .i64 ((wrap .i64 (tdiv (k3.length:Int) 2))+2)/\(wrap .i64 ((wrap .i64 (tdiv (k3.length:Int) 2))+2):Int)<=(k3.length:Int)/\(k3.length:Int)<=(k3.length:Int)) then
 (F83 (slI k3 (wrap .i64 ((wrap .i64 (tdiv (k3.length:Int) 2))+2)) (k3.length:Int))).bind fun r50=>
 (F82 r50 3).bind fun r51=>
 some (.inl r51)
 else none
 else
 (F82 false 3).bind fun r52=>
 some (.inl r52)
 else
 (F82 false 3).bind fun r53=>
 some (.inl r53)
 else none
 else
 (F82 false 3).bind fun r54=>
 some (.inl r54)
 else
 (F82 false 3).bind fun r55=>
 some (.inl r55)
 else
 (F82 false 3).bind fun r56=>
 some (.inl r56)
 else
 (F82 false 3).bind fun r57=>
 some (.inl r57)).bind (Sum.elim ZRD some)
 else
 (F83 k3).bind fun r58=>
 (F82 r58 1).bind fun r59=>
 some r59
def ZRq (l1:TN) (n2:Int×Int×List Int) (k3:List Int):Bool->Option Int:=fun x5=>
 bif x5 then
 some 0
 else
 bif n2.1==3 then
 bif (tmod n2.2.1 16)==0 then
 some 2
 else
 some 1
 else
 bif n2.1==26 then
 some 2
 else
 bif n2.1==22 then
 ((gI k3 0).bind fun y9=>
 bif y9 != 1 then
 some (.inl true)
 else
 (gI k3 1).bind fun y10=>
 (gI k3 2).bind fun y11=>
 bif y10 != y11 then
 some (.inl true)
 else
 (gI k3 1).bind fun y12=>
 some (.inl (y12==3))).bind (Sum.elim (ZRz k3) some)
 else
 bif n2.1==23 then
 ((gI k3 0).bind fun y15=>
 bif y15==2 then
 (gI k3 1).bind fun y16=>
 (F82 (y16==1) 1).bind fun r17=>
 some (.inl r17)
 else
 (F82 false 1).bind fun r18=>
 some (.inl r18)).bind (Sum.elim ZRv some)
 else
 bif n2.1==24 then
 (gI k3 0).bind fun y19=>
 (F82 (y19==2) 1).bind fun r20=>
 some r20
 else
 bif n2.1==25 then
 ((gI k3 0).bind fun y22=>
 bif y22 != 3 then
 some (.inl true)
 else
 (gI n2.2.2 0).bind fun y23=>
 (gI l1 y23).bind fun y24=>
 some (.inl (decide (n2.2.1>=(wrap .i64 (tdiv (y24.2.2.length:Int) 2)))))).bind (Sum.elim (ZR3 n2) some)
 else
 (bif n2.1==27 then
 some (.inl true)
 else
 some (.inl (n2.1==29))).bind (Sum.elim (ZRs n2 k3) some)
def F50 (l1:TN) (n2:Int×Int×List Int) (k3:List Int):Option Int:=
 (F26 n2.1).bind fun r4=>
 (bif !r4.2 then
 some (.inl true)
 else
 bif decide (r4.1>=0) then
 bif (n2.2.2.length:Int) != r4.1 then
 some (.inl true)
 else
 (F81 n2.1 n2.2.1).bind fun r6=>
 some (.inl (!r6))
 else
 (F81 n2.1 n2.2.1).bind fun r7=>
 some (.inl (!r7))).bind (Sum.elim (ZRq l1 n2 k3) some)
def ZD2 (ok18:Bool) (j19:Int) (y24:Int):(Bool×List Int×List Int)->Option Y24:=fun (x25,out26,k27)=>
 bif x25 then
 (some (.inl (false,out26,k27))).map .inr
 else
 (gI out26 y24).bind fun y30=>
 (gI out26 y24).bind fun y31=>
 bif decide (k27.length+List.length ([y31]:List Int)<=1000000) then
 some (.inl (ok18,wrap .i64 (j19+1),out26,k27++([y31]:List Int)))
 else none
def ZSR (l1:TN) (i5:Int):(Bool×Int×List Int×List Int)->Option Y24:=fun (ok18,j19,out20,k21)=>
 (gI l1 i5).bind fun y22=>
 bif decide (j19 < (y22.2.2.length:Int)) then
 (gI l1 i5).bind fun y23=>
 (gI y23.2.2 j19).bind fun y24=>
 (bif decide (y24 < 0) then
 some (.inl (true,out20,k21))
 else
 bif decide (y24>=i5) then
 some (.inl (true,out20,k21))
 else
 (gI out20 y24).bind fun y28=>
 (gI out20 y24).bind fun y29=>
 some (.inl (y29==0,out20,k21))).bind (Sum.elim (ZD2 ok18 j19 y24) some)
 else
 (some (.inl (ok18,out20,k21))).map .inr
def Z9z (l1:TN) (i5:Int):(Bool×List Int×List Int)->Option ((List Int)⊕Y16):=fun (ok8,out9,k10)=>
 bif ok8 then
 (gI l1 i5).bind fun y32=>
 (F50 l1 y32 k10).bind fun r33=>
 bif decide (out9.length+List.length ([r33]:List Int)<=1000000) then
 some (.inl (out9++([r33]:List Int)))
 else none
 else
 bif decide (out9.length+List.length ([0]:List Int)<=1000000) then
 some (.inl (out9++([0]:List Int)))
 else none
def Z5B (i5:Int):(List Int)->Option Y16:=fun out7=>
 some (.inl (wrap .i64 (i5+1),out7))
def Z90 (l1:TN):Y7->Option Y16:=fun (i5,out6)=>
 bif decide (i5 < (l1.length:Int)) then
 ((Zao (ZSR l1 i5) (true,0,out6,[])).bind (Sum.elim (Z9z l1 i5) some)).bind (Sum.elim (Z5B i5) some)
 else
 (some out6).map .inr
def F31 (l1:TN):Option (List Int):=
 Zao (Z90 l1) (0,[])
def Z5I (i8:Int):(List Int)->Option (Y7⊕Int):=fun all10=>
 some (.inl (wrap .i64 (i8+1),all10))
def Z8F (l1:TN) (sort2:Int) (n3:Int) (r4:List Int):Y7->Option (Y7⊕Int):=fun (i8,all9)=>
 bif decide (i8 < (l1.length:Int)) then
 ((gI r4 i8).bind fun y11=>
 bif y11==sort2 then
 bif decide (all9.length+List.length ([i8]:List Int)<=1000000) then
 some (.inl (all9++([i8]:List Int)))
 else none
 else
 some (.inl all9)).bind (Sum.elim (Z5I i8) some)
 else
 ((F13 n3 (all9.length:Int)).bind fun r12=>
 (gI all9 (wrap .i64 ((wrap .i64 ((all9.length:Int) - 1)) - r12))).bind fun y13=>
 (gI all9 (wrap .i64 ((wrap .i64 ((all9.length:Int) - 1)) - r12))).bind fun y14=>
 some y14).map .inr
def F27 (l1:TN) (sort2:Int) (n3:Int):Option Int:=
 (F31 l1).bind fun r4=>
 Zao (Z8F l1 sort2 n3 r4) (0,[])
def Z93:Bool->Option Int:=fun x2=>
 bif x2 then
 some 2
 else
 some 1
def F49 (op1:Int):Option Int:=
 (bif op1==27 then
 some (.inl true)
 else
 bif op1==28 then
 some (.inl true)
 else
 some (.inl (op1==29))).bind (Sum.elim Z93 some)
def Z5J:Bool->Option Int:=fun x3=>
 bif x3 then
 some 2
 else
 some 1
def F28 (op1:Int) (k2:Int):Option Int:=
 (bif k2==0 then
 (F49 op1).bind fun r4=>
 bif r4==2 then
 some (.inl true)
 else
 bif op1==23 then
 some (.inl true)
 else
 some (.inl (op1==24))
 else
 some (.inl false)).bind (Sum.elim Z5J some)
def Z99 (a1:Int×Int×List Int) (b2:Int×Int×List Int):Int->Option (Int⊕Bool):=fun i5=>
 bif decide (i5 < (a1.2.2.length:Int)) then
 (gI a1.2.2 i5).bind fun y6=>
 (gI b2.2.2 i5).bind fun y7=>
 bif y6 != y7 then
 (some false).map .inr
 else
 some (.inl (wrap .i64 (i5+1)))
 else
 (some true).map .inr
def Z8M (a1:Int×Int×List Int) (b2:Int×Int×List Int):Bool->Option Bool:=fun x3=>
 bif x3 then
 some false
 else
 Zao (Z99 a1 b2) 0
def F32 (a1:Int×Int×List Int) (b2:Int×Int×List Int):Option Bool:=
 (bif a1.1 != b2.1 then
 some (.inl true)
 else
 bif a1.2.1 != b2.2.1 then
 some (.inl true)
 else
 some (.inl ((a1.2.2.length:Int) != (b2.2.2.length:Int)))).bind (Sum.elim (Z8M a1 b2) some)
def Z8H (l1:TN) (n2:Int×Int×List Int):Int->Option (Int⊕Bool):=fun i4=>
 bif decide (i4 < (l1.length:Int)) then
 (gI l1 i4).bind fun y5=>
 (F32 y5 n2).bind fun r6=>
 bif r6 then
 (some true).map .inr
 else
 some (.inl (wrap .i64 (i4+1)))
 else
 (some false).map .inr
def F30 (l1:TN) (n2:Int×Int×List Int):Option Bool:=
 Zao (Z8H l1 n2) 0
def F29 (x1:Int) (l2:List Int):Option Y23:=
 bif (l2.length:Int)==0 then
 some (0,x1,l2)
 else
 (gI l2 0).bind fun y3=>
 (gI l2 0).bind fun y4=>
 bif decide ((0:Int)<=1/\(1:Int)<=(l2.length:Int)/\(l2.length:Int)<=(l2.length:Int)) then
 some (y4,x1,slI l2 1 (l2.length:Int))
 else none
def ZS1 (l1:List Int) (i5:Int):(Bool×TN×Int×Int×Int×List Int)->Option (Y30⊕Y18):=fun (x20,out21,x22,n23,n24,l25)=>
 bif x20 then
 (gI l1 i5).bind fun y28=>
 (F13 (wrap .i64 (tdiv y28 9)) 5).bind fun r29=>
 (gI ([23,27,28,29,24]:List Int) r29).bind fun y30=>
 (gI ([23,27,28,29,24]:List Int) r29).bind fun y31=>
 some (.inl (out21,x22,y31,n24,l25))
 else
 some (.inl (out21,x22,n23,n24,l25))
def ZS2 (l1:List Int) (i5:Int):(Bool×TN×Int×Int×List Int)->Option (Y36⊕Y18):=fun (x76,out77,n78,n79,l80)=>
 bif x76 then
 (gI l1 i5).bind fun y81=>
 (F13 (wrap .i64 (tdiv y81 5)) 2).bind fun r82=>
 some (.inl (out77,n78,r82,l80))
 else
 some (.inl (out77,n78,n79,l80))
def ZS3:Y36->Option Y18:=fun (out72,n73,n74,l75)=>
 (F30 out72 (n73,n74,l75)).bind fun r83=>
 bif !r83 then
 bif decide (out72.length+List.length ([(n73,n74,l75)]:TN)<=1000000) then
 some (.inl (out72++([(n73,n74,l75)]:TN)))
 else none
 else
 some (.inl out72)
def ZSS (l1:List Int) (i5:Int):Y36->Option Y18:=fun (out66,n67,n68,l69)=>
 ((bif n67==23 then
 some (.inl (true,out66,n67,n68,l69))
 else
 some (.inl (n67==28,out66,n67,n68,l69))).bind (Sum.elim (ZS2 l1 i5) some)).bind (Sum.elim ZS3 some)
def ZFZ (l1:List Int) (i5:Int) (r42:Int×Bool):Y37->Option (Y37⊕Y18):=fun (j56,out57,x58,n59,n60,l61,l62)=>
 bif decide (j56 < r42.1) then
 (F28 n59 j56).bind fun r63=>
 (F29 x58 l61).bind fun r64=>
 (F27 out57 r63 r64.1).bind fun r65=>
 bif decide (l62.length+List.length ([r65]:List Int)<=1000000) then
 some (.inl (wrap .i64 (j56+1),out57,r64.2.1,n59,n60,r64.2.2,l62++([r65]:List Int)))
 else none
 else
 ((bif n59==27 then
 (gI l1 i5).bind fun y70=>
 (F13 (wrap .i64 (tdiv y70 5)) 2).bind fun r71=>
 some (.inl (out57,n59,wrap .i64 (1+r71),l62))
 else
 some (.inl (out57,n59,n60,l62))).bind (Sum.elim (ZSS l1 i5) some)).map .inr
def ZST (l1:List Int) (i5:Int):Y30->Option Y18:=fun (out32,x33,n34,n35,l36)=>
 (F26 n34).bind fun r42=>
 Zao (ZFZ l1 i5 r42) (0,out32,x33,n34,n35,l36,[])
def ZS4 (l1:List Int) (i5:Int):Y30->Option Y18:=fun (out15,x16,n17,n18,l19)=>
 ((gI l1 i5).bind fun y37=>
 (F13 y37 11).bind fun r38=>
 bif r38==0 then
 (gI l1 i5).bind fun y39=>
 (gI l1 i5).bind fun y40=>
 (F19 (wrap .i64 (tdiv y39 11)) y40).bind fun r41=>
 some (.inl (out15,x16,1,r41,l19))
 else
 some (.inl (out15,x16,n17,n18,l19))).bind (Sum.elim (ZST l1 i5) some)
def ZGf (i5:Int):TN->Option ((Int×TN)⊕TN):=fun out9=>
 some (.inl (wrap .i64 (i5+1),out9))
def ZGa (l1:List Int) (values2:Bool) (i5:Int):(Bool×TN)->Option ((Int×TN)⊕TN):=fun (x7,out8)=>
 bif x7 then
 ((gI l1 i5).bind fun y10=>
 (gI l1 i5).bind fun y11=>
 (gI l1 i5).bind fun y12=>
 (gI l1 i5).bind fun y13=>
 (F13 y13 19).bind fun r14=>
 ((bif !values2 then
 (gI l1 i5).bind fun y26=>
 (F13 y26 9).bind fun r27=>
 some (.inl (decide (r27 > 5),out8,0,wrap .i64 (4+r14),0,([wrap .i64 (tdiv y10 7),wrap .i64 (tdiv y11 101),wrap .i64 (tdiv y12 1009)]:List Int)))
 else
 some (.inl (false,out8,0,wrap .i64 (4+r14),0,([wrap .i64 (tdiv y10 7),wrap .i64 (tdiv y11 101),wrap .i64 (tdiv y12 1009)]:List Int)))).bind (Sum.elim (ZS1 l1 i5) some)).bind (Sum.elim (ZS4 l1 i5) some)).bind (Sum.elim (ZGf i5) some)
 else
 (some out8).map .inr
def ZGg (l1:List Int) (values2:Bool):(Int×TN)->Option ((Int×TN)⊕TN):=fun (i5,out6)=>
 (bif decide (i5 < (l1.length:Int)) then
 some (.inl (decide (i5 < 14),out6))
 else
 some (.inl (false,out6))).bind (Sum.elim (ZGa l1 values2 i5) some)
def F11 (l1:List Int) (values2:Bool):Option TN:=
 Zao (ZGg l1 values2) (0,([(2,0,[]),(2,1,[]),(26,0,[])]:TN))
def Z7v (l1:TN) (i2:Int):Bool->Option Int:=fun x3=>
 bif x3 then
 some 0
 else
 bif decide ((0:Int)<=0/\(0:Int)<=wrap .i64 (i2+1)/\wrap .i64 (i2+1)<=(l1.length:Int)) then
 (F31 (slI l1 0 (wrap .i64 (i2+1)))).bind fun r4=>
 (gI r4 i2).bind fun y5=>
 some y5
 else none
def F12 (l1:TN) (i2:Int):Option Int:=
 (bif decide (i2 < 0) then
 some (.inl true)
 else
 some (.inl (decide (i2>=(l1.length:Int))))).bind (Sum.elim (Z7v l1 i2) some)
def ZIX (l1:TN) (n2:Int×Int×List Int):Int->Option (Int⊕(TN×Int)):=fun i4=>
 bif decide (i4 < (l1.length:Int)) then
 (gI l1 i4).bind fun y5=>
 (F32 y5 n2).bind fun r6=>
 bif r6 then
 (some (l1,i4)).map .inr
 else
 some (.inl (wrap .i64 (i4+1)))
 else
 (bif decide (l1.length<=1000000) then
 bif decide (l1.length+List.length ([n2]:TN)<=1000000) then
 some (l1++([n2]:TN),(l1.length:Int))
 else none
 else none).map .inr
def F14 (l1:TN) (n2:Int×Int×List Int):Option (TN×Int):=
 Zao (ZIX l1 n2) 0
def ZTA (v13:Int) (i15:Int):Bool->Option (Int⊕((Int×Int)⊕Y15)):=fun x19=>
 bif x19 then
 some (.inl i15)
 else
 some (.inl v13)
def ZTB (s14:Int) (i15:Int) (v18:Int):Bool->Option ((Int×Int)⊕Y15):=fun x23=>
 bif x23 then
 some (.inl (v18,i15))
 else
 some (.inl (v18,s14))
def ZGm (l1:List Int) (n6:TN) (k7:Int) (s14:Int) (i15:Int):Int->Option ((Int×Int)⊕Y15):=fun v18=>
 ((F12 n6 i15).bind fun r24=>
 bif r24==2 then
 (gI l1 k7).bind fun y25=>
 (F13 (wrap .i64 ((wrap .i64 (tdiv y25 3))+i15)) 3).bind fun r26=>
 some (.inl (r26 != 0))
 else
 some (.inl false)).bind (Sum.elim (ZTB s14 i15 v18) some)
def ZGl (i15:Int):(Int×Int)->Option Y15:=fun (v16,s17)=>
 some (.inl (v16,s17,wrap .i64 (i15+1)))
def Z2e (l1:List Int) (size2:Int) (n6:TN) (k7:Int):(Int×Int×Int)->Option Y15:=fun (v13,s14,i15)=>
 bif decide (i15 < (n6.length:Int)) then
 ((((F12 n6 i15).bind fun r20=>
 bif r20==1 then
 (gI l1 k7).bind fun y21=>
 (F13 (wrap .i64 (y21+i15)) 3).bind fun r22=>
 some (.inl (r22 != 0))
 else
 some (.inl false)).bind (Sum.elim (ZTA v13 i15) some)).bind (Sum.elim (ZGm l1 n6 k7 s14 i15) some)).bind (Sum.elim (ZGl i15) some)
 else
 ((gI l1 k7).bind fun y27=>
 (F13 y27 3).bind fun r28=>
 bif r28==0 then
 (F14 n6 (1,0,[])).bind fun r29=>
 (F14 r29.1 (15,0,([v13,r29.2]:List Int))).bind fun r30=>
 (F14 r30.1 (4,0,([v13,r30.2]:List Int))).bind fun r31=>
 (F14 r31.1 (8,0,([0,r31.2]:List Int))).bind fun r32=>
 (F14 r32.1 (1,(-1),[])).bind fun r33=>
 (F14 r33.1 (4,0,([r30.2,r33.2]:List Int))).bind fun r34=>
 (F14 r34.1 (9,0,([r32.2,r34.2]:List Int))).bind fun r35=>
 some (.inl r35.1)
 else
 bif r28==1 then
 (F14 n6 (1,size2,[])).bind fun r36=>
 (F14 r36.1 (19,0,([v13,r36.2]:List Int))).bind fun r37=>
 (F14 r37.1 (20,0,([r37.2]:List Int))).bind fun r38=>
 (F14 r38.1 (9,0,([v13,r38.2]:List Int))).bind fun r39=>
 (F14 r39.1 (23,0,([s14,r39.2]:List Int))).bind fun r40=>
 (F14 r40.1 (9,0,([r40.2,r38.2]:List Int))).bind fun r41=>
 some (.inl r41.1)
 else
 (F14 n6 (1,size2,[])).bind fun r42=>
 (F14 r42.1 (19,0,([v13,r42.2]:List Int))).bind fun r43=>
 (F14 r43.1 (28,0,([s14,v13,0]:List Int))).bind fun r44=>
 (F14 r44.1 (22,0,([r43.2,r44.2,s14]:List Int))).bind fun r45=>
 some (.inl r45.1)).map .inr
def ZEQ (k7:Int):TN->Option ((TN×Int)⊕TN):=fun n9=>
 some (.inl (n9,wrap .i64 (k7+1)))
def Z2d (l1:List Int) (size2:Int) (n6:TN) (k7:Int):Bool->Option ((TN×Int)⊕TN):=fun x8=>
 bif x8 then
 (Zao (Z2e l1 size2 n6 k7) (0,2,0)).bind (Sum.elim (ZEQ k7) some)
 else
 (some n6).map .inr
def Z2f (l1:List Int) (size2:Int):(TN×Int)->Option ((TN×Int)⊕TN):=fun (n6,k7)=>
 (bif decide (k7 < (l1.length:Int)) then
 some (.inl (decide (k7 < 4)))
 else
 some (.inl false)).bind (Sum.elim (Z2d l1 size2 n6 k7) some)
def F4 (l1:List Int) (size2:Int):Option TN:=
 (F11 l1 false).bind fun r3=>
 Zao (Z2f l1 size2) (r3,0)
def Z5R (n1:TN) (sort2:Int):Int->Option (Int⊕Int):=fun i4=>
 bif decide (i4>=0) then
 (F12 n1 i4).bind fun r5=>
 bif r5==sort2 then
 (some i4).map .inr
 else
 some (.inl (wrap .i64 (i4 - 1)))
 else
 (some 0).map .inr
def F5 (n1:TN) (sort2:Int):Option Int:=
 Zao (Z5R n1 sort2) (wrap .i64 ((n1.length:Int) - 1))
def ZSE:Bool->Option (Int×Bool):=fun x7=>
 bif x7 then
 some (2,true)
 else
 some (0,false)
def ZSF (op1:Int):Bool->Option (Int×Bool):=fun x6=>
 bif x6 then
 some ((-1),true)
 else
 (bif decide (op1>=4) then
 some (.inl (decide (op1<=19)))
 else
 some (.inl false)).bind (Sum.elim ZSE some)
def ZSG (op1:Int):Bool->Option (Int×Bool):=fun x5=>
 bif x5 then
 some (3,true)
 else
 (bif op1==30 then
 some (.inl true)
 else
 some (.inl (op1==31))).bind (Sum.elim (ZSF op1) some)
def ZSH (op1:Int):Bool->Option (Int×Bool):=fun x4=>
 bif x4 then
 some (2,true)
 else
 (bif op1==22 then
 some (.inl true)
 else
 some (.inl (op1==28))).bind (Sum.elim (ZSG op1) some)
def ZSI (op1:Int):Bool->Option (Int×Bool):=fun x3=>
 bif x3 then
 some (1,true)
 else
 (bif op1==23 then
 some (.inl true)
 else
 bif op1==27 then
 some (.inl true)
 else
 some (.inl (op1==29))).bind (Sum.elim (ZSH op1) some)
def ZSJ (op1:Int):Bool->Option (Int×Bool):=fun x2=>
 bif x2 then
 some (0,true)
 else
 (bif op1==20 then
 some (.inl true)
 else
 bif op1==21 then
 some (.inl true)
 else
 bif op1==24 then
 some (.inl true)
 else
 some (.inl (op1==25))).bind (Sum.elim (ZSI op1) some)
def Z0s (op1:Int):Option (Int×Bool):=
 (bif op1==1 then
 some (.inl true)
 else
 bif op1==2 then
 some (.inl true)
 else
 bif op1==3 then
 some (.inl true)
 else
 some (.inl (op1==26))).bind (Sum.elim (ZSJ op1) some)
def Z0t (kids1:Int):Option Int:=
 some (wrap .i64 (tdiv (wrap .i64 (kids1 - 1)) 2))
def ZNm (s1:List Int) (ZjW:List Int):Int->Option (Int⊕Bool):=fun i4=>
 bif decide (i4 < (s1.length:Int)) then
 (gI s1 i4).bind fun y5=>
 (gI ZjW i4).bind fun y6=>
 bif y5 != y6 then
 (some false).map .inr
 else
 some (.inl (wrap .i64 (i4+1)))
 else
 (some true).map .inr
def ZrP (s1:List Int) (ZjW:List Int):Option Bool:=
 Zao (ZNm s1 ZjW) 0
def Zt9 (kids1:Int):Y7->Option Y16:=fun (i5,l6)=>
 bif decide (i5 < kids1) then
 bif decide (l6.length+List.length ([1]:List Int)<=1000000) then
 some (.inl (wrap .i64 (i5+1),l6++([1]:List Int)))
 else none
 else
 ((Z0t kids1).bind fun r7=>
 (gI l6 0).bind fun y8=>
 (gI l6 0).bind fun y9=>
 (gI (Zaq l6 0 2) (wrap .i64 (r7+1))).bind fun y10=>
 (gI (Zaq l6 0 2) (wrap .i64 (r7+1))).bind fun y11=>
 some (Zaq (Zaq l6 0 2) (wrap .i64 (r7+1)) 2)).map .inr
def Z0u (kids1:Int):Option (List Int):=
 Zao (Zt9 kids1) (0,[])
def Zte (op1:Int):Bool->Option (List Int):=fun x2=>
 bif x2 then
 some ([2,1]:List Int)
 else
 bif op1==28 then
 some ([2,1,1]:List Int)
 else
 bif op1==24 then
 some ([2]:List Int)
 else
 bif op1==25 then
 some ([3]:List Int)
 else
 some ([1,1]:List Int)
def Z0m (op1:Int):Option (List Int):=
 bif op1==22 then
 some ([1,1,1]:List Int)
 else
 (bif op1==23 then
 some (.inl true)
 else
 bif op1==27 then
 some (.inl true)
 else
 some (.inl (op1==29))).bind (Sum.elim (Zte op1) some)
def Zx7:Bool->Option Bool:=fun x5=>
 some x5
def Zx6 (s2:List Int):Int->Option (Int⊕Bool):=fun x12=>
 bif decide (x12 < (List.length (slI s2 1 (s2.length:Int)):Int)) then
 (gI (slI s2 1 (s2.length:Int)) x12).bind fun y13=>
 bif y13 != 1 then
 (some false).map .inr
 else
 some (.inl (wrap .i64 (x12+1)))
 else
 (some true).map .inr
def Z6X (s2:List Int):Bool->Option Bool:=fun x9=>
 bif x9 then
 some false
 else
 bif decide ((0:Int)<=1/\(1:Int)<=(s2.length:Int)/\(s2.length:Int)<=(s2.length:Int)) then
 Zao (Zx6 s2) 0
 else none
def ZR9:Bool->Option Bool:=fun x16=>
 some x16
def Z6V (n1:Int×Int×List Int) (s2:List Int):Bool->Option Bool:=fun x14=>
 bif x14 then
 ((gI s2 0).bind fun y17=>
 bif y17==1 then
 (gI s2 2).bind fun y18=>
 some (.inl (y18==2))
 else
 some (.inl false)).bind (Sum.elim ZR9 some)
 else
 (Z0m n1.1).bind fun r19=>
 (ZrP s2 r19).bind fun r20=>
 some r20
def ZuH (n1:Int×Int×List Int) (s2:List Int):Bool->Option Bool:=fun x4=>
 bif x4 then
 some false
 else
 bif n1.1==31 then
 (bif decide ((s2.length:Int)>=3) then
 bif (tmod (s2.length:Int) 2)==1 then
 (Z0t (s2.length:Int)).bind fun r6=>
 bif decide (r6<=16) then
 (Z0u (s2.length:Int)).bind fun r7=>
 (ZrP s2 r7).bind fun r8=>
 some (.inl r8)
 else
 some (.inl false)
 else
 some (.inl false)
 else
 some (.inl false)).bind (Sum.elim Zx7 some)
 else
 bif n1.1==30 then
 (bif decide ((s2.length:Int) < 1) then
 some (.inl true)
 else
 bif decide ((s2.length:Int) > 7) then
 some (.inl true)
 else
 (gI s2 0).bind fun y10=>
 some (.inl (y10 != 2))).bind (Sum.elim (Z6X s2) some)
 else
 (bif n1.1==22 then
 (gI s2 1).bind fun y15=>
 some (.inl (y15==2))
 else
 some (.inl false)).bind (Sum.elim (Z6V n1 s2) some)
def F84 (n1:Int×Int×List Int) (s2:List Int):Option Bool:=
 (Z0s n1.1).bind fun r3=>
 (bif !r3.2 then
 some (.inl true)
 else
 bif decide (r3.1>=0) then
 some (.inl (r3.1 != (s2.length:Int)))
 else
 some (.inl false)).bind (Sum.elim (ZuH n1 s2) some)
def ZIC:Bool->Option (Int⊕Bool):=fun x5=>
 (some x5).map .inr
def ZIB (l1:TN) (n2:Int×Int×List Int):Bool->Option (Int⊕Bool):=fun x4=>
 bif x4 then
 some (.inl 3)
 else
 bif n2.1==27 then
 (bif decide (n2.2.1>=1) then
 some (.inl (decide (n2.2.1<=1000016)))
 else
 some (.inl false)).bind (Sum.elim ZIC some)
 else
 bif n2.1==30 then
 some (.inl 7)
 else
 bif n2.1==31 then
 some (.inl 15)
 else
 bif n2.1==25 then
 (gI n2.2.2 0).bind fun y6=>
 (gI l1 y6).bind fun y7=>
 (Z0t (y7.2.2.length:Int)).bind fun r8=>
 some (.inl (wrap .i64 (r8 - 1)))
 else
 some (.inl 0)
def ZID:Bool->Option Bool:=fun x9=>
 some x9
def ZGU (n2:Int×Int×List Int):Int->Option Bool:=fun most3=>
 (bif decide (n2.2.1>=0) then
 some (.inl (decide (n2.2.1<=most3)))
 else
 some (.inl false)).bind (Sum.elim ZID some)
def F85 (l1:TN) (n2:Int×Int×List Int):Option Bool:=
 (bif n2.1==1 then
 (some true).map .inr
 else
 bif n2.1==2 then
 some (.inl 5)
 else
 bif n2.1==3 then
 some (.inl 255)
 else
 (bif n2.1==23 then
 some (.inl true)
 else
 some (.inl (n2.1==28))).bind (Sum.elim (ZIB l1 n2) some)).bind (Sum.elim (ZGU n2) some)
def ZEq (known3:List Int) (x8:Int) (y10:Int):Y32->Option (Y7⊕Int):=fun (x11,s12)=>
 bif x11 then
 (some 0).map .inr
 else
 (gI known3 y10).bind fun y14=>
 bif decide (s12.length+List.length ([y14]:List Int)<=1000000) then
 some (.inl (wrap .i64 (x8+1),s12++([y14]:List Int)))
 else none
def ZEl (y4:Int×Int×List Int):Y32->Option (Unit⊕Int):=fun (x19,s20)=>
 bif x19 then
 (some 2).map .inr
 else
 bif y4.1==22 then
 (gI s20 1).bind fun y21=>
 (gI s20 1).bind fun y22=>
 (some y22).map .inr
 else
 bif y4.1==3 then
 bif (tmod y4.2.1 16)==0 then
 (some 2).map .inr
 else
 some (.inl ())
 else
 bif y4.1==25 then
 bif y4.2.1==0 then
 (some 2).map .inr
 else
 some (.inl ())
 else
 some (.inl ())
def ZEm:Unit->Option Int:=fun _=>
 some 1
def ZEk (y4:Int×Int×List Int):Y32->Option Int:=fun (x15,s16)=>
 bif x15 then
 some 0
 else
 (bif y4.1==31 then
 (some 3).map .inr
 else
 (bif y4.1==26 then
 some (.inl (true,s16))
 else
 bif y4.1==27 then
 some (.inl (true,s16))
 else
 bif y4.1==28 then
 some (.inl (true,s16))
 else
 bif y4.1==29 then
 some (.inl (true,s16))
 else
 some (.inl (y4.1==30,s16))).bind (Sum.elim (ZEl y4) some)).bind (Sum.elim ZEm some)
def ZEp (l1:TN) (i2:Int) (known3:List Int) (y4:Int×Int×List Int):Y7->Option (Y7⊕Int):=fun (x8,s9)=>
 bif decide (x8 < (y4.2.2.length:Int)) then
 (gI y4.2.2 x8).bind fun y10=>
 (bif decide (y10 < 0) then
 some (.inl (true,s9))
 else
 bif decide (y10>=i2) then
 some (.inl (true,s9))
 else
 (gI known3 y10).bind fun y13=>
 some (.inl (y13==0,s9))).bind (Sum.elim (ZEq known3 x8 y10) some)
 else
 (((F84 y4 s9).bind fun r17=>
 bif !r17 then
 some (.inl (true,s9))
 else
 (F85 l1 y4).bind fun r18=>
 some (.inl (!r18,s9))).bind (Sum.elim (ZEk y4) some)).map .inr
def F51 (l1:TN) (i2:Int) (known3:List Int):Option Int:=
 (gI l1 i2).bind fun y4=>
 Zao (ZEp l1 i2 known3 y4) (0,[])
def ZwP (l1:TN):Y7->Option Y16:=fun (x4,s5)=>
 bif decide (x4 < (l1.length:Int)) then
 (F51 l1 x4 s5).bind fun r6=>
 (gI s5 x4).bind fun y7=>
 (gI s5 x4).bind fun y8=>
 some (.inl (wrap .i64 (x4+1),Zaq s5 x4 r6))
 else
 (some s5).map .inr
def F33 (l1:TN):Option (List Int):=
 bif decide ((0:Int)<=(l1.length:Int)/\((l1.length:Int):Int)=(l1.length:Int)/\((l1.length:Int):Int)<=1000000) then
 Zao (ZwP l1) (0,(replicate (toNat (l1.length:Int)) 0:List Int))
 else none
def ZS5 (l1:TN) (i2:Int):Bool->Option Int:=fun x3=>
 bif x3 then
 some 0
 else
 bif decide ((0:Int)<=0/\(0:Int)<=wrap .i64 (i2+1)/\wrap .i64 (i2+1)<=(l1.length:Int)) then
 (F33 (slI l1 0 (wrap .i64 (i2+1)))).bind fun r4=>
 (gI r4 i2).bind fun y5=>
 some y5
 else none
def F15 (l1:TN) (i2:Int):Option Int:=
 (bif decide (i2 < 0) then
 some (.inl true)
 else
 some (.inl (decide (i2>=(l1.length:Int))))).bind (Sum.elim (ZS5 l1 i2) some)
def Z2z (i1:Int):Option ByteArray:=
 bif decide (i1 < 10) then
 bif decide ((0:Int)<=i1/\(i1:Int)<=wrap .i64 (i1+1)/\wrap .i64 (i1+1)<=(BS0.size:Int)) then
 some (slB BS0 i1 (wrap .i64 (i1+1)))
 else none
 else
 bif decide ((0:Int)<=wrap .i64 (i1 * 2)/\(wrap .i64 (i1 * 2):Int)<=wrap .i64 ((wrap .i64 (i1 * 2))+2)/\wrap .i64 ((wrap .i64 (i1 * 2))+2)<=(BS1.size:Int)) then
 some (slB BS1 (wrap .i64 (i1 * 2)) (wrap .i64 ((wrap .i64 (i1 * 2))+2)))
 else none
def Z0i (x1:Int):Option Int:=
 some (fdiv (wrap .i64 (x1 * 78913)) (2 ^ (min (toNat 18) (IntKind.bits .i64))))
def ZSf:(Int×Int)->Option Int:=fun (x6,n7)=>
 (gB BS2 (wrap .u8 x6)).bind fun b8=>
 some (wrap .i64 (n7+(wrap .i64 b8)))
def Zp9:(Int×Int)->Option Int:=fun (x4,n5)=>
 (bif decide (x4>=256) then
 some (.inl (fdiv x4 (2 ^ (min (toNat 8) (IntKind.bits .u64))),wrap .i64 (n5+8)))
 else
 some (.inl (x4,n5))).bind (Sum.elim ZSf some)
def ZpA:(Int×Int)->Option Int:=fun (x2,n3)=>
 (bif decide (x2>=65536) then
 some (.inl (fdiv x2 (2 ^ (min (toNat 16) (IntKind.bits .u64))),wrap .i64 (n3+16)))
 else
 some (.inl (x2,n3))).bind (Sum.elim Zp9 some)
def Z0n (x1:Int):Option Int:=
 (bif decide (x1>=4294967296) then
 some (.inl (fdiv x1 (2 ^ (min (toNat 32) (IntKind.bits .u64))),32))
 else
 some (.inl (x1,0))).bind (Sum.elim ZpA some)
def ZTC (b1:Bool):Option Int:=
 bif b1 then
 some 1
 else
 some 0
def Zy2 (d1:Int):Option Int:=
 (Z0n d1).bind fun r2=>
 (Z0i r2).bind fun r3=>
 (gI GT1 r3).bind fun y4=>
 (ZTC (decide (d1>=y4))).bind fun r5=>
 some (wrap .i64 (r3+r5))
def F16 (lens1:List Int):Option (List Int×List Y1):=
 some (lens1,([]:List Y1))
def ZSg:Y23->Option (List Int):=fun (nd48,x49,a50)=>
 bif decide (nd48 > 0) then
 (gI a50 0).bind fun y57=>
 (gI a50 0).bind fun y58=>
 some (Zaq a50 0 (wrap .u8 (wrap .u32 (48+x49))))
 else
 some a50
def ZSh:Y23->Option (List Int):=fun (nd33,x34,a35)=>
 (bif decide (nd33>=2) then
 (gB BS1 (wrap .u32 ((wrap .u32 ((tmod x34 100) * 2))+1))).bind fun b51=>
 (gB BS1 (wrap .u32 ((tmod x34 100) * 2))).bind fun b52=>
 (gI a35 (wrap .i64 (nd33 - 1))).bind fun y53=>
 (gI a35 (wrap .i64 (nd33 - 1))).bind fun y54=>
 (gI (Zaq a35 (wrap .i64 (nd33 - 1)) b51) (wrap .i64 (nd33 - 2))).bind fun y55=>
 (gI (Zaq a35 (wrap .i64 (nd33 - 1)) b51) (wrap .i64 (nd33 - 2))).bind fun y56=>
 some (.inl (wrap .i64 (nd33 - 2),wrap .u32 (tdiv x34 100),Zaq (Zaq a35 (wrap .i64 (nd33 - 1)) b51) (wrap .i64 (nd33 - 2)) b52))
 else
 some (.inl (nd33,x34,a35))).bind (Sum.elim ZSg some)
def Ztd:Y23->Option (Y23⊕(List Int)):=fun (u6,nd7,a8)=>
 bif decide (nd7>=8) then
 (gB BS1 (wrap .u32 ((wrap .u32 ((tmod (tmod (wrap .u32 (tmod u6 100000000)) 10000) 100) * 2))+1))).bind fun b9=>
 (gB BS1 (wrap .u32 ((tmod (tmod (wrap .u32 (tmod u6 100000000)) 10000) 100) * 2))).bind fun b10=>
 (gI a8 (wrap .i64 (nd7 - 1))).bind fun y11=>
 (gI a8 (wrap .i64 (nd7 - 1))).bind fun y12=>
 (gI (Zaq a8 (wrap .i64 (nd7 - 1)) b9) (wrap .i64 (nd7 - 2))).bind fun y13=>
 (gI (Zaq a8 (wrap .i64 (nd7 - 1)) b9) (wrap .i64 (nd7 - 2))).bind fun y14=>
 (gB BS1 (wrap .u32 ((wrap .u32 ((wrap .u32 (tdiv (tmod (wrap .u32 (tmod u6 100000000)) 10000) 100)) * 2))+1))).bind fun b15=>
 (gB BS1 (wrap .u32 ((wrap .u32 (tdiv (tmod (wrap .u32 (tmod u6 100000000)) 10000) 100)) * 2))).bind fun b16=>
 (gI (Zaq (Zaq a8 (wrap .i64 (nd7 - 1)) b9) (wrap .i64 (nd7 - 2)) b10) (wrap .i64 (nd7 - 3))).bind fun y17=>
 (gI (Zaq (Zaq a8 (wrap .i64 (nd7 - 1)) b9) (wrap .i64 (nd7 - 2)) b10) (wrap .i64 (nd7 - 3))).bind fun y18=>
 (gI (Zaq (Zaq (Zaq a8 (wrap .i64 (nd7 - 1)) b9) (wrap .i64 (nd7 - 2)) b10) (wrap .i64 (nd7 - 3)) b15) (wrap .i64 (nd7 - 4))).bind fun y19=>
 (gI (Zaq (Zaq (Zaq a8 (wrap .i64 (nd7 - 1)) b9) (wrap .i64 (nd7 - 2)) b10) (wrap .i64 (nd7 - 3)) b15) (wrap .i64 (nd7 - 4))).bind fun y20=>
 (gB BS1 (wrap .u32 ((wrap .u32 ((tmod (wrap .u32 (tdiv (wrap .u32 (tmod u6 100000000)) 10000)) 100) * 2))+1))).bind fun b21=>
 (gB BS1 (wrap .u32 ((tmod (wrap .u32 (tdiv (wrap .u32 (tmod u6 100000000)) 10000)) 100) * 2))).bind fun b22=>
 (gI (Zaq (Zaq (Zaq (Zaq a8 (wrap .i64 (nd7 - 1)) b9) (wrap .i64 (nd7 - 2)) b10) (wrap .i64 (nd7 - 3)) b15) (wrap .i64 (nd7 - 4)) b16) (wrap .i64 (nd7 - 5))).bind fun y23=>
 (gI (Zaq (Zaq (Zaq (Zaq a8 (wrap .i64 (nd7 - 1)) b9) (wrap .i64 (nd7 - 2)) b10) (wrap .i64 (nd7 - 3)) b15) (wrap .i64 (nd7 - 4)) b16) (wrap .i64 (nd7 - 5))).bind fun y24=>
 (gI (Zaq (Zaq (Zaq (Zaq (Zaq a8 (wrap .i64 (nd7 - 1)) b9) (wrap .i64 (nd7 - 2)) b10) (wrap .i64 (nd7 - 3)) b15) (wrap .i64 (nd7 - 4)) b16) (wrap .i64 (nd7 - 5)) b21) (wrap .i64 (nd7 - 6))).bind fun y25=>
 (gI (Zaq (Zaq (Zaq (Zaq (Zaq a8 (wrap .i64 (nd7 - 1)) b9) (wrap .i64 (nd7 - 2)) b10) (wrap .i64 (nd7 - 3)) b15) (wrap .i64 (nd7 - 4)) b16) (wrap .i64 (nd7 - 5)) b21) (wrap .i64 (nd7 - 6))).bind fun y26=>
 (gB BS1 (wrap .u32 ((wrap .u32 ((wrap .u32 (tdiv (wrap .u32 (tdiv (wrap .u32 (tmod u6 100000000)) 10000)) 100)) * 2))+1))).bind fun b27=>
 (gB BS1 (wrap .u32 ((wrap .u32 (tdiv (wrap .u32 (tdiv (wrap .u32 (tmod u6 100000000)) 10000)) 100)) * 2))).bind fun b28=>
 (gI (Zaq (Zaq (Zaq (Zaq (Zaq (Zaq a8 (wrap .i64 (nd7 - 1)) b9) (wrap .i64 (nd7 - 2)) b10) (wrap .i64 (nd7 - 3)) b15) (wrap .i64 (nd7 - 4)) b16) (wrap .i64 (nd7 - 5)) b21) (wrap .i64 (nd7 - 6)) b22) (wrap .i64 (nd7 - 7))).bind fun y29=>
 (gI (Zaq (Zaq (Zaq (Zaq (Zaq (Zaq a8 (wrap .i64 (nd7 - 1)) b9) (wrap .i64 (nd7 - 2)) b10) (wrap .i64 (nd7 - 3)) b15) (wrap .i64 (nd7 - 4)) b16) (wrap .i64 (nd7 - 5)) b21) (wrap .i64 (nd7 - 6)) b22) (wrap .i64 (nd7 - 7))).bind fun y30=>
 (gI (Zaq (Zaq (Zaq (Zaq (Zaq (Zaq (Zaq a8 (wrap .i64 (nd7 - 1)) b9) (wrap .i64 (nd7 - 2)) b10) (wrap .i64 (nd7 - 3)) b15) (wrap .i64 (nd7 - 4)) b16) (wrap .i64 (nd7 - 5)) b21) (wrap .i64 (nd7 - 6)) b22) (wrap .i64 (nd7 - 7)) b27) (wrap .i64 (nd7 - 8))).bind fun y31=>
 (gI (Zaq (Zaq (Zaq (Zaq (Zaq (Zaq (Zaq a8 (wrap .i64 (nd7 - 1)) b9) (wrap .i64 (nd7 - 2)) b10) (wrap .i64 (nd7 - 3)) b15) (wrap .i64 (nd7 - 4)) b16) (wrap .i64 (nd7 - 5)) b21) (wrap .i64 (nd7 - 6)) b22) (wrap .i64 (nd7 - 7)) b27) (wrap .i64 (nd7 - 8))).bind fun y32=>
 some (.inl (wrap .u64 (tdiv u6 100000000),wrap .i64 (nd7 - 8),Zaq (Zaq (Zaq (Zaq (Zaq (Zaq (Zaq (Zaq a8 (wrap .i64 (nd7 - 1)) b9) (wrap .i64 (nd7 - 2)) b10) (wrap .i64 (nd7 - 3)) b15) (wrap .i64 (nd7 - 4)) b16) (wrap .i64 (nd7 - 5)) b21) (wrap .i64 (nd7 - 6)) b22) (wrap .i64 (nd7 - 7)) b27) (wrap .i64 (nd7 - 8)) b28))
 else
 ((bif decide (nd7>=4) then
 (gB BS1 (wrap .u32 ((wrap .u32 ((tmod (tmod (wrap .u32 u6) 10000) 100) * 2))+1))).bind fun b36=>
 (gB BS1 (wrap .u32 ((tmod (tmod (wrap .u32 u6) 10000) 100) * 2))).bind fun b37=>
 (gI a8 (wrap .i64 (nd7 - 1))).bind fun y38=>
 (gI a8 (wrap .i64 (nd7 - 1))).bind fun y39=>
 (gI (Zaq a8 (wrap .i64 (nd7 - 1)) b36) (wrap .i64 (nd7 - 2))).bind fun y40=>
 (gI (Zaq a8 (wrap .i64 (nd7 - 1)) b36) (wrap .i64 (nd7 - 2))).bind fun y41=>
 (gB BS1 (wrap .u32 ((wrap .u32 ((wrap .u32 (tdiv (tmod (wrap .u32 u6) 10000) 100)) * 2))+1))).bind fun b42=>
 (gB BS1 (wrap .u32 ((wrap .u32 (tdiv (tmod (wrap .u32 u6) 10000) 100)) * 2))).bind fun b43=>
 (gI (Zaq (Zaq a8 (wrap .i64 (nd7 - 1)) b36) (wrap .i64 (nd7 - 2)) b37) (wrap .i64 (nd7 - 3))).bind fun y44=>
 (gI (Zaq (Zaq a8 (wrap .i64 (nd7 - 1)) b36) (wrap .i64 (nd7 - 2)) b37) (wrap .i64 (nd7 - 3))).bind fun y45=>
 (gI (Zaq (Zaq (Zaq a8 (wrap .i64 (nd7 - 1)) b36) (wrap .i64 (nd7 - 2)) b37) (wrap .i64 (nd7 - 3)) b42) (wrap .i64 (nd7 - 4))).bind fun y46=>
 (gI (Zaq (Zaq (Zaq a8 (wrap .i64 (nd7 - 1)) b36) (wrap .i64 (nd7 - 2)) b37) (wrap .i64 (nd7 - 3)) b42) (wrap .i64 (nd7 - 4))).bind fun y47=>
 some (.inl (wrap .i64 (nd7 - 4),wrap .u32 (tdiv (wrap .u32 u6) 10000),Zaq (Zaq (Zaq (Zaq a8 (wrap .i64 (nd7 - 1)) b36) (wrap .i64 (nd7 - 2)) b37) (wrap .i64 (nd7 - 3)) b42) (wrap .i64 (nd7 - 4)) b43))
 else
 some (.inl (nd7,wrap .u32 u6,a8))).bind (Sum.elim ZSh some)).map .inr
def Z0l (u1:Int) (a2:List Int):Option (List Int):=
 Zao Ztd (u1,(a2.length:Int),a2)
def ZvZ (i1:Int) (base2:Int) (dst3:List Int):Option (List Int):=
 bif base2==10 then
 bif decide (i1 < 100) then
 (Z2z (wrap .i64 i1)).bind fun r4=>
 bif decide (dst3.length+List.length (toB r4)<=1000000) then
 some (dst3++(toB r4))
 else none
 else
 (Zy2 i1).bind fun r5=>
 bif decide ((0:Int)<=r5/\r5<=(24:Int)) then
 (Z0l i1 (slI (replicate 24 0:List Int) 0 r5)).bind fun r6=>
 bif decide (r5=r5) then
 bif decide (dst3.length+r6.length<=1000000) then
 some (dst3++r6)
 else none
 else none
 else none
 else
 none
def Zu6 (base2:Int):Y7->Option (List Int):=fun (u4,dst5)=>
 (ZvZ u4 base2 dst5).bind fun r6=>
 some r6
def F86 (i1:Int) (base2:Int) (dst3:List Int):Option (List Int):=
 (bif decide (i1 < 0) then
 bif decide (dst3.length+List.length ([45]:List Int)<=1000000) then
 some (.inl (wrap .u64 (0 - (wrap .u64 i1)),dst3++([45]:List Int)))
 else none
 else
 some (.inl (wrap .u64 i1,dst3))).bind (Sum.elim (Zu6 base2) some)
def F52 (i1:Int) (base2:Int) (dst3:List Int):Option (List Int):=
 (F86 i1 base2 dst3).bind fun r4=>
 some r4
def ZwQ (op1:Int) (imm2:Int) (kids4:List Int):Y35->Option (Y35⊕Y5):=fun (x15,p16,kids17,b18,l19,l20)=>
 bif decide (x15 < (kids4.length:Int)) then
 (gI kids17 x15).bind fun y21=>
 (gI kids17 x15).bind fun y22=>
 bif decide (b18.length+List.length ([32]:List Int)<=1000000) then
 (F52 y22 10 (b18++([32]:List Int))).bind fun r23=>
 some (.inl (wrap .i64 (x15+1),p16,kids17,r23,l19,l20))
 else none
 else
 (bif Option.isSome (Zc3 (ZaS .str) l20 (ofB b18)) then
 some (Option.getD (Zc3 (ZaS .str) l20 (ofB b18)) 0,p16,l19,l20)
 else
 bif decide (List.length ([]:List Int)+kids17.length<=1000000) then
 bif decide (l19.length+List.length ([(op1,imm2,([]:List Int)++kids17)]:TN)<=1000000) then
 some (wrap .i64 ((List.length (l19++([(op1,imm2,([]:List Int)++kids17)]:TN)):Int) - 1),p16,l19++([(op1,imm2,([]:List Int)++kids17)]:TN),ZfQ (ZaS .str) l20 (ofB b18) (l19.length:Int))
 else none
 else none).map .inr
def F34 (op1:Int) (imm2:Int) (p3:List Int) (kids4:List Int) (l5:TN) (l6:List Y1):Option Y5:=
 (F52 op1 10 []).bind fun r7=>
 bif decide (r7.length+List.length ([32]:List Int)<=1000000) then
 (F52 imm2 10 (r7++([32]:List Int))).bind fun r8=>
 Zao (ZwQ op1 imm2 kids4) (0,p3,kids4,r8,l5,l6)
 else none
def F35 (n1:Int) (p2:List Int) (l3:TN) (l4:List Y1):Option Y5:=
 (F34 1 n1 p2 [] l3 l4).bind fun r5=>
 some r5
def ZuN:Y6->Option Y6:=fun (x8,p9,l10,l11)=>
 some (x8,p9,l10,l11)
def F54 (i1:Int) (n2:Int) (p3:List Int) (l4:TN) (l5:List Y1):Option Y6:=
 (gI l4 i1).bind fun y6=>
 (gI l4 i1).bind fun y7=>
 (bif y7.1==1 then
 some (.inl (y7.2.1==n2,p3,l4,l5))
 else
 some (.inl (false,p3,l4,l5))).bind (Sum.elim ZuN some)
def ZDm (k11:Int) (y15:Int) (y16:Int):Y6->Option (Y5⊕Y19):=fun (x19,p20,l21,l22)=>
 bif x19 then
 (some (y15,y16,true,p20,l21,l22)).map .inr
 else
 some (.inl (wrap .i64 (k11+1),p20,l21,l22))
def ZDn (y6:Int×Int×List Int):Y5->Option (Y5⊕Y19):=fun (k11,p12,l13,l14)=>
 bif decide (k11 < 2) then
 (gI y6.2.2 k11).bind fun y15=>
 (gI y6.2.2 (wrap .i64 (1 - k11))).bind fun y16=>
 (gI l13 y16).bind fun y17=>
 (gI l13 y16).bind fun y18=>
 (bif y18.1==15 then
 (gI y18.2.2 0).bind fun y23=>
 bif y23==y15 then
 (gI y18.2.2 1).bind fun y24=>
 (F54 y24 0 p12 l13 l14).bind fun r25=>
 some (.inl r25)
 else
 some (.inl (false,p12,l13,l14))
 else
 some (.inl (false,p12,l13,l14))).bind (Sum.elim (ZDm k11 y15 y16) some)
 else
 (some (0,0,false,p12,l13,l14)).map .inr
def F53 (d1:Int) (p2:List Int) (l3:TN) (l4:List Y1):Option Y19:=
 (gI l3 d1).bind fun y5=>
 (gI l3 d1).bind fun y6=>
 bif y6.1 != 4 then
 some (0,0,false,p2,l3,l4)
 else
 Zao (ZDn y6) (0,p2,l3,l4)
def ZEj (k1:Int):Y6->Option Y8:=fun (x5,p6,l7,l8)=>
 bif x5 then
 some (0,false,p6,l7,l8)
 else
 (gI p6 k1).bind fun y10=>
 some (y10,true,p6,l7,l8)
def F56 (k1:Int) (p2:List Int) (l3:TN) (l4:List Y1):Option Y8:=
 (bif decide (k1 < 0) then
 some (.inl (true,p2,l3,l4))
 else
 bif decide (k1>=(p2.length:Int)) then
 some (.inl (true,p2,l3,l4))
 else
 (gI p2 k1).bind fun y9=>
 some (.inl (decide (y9 < 0),p2,l3,l4))).bind (Sum.elim (ZEj k1) some)
def Z8S:Y6->Option Y6:=fun (x10,p11,l12,l13)=>
 some (x10,p11,l12,l13)
def F37 (c1:Int) (i2:Int) (k3:Int) (p4:List Int) (l5:TN) (l6:List Y1):Option Y6:=
 (gI l5 c1).bind fun y7=>
 (gI l5 c1).bind fun y8=>
 (F56 k3 p4 l5 l6).bind fun r9=>
 (bif r9.2.1 then
 bif y8.1==19 then
 (gI y8.2.2 0).bind fun y14=>
 bif y14==i2 then
 (gI y8.2.2 1).bind fun y15=>
 (F54 y15 r9.1 r9.2.2.1 r9.2.2.2.1 r9.2.2.2.2).bind fun r16=>
 some (.inl r16)
 else
 some (.inl (false,r9.2.2.1,r9.2.2.2.1,r9.2.2.2.2))
 else
 some (.inl (false,r9.2.2.1,r9.2.2.2.1,r9.2.2.2.2))
 else
 some (.inl (false,r9.2.2.1,r9.2.2.2.1,r9.2.2.2.2))).bind (Sum.elim Z8S some)
def ZuW:Y6->Option Y6:=fun (x9,p10,l11,l12)=>
 some (x9,p10,l11,l12)
def F55 (m1:Int) (i2:Int) (k3:Int) (p4:List Int) (l5:TN) (l6:List Y1):Option Y6:=
 (gI l5 m1).bind fun y7=>
 (gI l5 m1).bind fun y8=>
 (bif y8.1==20 then
 (gI y8.2.2 0).bind fun y13=>
 (F37 y13 i2 k3 p4 l5 l6).bind fun r14=>
 some (.inl r14)
 else
 some (.inl (false,p4,l5,l6))).bind (Sum.elim ZuW some)
def ZDA (y7:Int×Int×List Int) (r18:Int×Int×Bool×List Int×TN×List Y1) (rec17:Int->Int->(List Int)->(List Int)->TN->(List Y1)->Option Y5):Y6->Option (Y28⊕Y8):=fun (x19,p20,l21,l22)=>
 bif x19 then
 (gI y7.2.2 0).bind fun y26=>
 (rec17 y7.1 y7.2.1 p20 ([y26,r18.1]:List Int) l21 l22).bind fun r27=>
 (some (r27.1,true,r27.2.1,r27.2.2.1,r27.2.2.2)).map .inr
 else
 some (.inl (p20,l21,l22))
def ZD9 (y7:Int×Int×List Int) (rec17:Int->Int->(List Int)->(List Int)->TN->(List Y1)->Option Y5) (y30:Int×Int×List Int):Y6->Option (Y28⊕Y8):=fun (x31,p32,l33,l34)=>
 bif x31 then
 (gI y7.2.2 0).bind fun y38=>
 (gI y30.2.2 0).bind fun y39=>
 (rec17 23 y7.2.1 p32 ([y38,y39]:List Int) l33 l34).bind fun r40=>
 (some (r40.1,true,r40.2.1,r40.2.2.1,r40.2.2.2)).map .inr
 else
 some (.inl (p32,l33,l34))
def ZD8 (m2:Int) (y7:Int×Int×List Int) (y9:Int×Int×List Int) (rec17:Int->Int->(List Int)->(List Int)->TN->(List Y1)->Option Y5):Y6->Option (Y28⊕Y8):=fun (x13,p14,l15,l16)=>
 bif x13 then
 (gI y7.2.2 1).bind fun y17=>
 (F53 y17 p14 l15 l16).bind fun r18=>
 (bif r18.2.2.1 then
 bif y9.1==4 then
 (gI y9.2.2 0).bind fun y23=>
 bif y23==r18.2.1 then
 (gI y9.2.2 1).bind fun y24=>
 (F54 y24 (-1) r18.2.2.2.1 r18.2.2.2.2.1 r18.2.2.2.2.2).bind fun r25=>
 some (.inl r25)
 else
 some (.inl (false,r18.2.2.2.1,r18.2.2.2.2.1,r18.2.2.2.2.2))
 else
 some (.inl (false,r18.2.2.2.1,r18.2.2.2.2.1,r18.2.2.2.2.2))
 else
 some (.inl (false,r18.2.2.2.1,r18.2.2.2.2.1,r18.2.2.2.2.2))).bind (Sum.elim (ZDA y7 r18 rec17) some)
 else
 bif y7.1==23 then
 (gI y7.2.2 1).bind fun y28=>
 (gI l15 y28).bind fun y29=>
 (gI l15 y28).bind fun y30=>
 (bif y30.1==9 then
 (gI y30.2.2 1).bind fun y35=>
 bif y35==m2 then
 (gI y30.2.2 0).bind fun y36=>
 (F55 m2 y36 y7.2.1 p14 l15 l16).bind fun r37=>
 some (.inl r37)
 else
 some (.inl (false,p14,l15,l16))
 else
 some (.inl (false,p14,l15,l16))).bind (Sum.elim (ZD9 y7 rec17 y30) some)
 else
 some (.inl (p14,l15,l16))
def Z9P:Y28->Option Y8:=fun (p10,l11,l12)=>
 some (0,false,p10,l11,l12)
def E36 (rec17:Int->Int->(List Int)->(List Int)->TN->(List Y1)->Option Y5) (x1:Int) (m2:Int) (p3:List Int) (l4:TN) (l5:List Y1):Option Y8:=
 (gI l4 x1).bind fun y6=>
 (gI l4 x1).bind fun y7=>
 (gI l4 m2).bind fun y8=>
 (gI l4 m2).bind fun y9=>
 ((bif y7.1==7 then
 some (.inl (true,p3,l4,l5))
 else
 some (.inl (y7.1==8,p3,l4,l5))).bind (Sum.elim (ZD8 m2 y7 y9 rec17) some)).bind (Sum.elim Z9P some)
def Z8m (op1:Int) (imm2:Int):Y39->Option (Y27⊕Y5):=fun (x19,p20,kids21,l22,l23)=>
 bif x19 then
 (gI kids21 1).bind fun y24=>
 (gI kids21 1).bind fun y25=>
 (gI kids21 0).bind fun y26=>
 (gI kids21 0).bind fun y27=>
 (F34 op1 imm2 p20 ([y25,y27]:List Int) l22 l23).bind fun r28=>
 (some r28).map .inr
 else
 some (.inl (p20,kids21,l22,l23))
def ZML (y45:Int):Y39->Option (Y27⊕Y5):=fun (x50,p51,kids52,l53,l54)=>
 bif x50 then
 (some (y45,p51,l53,l54)).map .inr
 else
 some (.inl (p51,kids52,l53,l54))
def Z8T (op1:Int) (imm2:Int):Y27->Option Y5:=fun (p7,kids8,l9,l10)=>
 (F34 op1 imm2 p7 kids8 l9 l10).bind fun r58=>
 some r58
def G17 (rec17:Int->Int->(List Int)->(List Int)->TN->(List Y1)->Option Y5) (op1:Int) (imm2:Int) (p3:List Int) (kids4:List Int) (l5:TN) (l6:List Y1):Option Y5:=
 (bif op1==4 then
 (gI kids4 0).bind fun y11=>
 (gI kids4 0).bind fun y12=>
 (gI l5 y12).bind fun y13=>
 (gI l5 y12).bind fun y14=>
 (gI kids4 1).bind fun y15=>
 (gI kids4 1).bind fun y16=>
 (gI l5 y16).bind fun y17=>
 (gI l5 y16).bind fun y18=>
 (bif y14.1==1 then
 bif y18.1 != 1 then
 some (.inl (true,p3,kids4,l5,l6))
 else
 some (.inl (decide (y14.2.1 > y18.2.1),p3,kids4,l5,l6))
 else
 some (.inl (false,p3,kids4,l5,l6))).bind (Sum.elim (Z8m op1 imm2) some)
 else
 bif op1==5 then
 (gI kids4 1).bind fun y29=>
 (gI kids4 1).bind fun y30=>
 (gI l5 y30).bind fun y31=>
 (gI l5 y30).bind fun y32=>
 bif y32.1==1 then
 (gI kids4 0).bind fun y33=>
 (gI kids4 0).bind fun y34=>
 (F35 (wrap .i64 (0 - y32.2.1)) p3 l5 l6).bind fun r35=>
 (rec17 4 0 r35.2.1 ([y34,r35.1]:List Int) r35.2.2.1 r35.2.2.2).bind fun r36=>
 (some r36).map .inr
 else
 some (.inl (p3,kids4,l5,l6))
 else
 bif op1==9 then
 (gI kids4 0).bind fun y37=>
 (gI kids4 0).bind fun y38=>
 (gI kids4 1).bind fun y39=>
 (gI kids4 1).bind fun y40=>
 (E36 rec17 y38 y40 p3 l5 l6).bind fun r41=>
 bif r41.2.1 then
 (some (r41.1,r41.2.2.1,r41.2.2.2.1,r41.2.2.2.2)).map .inr
 else
 some (.inl (r41.2.2.1,kids4,r41.2.2.2.1,r41.2.2.2.2))
 else
 bif op1==22 then
 (gI kids4 0).bind fun y42=>
 (gI kids4 0).bind fun y43=>
 (gI kids4 1).bind fun y44=>
 (gI kids4 1).bind fun y45=>
 (gI kids4 2).bind fun y46=>
 (gI kids4 2).bind fun y47=>
 bif y45==y47 then
 (some (y45,p3,l5,l6)).map .inr
 else
 (gI l5 y45).bind fun y48=>
 (gI l5 y45).bind fun y49=>
 (bif y49.1==28 then
 (gI y49.2.2 0).bind fun y55=>
 bif y55==y47 then
 (gI y49.2.2 1).bind fun y56=>
 (F37 y43 y56 y49.2.1 p3 l5 l6).bind fun r57=>
 some (.inl (r57.1,r57.2.1,kids4,r57.2.2.1,r57.2.2.2))
 else
 some (.inl (false,p3,kids4,l5,l6))
 else
 some (.inl (false,p3,kids4,l5,l6))).bind (Sum.elim (ZML y45) some)
 else
 some (.inl (p3,kids4,l5,l6))).bind (Sum.elim (Z8T op1 imm2) some)
def N17 (n:Nat):Int->Int->(List Int)->(List Int)->TN->(List Y1)->Option Y5:=Nat.rec (motive:=fun _=>Int->Int->(List Int)->(List Int)->TN->(List Y1)->Option Y5) (fun _ _ _ _ _ _=>none) (fun _ ih=>G17 ih) n
def F17 (op1:Int) (imm2:Int) (p3:List Int) (kids4:List Int) (l5:TN) (l6:List Y1):Option Y5:=N17 3000 op1 imm2 p3 kids4 l5 l6
def F36 (x1:Int) (m2:Int) (p3:List Int) (l4:TN) (l5:List Y1):Option Y8:=E36 (N17 3000) x1 m2 p3 l4 l5
def Zx2 (rec38:Int->(List Int)->(List Int)->TN->TN->(List Y1)->Option Y10) (i1:Int) (y10:Int×Int×List Int):Y31->Option (Y31⊕Y10):=fun (x24,kids25,l26,l27,l28,l29,l30)=>
 bif decide (x24 < (y10.2.2.length:Int)) then
 (gI y10.2.2 x24).bind fun y31=>
 (rec38 y31 l26 l27 l28 l29 l30).bind fun r32=>
 (gI r32.1 y31).bind fun y33=>
 (gI r32.1 y31).bind fun y34=>
 bif decide (kids25.length+List.length ([y34]:List Int)<=1000000) then
 some (.inl (wrap .i64 (x24+1),kids25++([y34]:List Int),r32.1,r32.2.1,r32.2.2.1,r32.2.2.2.1,r32.2.2.2.2))
 else none
 else
 ((gI l26 i1).bind fun y35=>
 (gI l26 i1).bind fun y36=>
 bif decide (l28.length+List.length ([(y10.1,y10.2.1,kids25)]:TN)<=1000000) then
 some (Zaq l26 i1 (l28.length:Int),l27,l28++([(y10.1,y10.2.1,kids25)]:TN),l29,l30)
 else none).map .inr
def G38 (rec38:Int->(List Int)->(List Int)->TN->TN->(List Y1)->Option Y10) (i1:Int) (l2:List Int) (l3:List Int) (l4:TN) (l5:TN) (l6:List Y1):Option Y10:=
 (gI l2 i1).bind fun y7=>
 (gI l2 i1).bind fun y8=>
 bif decide (y8>=0) then
 some (l2,l3,l4,l5,l6)
 else
 (gI l5 i1).bind fun y9=>
 (gI l5 i1).bind fun y10=>
 Zao (Zx2 rec38 i1 y10) (0,[],l2,l3,l4,l5,l6)
def N38 (n:Nat):Int->(List Int)->(List Int)->TN->TN->(List Y1)->Option Y10:=Nat.rec (motive:=fun _=>Int->(List Int)->(List Int)->TN->TN->(List Y1)->Option Y10) (fun _ _ _ _ _ _=>none) (fun _ ih=>G38 ih) n
def F38 (i1:Int) (l2:List Int) (l3:List Int) (l4:TN) (l5:TN) (l6:List Y1):Option Y10:=N38 3000 i1 l2 l3 l4 l5 l6
def ZAc (value1:Int) (state2:Int) (l4:TN):Y40->Option (Y40⊕(Int×Int×TN)):=fun (x11,l12,l13,l14,l15)=>
 bif decide (x11 < (List.length (replicate (toNat (l4.length:Int)) 0:List Int):Int)) then
 (gI l13 x11).bind fun y16=>
 (gI l13 x11).bind fun y17=>
 some (.inl (wrap .i64 (x11+1),l12,Zaq l13 x11 (-1),l14,l15))
 else
 ((F38 value1 l13 l12 [] l14 l15).bind fun r18=>
 (F38 state2 r18.1 r18.2.1 r18.2.2.1 r18.2.2.2.1 r18.2.2.2.2).bind fun r19=>
 (gI r19.1 value1).bind fun y20=>
 (gI r19.1 value1).bind fun y21=>
 (gI r19.1 state2).bind fun y22=>
 (gI r19.1 state2).bind fun y23=>
 some (y21,y23,r19.2.2.1)).map .inr
def F18 (value1:Int) (state2:Int) (p3:List Int) (l4:TN) (l5:List Y1):Option (Int×Int×TN):=
 bif decide ((0:Int)<=(l4.length:Int)/\((l4.length:Int):Int)=(l4.length:Int)/\((l4.length:Int):Int)<=1000000) then
 Zao (ZAc value1 state2 l4) (0,p3,(replicate (toNat (l4.length:Int)) 0:List Int),l4,l5)
 else none
def ZTN (x39:Int) (y48:Int×Int×List Int):Y25->Option (Y25⊕(Y17⊕Y2)):=fun (x68,l69,l70,l71,l72,p73,num74,kids75,l76,l77)=>
 bif decide (x68 < (y48.2.2.length:Int)) then
 (gI y48.2.2 x68).bind fun y78=>
 (gI num74 y78).bind fun y79=>
 (gI num74 y78).bind fun y80=>
 bif decide (kids75.length+List.length ([y80]:List Int)<=1000000) then
 some (.inl (wrap .i64 (x68+1),l69,l70,l71,l72,p73,num74,kids75++([y80]:List Int),l76,l77))
 else none
 else
 ((F17 y48.1 y48.2.1 p73 kids75 l76 l77).bind fun r81=>
 (gI num74 x39).bind fun y82=>
 (gI num74 x39).bind fun y83=>
 some (.inl (wrap .i64 (x39+1),l69,l70,l71,l72,r81.2.1,Zaq num74 x39 r81.1,r81.2.2.1,r81.2.2.2))).map .inr
def ZJQ (g1:ByteArray×Int×TN×Int×Int):Y17->Option (Y17⊕Y2):=fun (x39,l40,l41,l42,l43,p44,num45,l46,l47)=>
 bif decide (x39 < (g1.2.2.1.length:Int)) then
 (gI g1.2.2.1 x39).bind fun y48=>
 Zao (ZTN x39 y48) (0,l40,l41,l42,l43,p44,num45,[],l46,l47)
 else
 ((gI num45 g1.2.2.2.1).bind fun y84=>
 (gI num45 g1.2.2.2.1).bind fun y85=>
 (gI num45 g1.2.2.2.2).bind fun y86=>
 (gI num45 g1.2.2.2.2).bind fun y87=>
 (F18 y85 y87 p44 l46 l47).bind fun r88=>
 some (g1.1,g1.2.1,r88.2.2,r88.1,r88.2.1)).map .inr
def Z6J (g1:ByteArray×Int×TN×Int×Int) (lens2:List Int):(Bool×ByteArray×Int×Int×Int)->Option Y2:=fun (x14,l15,l16,l17,l18)=>
 bif x14 then
 some (empty,0,[],0,0)
 else
 (F16 lens2).bind fun r21=>
 bif decide ((0:Int)<=(g1.2.2.1.length:Int)/\((g1.2.2.1.length:Int):Int)=(g1.2.2.1.length:Int)/\((g1.2.2.1.length:Int):Int)<=1000000) then
 Zao (ZJQ g1) (0,l15,l16,l17,l18,r21.1,(replicate (toNat (g1.2.2.1.length:Int)) 0:List Int),[],r21.2)
 else none
def ZER (g1:ByteArray×Int×TN×Int×Int) (lens2:List Int):Y42->Option (Y42⊕Y2):=fun (x8,l9,l10,l11,l12)=>
 bif decide (x8 < (g1.2.2.1.length:Int)) then
 (F15 g1.2.2.1 x8).bind fun r13=>
 bif r13==0 then
 (some (empty,0,[],0,0)).map .inr
 else
 some (.inl (wrap .i64 (x8+1),l9,l10,l11,l12))
 else
 (((F15 g1.2.2.1 g1.2.2.2.1).bind fun r19=>
 bif r19 != 1 then
 some (.inl (true,l9,l10,l11,l12))
 else
 (F15 g1.2.2.1 g1.2.2.2.2).bind fun r20=>
 some (.inl (r20 != 2,l9,l10,l11,l12))).bind (Sum.elim (Z6J g1 lens2) some)).map .inr
def F6 (g1:ByteArray×Int×TN×Int×Int) (lens2:List Int):Option Y2:=
 Zao (ZER g1 lens2) (0,empty,0,0,0)
def F7 (a1:Int) (b2:Int) (raw3:Int):Option (List Int):=
 (F19 a1 raw3).bind fun r4=>
 (F19 b2 raw3).bind fun r5=>
 some ([r4,r5]:List Int)
def Z5G (a1:Int×Int×List Int×Int) (b2:Int×Int×List Int×Int):Int->Option (Int⊕Bool):=fun i5=>
 bif decide (i5 < (a1.2.2.1.length:Int)) then
 (gI a1.2.2.1 i5).bind fun y6=>
 (gI b2.2.2.1 i5).bind fun y7=>
 bif y6 != y7 then
 (some false).map .inr
 else
 some (.inl (wrap .i64 (i5+1)))
 else
 (some true).map .inr
def Z5E (a1:Int×Int×List Int×Int) (b2:Int×Int×List Int×Int):Bool->Option Bool:=fun x3=>
 bif x3 then
 some false
 else
 Zao (Z5G a1 b2) 0
def F8 (a1:Int×Int×List Int×Int) (b2:Int×Int×List Int×Int):Option Bool:=
 (bif a1.1 != b2.1 then
 some (.inl true)
 else
 bif a1.2.1 != b2.2.1 then
 some (.inl true)
 else
 bif a1.2.2.2 != b2.2.2.2 then
 some (.inl true)
 else
 some (.inl ((a1.2.2.1.length:Int) != (b2.2.2.1.length:Int)))).bind (Sum.elim (Z5E a1 b2) some)
def Zyp:Bool->Option Bool:=fun x2=>
 some x2
def F87 (c1:Int):Option Bool:=
 (bif decide (c1>=97) then
 bif decide (c1<=122) then
 some (.inl true)
 else
 bif decide (c1>=65) then
 bif decide (c1<=90) then
 some (.inl true)
 else
 some (.inl (c1==95))
 else
 some (.inl (c1==95))
 else
 bif decide (c1>=65) then
 bif decide (c1<=90) then
 some (.inl true)
 else
 some (.inl (c1==95))
 else
 some (.inl (c1==95))).bind (Sum.elim Zyp some)
def ZuU:Bool->Option Bool:=fun x2=>
 some x2
def F88 (c1:Int):Option Bool:=
 (bif decide (c1>=48) then
 some (.inl (decide (c1<=57)))
 else
 some (.inl false)).bind (Sum.elim ZuU some)
def ZrR (i3:Int):Bool->Option (Int⊕Bool):=fun x4=>
 bif x4 then
 (some false).map .inr
 else
 some (.inl (wrap .i64 (i3+1)))
def ZyI:Bool->Option Bool:=fun x9=>
 some x9
def ZyJ (s1:ByteArray):Int->Option (Int⊕Bool):=fun i3=>
 bif decide (i3 < (s1.size:Int)) then
 ((gB s1 i3).bind fun b5=>
 (F87 b5).bind fun r6=>
 bif !r6 then
 (gB s1 i3).bind fun b7=>
 (F88 b7).bind fun r8=>
 bif !r8 then
 some (.inl true)
 else
 some (.inl (i3==0))
 else
 some (.inl false)).bind (Sum.elim (ZrR i3) some)
 else
 ((bif decide ((s1.size:Int)>=1) then
 some (.inl (decide ((s1.size:Int)<=16)))
 else
 some (.inl false)).bind (Sum.elim ZyI some)).map .inr
def F57 (s1:ByteArray):Option Bool:=
 Zao (ZyJ s1) 0
def ZyH (s1:ByteArray):(Int×List ByteArray)->Option ((Int×List ByteArray)⊕Bool):=fun (i4,l5)=>
 bif decide (i4 < (l5.length:Int)) then
 (gI l5 i4).bind fun y6=>
 (gI l5 i4).bind fun y7=>
 bif y7.toList==s1.toList then
 (some true).map .inr
 else
 some (.inl (wrap .i64 (i4+1),l5))
 else
 (some false).map .inr
def F58 (s1:ByteArray):Option Bool:=
 Zao (ZyH s1) (0,([(ByteArray.mk #[97,114,114,97,121]),(ByteArray.mk #[102,117,110,99]),(ByteArray.mk #[118,97,114]),(ByteArray.mk #[114,101,116,117,114,110]),(ByteArray.mk #[105,102]),(ByteArray.mk #[101,108,115,101]),(ByteArray.mk #[119,104,105,108,101]),(ByteArray.mk #[111,117,116]),(ByteArray.mk #[116,114,97,112])]:List ByteArray))
def ZuI:Bool->Option Bool:=fun x2=>
 some x2
def F39 (s1:ByteArray):Option Bool:=
 ((F57 s1).bind fun r3=>
 bif r3 then
 (F58 s1).bind fun r4=>
 some (.inl (!r4))
 else
 some (.inl false)).bind (Sum.elim ZuI some)
def ZxK (j17:Int):(Bool×List (List Bool)×List Bool)->Option (Y33⊕(Y11⊕(Y11⊕Y12))):=fun (x22,out23,h24)=>
 bif x22 then
 (gI h24 j17).bind fun y29=>
 (gI h24 j17).bind fun y30=>
 some (.inl (out23,Zaq h24 j17 true))
 else
 some (.inl (out23,h24))
def ZxM (j17:Int):Y33->Option (Y11⊕(Y11⊕Y12)):=fun (out20,h21)=>
 some (.inl (wrap .i64 (j17+1),out20,h21))
def ZAn (y7:Int×Int×List Int) (k11:Int):Y11->Option (Y11⊕(Y11⊕Y12)):=fun (j17,out18,h19)=>
 bif decide (j17 < 16) then
 (((gI y7.2.2 k11).bind fun y25=>
 (gI out18 y25).bind fun y26=>
 (gI out18 y25).bind fun y27=>
 (gI y27 j17).bind fun y28=>
 bif y28 then
 bif y7.1 != 31 then
 some (.inl (true,out18,h19))
 else
 bif j17 != y7.2.1 then
 some (.inl (true,out18,h19))
 else
 some (.inl (decide (k11 < (wrap .i64 (tdiv (y7.2.2.length:Int) 2))),out18,h19))
 else
 some (.inl (false,out18,h19))).bind (Sum.elim (ZxK j17) some)).bind (Sum.elim (ZxM j17) some)
 else
 (some (.inl (wrap .i64 (k11+1),out18,h19))).map .inr
def ZAl (i5:Int):Y33->Option Y12:=fun (out31,h32)=>
 bif decide (out31.length+List.length ([h32]:List (List Bool))<=1000000) then
 some (.inl (wrap .i64 (i5+1),out31++([h32]:List (List Bool))))
 else none
def ZxL (i5:Int) (y7:Int×Int×List Int):Y11->Option (Y11⊕Y12):=fun (k11,out12,h13)=>
 bif decide (k11 < (y7.2.2.length:Int)) then
 Zao (ZAn y7 k11) (0,out12,h13)
 else
 ((bif y7.1==3 then
 (gI h13 (wrap .i64 (tdiv y7.2.1 16))).bind fun y33=>
 (gI h13 (wrap .i64 (tdiv y7.2.1 16))).bind fun y34=>
 some (.inl (out12,Zaq h13 (wrap .i64 (tdiv y7.2.1 16)) true))
 else
 some (.inl (out12,h13))).bind (Sum.elim (ZAl i5) some)).map .inr
def ZuJ (l1:TN):(Int×List (List Bool))->Option Y12:=fun (i5,out6)=>
 bif decide (i5 < (l1.length:Int)) then
 bif decide ((0:Int)<=16/\(16:Int)=16/\(16:Int)<=1000000) then
 (gI l1 i5).bind fun y7=>
 Zao (ZxL i5 y7) (0,out6,(replicate (toNat 16) false:List Bool))
 else none
 else
 (some out6).map .inr
def F41 (l1:TN):Option (List (List Bool)):=
 Zao (ZuJ l1) (0,[])
def Zx4 (l1:TN) (i4:Int):Bool->Option (Int⊕Int):=fun x5=>
 bif x5 then
 (gI l1 i4).bind fun y8=>
 (some (wrap .i64 (tdiv (y8.2.2.length:Int) 2))).map .inr
 else
 some (.inl (wrap .i64 (i4+1)))
def Zx5 (l1:TN) (n2:Int):Int->Option (Int⊕Int):=fun i4=>
 bif decide (i4 < (l1.length:Int)) then
 ((gI l1 i4).bind fun y6=>
 bif y6.1==31 then
 (gI l1 i4).bind fun y7=>
 some (.inl (y7.2.1==n2))
 else
 some (.inl false)).bind (Sum.elim (Zx4 l1 i4) some)
 else
 (some 0).map .inr
def F59 (l1:TN) (n2:Int):Option Int:=
 Zao (Zx5 l1 n2) 0
def ZTD:(Bool×List Bool)->Option Y21:=fun (x23,loops24)=>
 bif x23 then
 ((some false).map .inr).map .inr
 else
 some (.inl loops24)
def ZTE:(Bool×List Bool)->Option Y21:=fun (x31,loops32)=>
 bif x31 then
 ((some false).map .inr).map .inr
 else
 some (.inl loops32)
def ZTm (u1:(List Y1)×List Y2) (g2:ByteArray×Int×TN×Int×Int) (y14:Int×Int×List Int):(Bool×List Bool)->Option Y21:=fun (x21,loops22)=>
 bif x21 then
 bif decide (y14.2.1>=(u1.1.length:Int)) then
 ((some false).map .inr).map .inr
 else
 some (.inl loops22)
 else
 bif y14.1==30 then
 (bif decide (y14.2.1>=(u1.2.length:Int)) then
 some (.inl (true,loops22))
 else
 (gI u1.2 y14.2.1).bind fun y25=>
 some (.inl ((wrap .i64 ((y14.2.2.length:Int) - 1)) != y25.2.1,loops22))).bind (Sum.elim ZTD some)
 else
 bif y14.1==31 then
 (gI loops22 y14.2.1).bind fun y26=>
 (gI loops22 y14.2.1).bind fun y27=>
 bif y27 then
 ((some false).map .inr).map .inr
 else
 (gI loops22 y14.2.1).bind fun y28=>
 (gI loops22 y14.2.1).bind fun y29=>
 some (.inl (Zaq loops22 y14.2.1 true))
 else
 bif y14.1==3 then
 (F59 g2.2.2.1 (wrap .i64 (tdiv y14.2.1 16))).bind fun r30=>
 (bif decide (r30 > 0) then
 some (.inl (decide ((tmod y14.2.1 16)>=r30),loops22))
 else
 some (.inl (false,loops22))).bind (Sum.elim ZTE some)
 else
 some (.inl loops22)
def ZTn (u1:(List Y1)×List Y2) (g2:ByteArray×Int×TN×Int×Int) (i11:Int) (y14:Int×Int×List Int):Y34->Option (Y34⊕Y21):=fun (k17,loops18)=>
 bif decide (k17 < i11) then
 (gI g2.2.2.1 k17).bind fun y19=>
 (F32 y19 y14).bind fun r20=>
 bif r20 then
 (((some false).map .inr).map .inr).map .inr
 else
 some (.inl (wrap .i64 (k17+1),loops18))
 else
 (bif y14.1==2 then
 bif decide (y14.2.1>=g2.2.1) then
 ((some false).map .inr).map .inr
 else
 some (.inl loops18)
 else
 (bif y14.1==23 then
 some (.inl (true,loops18))
 else
 some (.inl (y14.1==28,loops18))).bind (Sum.elim (ZTm u1 g2 y14) some)).map .inr
def ZwV (i11:Int):(List Bool)->Option (Y34⊕Bool):=fun loops13=>
 some (.inl (wrap .i64 (i11+1),loops13))
def ZTo (j38:Int):Bool->Option (Int⊕Bool):=fun x39=>
 bif x39 then
 (some false).map .inr
 else
 some (.inl (wrap .i64 (j38+1)))
def ZTp (g2:ByteArray×Int×TN×Int×Int) (r36:List (List Bool)):Int->Option (Int⊕Bool):=fun j38=>
 bif decide (j38 < 16) then
 ((gI r36 g2.2.2.2.1).bind fun y40=>
 (gI y40 j38).bind fun y41=>
 bif y41 then
 some (.inl true)
 else
 (gI r36 g2.2.2.2.2).bind fun y42=>
 (gI y42 j38).bind fun y43=>
 some (.inl y43)).bind (Sum.elim (ZTo j38) some)
 else
 (some true).map .inr
def ZTq (g2:ByteArray×Int×TN×Int×Int):Bool->Option Bool:=fun x33=>
 bif x33 then
 some false
 else
 (F41 g2.2.2.1).bind fun r36=>
 Zao (ZTp g2 r36) 0
def ZD3 (u1:(List Y1)×List Y2) (g2:ByteArray×Int×TN×Int×Int) (r5:List Int):Y34->Option (Y34⊕Bool):=fun (i11,loops12)=>
 bif decide (i11 < (r5.length:Int)) then
 ((gI g2.2.2.1 i11).bind fun y14=>
 Zao (ZTn u1 g2 i11 y14) (0,loops12)).bind (Sum.elim (ZwV i11) some)
 else
 (((F12 g2.2.2.1 g2.2.2.2.1).bind fun r34=>
 bif r34 != 1 then
 some (.inl true)
 else
 (F12 g2.2.2.1 g2.2.2.2.2).bind fun r35=>
 some (.inl (r35 != 2))).bind (Sum.elim (ZTq g2) some)).map .inr
def ZwW (u1:(List Y1)×List Y2) (g2:ByteArray×Int×TN×Int×Int) (r5:List Int):Int->Option (Int⊕Bool):=fun i7=>
 bif decide (i7 < (r5.length:Int)) then
 (gI r5 i7).bind fun y8=>
 bif y8==0 then
 (some false).map .inr
 else
 some (.inl (wrap .i64 (i7+1)))
 else
 (bif decide ((0:Int)<=16/\(16:Int)=16/\(16:Int)<=1000000) then
 Zao (ZD3 u1 g2 r5) (0,(replicate (toNat 16) false:List Bool))
 else none).map .inr
def ZwX (u1:(List Y1)×List Y2) (g2:ByteArray×Int×TN×Int×Int):Bool->Option Bool:=fun x3=>
 bif x3 then
 some false
 else
 (F31 g2.2.2.1).bind fun r5=>
 Zao (ZwW u1 g2 r5) 0
def F40 (u1:(List Y1)×List Y2) (g2:ByteArray×Int×TN×Int×Int):Option Bool:=
 ((F39 g2.1).bind fun r4=>
 bif !r4 then
 some (.inl true)
 else
 bif decide (g2.2.1 < 0) then
 some (.inl true)
 else
 bif decide (g2.2.1 > 6) then
 some (.inl true)
 else
 some (.inl (decide ((g2.2.2.1.length:Int) > 2000)))).bind (Sum.elim (ZwX u1 g2) some)
def ZSU (u1:(List Y1)×List Y2) (i4:Int) (y5:ByteArray×Int):Int->Option (Int⊕(Int⊕Bool)):=fun k9=>
 bif decide (k9 < i4) then
 (gI u1.1 k9).bind fun y10=>
 bif y10.1.toList==y5.1.toList then
 ((some false).map .inr).map .inr
 else
 some (.inl (wrap .i64 (k9+1)))
 else
 (some (.inl (wrap .i64 (i4+1)))).map .inr
def ZD4 (u1:(List Y1)×List Y2) (i4:Int) (y5:ByteArray×Int):Bool->Option (Int⊕Bool):=fun x6=>
 bif x6 then
 (some false).map .inr
 else
 Zao (ZSU u1 i4 y5) 0
def ZTr (u1:(List Y1)×List Y2) (i12:Int):Int->Option (Int⊕(Int⊕Bool)):=fun k14=>
 bif decide (k14 < i12) then
 (gI u1.2 k14).bind fun y15=>
 (gI u1.2 i12).bind fun y16=>
 bif y15.1.toList==y16.1.toList then
 ((some false).map .inr).map .inr
 else
 some (.inl (wrap .i64 (k14+1)))
 else
 ((gI u1.2 i12).bind fun y17=>
 (F40 u1 y17).bind fun r18=>
 bif !r18 then
 (some false).map .inr
 else
 some (.inl (wrap .i64 (i12+1)))).map .inr
def ZSV (u1:(List Y1)×List Y2):Int->Option (Int⊕Bool):=fun i12=>
 bif decide (i12 < (u1.2.length:Int)) then
 Zao (ZTr u1 i12) 0
 else
 (some true).map .inr
def ZD5 (u1:(List Y1)×List Y2):Int->Option (Int⊕Bool):=fun i4=>
 bif decide (i4 < (u1.1.length:Int)) then
 (gI u1.1 i4).bind fun y5=>
 ((F39 y5.1).bind fun r7=>
 bif !r7 then
 some (.inl true)
 else
 bif decide (y5.2 < 1) then
 some (.inl true)
 else
 some (.inl (decide (y5.2 > 16)))).bind (Sum.elim (ZD4 u1 i4 y5) some)
 else
 (Zao (ZSV u1) 0).map .inr
def Zy1 (u1:(List Y1)×List Y2):Bool->Option Bool:=fun x2=>
 bif x2 then
 some false
 else
 Zao (ZD5 u1) 0
def F20 (u1:(List Y1)×List Y2):Option Bool:=
 (bif decide ((u1.1.length:Int) > 4) then
 some (.inl true)
 else
 some (.inl (decide ((u1.2.length:Int) > 8)))).bind (Sum.elim (Zy1 u1) some)
def F60 (op1:Int) (a2:Int):Option Int:=
 bif op1==20 then
 some (wrap .i64 (0 - a2))
 else
 bif op1==21 then
 some (ZeM .i64 (ofInt (IntKind.bits .i64) (if IntKind.signed .i64 then -1 else IntKind.max .i64) ^^^ ofInt (IntKind.bits .i64) a2))
 else
 some 0
def ZxN (s1:List (List Int)×List Int×Int×Int×Int×Int) (a2:Int) (i3:Int):Bool->Option Int:=fun x4=>
 bif x4 then
 some 0
 else
 (gI s1.1 a2).bind fun y6=>
 (gI y6 i3).bind fun y7=>
 some y7
def F61 (s1:List (List Int)×List Int×Int×Int×Int×Int) (a2:Int) (i3:Int):Option Int:=
 (bif decide (i3 < 0) then
 some (.inl true)
 else
 (gI s1.1 a2).bind fun y5=>
 some (.inl (decide (i3>=(y5.length:Int))))).bind (Sum.elim (ZxN s1 a2 i3) some)
def Zyx (a2:Int) (i3:Int) (n4:Int):(Bool×List (List Int)×List Int×Int×Int×Int×Int×Int×Int×Int×Int)->Option Y22:=fun (x5,s6,s7,s8,s9,s10,s11,l12,l13,l14,l15)=>
 bif x5 then
 some (s6,s7,s8,s9,s10,s11)
 else
 bif decide (List.length ([]:List (List Int))+s6.length<=1000000) then
 (gI (([]:List (List Int))++s6) a2).bind fun y17=>
 (gI (([]:List (List Int))++s6) a2).bind fun y18=>
 bif decide (List.length ([]:List Int)+y18.length<=1000000) then
 (gI (([]:List (List Int))++s6) a2).bind fun y19=>
 (gI (([]:List (List Int))++s6) a2).bind fun y20=>
 (gI (([]:List (List Int))++s6) a2).bind fun y21=>
 (gI (([]:List (List Int))++s6) a2).bind fun y22=>
 bif decide (a2=a2) then
 (gI (([]:List Int)++y18) i3).bind fun y23=>
 (gI (([]:List Int)++y18) i3).bind fun y24=>
 some (Zaq (([]:List (List Int))++s6) a2 (Zaq (([]:List Int)++y18) i3 n4),s7,s8,s9,s10,s11)
 else none
 else none
 else none
def F89 (s1:List (List Int)×List Int×Int×Int×Int×Int) (a2:Int) (i3:Int) (n4:Int):Option Y22:=
 (bif decide (i3 < 0) then
 some (.inl (true,s1.1,s1.2.1,s1.2.2.1,s1.2.2.2.1,s1.2.2.2.2.1,s1.2.2.2.2.2,0,0,0,0))
 else
 (gI s1.1 a2).bind fun y16=>
 some (.inl (decide (i3>=(y16.length:Int)),s1.1,s1.2.1,s1.2.2.1,s1.2.2.2.1,s1.2.2.2.2.1,s1.2.2.2.2.2,0,0,0,0))).bind (Sum.elim (Zyx a2 i3 n4) some)
def F90 (s1:List (List Int)×List Int×Int×Int×Int×Int):Option Y22:=
 bif s1.2.2.1==0 then
 some (s1.1,s1.2.1,s1.2.2.1,3,s1.2.2.2.2.1,s1.2.2.2.2.2)
 else
 some (s1.1,s1.2.1,wrap .i64 (s1.2.2.1 - 1),s1.2.2.2.1,s1.2.2.2.2.1,s1.2.2.2.2.2)
def F92 (a1:Int) (b2:Int):Option Int:=
 bif b2==0 then
 some 0
 else
 bif b2==(-1) then
 some (wrap .i64 (0 - a1))
 else
 bif decide (b2=0) then none else
 some (wrap .i64 (tdiv a1 b2))
def F93 (ok1:Bool):Option Int:=
 bif ok1 then
 some 1
 else
 some 0
def F64 (op1:Int) (a2:Int) (b3:Int):Option Int:=
 bif op1==4 then
 some (wrap .i64 (a2+b3))
 else
 bif op1==5 then
 some (wrap .i64 (a2 - b3))
 else
 bif op1==6 then
 some (wrap .i64 (a2 * b3))
 else
 bif op1==7 then
 (F92 a2 b3).bind fun r4=>
 some r4
 else
 bif op1==8 then
 bif b3==0 then
 some 0
 else
 (F92 a2 b3).bind fun r5=>
 some (wrap .i64 (a2 - (wrap .i64 (r5 * b3))))
 else
 bif op1==9 then
 some (ZeM .i64 (ofInt (IntKind.bits .i64) a2 &&& ofInt (IntKind.bits .i64) b3))
 else
 bif op1==10 then
 some (ZeM .i64 (ofInt (IntKind.bits .i64) a2 ||| ofInt (IntKind.bits .i64) b3))
 else
 bif op1==11 then
 some (ZeM .i64 (ofInt (IntKind.bits .i64) a2 ^^^ ofInt (IntKind.bits .i64) b3))
 else
 bif op1==12 then
 bif decide ((wrap .u64 (ZeM .i64 (ofInt (IntKind.bits .i64) b3 &&& ofInt (IntKind.bits .i64) 63))) < 0) then none else
 some (wrap .i64 (a2 * 2 ^ (min (toNat (wrap .u64 (ZeM .i64 (ofInt (IntKind.bits .i64) b3 &&& ofInt (IntKind.bits .i64) 63)))) (IntKind.bits .i64))))
 else
 bif op1==13 then
 bif decide ((wrap .u64 (ZeM .i64 (ofInt (IntKind.bits .i64) b3 &&& ofInt (IntKind.bits .i64) 63))) < 0) then none else
 some (wrap .i64 (fdiv (wrap .u64 a2) (2 ^ (min (toNat (wrap .u64 (ZeM .i64 (ofInt (IntKind.bits .i64) b3 &&& ofInt (IntKind.bits .i64) 63)))) (IntKind.bits .u64)))))
 else
 bif op1==14 then
 bif decide ((wrap .u64 (ZeM .i64 (ofInt (IntKind.bits .i64) b3 &&& ofInt (IntKind.bits .i64) 63))) < 0) then none else
 some (fdiv a2 (2 ^ (min (toNat (wrap .u64 (ZeM .i64 (ofInt (IntKind.bits .i64) b3 &&& ofInt (IntKind.bits .i64) 63)))) (IntKind.bits .i64))))
 else
 bif op1==15 then
 (F93 (a2==b3)).bind fun r6=>
 some r6
 else
 bif op1==16 then
 (F93 (a2 != b3)).bind fun r7=>
 some r7
 else
 bif op1==17 then
 (F93 (decide (a2 < b3))).bind fun r8=>
 some r8
 else
 bif op1==18 then
 (F93 (decide (a2<=b3))).bind fun r9=>
 some r9
 else
 bif op1==19 then
 (F93 (decide ((wrap .u64 a2) < (wrap .u64 b3)))).bind fun r10=>
 some r10
 else
 some 0
def F21 (u1:List Y1) (u2:List Y2) (f3:Int) (s4:List Int) (s5:Int) (s6:Int) (s7:Int) (s8:Int) (args9:List Int) (l10:List (List Int)):Option Y14:=
 (gI u2 f3).bind fun y11=>
 bif decide ((0:Int)<=(y11.2.2.1.length:Int)/\((y11.2.2.1.length:Int):Int)=(y11.2.2.1.length:Int)/\((y11.2.2.1.length:Int):Int)<=1000000) then
 bif decide ((0:Int)<=(y11.2.2.1.length:Int)/\((y11.2.2.1.length:Int):Int)=(y11.2.2.1.length:Int)/\((y11.2.2.1.length:Int):Int)<=1000000) then
 bif decide ((0:Int)<=16/\(16:Int)=16/\(16:Int)<=1000000) then
 (F41 y11.2.2.1).bind fun r12=>
 some (u1,u2,y11.1,y11.2.1,y11.2.2.1,y11.2.2.2.1,y11.2.2.2.2,r12,s4,s5,s6,s7,s8,args9,l10,(replicate (toNat (y11.2.2.1.length:Int)) false:List Bool),(replicate (toNat (y11.2.2.1.length:Int)) (ReT.mk 0 ([],[],0,0,0,0) []):List ReT),(replicate (toNat 16) []:List (List ReT)))
 else none
 else none
 else none
def Z8W:((List Y1)×(List Y2)×ByteArray×Int×TN×Int×Int×List (List Bool)×List Int×Int×Int×Int×Int×Int×Int×Int×Int×List (List Int)×List Int×Int×Int×Int×Int×List Int×List (List Int)×List Bool×List ReT×List (List ReT))->Option Y4:=fun (x29,x30,x31,x32,x33,x34,x35,x36,x37,x38,x39,x40,x41,l42,l43,l44,l45,s46,s47,s48,s49,s50,s51,l52,l53,l54,l55,l56)=>
 some (s46,s48,s49,s50,s51,x29,x30,x31,x32,x33,x34,x35,x36,x37,x38,x39,x40,x41,s47,l52,l53,l54,l55,l56)
def ZA6 (n2:Int) (n3:List Int) (rec22:Int->(List Y1)->(List Y2)->ByteArray->Int->TN->Int->Int->(List (List Bool))->(List Int)->Int->Int->Int->Int->(List Int)->(List (List Int))->(List Bool)->(List ReT)->(List (List ReT))->Option Y0):Y9->Option (Y9⊕Y4):=fun (j120,x121,x122,x123,x124,x125,x126,x127,x128,x129,x130,x131,x132,x133,l134,l135,l136,l137,s138,s139,s140,s141,s142,s143,args144,l145,l146,l147,l148,l149)=>
 bif decide (j120 < (n3.length:Int)) then
 (gI n3 j120).bind fun y150=>
 (rec22 y150 x121 x122 x123 x124 x125 x126 x127 x128 x129 x130 x131 x132 x133 l145 l146 l147 l148 l149).bind fun r151=>
 bif decide (args144.length+List.length ([r151.1]:List Int)<=1000000) then
 some (.inl (wrap .i64 (j120+1),r151.2.2.2.2.2.2.2.2.1,r151.2.2.2.2.2.2.2.2.2.1,r151.2.2.2.2.2.2.2.2.2.2.1,r151.2.2.2.2.2.2.2.2.2.2.2.1,r151.2.2.2.2.2.2.2.2.2.2.2.2.1,r151.2.2.2.2.2.2.2.2.2.2.2.2.2.1,r151.2.2.2.2.2.2.2.2.2.2.2.2.2.2.1,r151.2.2.2.2.2.2.2.2.2.2.2.2.2.2.2.1,r151.2.2.2.2.2.2.2.2.2.2.2.2.2.2.2.2.1,r151.2.2.2.2.2.2.2.2.2.2.2.2.2.2.2.2.2.1,r151.2.2.2.2.2.2.2.2.2.2.2.2.2.2.2.2.2.2.1,r151.2.2.2.2.2.2.2.2.2.2.2.2.2.2.2.2.2.2.2.1,r151.2.2.2.2.2.2.2.2.2.2.2.2.2.2.2.2.2.2.2.2.1,l134,l135,l136,l137,s138,s139,s140,s141,s142,s143,args144++([r151.1]:List Int),r151.2.2.2.2.2.2.2.2.2.2.2.2.2.2.2.2.2.2.2.2.2.1,r151.2.2.2.2.2.2.2.2.2.2.2.2.2.2.2.2.2.2.2.2.2.2.1,r151.2.2.2.2.2.2.2.2.2.2.2.2.2.2.2.2.2.2.2.2.2.2.2.1,r151.2.2.2.2.2.2.2.2.2.2.2.2.2.2.2.2.2.2.2.2.2.2.2.2.1,r151.2.2.2.2.2.2.2.2.2.2.2.2.2.2.2.2.2.2.2.2.2.2.2.2.2))
 else none
 else
 ((F90 (s138,s139,s140,s141,s142,s143)).bind fun r152=>
 bif r152.2.2.2.1 != 0 then
 some (r152.1,r152.2.2.1,r152.2.2.2.1,r152.2.2.2.2.1,r152.2.2.2.2.2,x121,x122,x123,x124,x125,x126,x127,x128,x129,x130,x131,x132,x133,r152.2.1,l145,l146,l147,l148,l149)
 else
 (F21 x121 x122 n2 r152.2.1 r152.2.2.1 r152.2.2.2.1 r152.2.2.2.2.1 0 args144 r152.1).bind fun r153=>
 (rec22 r153.2.2.2.2.2.2.1 r153.1 r153.2.1 r153.2.2.1 r153.2.2.2.1 r153.2.2.2.2.1 r153.2.2.2.2.2.1 r153.2.2.2.2.2.2.1 r153.2.2.2.2.2.2.2.1 r153.2.2.2.2.2.2.2.2.1 r153.2.2.2.2.2.2.2.2.2.1 r153.2.2.2.2.2.2.2.2.2.2.1 r153.2.2.2.2.2.2.2.2.2.2.2.1 r153.2.2.2.2.2.2.2.2.2.2.2.2.1 r153.2.2.2.2.2.2.2.2.2.2.2.2.2.1 r153.2.2.2.2.2.2.2.2.2.2.2.2.2.2.1 r153.2.2.2.2.2.2.2.2.2.2.2.2.2.2.2.1 r153.2.2.2.2.2.2.2.2.2.2.2.2.2.2.2.2.1 r153.2.2.2.2.2.2.2.2.2.2.2.2.2.2.2.2.2).bind fun r154=>
 bif r154.2.2.2.2.1 != 0 then
 some (r154.2.1,r154.2.2.2.1,r154.2.2.2.2.1,r154.2.2.2.2.2.1,r152.2.2.2.2.2,x121,x122,x123,x124,x125,x126,x127,x128,x129,x130,x131,x132,x133,r154.2.2.1,l145,l146,l147,l148,l149)
 else
 (rec22 r154.2.2.2.2.2.2.2.2.2.2.2.2.2.1 r154.2.2.2.2.2.2.2.2.1 r154.2.2.2.2.2.2.2.2.2.1 r154.2.2.2.2.2.2.2.2.2.2.1 r154.2.2.2.2.2.2.2.2.2.2.2.1 r154.2.2.2.2.2.2.2.2.2.2.2.2.1 r154.2.2.2.2.2.2.2.2.2.2.2.2.2.1 r154.2.2.2.2.2.2.2.2.2.2.2.2.2.2.1 r154.2.2.2.2.2.2.2.2.2.2.2.2.2.2.2.1 r154.2.2.2.2.2.2.2.2.2.2.2.2.2.2.2.2.1 r154.2.2.2.2.2.2.2.2.2.2.2.2.2.2.2.2.2.1 r154.2.2.2.2.2.2.2.2.2.2.2.2.2.2.2.2.2.2.1 r154.2.2.2.2.2.2.2.2.2.2.2.2.2.2.2.2.2.2.2.1 r154.2.2.2.2.2.2.2.2.2.2.2.2.2.2.2.2.2.2.2.2.1 r154.2.2.2.2.2.2.2.2.2.2.2.2.2.2.2.2.2.2.2.2.2.1 r154.2.2.2.2.2.2.2.2.2.2.2.2.2.2.2.2.2.2.2.2.2.2.1 r154.2.2.2.2.2.2.2.2.2.2.2.2.2.2.2.2.2.2.2.2.2.2.2.1 r154.2.2.2.2.2.2.2.2.2.2.2.2.2.2.2.2.2.2.2.2.2.2.2.2.1 r154.2.2.2.2.2.2.2.2.2.2.2.2.2.2.2.2.2.2.2.2.2.2.2.2.2).bind fun r155=>
 some (r154.2.1,r154.2.2.2.1,r154.2.2.2.2.1,r154.2.2.2.2.2.1,r155.1,x121,x122,x123,x124,x125,x126,x127,x128,x129,x130,x131,x132,x133,r154.2.2.1,l145,l146,l147,l148,l149)).map .inr
def E62 (rec22:Int->(List Y1)->(List Y2)->ByteArray->Int->TN->Int->Int->(List (List Bool))->(List Int)->Int->Int->Int->Int->(List Int)->(List (List Int))->(List Bool)->(List ReT)->(List (List ReT))->Option Y0) (n1:Int) (n2:Int) (n3:List Int) (x4:List Y1) (x5:List Y2) (x6:ByteArray) (x7:Int) (x8:TN) (x9:Int) (x10:Int) (x11:List (List Bool)) (x12:List Int) (x13:Int) (x14:Int) (x15:Int) (x16:Int) (l17:List Int) (l18:List (List Int)) (l19:List Bool) (l20:List ReT) (l21:List (List ReT)):Option Y4:=
 (gI n3 0).bind fun y22=>
 (rec22 y22 x4 x5 x6 x7 x8 x9 x10 x11 x12 x13 x14 x15 x16 l17 l18 l19 l20 l21).bind fun r23=>
 bif n1==28 then
 (gI n3 1).bind fun y24=>
 (rec22 y24 r23.2.2.2.2.2.2.2.2.1 r23.2.2.2.2.2.2.2.2.2.1 r23.2.2.2.2.2.2.2.2.2.2.1 r23.2.2.2.2.2.2.2.2.2.2.2.1 r23.2.2.2.2.2.2.2.2.2.2.2.2.1 r23.2.2.2.2.2.2.2.2.2.2.2.2.2.1 r23.2.2.2.2.2.2.2.2.2.2.2.2.2.2.1 r23.2.2.2.2.2.2.2.2.2.2.2.2.2.2.2.1 r23.2.2.2.2.2.2.2.2.2.2.2.2.2.2.2.2.1 r23.2.2.2.2.2.2.2.2.2.2.2.2.2.2.2.2.2.1 r23.2.2.2.2.2.2.2.2.2.2.2.2.2.2.2.2.2.2.1 r23.2.2.2.2.2.2.2.2.2.2.2.2.2.2.2.2.2.2.2.1 r23.2.2.2.2.2.2.2.2.2.2.2.2.2.2.2.2.2.2.2.2.1 r23.2.2.2.2.2.2.2.2.2.2.2.2.2.2.2.2.2.2.2.2.2.1 r23.2.2.2.2.2.2.2.2.2.2.2.2.2.2.2.2.2.2.2.2.2.2.1 r23.2.2.2.2.2.2.2.2.2.2.2.2.2.2.2.2.2.2.2.2.2.2.2.1 r23.2.2.2.2.2.2.2.2.2.2.2.2.2.2.2.2.2.2.2.2.2.2.2.2.1 r23.2.2.2.2.2.2.2.2.2.2.2.2.2.2.2.2.2.2.2.2.2.2.2.2.2).bind fun r25=>
 (gI n3 2).bind fun y26=>
 (rec22 y26 r25.2.2.2.2.2.2.2.2.1 r25.2.2.2.2.2.2.2.2.2.1 r25.2.2.2.2.2.2.2.2.2.2.1 r25.2.2.2.2.2.2.2.2.2.2.2.1 r25.2.2.2.2.2.2.2.2.2.2.2.2.1 r25.2.2.2.2.2.2.2.2.2.2.2.2.2.1 r25.2.2.2.2.2.2.2.2.2.2.2.2.2.2.1 r25.2.2.2.2.2.2.2.2.2.2.2.2.2.2.2.1 r25.2.2.2.2.2.2.2.2.2.2.2.2.2.2.2.2.1 r25.2.2.2.2.2.2.2.2.2.2.2.2.2.2.2.2.2.1 r25.2.2.2.2.2.2.2.2.2.2.2.2.2.2.2.2.2.2.1 r25.2.2.2.2.2.2.2.2.2.2.2.2.2.2.2.2.2.2.2.1 r25.2.2.2.2.2.2.2.2.2.2.2.2.2.2.2.2.2.2.2.2.1 r25.2.2.2.2.2.2.2.2.2.2.2.2.2.2.2.2.2.2.2.2.2.1 r25.2.2.2.2.2.2.2.2.2.2.2.2.2.2.2.2.2.2.2.2.2.2.1 r25.2.2.2.2.2.2.2.2.2.2.2.2.2.2.2.2.2.2.2.2.2.2.2.1 r25.2.2.2.2.2.2.2.2.2.2.2.2.2.2.2.2.2.2.2.2.2.2.2.2.1 r25.2.2.2.2.2.2.2.2.2.2.2.2.2.2.2.2.2.2.2.2.2.2.2.2.2).bind fun r27=>
 (F89 (r23.2.1,r23.2.2.1,r23.2.2.2.1,r23.2.2.2.2.1,r23.2.2.2.2.2.1,r23.2.2.2.2.2.2.1) n2 r25.1 r27.1).bind fun r28=>
 some (r28.1,r28.2.2.1,r28.2.2.2.1,r28.2.2.2.2.1,r28.2.2.2.2.2,r27.2.2.2.2.2.2.2.2.1,r27.2.2.2.2.2.2.2.2.2.1,r27.2.2.2.2.2.2.2.2.2.2.1,r27.2.2.2.2.2.2.2.2.2.2.2.1,r27.2.2.2.2.2.2.2.2.2.2.2.2.1,r27.2.2.2.2.2.2.2.2.2.2.2.2.2.1,r27.2.2.2.2.2.2.2.2.2.2.2.2.2.2.1,r27.2.2.2.2.2.2.2.2.2.2.2.2.2.2.2.1,r27.2.2.2.2.2.2.2.2.2.2.2.2.2.2.2.2.1,r27.2.2.2.2.2.2.2.2.2.2.2.2.2.2.2.2.2.1,r27.2.2.2.2.2.2.2.2.2.2.2.2.2.2.2.2.2.2.1,r27.2.2.2.2.2.2.2.2.2.2.2.2.2.2.2.2.2.2.2.1,r27.2.2.2.2.2.2.2.2.2.2.2.2.2.2.2.2.2.2.2.2.1,r28.2.1,r27.2.2.2.2.2.2.2.2.2.2.2.2.2.2.2.2.2.2.2.2.2.1,r27.2.2.2.2.2.2.2.2.2.2.2.2.2.2.2.2.2.2.2.2.2.2.1,r27.2.2.2.2.2.2.2.2.2.2.2.2.2.2.2.2.2.2.2.2.2.2.2.1,r27.2.2.2.2.2.2.2.2.2.2.2.2.2.2.2.2.2.2.2.2.2.2.2.2.1,r27.2.2.2.2.2.2.2.2.2.2.2.2.2.2.2.2.2.2.2.2.2.2.2.2.2)
 else
 bif r23.2.2.2.2.1 != 0 then
 some (r23.2.1,r23.2.2.2.1,r23.2.2.2.2.1,r23.2.2.2.2.2.1,r23.2.2.2.2.2.2.1,r23.2.2.2.2.2.2.2.2.1,r23.2.2.2.2.2.2.2.2.2.1,r23.2.2.2.2.2.2.2.2.2.2.1,r23.2.2.2.2.2.2.2.2.2.2.2.1,r23.2.2.2.2.2.2.2.2.2.2.2.2.1,r23.2.2.2.2.2.2.2.2.2.2.2.2.2.1,r23.2.2.2.2.2.2.2.2.2.2.2.2.2.2.1,r23.2.2.2.2.2.2.2.2.2.2.2.2.2.2.2.1,r23.2.2.2.2.2.2.2.2.2.2.2.2.2.2.2.2.1,r23.2.2.2.2.2.2.2.2.2.2.2.2.2.2.2.2.2.1,r23.2.2.2.2.2.2.2.2.2.2.2.2.2.2.2.2.2.2.1,r23.2.2.2.2.2.2.2.2.2.2.2.2.2.2.2.2.2.2.2.1,r23.2.2.2.2.2.2.2.2.2.2.2.2.2.2.2.2.2.2.2.2.1,r23.2.2.1,r23.2.2.2.2.2.2.2.2.2.2.2.2.2.2.2.2.2.2.2.2.2.1,r23.2.2.2.2.2.2.2.2.2.2.2.2.2.2.2.2.2.2.2.2.2.2.1,r23.2.2.2.2.2.2.2.2.2.2.2.2.2.2.2.2.2.2.2.2.2.2.2.1,r23.2.2.2.2.2.2.2.2.2.2.2.2.2.2.2.2.2.2.2.2.2.2.2.2.1,r23.2.2.2.2.2.2.2.2.2.2.2.2.2.2.2.2.2.2.2.2.2.2.2.2.2)
 else
 bif n1==27 then
 ((gI n3 1).bind fun y57=>
 (rec22 y57 r23.2.2.2.2.2.2.2.2.1 r23.2.2.2.2.2.2.2.2.2.1 r23.2.2.2.2.2.2.2.2.2.2.1 r23.2.2.2.2.2.2.2.2.2.2.2.1 r23.2.2.2.2.2.2.2.2.2.2.2.2.1 r23.2.2.2.2.2.2.2.2.2.2.2.2.2.1 r23.2.2.2.2.2.2.2.2.2.2.2.2.2.2.1 r23.2.2.2.2.2.2.2.2.2.2.2.2.2.2.2.1 r23.2.2.2.2.2.2.2.2.2.2.2.2.2.2.2.2.1 r23.2.2.2.2.2.2.2.2.2.2.2.2.2.2.2.2.2.1 r23.2.2.2.2.2.2.2.2.2.2.2.2.2.2.2.2.2.2.1 r23.2.2.2.2.2.2.2.2.2.2.2.2.2.2.2.2.2.2.2.1 r23.2.2.2.2.2.2.2.2.2.2.2.2.2.2.2.2.2.2.2.2.1 r23.2.2.2.2.2.2.2.2.2.2.2.2.2.2.2.2.2.2.2.2.2.1 r23.2.2.2.2.2.2.2.2.2.2.2.2.2.2.2.2.2.2.2.2.2.2.1 r23.2.2.2.2.2.2.2.2.2.2.2.2.2.2.2.2.2.2.2.2.2.2.2.1 r23.2.2.2.2.2.2.2.2.2.2.2.2.2.2.2.2.2.2.2.2.2.2.2.2.1 r23.2.2.2.2.2.2.2.2.2.2.2.2.2.2.2.2.2.2.2.2.2.2.2.2.2).bind fun r58=>
 bif r58.1==0 then
 some (.inl (r58.2.2.2.2.2.2.2.2.1,r58.2.2.2.2.2.2.2.2.2.1,r58.2.2.2.2.2.2.2.2.2.2.1,r58.2.2.2.2.2.2.2.2.2.2.2.1,r58.2.2.2.2.2.2.2.2.2.2.2.2.1,r58.2.2.2.2.2.2.2.2.2.2.2.2.2.1,r58.2.2.2.2.2.2.2.2.2.2.2.2.2.2.1,r58.2.2.2.2.2.2.2.2.2.2.2.2.2.2.2.1,r58.2.2.2.2.2.2.2.2.2.2.2.2.2.2.2.2.1,r58.2.2.2.2.2.2.2.2.2.2.2.2.2.2.2.2.2.1,r58.2.2.2.2.2.2.2.2.2.2.2.2.2.2.2.2.2.2.1,r58.2.2.2.2.2.2.2.2.2.2.2.2.2.2.2.2.2.2.2.1,r58.2.2.2.2.2.2.2.2.2.2.2.2.2.2.2.2.2.2.2.2.1,0,0,0,0,r23.2.1,r23.2.2.1,r23.2.2.2.1,2,n2,r23.2.2.2.2.2.2.1,r58.2.2.2.2.2.2.2.2.2.2.2.2.2.2.2.2.2.2.2.2.2.1,r58.2.2.2.2.2.2.2.2.2.2.2.2.2.2.2.2.2.2.2.2.2.2.1,r58.2.2.2.2.2.2.2.2.2.2.2.2.2.2.2.2.2.2.2.2.2.2.2.1,r58.2.2.2.2.2.2.2.2.2.2.2.2.2.2.2.2.2.2.2.2.2.2.2.2.1,r58.2.2.2.2.2.2.2.2.2.2.2.2.2.2.2.2.2.2.2.2.2.2.2.2.2))
 else
 some (.inl (r58.2.2.2.2.2.2.2.2.1,r58.2.2.2.2.2.2.2.2.2.1,r58.2.2.2.2.2.2.2.2.2.2.1,r58.2.2.2.2.2.2.2.2.2.2.2.1,r58.2.2.2.2.2.2.2.2.2.2.2.2.1,r58.2.2.2.2.2.2.2.2.2.2.2.2.2.1,r58.2.2.2.2.2.2.2.2.2.2.2.2.2.2.1,r58.2.2.2.2.2.2.2.2.2.2.2.2.2.2.2.1,r58.2.2.2.2.2.2.2.2.2.2.2.2.2.2.2.2.1,r58.2.2.2.2.2.2.2.2.2.2.2.2.2.2.2.2.2.1,r58.2.2.2.2.2.2.2.2.2.2.2.2.2.2.2.2.2.2.1,r58.2.2.2.2.2.2.2.2.2.2.2.2.2.2.2.2.2.2.2.1,r58.2.2.2.2.2.2.2.2.2.2.2.2.2.2.2.2.2.2.2.2.1,0,0,0,0,r23.2.1,r23.2.2.1,r23.2.2.2.1,r23.2.2.2.2.1,r23.2.2.2.2.2.1,r23.2.2.2.2.2.2.1,r58.2.2.2.2.2.2.2.2.2.2.2.2.2.2.2.2.2.2.2.2.2.1,r58.2.2.2.2.2.2.2.2.2.2.2.2.2.2.2.2.2.2.2.2.2.2.1,r58.2.2.2.2.2.2.2.2.2.2.2.2.2.2.2.2.2.2.2.2.2.2.2.1,r58.2.2.2.2.2.2.2.2.2.2.2.2.2.2.2.2.2.2.2.2.2.2.2.2.1,r58.2.2.2.2.2.2.2.2.2.2.2.2.2.2.2.2.2.2.2.2.2.2.2.2.2))).bind (Sum.elim Z8W some)
 else
 bif n1==29 then
 (gI n3 1).bind fun y59=>
 bif decide (List.length ([]:List Int)+r23.2.2.1.length<=1000000) then
 (rec22 y59 r23.2.2.2.2.2.2.2.2.1 r23.2.2.2.2.2.2.2.2.2.1 r23.2.2.2.2.2.2.2.2.2.2.1 r23.2.2.2.2.2.2.2.2.2.2.2.1 r23.2.2.2.2.2.2.2.2.2.2.2.2.1 r23.2.2.2.2.2.2.2.2.2.2.2.2.2.1 r23.2.2.2.2.2.2.2.2.2.2.2.2.2.2.1 r23.2.2.2.2.2.2.2.2.2.2.2.2.2.2.2.1 r23.2.2.2.2.2.2.2.2.2.2.2.2.2.2.2.2.1 r23.2.2.2.2.2.2.2.2.2.2.2.2.2.2.2.2.2.1 r23.2.2.2.2.2.2.2.2.2.2.2.2.2.2.2.2.2.2.1 r23.2.2.2.2.2.2.2.2.2.2.2.2.2.2.2.2.2.2.2.1 r23.2.2.2.2.2.2.2.2.2.2.2.2.2.2.2.2.2.2.2.2.1 r23.2.2.2.2.2.2.2.2.2.2.2.2.2.2.2.2.2.2.2.2.2.1 r23.2.2.2.2.2.2.2.2.2.2.2.2.2.2.2.2.2.2.2.2.2.2.1 r23.2.2.2.2.2.2.2.2.2.2.2.2.2.2.2.2.2.2.2.2.2.2.2.1 r23.2.2.2.2.2.2.2.2.2.2.2.2.2.2.2.2.2.2.2.2.2.2.2.2.1 r23.2.2.2.2.2.2.2.2.2.2.2.2.2.2.2.2.2.2.2.2.2.2.2.2.2).bind fun r60=>
 bif decide (List.length (([]:List Int)++r23.2.2.1)+List.length ([r60.1]:List Int)<=1000000) then
 some (r23.2.1,r23.2.2.2.1,r23.2.2.2.2.1,r23.2.2.2.2.2.1,r23.2.2.2.2.2.2.1,r60.2.2.2.2.2.2.2.2.1,r60.2.2.2.2.2.2.2.2.2.1,r60.2.2.2.2.2.2.2.2.2.2.1,r60.2.2.2.2.2.2.2.2.2.2.2.1,r60.2.2.2.2.2.2.2.2.2.2.2.2.1,r60.2.2.2.2.2.2.2.2.2.2.2.2.2.1,r60.2.2.2.2.2.2.2.2.2.2.2.2.2.2.1,r60.2.2.2.2.2.2.2.2.2.2.2.2.2.2.2.1,r60.2.2.2.2.2.2.2.2.2.2.2.2.2.2.2.2.1,r60.2.2.2.2.2.2.2.2.2.2.2.2.2.2.2.2.2.1,r60.2.2.2.2.2.2.2.2.2.2.2.2.2.2.2.2.2.2.1,r60.2.2.2.2.2.2.2.2.2.2.2.2.2.2.2.2.2.2.2.1,r60.2.2.2.2.2.2.2.2.2.2.2.2.2.2.2.2.2.2.2.2.1,(([]:List Int)++r23.2.2.1)++([r60.1]:List Int),r60.2.2.2.2.2.2.2.2.2.2.2.2.2.2.2.2.2.2.2.2.2.1,r60.2.2.2.2.2.2.2.2.2.2.2.2.2.2.2.2.2.2.2.2.2.2.1,r60.2.2.2.2.2.2.2.2.2.2.2.2.2.2.2.2.2.2.2.2.2.2.2.1,r60.2.2.2.2.2.2.2.2.2.2.2.2.2.2.2.2.2.2.2.2.2.2.2.2.1,r60.2.2.2.2.2.2.2.2.2.2.2.2.2.2.2.2.2.2.2.2.2.2.2.2.2)
 else none
 else none
 else
 Zao (ZA6 n2 n3 rec22) (1,r23.2.2.2.2.2.2.2.2.1,r23.2.2.2.2.2.2.2.2.2.1,r23.2.2.2.2.2.2.2.2.2.2.1,r23.2.2.2.2.2.2.2.2.2.2.2.1,r23.2.2.2.2.2.2.2.2.2.2.2.2.1,r23.2.2.2.2.2.2.2.2.2.2.2.2.2.1,r23.2.2.2.2.2.2.2.2.2.2.2.2.2.2.1,r23.2.2.2.2.2.2.2.2.2.2.2.2.2.2.2.1,r23.2.2.2.2.2.2.2.2.2.2.2.2.2.2.2.2.1,r23.2.2.2.2.2.2.2.2.2.2.2.2.2.2.2.2.2.1,r23.2.2.2.2.2.2.2.2.2.2.2.2.2.2.2.2.2.2.1,r23.2.2.2.2.2.2.2.2.2.2.2.2.2.2.2.2.2.2.2.1,r23.2.2.2.2.2.2.2.2.2.2.2.2.2.2.2.2.2.2.2.2.1,0,0,0,0,r23.2.1,r23.2.2.1,r23.2.2.2.1,r23.2.2.2.2.1,r23.2.2.2.2.2.1,r23.2.2.2.2.2.2.1,[],r23.2.2.2.2.2.2.2.2.2.2.2.2.2.2.2.2.2.2.2.2.2.1,r23.2.2.2.2.2.2.2.2.2.2.2.2.2.2.2.2.2.2.2.2.2.2.1,r23.2.2.2.2.2.2.2.2.2.2.2.2.2.2.2.2.2.2.2.2.2.2.2.1,r23.2.2.2.2.2.2.2.2.2.2.2.2.2.2.2.2.2.2.2.2.2.2.2.2.1,r23.2.2.2.2.2.2.2.2.2.2.2.2.2.2.2.2.2.2.2.2.2.2.2.2.2)
def ZDE (y20:Int×Int×List Int) (rec22:Int->(List Y1)->(List Y2)->ByteArray->Int->TN->Int->Int->(List (List Bool))->(List Int)->Int->Int->Int->Int->(List Int)->(List (List Int))->(List Bool)->(List ReT)->(List (List ReT))->Option Y0):Y13->Option Y3:=fun (x69,x70,x71,x72,x73,x74,x75,x76,x77,x78,x79,x80,x81,x82,l83,l84,l85,l86,l87,l88,l89,l90,l91,l92)=>
 bif x69 then
 (E62 rec22 y20.1 y20.2.1 y20.2.2 x70 x71 x72 x73 x74 x75 x76 x77 x78 x79 x80 x81 x82 l88 l89 l90 l91 l92).bind fun r93=>
 some (0,r93.2.1,r93.2.2.1,r93.2.2.2.1,r93.2.2.2.2.1,[],r93.2.2.2.2.2.1,r93.2.2.2.2.2.2.1,r93.2.2.2.2.2.2.2.1,r93.2.2.2.2.2.2.2.2.1,r93.2.2.2.2.2.2.2.2.2.1,r93.2.2.2.2.2.2.2.2.2.2.1,r93.2.2.2.2.2.2.2.2.2.2.2.1,r93.2.2.2.2.2.2.2.2.2.2.2.2.1,r93.2.2.2.2.2.2.2.2.2.2.2.2.2.1,r93.2.2.2.2.2.2.2.2.2.2.2.2.2.2.1,r93.2.2.2.2.2.2.2.2.2.2.2.2.2.2.2.1,r93.2.2.2.2.2.2.2.2.2.2.2.2.2.2.2.2.1,r93.2.2.2.2.2.2.2.2.2.2.2.2.2.2.2.2.2.1,r93.1,r93.2.2.2.2.2.2.2.2.2.2.2.2.2.2.2.2.2.2.1,r93.2.2.2.2.2.2.2.2.2.2.2.2.2.2.2.2.2.2.2.1,r93.2.2.2.2.2.2.2.2.2.2.2.2.2.2.2.2.2.2.2.2.1,r93.2.2.2.2.2.2.2.2.2.2.2.2.2.2.2.2.2.2.2.2.2.1,r93.2.2.2.2.2.2.2.2.2.2.2.2.2.2.2.2.2.2.2.2.2.2.1,r93.2.2.2.2.2.2.2.2.2.2.2.2.2.2.2.2.2.2.2.2.2.2.2)
 else
 bif y20.1==31 then
 none
 else
 (gI y20.2.2 0).bind fun y94=>
 (gI y20.2.2 1).bind fun y95=>
 (rec22 y94 x70 x71 x72 x73 x74 x75 x76 x77 x78 x79 x80 x81 x82 l88 l89 l90 l91 l92).bind fun r96=>
 (rec22 y95 r96.2.2.2.2.2.2.2.2.1 r96.2.2.2.2.2.2.2.2.2.1 r96.2.2.2.2.2.2.2.2.2.2.1 r96.2.2.2.2.2.2.2.2.2.2.2.1 r96.2.2.2.2.2.2.2.2.2.2.2.2.1 r96.2.2.2.2.2.2.2.2.2.2.2.2.2.1 r96.2.2.2.2.2.2.2.2.2.2.2.2.2.2.1 r96.2.2.2.2.2.2.2.2.2.2.2.2.2.2.2.1 r96.2.2.2.2.2.2.2.2.2.2.2.2.2.2.2.2.1 r96.2.2.2.2.2.2.2.2.2.2.2.2.2.2.2.2.2.1 r96.2.2.2.2.2.2.2.2.2.2.2.2.2.2.2.2.2.2.1 r96.2.2.2.2.2.2.2.2.2.2.2.2.2.2.2.2.2.2.2.1 r96.2.2.2.2.2.2.2.2.2.2.2.2.2.2.2.2.2.2.2.2.1 r96.2.2.2.2.2.2.2.2.2.2.2.2.2.2.2.2.2.2.2.2.2.1 r96.2.2.2.2.2.2.2.2.2.2.2.2.2.2.2.2.2.2.2.2.2.2.1 r96.2.2.2.2.2.2.2.2.2.2.2.2.2.2.2.2.2.2.2.2.2.2.2.1 r96.2.2.2.2.2.2.2.2.2.2.2.2.2.2.2.2.2.2.2.2.2.2.2.2.1 r96.2.2.2.2.2.2.2.2.2.2.2.2.2.2.2.2.2.2.2.2.2.2.2.2.2).bind fun r97=>
 (F64 y20.1 r96.1 r97.1).bind fun r98=>
 some (r98,0,0,0,0,[],r97.2.2.2.2.2.2.2.2.1,r97.2.2.2.2.2.2.2.2.2.1,r97.2.2.2.2.2.2.2.2.2.2.1,r97.2.2.2.2.2.2.2.2.2.2.2.1,r97.2.2.2.2.2.2.2.2.2.2.2.2.1,r97.2.2.2.2.2.2.2.2.2.2.2.2.2.1,r97.2.2.2.2.2.2.2.2.2.2.2.2.2.2.1,r97.2.2.2.2.2.2.2.2.2.2.2.2.2.2.2.1,r97.2.2.2.2.2.2.2.2.2.2.2.2.2.2.2.2.1,r97.2.2.2.2.2.2.2.2.2.2.2.2.2.2.2.2.2.1,r97.2.2.2.2.2.2.2.2.2.2.2.2.2.2.2.2.2.2.1,r97.2.2.2.2.2.2.2.2.2.2.2.2.2.2.2.2.2.2.2.1,r97.2.2.2.2.2.2.2.2.2.2.2.2.2.2.2.2.2.2.2.2.1,[],[],r97.2.2.2.2.2.2.2.2.2.2.2.2.2.2.2.2.2.2.2.2.2.1,r97.2.2.2.2.2.2.2.2.2.2.2.2.2.2.2.2.2.2.2.2.2.2.1,r97.2.2.2.2.2.2.2.2.2.2.2.2.2.2.2.2.2.2.2.2.2.2.2.1,r97.2.2.2.2.2.2.2.2.2.2.2.2.2.2.2.2.2.2.2.2.2.2.2.2.1,r97.2.2.2.2.2.2.2.2.2.2.2.2.2.2.2.2.2.2.2.2.2.2.2.2.2)
def ZuM (y20:Int×Int×List Int) (rec22:Int->(List Y1)->(List Y2)->ByteArray->Int->TN->Int->Int->(List (List Bool))->(List Int)->Int->Int->Int->Int->(List Int)->(List (List Int))->(List Bool)->(List ReT)->(List (List ReT))->Option Y0):Y13->Option Y3:=fun (x26,x27,x28,x29,x30,x31,x32,x33,x34,x35,x36,x37,x38,x39,l40,l41,l42,l43,l44,l45,l46,l47,l48,l49)=>
 bif x26 then
 (gI y20.2.2 0).bind fun y50=>
 (rec22 y50 x27 x28 x29 x30 x31 x32 x33 x34 x35 x36 x37 x38 x39 l45 l46 l47 l48 l49).bind fun r51=>
 (F60 y20.1 r51.1).bind fun r52=>
 some (r52,0,0,0,0,[],r51.2.2.2.2.2.2.2.2.1,r51.2.2.2.2.2.2.2.2.2.1,r51.2.2.2.2.2.2.2.2.2.2.1,r51.2.2.2.2.2.2.2.2.2.2.2.1,r51.2.2.2.2.2.2.2.2.2.2.2.2.1,r51.2.2.2.2.2.2.2.2.2.2.2.2.2.1,r51.2.2.2.2.2.2.2.2.2.2.2.2.2.2.1,r51.2.2.2.2.2.2.2.2.2.2.2.2.2.2.2.1,r51.2.2.2.2.2.2.2.2.2.2.2.2.2.2.2.2.1,r51.2.2.2.2.2.2.2.2.2.2.2.2.2.2.2.2.2.1,r51.2.2.2.2.2.2.2.2.2.2.2.2.2.2.2.2.2.2.1,r51.2.2.2.2.2.2.2.2.2.2.2.2.2.2.2.2.2.2.2.1,r51.2.2.2.2.2.2.2.2.2.2.2.2.2.2.2.2.2.2.2.2.1,[],[],r51.2.2.2.2.2.2.2.2.2.2.2.2.2.2.2.2.2.2.2.2.2.1,r51.2.2.2.2.2.2.2.2.2.2.2.2.2.2.2.2.2.2.2.2.2.2.1,r51.2.2.2.2.2.2.2.2.2.2.2.2.2.2.2.2.2.2.2.2.2.2.2.1,r51.2.2.2.2.2.2.2.2.2.2.2.2.2.2.2.2.2.2.2.2.2.2.2.2.1,r51.2.2.2.2.2.2.2.2.2.2.2.2.2.2.2.2.2.2.2.2.2.2.2.2.2)
 else
 bif y20.1==22 then
 (gI y20.2.2 0).bind fun y53=>
 (rec22 y53 x27 x28 x29 x30 x31 x32 x33 x34 x35 x36 x37 x38 x39 l45 l46 l47 l48 l49).bind fun r54=>
 bif r54.1 != 0 then
 (gI y20.2.2 1).bind fun y55=>
 (rec22 y55 r54.2.2.2.2.2.2.2.2.1 r54.2.2.2.2.2.2.2.2.2.1 r54.2.2.2.2.2.2.2.2.2.2.1 r54.2.2.2.2.2.2.2.2.2.2.2.1 r54.2.2.2.2.2.2.2.2.2.2.2.2.1 r54.2.2.2.2.2.2.2.2.2.2.2.2.2.1 r54.2.2.2.2.2.2.2.2.2.2.2.2.2.2.1 r54.2.2.2.2.2.2.2.2.2.2.2.2.2.2.2.1 r54.2.2.2.2.2.2.2.2.2.2.2.2.2.2.2.2.1 r54.2.2.2.2.2.2.2.2.2.2.2.2.2.2.2.2.2.1 r54.2.2.2.2.2.2.2.2.2.2.2.2.2.2.2.2.2.2.1 r54.2.2.2.2.2.2.2.2.2.2.2.2.2.2.2.2.2.2.2.1 r54.2.2.2.2.2.2.2.2.2.2.2.2.2.2.2.2.2.2.2.2.1 r54.2.2.2.2.2.2.2.2.2.2.2.2.2.2.2.2.2.2.2.2.2.1 r54.2.2.2.2.2.2.2.2.2.2.2.2.2.2.2.2.2.2.2.2.2.2.1 r54.2.2.2.2.2.2.2.2.2.2.2.2.2.2.2.2.2.2.2.2.2.2.2.1 r54.2.2.2.2.2.2.2.2.2.2.2.2.2.2.2.2.2.2.2.2.2.2.2.2.1 r54.2.2.2.2.2.2.2.2.2.2.2.2.2.2.2.2.2.2.2.2.2.2.2.2.2).bind fun r56=>
 some (r56.1,r56.2.2.2.1,r56.2.2.2.2.1,r56.2.2.2.2.2.1,r56.2.2.2.2.2.2.1,r56.2.2.2.2.2.2.2.1,r56.2.2.2.2.2.2.2.2.1,r56.2.2.2.2.2.2.2.2.2.1,r56.2.2.2.2.2.2.2.2.2.2.1,r56.2.2.2.2.2.2.2.2.2.2.2.1,r56.2.2.2.2.2.2.2.2.2.2.2.2.1,r56.2.2.2.2.2.2.2.2.2.2.2.2.2.1,r56.2.2.2.2.2.2.2.2.2.2.2.2.2.2.1,r56.2.2.2.2.2.2.2.2.2.2.2.2.2.2.2.1,r56.2.2.2.2.2.2.2.2.2.2.2.2.2.2.2.2.1,r56.2.2.2.2.2.2.2.2.2.2.2.2.2.2.2.2.2.1,r56.2.2.2.2.2.2.2.2.2.2.2.2.2.2.2.2.2.2.1,r56.2.2.2.2.2.2.2.2.2.2.2.2.2.2.2.2.2.2.2.1,r56.2.2.2.2.2.2.2.2.2.2.2.2.2.2.2.2.2.2.2.2.1,r56.2.1,r56.2.2.1,r56.2.2.2.2.2.2.2.2.2.2.2.2.2.2.2.2.2.2.2.2.2.1,r56.2.2.2.2.2.2.2.2.2.2.2.2.2.2.2.2.2.2.2.2.2.2.1,r56.2.2.2.2.2.2.2.2.2.2.2.2.2.2.2.2.2.2.2.2.2.2.2.1,r56.2.2.2.2.2.2.2.2.2.2.2.2.2.2.2.2.2.2.2.2.2.2.2.2.1,r56.2.2.2.2.2.2.2.2.2.2.2.2.2.2.2.2.2.2.2.2.2.2.2.2.2)
 else
 (gI y20.2.2 2).bind fun y57=>
 (rec22 y57 r54.2.2.2.2.2.2.2.2.1 r54.2.2.2.2.2.2.2.2.2.1 r54.2.2.2.2.2.2.2.2.2.2.1 r54.2.2.2.2.2.2.2.2.2.2.2.1 r54.2.2.2.2.2.2.2.2.2.2.2.2.1 r54.2.2.2.2.2.2.2.2.2.2.2.2.2.1 r54.2.2.2.2.2.2.2.2.2.2.2.2.2.2.1 r54.2.2.2.2.2.2.2.2.2.2.2.2.2.2.2.1 r54.2.2.2.2.2.2.2.2.2.2.2.2.2.2.2.2.1 r54.2.2.2.2.2.2.2.2.2.2.2.2.2.2.2.2.2.1 r54.2.2.2.2.2.2.2.2.2.2.2.2.2.2.2.2.2.2.1 r54.2.2.2.2.2.2.2.2.2.2.2.2.2.2.2.2.2.2.2.1 r54.2.2.2.2.2.2.2.2.2.2.2.2.2.2.2.2.2.2.2.2.1 r54.2.2.2.2.2.2.2.2.2.2.2.2.2.2.2.2.2.2.2.2.2.1 r54.2.2.2.2.2.2.2.2.2.2.2.2.2.2.2.2.2.2.2.2.2.2.1 r54.2.2.2.2.2.2.2.2.2.2.2.2.2.2.2.2.2.2.2.2.2.2.2.1 r54.2.2.2.2.2.2.2.2.2.2.2.2.2.2.2.2.2.2.2.2.2.2.2.2.1 r54.2.2.2.2.2.2.2.2.2.2.2.2.2.2.2.2.2.2.2.2.2.2.2.2.2).bind fun r58=>
 some (r58.1,r58.2.2.2.1,r58.2.2.2.2.1,r58.2.2.2.2.2.1,r58.2.2.2.2.2.2.1,r58.2.2.2.2.2.2.2.1,r58.2.2.2.2.2.2.2.2.1,r58.2.2.2.2.2.2.2.2.2.1,r58.2.2.2.2.2.2.2.2.2.2.1,r58.2.2.2.2.2.2.2.2.2.2.2.1,r58.2.2.2.2.2.2.2.2.2.2.2.2.1,r58.2.2.2.2.2.2.2.2.2.2.2.2.2.1,r58.2.2.2.2.2.2.2.2.2.2.2.2.2.2.1,r58.2.2.2.2.2.2.2.2.2.2.2.2.2.2.2.1,r58.2.2.2.2.2.2.2.2.2.2.2.2.2.2.2.2.1,r58.2.2.2.2.2.2.2.2.2.2.2.2.2.2.2.2.2.1,r58.2.2.2.2.2.2.2.2.2.2.2.2.2.2.2.2.2.2.1,r58.2.2.2.2.2.2.2.2.2.2.2.2.2.2.2.2.2.2.2.1,r58.2.2.2.2.2.2.2.2.2.2.2.2.2.2.2.2.2.2.2.2.1,r58.2.1,r58.2.2.1,r58.2.2.2.2.2.2.2.2.2.2.2.2.2.2.2.2.2.2.2.2.2.1,r58.2.2.2.2.2.2.2.2.2.2.2.2.2.2.2.2.2.2.2.2.2.2.1,r58.2.2.2.2.2.2.2.2.2.2.2.2.2.2.2.2.2.2.2.2.2.2.2.1,r58.2.2.2.2.2.2.2.2.2.2.2.2.2.2.2.2.2.2.2.2.2.2.2.2.1,r58.2.2.2.2.2.2.2.2.2.2.2.2.2.2.2.2.2.2.2.2.2.2.2.2.2)
 else
 bif y20.1==23 then
 (gI y20.2.2 0).bind fun y59=>
 (gI y20.2.2 1).bind fun y60=>
 (rec22 y59 x27 x28 x29 x30 x31 x32 x33 x34 x35 x36 x37 x38 x39 l45 l46 l47 l48 l49).bind fun r61=>
 (rec22 y60 r61.2.2.2.2.2.2.2.2.1 r61.2.2.2.2.2.2.2.2.2.1 r61.2.2.2.2.2.2.2.2.2.2.1 r61.2.2.2.2.2.2.2.2.2.2.2.1 r61.2.2.2.2.2.2.2.2.2.2.2.2.1 r61.2.2.2.2.2.2.2.2.2.2.2.2.2.1 r61.2.2.2.2.2.2.2.2.2.2.2.2.2.2.1 r61.2.2.2.2.2.2.2.2.2.2.2.2.2.2.2.1 r61.2.2.2.2.2.2.2.2.2.2.2.2.2.2.2.2.1 r61.2.2.2.2.2.2.2.2.2.2.2.2.2.2.2.2.2.1 r61.2.2.2.2.2.2.2.2.2.2.2.2.2.2.2.2.2.2.1 r61.2.2.2.2.2.2.2.2.2.2.2.2.2.2.2.2.2.2.2.1 r61.2.2.2.2.2.2.2.2.2.2.2.2.2.2.2.2.2.2.2.2.1 r61.2.2.2.2.2.2.2.2.2.2.2.2.2.2.2.2.2.2.2.2.2.1 r61.2.2.2.2.2.2.2.2.2.2.2.2.2.2.2.2.2.2.2.2.2.2.1 r61.2.2.2.2.2.2.2.2.2.2.2.2.2.2.2.2.2.2.2.2.2.2.2.1 r61.2.2.2.2.2.2.2.2.2.2.2.2.2.2.2.2.2.2.2.2.2.2.2.2.1 r61.2.2.2.2.2.2.2.2.2.2.2.2.2.2.2.2.2.2.2.2.2.2.2.2.2).bind fun r62=>
 (F61 (r61.2.1,r61.2.2.1,r61.2.2.2.1,r61.2.2.2.2.1,r61.2.2.2.2.2.1,r61.2.2.2.2.2.2.1) y20.2.1 r62.1).bind fun r63=>
 some (r63,0,0,0,0,[],r62.2.2.2.2.2.2.2.2.1,r62.2.2.2.2.2.2.2.2.2.1,r62.2.2.2.2.2.2.2.2.2.2.1,r62.2.2.2.2.2.2.2.2.2.2.2.1,r62.2.2.2.2.2.2.2.2.2.2.2.2.1,r62.2.2.2.2.2.2.2.2.2.2.2.2.2.1,r62.2.2.2.2.2.2.2.2.2.2.2.2.2.2.1,r62.2.2.2.2.2.2.2.2.2.2.2.2.2.2.2.1,r62.2.2.2.2.2.2.2.2.2.2.2.2.2.2.2.2.1,r62.2.2.2.2.2.2.2.2.2.2.2.2.2.2.2.2.2.1,r62.2.2.2.2.2.2.2.2.2.2.2.2.2.2.2.2.2.2.1,r62.2.2.2.2.2.2.2.2.2.2.2.2.2.2.2.2.2.2.2.1,r62.2.2.2.2.2.2.2.2.2.2.2.2.2.2.2.2.2.2.2.2.1,[],[],r62.2.2.2.2.2.2.2.2.2.2.2.2.2.2.2.2.2.2.2.2.2.1,r62.2.2.2.2.2.2.2.2.2.2.2.2.2.2.2.2.2.2.2.2.2.2.1,r62.2.2.2.2.2.2.2.2.2.2.2.2.2.2.2.2.2.2.2.2.2.2.2.1,r62.2.2.2.2.2.2.2.2.2.2.2.2.2.2.2.2.2.2.2.2.2.2.2.2.1,r62.2.2.2.2.2.2.2.2.2.2.2.2.2.2.2.2.2.2.2.2.2.2.2.2.2)
 else
 bif y20.1==24 then
 (gI y20.2.2 0).bind fun y64=>
 (rec22 y64 x27 x28 x29 x30 x31 x32 x33 x34 x35 x36 x37 x38 x39 l45 l46 l47 l48 l49).bind fun r65=>
 some (r65.2.2.2.2.2.2.1,0,0,0,0,[],r65.2.2.2.2.2.2.2.2.1,r65.2.2.2.2.2.2.2.2.2.1,r65.2.2.2.2.2.2.2.2.2.2.1,r65.2.2.2.2.2.2.2.2.2.2.2.1,r65.2.2.2.2.2.2.2.2.2.2.2.2.1,r65.2.2.2.2.2.2.2.2.2.2.2.2.2.1,r65.2.2.2.2.2.2.2.2.2.2.2.2.2.2.1,r65.2.2.2.2.2.2.2.2.2.2.2.2.2.2.2.1,r65.2.2.2.2.2.2.2.2.2.2.2.2.2.2.2.2.1,r65.2.2.2.2.2.2.2.2.2.2.2.2.2.2.2.2.2.1,r65.2.2.2.2.2.2.2.2.2.2.2.2.2.2.2.2.2.2.1,r65.2.2.2.2.2.2.2.2.2.2.2.2.2.2.2.2.2.2.2.1,r65.2.2.2.2.2.2.2.2.2.2.2.2.2.2.2.2.2.2.2.2.1,[],[],r65.2.2.2.2.2.2.2.2.2.2.2.2.2.2.2.2.2.2.2.2.2.1,r65.2.2.2.2.2.2.2.2.2.2.2.2.2.2.2.2.2.2.2.2.2.2.1,r65.2.2.2.2.2.2.2.2.2.2.2.2.2.2.2.2.2.2.2.2.2.2.2.1,r65.2.2.2.2.2.2.2.2.2.2.2.2.2.2.2.2.2.2.2.2.2.2.2.2.1,r65.2.2.2.2.2.2.2.2.2.2.2.2.2.2.2.2.2.2.2.2.2.2.2.2.2)
 else
 bif y20.1==25 then
 (gI y20.2.2 0).bind fun y66=>
 (rec22 y66 x27 x28 x29 x30 x31 x32 x33 x34 x35 x36 x37 x38 x39 l45 l46 l47 l48 l49).bind fun r67=>
 (gI r67.2.2.2.2.2.2.2.1 y20.2.1).bind fun y68=>
 some ((ZR8 y68).1,((ZR8 y68).2.1).2.2.1,((ZR8 y68).2.1).2.2.2.1,((ZR8 y68).2.1).2.2.2.2.1,((ZR8 y68).2.1).2.2.2.2.2,(ZR8 y68).2.2,r67.2.2.2.2.2.2.2.2.1,r67.2.2.2.2.2.2.2.2.2.1,r67.2.2.2.2.2.2.2.2.2.2.1,r67.2.2.2.2.2.2.2.2.2.2.2.1,r67.2.2.2.2.2.2.2.2.2.2.2.2.1,r67.2.2.2.2.2.2.2.2.2.2.2.2.2.1,r67.2.2.2.2.2.2.2.2.2.2.2.2.2.2.1,r67.2.2.2.2.2.2.2.2.2.2.2.2.2.2.2.1,r67.2.2.2.2.2.2.2.2.2.2.2.2.2.2.2.2.1,r67.2.2.2.2.2.2.2.2.2.2.2.2.2.2.2.2.2.1,r67.2.2.2.2.2.2.2.2.2.2.2.2.2.2.2.2.2.2.1,r67.2.2.2.2.2.2.2.2.2.2.2.2.2.2.2.2.2.2.2.1,r67.2.2.2.2.2.2.2.2.2.2.2.2.2.2.2.2.2.2.2.2.1,((ZR8 y68).2.1).1,((ZR8 y68).2.1).2.1,r67.2.2.2.2.2.2.2.2.2.2.2.2.2.2.2.2.2.2.2.2.2.1,r67.2.2.2.2.2.2.2.2.2.2.2.2.2.2.2.2.2.2.2.2.2.2.1,r67.2.2.2.2.2.2.2.2.2.2.2.2.2.2.2.2.2.2.2.2.2.2.2.1,r67.2.2.2.2.2.2.2.2.2.2.2.2.2.2.2.2.2.2.2.2.2.2.2.2.1,r67.2.2.2.2.2.2.2.2.2.2.2.2.2.2.2.2.2.2.2.2.2.2.2.2.2)
 else
 bif y20.1==26 then
 some (0,x36,x37,x38,x39,[],x27,x28,x29,x30,x31,x32,x33,x34,x35,x36,x37,x38,x39,l46,x35,l45,l46,l47,l48,l49)
 else
 (bif y20.1==27 then
 some (.inl (true,x27,x28,x29,x30,x31,x32,x33,x34,x35,x36,x37,x38,x39,l40,l41,l42,l43,l44,l45,l46,l47,l48,l49))
 else
 bif y20.1==28 then
 some (.inl (true,x27,x28,x29,x30,x31,x32,x33,x34,x35,x36,x37,x38,x39,l40,l41,l42,l43,l44,l45,l46,l47,l48,l49))
 else
 bif y20.1==29 then
 some (.inl (true,x27,x28,x29,x30,x31,x32,x33,x34,x35,x36,x37,x38,x39,l40,l41,l42,l43,l44,l45,l46,l47,l48,l49))
 else
 some (.inl (y20.1==30,x27,x28,x29,x30,x31,x32,x33,x34,x35,x36,x37,x38,x39,l40,l41,l42,l43,l44,l45,l46,l47,l48,l49))).bind (Sum.elim (ZDE y20 rec22) some)
def E42 (rec22:Int->(List Y1)->(List Y2)->ByteArray->Int->TN->Int->Int->(List (List Bool))->(List Int)->Int->Int->Int->Int->(List Int)->(List (List Int))->(List Bool)->(List ReT)->(List (List ReT))->Option Y0) (i1:Int) (x2:List Y1) (x3:List Y2) (x4:ByteArray) (x5:Int) (x6:TN) (x7:Int) (x8:Int) (x9:List (List Bool)) (x10:List Int) (x11:Int) (x12:Int) (x13:Int) (x14:Int) (l15:List Int) (l16:List (List Int)) (l17:List Bool) (l18:List ReT) (l19:List (List ReT)):Option Y3:=
 (gI x6 i1).bind fun y20=>
 bif y20.1==1 then
 some (y20.2.1,0,0,0,0,[],x2,x3,x4,x5,x6,x7,x8,x9,x10,x11,x12,x13,x14,[],[],l15,l16,l17,l18,l19)
 else
 bif y20.1==2 then
 (gI l15 y20.2.1).bind fun y21=>
 (gI l15 y20.2.1).bind fun y22=>
 some (y22,0,0,0,0,[],x2,x3,x4,x5,x6,x7,x8,x9,x10,x11,x12,x13,x14,[],[],l15,l16,l17,l18,l19)
 else
 bif y20.1==3 then
 (gI l19 (wrap .i64 (tdiv y20.2.1 16))).bind fun y23=>
 (gI l19 (wrap .i64 (tdiv y20.2.1 16))).bind fun y24=>
 (gI y24 (tmod y20.2.1 16)).bind fun y25=>
 some ((ZR8 y25).1,((ZR8 y25).2.1).2.2.1,((ZR8 y25).2.1).2.2.2.1,((ZR8 y25).2.1).2.2.2.2.1,((ZR8 y25).2.1).2.2.2.2.2,(ZR8 y25).2.2,x2,x3,x4,x5,x6,x7,x8,x9,x10,x11,x12,x13,x14,((ZR8 y25).2.1).1,((ZR8 y25).2.1).2.1,l15,l16,l17,l18,l19)
 else
 (bif y20.1==20 then
 some (.inl (true,x2,x3,x4,x5,x6,x7,x8,x9,x10,x11,x12,x13,x14,0,0,0,0,0,l15,l16,l17,l18,l19))
 else
 some (.inl (y20.1==21,x2,x3,x4,x5,x6,x7,x8,x9,x10,x11,x12,x13,x14,0,0,0,0,0,l15,l16,l17,l18,l19))).bind (Sum.elim (ZuM y20 rec22) some)
def ZCF (i1:Int):((List Y1)×(List Y2)×ByteArray×Int×TN×Int×Int×List (List Bool)×List Int×Int×Int×Int×Int×Int×Int×Int×Int×Int×List Int×List (List Int)×List Bool×List ReT×List (List ReT))->Option Y0:=fun (x20,x21,x22,x23,x24,x25,x26,x27,x28,x29,x30,x31,x32,l33,l34,l35,l36,l37,l38,l39,l40,l41,l42)=>
 (gI l41 i1).bind fun y50=>
 (gI l41 i1).bind fun y51=>
 some ((ZR8 y51).1,((ZR8 y51).2.1).1,((ZR8 y51).2.1).2.1,((ZR8 y51).2.1).2.2.1,((ZR8 y51).2.1).2.2.2.1,((ZR8 y51).2.1).2.2.2.2.1,((ZR8 y51).2.1).2.2.2.2.2,(ZR8 y51).2.2,x20,x21,x22,x23,x24,x25,x26,x27,x28,x29,x30,x31,x32,l38,l39,l40,l41,l42)
def G22 (rec22:Int->(List Y1)->(List Y2)->ByteArray->Int->TN->Int->Int->(List (List Bool))->(List Int)->Int->Int->Int->Int->(List Int)->(List (List Int))->(List Bool)->(List ReT)->(List (List ReT))->Option Y0) (i1:Int) (x2:List Y1) (x3:List Y2) (x4:ByteArray) (x5:Int) (x6:TN) (x7:Int) (x8:Int) (x9:List (List Bool)) (x10:List Int) (x11:Int) (x12:Int) (x13:Int) (x14:Int) (l15:List Int) (l16:List (List Int)) (l17:List Bool) (l18:List ReT) (l19:List (List ReT)):Option Y0:=
 ((gI l17 i1).bind fun y43=>
 (gI l17 i1).bind fun y44=>
 bif !y44 then
 (E42 rec22 i1 x2 x3 x4 x5 x6 x7 x8 x9 x10 x11 x12 x13 x14 l15 l16 l17 l18 l19).bind fun r45=>
 (gI r45.2.2.2.2.2.2.2.2.2.2.2.2.2.2.2.2.2.2.2.2.2.2.2.2.1 i1).bind fun y46=>
 (gI r45.2.2.2.2.2.2.2.2.2.2.2.2.2.2.2.2.2.2.2.2.2.2.2.2.1 i1).bind fun y47=>
 (gI r45.2.2.2.2.2.2.2.2.2.2.2.2.2.2.2.2.2.2.2.2.2.2.2.1 i1).bind fun y48=>
 (gI r45.2.2.2.2.2.2.2.2.2.2.2.2.2.2.2.2.2.2.2.2.2.2.2.1 i1).bind fun y49=>
 some (.inl (r45.2.2.2.2.2.2.1,r45.2.2.2.2.2.2.2.1,r45.2.2.2.2.2.2.2.2.1,r45.2.2.2.2.2.2.2.2.2.1,r45.2.2.2.2.2.2.2.2.2.2.1,r45.2.2.2.2.2.2.2.2.2.2.2.1,r45.2.2.2.2.2.2.2.2.2.2.2.2.1,r45.2.2.2.2.2.2.2.2.2.2.2.2.2.1,r45.2.2.2.2.2.2.2.2.2.2.2.2.2.2.1,r45.2.2.2.2.2.2.2.2.2.2.2.2.2.2.2.1,r45.2.2.2.2.2.2.2.2.2.2.2.2.2.2.2.2.1,r45.2.2.2.2.2.2.2.2.2.2.2.2.2.2.2.2.2.1,r45.2.2.2.2.2.2.2.2.2.2.2.2.2.2.2.2.2.2.1,0,0,0,0,0,r45.2.2.2.2.2.2.2.2.2.2.2.2.2.2.2.2.2.2.2.2.2.1,r45.2.2.2.2.2.2.2.2.2.2.2.2.2.2.2.2.2.2.2.2.2.2.1,Zaq r45.2.2.2.2.2.2.2.2.2.2.2.2.2.2.2.2.2.2.2.2.2.2.2.1 i1 true,Zaq r45.2.2.2.2.2.2.2.2.2.2.2.2.2.2.2.2.2.2.2.2.2.2.2.2.1 i1 (ZTl (r45.1,(r45.2.2.2.2.2.2.2.2.2.2.2.2.2.2.2.2.2.2.2.1,r45.2.2.2.2.2.2.2.2.2.2.2.2.2.2.2.2.2.2.2.2.1,r45.2.1,r45.2.2.1,r45.2.2.2.1,r45.2.2.2.2.1),r45.2.2.2.2.2.1)),r45.2.2.2.2.2.2.2.2.2.2.2.2.2.2.2.2.2.2.2.2.2.2.2.2.2))
 else
 some (.inl (x2,x3,x4,x5,x6,x7,x8,x9,x10,x11,x12,x13,x14,0,0,0,0,0,l15,l16,l17,l18,l19))).bind (Sum.elim (ZCF i1) some)
def N22 (n:Nat):Int->(List Y1)->(List Y2)->ByteArray->Int->TN->Int->Int->(List (List Bool))->(List Int)->Int->Int->Int->Int->(List Int)->(List (List Int))->(List Bool)->(List ReT)->(List (List ReT))->Option Y0:=Nat.rec (motive:=fun _=>Int->(List Y1)->(List Y2)->ByteArray->Int->TN->Int->Int->(List (List Bool))->(List Int)->Int->Int->Int->Int->(List Int)->(List (List Int))->(List Bool)->(List ReT)->(List (List ReT))->Option Y0) (fun _ _ _ _ _ _ _ _ _ _ _ _ _ _ _ _ _ _ _=>none) (fun _ ih=>G22 ih) n
def F22 (i1:Int) (x2:List Y1) (x3:List Y2) (x4:ByteArray) (x5:Int) (x6:TN) (x7:Int) (x8:Int) (x9:List (List Bool)) (x10:List Int) (x11:Int) (x12:Int) (x13:Int) (x14:Int) (l15:List Int) (l16:List (List Int)) (l17:List Bool) (l18:List ReT) (l19:List (List ReT)):Option Y0:=N22 1000 i1 x2 x3 x4 x5 x6 x7 x8 x9 x10 x11 x12 x13 x14 l15 l16 l17 l18 l19
def ZB3 (u1:(List Y1)×List Y2) (args3:List Int) (f14:Int):Y29->Option (Y29⊕Y20):=fun (i45,l46,l47,l48,s49,s50,s51,s52,l53)=>
 bif decide (i45 < (u1.1.length:Int)) then
 (gI u1.1 i45).bind fun y54=>
 bif decide ((0:Int)<=y54.2/\(y54.2:Int)=y54.2/\(y54.2:Int)<=1000000) then
 bif decide (l53.length+List.length ([(replicate (toNat y54.2) 0:List Int)]:List (List Int))<=1000000) then
 some (.inl (wrap .i64 (i45+1),l46,l47,l48,s49,s50,s51,s52,l53++([(replicate (toNat y54.2) 0:List Int)]:List (List Int))))
 else none
 else none
 else
 ((F21 u1.1 u1.2 f14 [] s49 s50 s51 s52 args3 l53).bind fun r55=>
 (F22 r55.2.2.2.2.2.2.1 r55.1 r55.2.1 r55.2.2.1 r55.2.2.2.1 r55.2.2.2.2.1 r55.2.2.2.2.2.1 r55.2.2.2.2.2.2.1 r55.2.2.2.2.2.2.2.1 r55.2.2.2.2.2.2.2.2.1 r55.2.2.2.2.2.2.2.2.2.1 r55.2.2.2.2.2.2.2.2.2.2.1 r55.2.2.2.2.2.2.2.2.2.2.2.1 r55.2.2.2.2.2.2.2.2.2.2.2.2.1 r55.2.2.2.2.2.2.2.2.2.2.2.2.2.1 r55.2.2.2.2.2.2.2.2.2.2.2.2.2.2.1 r55.2.2.2.2.2.2.2.2.2.2.2.2.2.2.2.1 r55.2.2.2.2.2.2.2.2.2.2.2.2.2.2.2.2.1 r55.2.2.2.2.2.2.2.2.2.2.2.2.2.2.2.2.2).bind fun r56=>
 bif r56.2.2.2.2.1 != 0 then
 some (r56.2.2.2.2.1,r56.2.2.2.2.2.1,r56.2.2.1,0)
 else
 (F22 r56.2.2.2.2.2.2.2.2.2.2.2.2.2.1 r56.2.2.2.2.2.2.2.2.1 r56.2.2.2.2.2.2.2.2.2.1 r56.2.2.2.2.2.2.2.2.2.2.1 r56.2.2.2.2.2.2.2.2.2.2.2.1 r56.2.2.2.2.2.2.2.2.2.2.2.2.1 r56.2.2.2.2.2.2.2.2.2.2.2.2.2.1 r56.2.2.2.2.2.2.2.2.2.2.2.2.2.2.1 r56.2.2.2.2.2.2.2.2.2.2.2.2.2.2.2.1 r56.2.2.2.2.2.2.2.2.2.2.2.2.2.2.2.2.1 r56.2.2.2.2.2.2.2.2.2.2.2.2.2.2.2.2.2.1 r56.2.2.2.2.2.2.2.2.2.2.2.2.2.2.2.2.2.2.1 r56.2.2.2.2.2.2.2.2.2.2.2.2.2.2.2.2.2.2.2.1 r56.2.2.2.2.2.2.2.2.2.2.2.2.2.2.2.2.2.2.2.2.1 r56.2.2.2.2.2.2.2.2.2.2.2.2.2.2.2.2.2.2.2.2.2.1 r56.2.2.2.2.2.2.2.2.2.2.2.2.2.2.2.2.2.2.2.2.2.2.1 r56.2.2.2.2.2.2.2.2.2.2.2.2.2.2.2.2.2.2.2.2.2.2.2.1 r56.2.2.2.2.2.2.2.2.2.2.2.2.2.2.2.2.2.2.2.2.2.2.2.2.1 r56.2.2.2.2.2.2.2.2.2.2.2.2.2.2.2.2.2.2.2.2.2.2.2.2.2).bind fun r57=>
 some (1,0,r56.2.2.1,r57.1)).map .inr
def ZBs (u1:(List Y1)×List Y2) (args3:List Int) (fuel4:Int) (f14:Int):Y38->Option Y20:=fun (x23,l24,l25,l26)=>
 bif x23 then
 some (0,0,[],0)
 else
 Zao (ZB3 u1 args3 f14) (0,l24,l25,l26,fuel4,0,0,0,[])
def ZB2 (u1:(List Y1)×List Y2) (args3:List Int) (fuel4:Int) (f14:Int):Y38->Option (Y41⊕Y20):=fun (x18,l19,l20,l21)=>
 bif x18 then
 some (.inl (wrap .i64 (f14+1),l19,l20,l21))
 else
 ((bif f14==(u1.2.length:Int) then
 some (.inl (true,l19,l20,l21))
 else
 (gI u1.2 f14).bind fun y27=>
 some (.inl (y27.2.1 != (args3.length:Int),l19,l20,l21))).bind (Sum.elim (ZBs u1 args3 fuel4 f14) some)).map .inr
def ZBt (u1:(List Y1)×List Y2) (name2:ByteArray) (args3:List Int) (fuel4:Int):Y41->Option (Y41⊕Y20):=fun (f14,l15,l16,l17)=>
 (bif decide (f14 < (u1.2.length:Int)) then
 (gI u1.2 f14).bind fun y22=>
 some (.inl (!(y22.1.toList==name2.toList),l15,l16,l17))
 else
 some (.inl (false,l15,l16,l17))).bind (Sum.elim (ZB2 u1 args3 fuel4 f14) some)
def Z2a (u1:(List Y1)×List Y2) (name2:ByteArray) (args3:List Int) (fuel4:Int):Y38->Option Y20:=fun (x5,l6,l7,l8)=>
 bif x5 then
 some (0,0,[],0)
 else
 Zao (ZBt u1 name2 args3 fuel4) (0,l6,l7,l8)
def F9 (u1:(List Y1)×List Y2) (name2:ByteArray) (args3:List Int) (fuel4:Int):Option Y20:=
 ((F20 u1).bind fun r9=>
 bif !r9 then
 some (.inl (true,0,0,0))
 else
 bif decide (fuel4 < 0) then
 some (.inl (true,0,0,0))
 else
 some (.inl (decide (fuel4 > 1000),0,0,0))).bind (Sum.elim (Z2a u1 name2 args3 fuel4) some)
def ZB4:Bool->Option Bool:=fun x10=>
 some x10
def F3 (l1:List Int) (a2:Int) (b3:Int) (w4:Int):Option Bool:=
 (F4 l1 3).bind fun r5=>
 (F5 r5 1).bind fun r6=>
 (F5 r5 2).bind fun r7=>
 (F6 ((ByteArray.mk #[102]),2,r5,r6,r7) ([3,2]:List Int)).bind fun r8=>
 (F7 a2 b3 w4).bind fun r9=>
 ((F9 (([((ByteArray.mk #[97]),3),((ByteArray.mk #[98]),2)]:List Y1),([((ByteArray.mk #[102]),2,r5,r6,r7)]:List Y2)) (ByteArray.mk #[102]) r9 0).bind fun r11=>
 (F9 (([((ByteArray.mk #[97]),3),((ByteArray.mk #[98]),2)]:List Y1),([r8]:List Y2)) (ByteArray.mk #[102]) r9 0).bind fun r12=>
 (F8 r11 r12).bind fun r13=>
 bif r13 then
 (F10).bind fun r14=>
 some (.inl r14)
 else
 some (.inl false)).bind (Sum.elim ZB4 some)
end
end Go.Dat
