/-
  What the program's functions compute, as plain functions. Printed by program.
-/
import Derived.Test.YthbmchbhbpnojaaDoorE2Run
namespace Go.Dat
open Go.Eng
abbrev TN := List (Int × Int × List Int)
abbrev TS := List (Int × Int × Int × List Int × List Int)
abbrev TI := List (Int × Int × Int)
abbrev TP := List (Int × Int)
abbrev TT := TN × TS × TI × Int × Int × Int × Int
abbrev TQ := TN × TS × Int × Int
abbrev Y0 := TT × List Int × List Int × List (List Int)
abbrev Y1 := Int × TN × TS × TI × Int × Int × Int × Int × List Int × List (List Int) × List Int × ByteArray × Int × Int × Int × Bool × List Int × TN
abbrev Y2 := Int × List Int
abbrev Y3 := Bool × Int × List Bool
abbrev Y4 := Bool × List Bool
abbrev Y5 := Bool × List Int × (Option Y0) × List Int × List Int
abbrev Y6 := (Int × Int × Int × Bool × Int × Bool × List Bool × List Int × List Int) ⊕ ((Int × Bool × Int × Bool × List Bool × List Int × List Int) ⊕ ((Int × Int × Bool × Int × Bool × List Bool × List Int × List Int) ⊕ (List Int × List Int × Int × Bool)))
abbrev Y7 := Int × Int × Int × Int × Int × TN × Int × Int × Int × Int × TS
abbrev Y8 := (Option Y0) × List Int × List Bool × Bool × List Int
abbrev Y9 := (Int × Int × Int × Int × Int × TN × TS × TI × Int × Int × Int × Int × List Int × List (List Int)) ⊕ (TT × List Int × List (List Int))
abbrev Y10 := Y2 ⊕ (List Int)
abbrev Y11 := Int × (List (ByteArray × Bool)) × TN × TS × TI × Int × Int × Int × Int × List Int × List Int × List (List Int)
abbrev Y12 := (ByteArray × Int × TN × Int × Int) × Bool
abbrev Y13 := Bool × List Int
abbrev Y14 := Int × List (List Bool) × List Bool
abbrev Y15 := Int × Int × Bool × Int × Bool × List Bool × List Int × List Int
abbrev Y16 := Int × ByteArray × Int × Int × Int × ByteArray × Int × Int × Int × List Int × TN
abbrev Y17 := List Int × Int × Bool
abbrev Y18 := (Int × List (List Bool)) ⊕ (List (List Bool))
abbrev Y19 := (List (ByteArray × Bool)) × TN × TS × TI × Int × Int × Int × Int × List Int × List Int × List (List Int)
abbrev Y20 := (Bool × Int × Int × Int × Int × Int × TN × TS × TI × Int × Int × Int × Int × List Int × List (List Int)) ⊕ ((Int × Int × Int × Int × TN × TS × TI × Int × Int × Int × Int × List Int × List (List Int)) ⊕ Y9)
abbrev Y21 := Int × List Int × List Int
abbrev Y22 := ByteArray × TN × TS × TI × Int × Int × Int × Int × List Int × List Int × List (List Int)
abbrev Y23 := Int × ByteArray × Int × Int × Int × TN × TS × TI × Int × Int × Int × Int × List Int × List (List Int) × List Int × ByteArray × Int × Int × Int × Bool × List Int
abbrev Y24 := Bool × Int × List Int
abbrev Y25 := List Int × List Int × Int × Bool
abbrev Y26 := Int × Int × List Bool × List Int
abbrev Y27 := Int × TN × TS × TI × Int × Int × Int × Int × List Int × List (List Int) × List Int × ByteArray × Int × Int × Int × Bool × List Int × List Int × TN
abbrev Y28 := Bool × TN × TS × TI × Int × Int × Int × Int × List Int × List (List Int) × List Int × ByteArray × Int × Int × Int × Bool × List Int × TN
abbrev Y29 := TN × TS × TI × Int × Int × Int × Int × List Int × List (List Int) × List Int × ByteArray × Int × Int × Int × Bool × List Int × TN
abbrev Y30 := TN ⊕ ((Int × TN) ⊕ TN)
abbrev Y31 := Int × Int × Bool × List Bool × List Int
abbrev Y32 := (Int × List TT) ⊕ Bool
abbrev Y33 := (List Int) ⊕ Y10
abbrev Y34 := Y13 ⊕ (List Int)
abbrev Y35 := Bool × List Int × List Int
abbrev Y36 := Int × Int × Int × Int × Int × TN × Int × Int × Int × Int × Int × Int × Int × Int × TS × List Int
abbrev Y37 := Int × Bool × List Bool × List Int
abbrev Y38 := Int × List Int × TN × TS × TI × Int × Int × Int × Int × List Int × List Int × List (List Int)
abbrev Y39 := Int × List Bool
abbrev Y40 := Int × Int × List Int
abbrev Y41 := Bool × Int × List Int × List (ByteArray × Int)
abbrev Y42 := Int × ByteArray × Int × Int × Int × ByteArray × Int × Int × Int × List Int × List Int × TN
abbrev Y43 := Y3 ⊕ (Y4 ⊕ (List Bool))
abbrev Y44 := Int × TN × TS × TI × Int × Int × Int × Int × List Int × List Int × List (List Int)
abbrev Y45 := Int × List Int × List (ByteArray × Bool)
abbrev Y46 := ByteArray × Bool × List Int
abbrev Y47 := ByteArray × Int × Int × Int × ByteArray × Int × Int × Int × List Int × TN
abbrev Y48 := Y3 ⊕ (Y4 ⊕ Bool)
abbrev Y49 := TN × Int × Int × List Int
abbrev Y50 := Unit ⊕ (Int ⊕ Bool)
abbrev Y51 := (Option Y0) × Bool
abbrev Y52 := (Int × TP) ⊕ (List Int)
abbrev Y53 := Int × (List TT) × List (List Int)
abbrev Y54 := Bool × Int × List Int × List Int
abbrev Y55 := Bool × Int × Int × Int × Int × TN × Int × Int × Int × Int × TS
abbrev Y56 := Y3 ⊕ (Y3 ⊕ (Y4 ⊕ Y17))
abbrev Y57 := TN × Int × Int × Int × List Int
abbrev Y58 := Bool × Bool × List Int × (Option Y0) × List Int × List Int
abbrev Y59 := Int × (Option Y0) × List Int × List Bool × Bool × List Int
abbrev Y60 := Int × Bool × (Option Y0) × List Int × List Bool × List Int
abbrev Y61 := Int × Bool × List Int × (Option Y0) × List Int × List Int
abbrev Y62 := List (List Bool) × List Bool
abbrev Y63 := Int × TP × List (Int × Bool)
abbrev Y64 := Int × TN × Int × Int × Int × List Int × List Int
abbrev Y65 := List Int × Bool
abbrev Y66 := Int × Int × List Bool
abbrev Y67 := Int × TP × List Int
abbrev Y68 := Int × List TT
set_option linter.unusedVariables false
def GT0 : List Int := [1, 10, 100, 1000, 10000, 100000, 1000000, 10000000, 100000000, 1000000000, 10000000000, 100000000000, 1000000000000, 10000000000000, 100000000000000, 1000000000000000, 10000000000000000, 100000000000000000, 1000000000000000000, 10000000000000000000]
def BS0 : ByteArray := ByteArray.mk #[48, 49, 50, 51, 52, 53, 54, 55, 56, 57, 97, 98, 99, 100, 101, 102, 103, 104, 105, 106, 107, 108, 109, 110, 111, 112, 113, 114, 115, 116, 117, 118, 119, 120, 121, 122]
def BS1 : ByteArray := ByteArray.mk #[48, 48, 48, 49, 48, 50, 48, 51, 48, 52, 48, 53, 48, 54, 48, 55, 48, 56, 48, 57, 49, 48, 49, 49, 49, 50, 49, 51, 49, 52, 49, 53, 49, 54, 49, 55, 49, 56, 49, 57, 50, 48, 50, 49, 50, 50, 50, 51, 50, 52, 50, 53, 50, 54, 50, 55, 50, 56, 50, 57, 51, 48, 51, 49, 51, 50, 51, 51, 51, 52, 51, 53, 51, 54, 51, 55, 51, 56, 51, 57, 52, 48, 52, 49, 52, 50, 52, 51, 52, 52, 52, 53, 52, 54, 52, 55, 52, 56, 52, 57, 53, 48, 53, 49, 53, 50, 53, 51, 53, 52, 53, 53, 53, 54, 53, 55, 53, 56, 53, 57, 54, 48, 54, 49, 54, 50, 54, 51, 54, 52, 54, 53, 54, 54, 54, 55, 54, 56, 54, 57, 55, 48, 55, 49, 55, 50, 55, 51, 55, 52, 55, 53, 55, 54, 55, 55, 55, 56, 55, 57, 56, 48, 56, 49, 56, 50, 56, 51, 56, 52, 56, 53, 56, 54, 56, 55, 56, 56, 56, 57, 57, 48, 57, 49, 57, 50, 57, 51, 57, 52, 57, 53, 57, 54, 57, 55, 57, 56, 57, 57]
def BS2 : ByteArray := ByteArray.mk #[0, 1, 2, 2, 3, 3, 3, 3, 4, 4, 4, 4, 4, 4, 4, 4, 5, 5, 5, 5, 5, 5, 5, 5, 5, 5, 5, 5, 5, 5, 5, 5, 6, 6, 6, 6, 6, 6, 6, 6, 6, 6, 6, 6, 6, 6, 6, 6, 6, 6, 6, 6, 6, 6, 6, 6, 6, 6, 6, 6, 6, 6, 6, 6, 7, 7, 7, 7, 7, 7, 7, 7, 7, 7, 7, 7, 7, 7, 7, 7, 7, 7, 7, 7, 7, 7, 7, 7, 7, 7, 7, 7, 7, 7, 7, 7, 7, 7, 7, 7, 7, 7, 7, 7, 7, 7, 7, 7, 7, 7, 7, 7, 7, 7, 7, 7, 7, 7, 7, 7, 7, 7, 7, 7, 7, 7, 7, 7, 8, 8, 8, 8, 8, 8, 8, 8, 8, 8, 8, 8, 8, 8, 8, 8, 8, 8, 8, 8, 8, 8, 8, 8, 8, 8, 8, 8, 8, 8, 8, 8, 8, 8, 8, 8, 8, 8, 8, 8, 8, 8, 8, 8, 8, 8, 8, 8, 8, 8, 8, 8, 8, 8, 8, 8, 8, 8, 8, 8, 8, 8, 8, 8, 8, 8, 8, 8, 8, 8, 8, 8, 8, 8, 8, 8, 8, 8, 8, 8, 8, 8, 8, 8, 8, 8, 8, 8, 8, 8, 8, 8, 8, 8, 8, 8, 8, 8, 8, 8, 8, 8, 8, 8, 8, 8, 8, 8, 8, 8, 8, 8, 8, 8, 8, 8, 8, 8, 8, 8, 8, 8, 8, 8, 8, 8, 8, 8]
noncomputable def F26 : Option Bool := some true
-- 29 fulling/fullingkeep.Pick
noncomputable def J29_1 : Int → Option Int := fun n3 =>
 some n3
noncomputable def F29 (n1 : Int) (m2 : Int) : Option Int :=
 bif decide (m2 = 0) then none else
 (bif decide ((Int.tmod n1 m2) < 0) then
 some (.inl (IntKind.wrap .i64 ((Int.tmod n1 m2) + m2)))
 else
 some (.inl (Int.tmod n1 m2))).bind (Sum.elim J29_1 some)
-- 58 fulling/fullingkeep.Word
noncomputable def F58 (n1 : Int) (raw2 : Int) : Option Int :=
 (F29 n1 24).bind fun r3 =>
 bif decide (r3 < 10) then
 (gI ([0, 1, (-1), 2, (-9223372036854775808), 9223372036854775807, 4294967296, (-2147483648), 63, 64] : List Int) r3).bind fun y4 =>
 (gI ([0, 1, (-1), 2, (-9223372036854775808), 9223372036854775807, 4294967296, (-2147483648), 63, 64] : List Int) r3).bind fun y5 =>
 some y5
 else
 bif decide (r3 < 22) then
 (F29 (IntKind.wrap .i64 (Int.tdiv n1 24)) 17).bind fun r6 =>
 some (IntKind.wrap .i64 (r6 - 6))
 else
 some raw2
-- 59 fulling/fullingref7.Arity
noncomputable def J59_5 : Bool → Option (Int × Bool) := fun x6 =>
 bif x6 then
 some ((-1), true)
 else
 some (0, false)
noncomputable def J59_4 (op1 : Int) : Bool → Option (Int × Bool) := fun x5 =>
 bif x5 then
 some (3, true)
 else
 (bif op1 == 30 then
 some (.inl true)
 else
 some (.inl (op1 == 31))).bind (Sum.elim J59_5 some)
noncomputable def J59_3 (op1 : Int) : Bool → Option (Int × Bool) := fun x4 =>
 bif x4 then
 some (2, true)
 else
 (bif op1 == 22 then
 some (.inl true)
 else
 some (.inl (op1 == 28))).bind (Sum.elim (J59_4 op1) some)
noncomputable def J59_2 (op1 : Int) : Bool → Option (Int × Bool) := fun x3 =>
 bif x3 then
 some (1, true)
 else
 (bif decide (op1 ≥ 4) then
 bif decide (op1 ≤ 19) then
 some (.inl true)
 else
 bif op1 == 23 then
 some (.inl true)
 else
 bif op1 == 27 then
 some (.inl true)
 else
 some (.inl (op1 == 29))
 else
 bif op1 == 23 then
 some (.inl true)
 else
 bif op1 == 27 then
 some (.inl true)
 else
 some (.inl (op1 == 29))).bind (Sum.elim (J59_3 op1) some)
noncomputable def J59_1 (op1 : Int) : Bool → Option (Int × Bool) := fun x2 =>
 bif x2 then
 some (0, true)
 else
 (bif op1 == 20 then
 some (.inl true)
 else
 bif op1 == 21 then
 some (.inl true)
 else
 bif op1 == 24 then
 some (.inl true)
 else
 some (.inl (op1 == 25))).bind (Sum.elim (J59_2 op1) some)
noncomputable def F59 (op1 : Int) : Option (Int × Bool) :=
 (bif op1 == 1 then
 some (.inl true)
 else
 bif op1 == 2 then
 some (.inl true)
 else
 bif op1 == 3 then
 some (.inl true)
 else
 some (.inl (op1 == 26))).bind (Sum.elim (J59_1 op1) some)
-- 101 fulling/fullingref7.maxImm
noncomputable def J101_1 (op1 : Int) : Bool → Option Int := fun x2 =>
 bif x2 then
 some 3
 else
 bif op1 == 27 then
 some 1000016
 else
 bif op1 == 30 then
 some 7
 else
 bif op1 == 31 then
 some 15
 else
 bif op1 == 25 then
 some 15
 else
 some (-1)
noncomputable def F101 (op1 : Int) : Option Int :=
 bif op1 == 2 then
 some 5
 else
 bif op1 == 3 then
 some 255
 else
 (bif op1 == 23 then
 some (.inl true)
 else
 some (.inl (op1 == 28))).bind (Sum.elim (J101_1 op1) some)
-- 88 fulling/fullingref7.ValidImm
noncomputable def J88_1 : Bool → Option Bool := fun x4 =>
 some x4
noncomputable def F88 (op1 : Int) (n2 : Int) : Option Bool :=
 bif op1 == 1 then
 some true
 else
 (F101 op1).bind fun r3 =>
 bif decide (r3 < 0) then
 some (n2 == 0)
 else
 (bif decide (n2 ≥ 0) then
 bif decide (n2 ≤ r3) then
 bif op1 != 27 then
 some (.inl true)
 else
 some (.inl (decide (n2 > 0)))
 else
 some (.inl false)
 else
 some (.inl false)).bind (Sum.elim J88_1 some)
-- 89 fulling/fullingref7.sortIf
noncomputable def F89 (ok1 : Bool) (n2 : Int) : Option Int :=
 bif ok1 then
 some n2
 else
 some 0
-- 90 fulling/fullingref7.allValues
noncomputable def L90_1 (k1 : List Int) : Int → Option (Int ⊕ Bool) := fun i3 =>
 bif decide (i3 < (List.length k1 : Int)) then
 (gI k1 i3).bind fun y4 =>
 bif y4 != 1 then
 (some false).map .inr
 else
 some (.inl (IntKind.wrap .i64 (i3 + 1)))
 else
 (some true).map .inr
noncomputable def F90 (k1 : List Int) : Option Bool :=
 loopL (L90_1 k1) 0
-- 67 fulling/fullingref7.nodeSort
noncomputable def J67_2 (k3 : List Int) : Bool → Option Int := fun x8 =>
 bif x8 then
 some 0
 else
 (gI k3 1).bind fun y13 =>
 some y13
noncomputable def J67_3 : Int → Option Int := fun x14 =>
 some x14
noncomputable def J67_4 (n2 : Int × Int × List Int) : Bool → Option Int := fun x21 =>
 bif x21 then
 some 0
 else
 (F89 (n2.2.1 == 0) 1).bind fun r25 =>
 some (IntKind.wrap .i64 (r25 + 1))
noncomputable def J67_6 : Int → Option Int := fun x27 =>
 some x27
noncomputable def J67_7 : Int → Option Int := fun x32 =>
 some x32
noncomputable def J67_8 : Int → Option Int := fun x39 =>
 some x39
noncomputable def J67_9 : Int → Option Int := fun x46 =>
 some x46
noncomputable def J67_5 (n2 : Int × Int × List Int) (k3 : List Int) : Bool → Option Int := fun x26 =>
 bif x26 then
 ((gI k3 0).bind fun y28 =>
 bif y28 == 2 then
 (gI k3 1).bind fun y29 =>
 (F89 (y29 == 1) 2).bind fun r30 =>
 some (.inl r30)
 else
 (F89 false 2).bind fun r31 =>
 some (.inl r31)).bind (Sum.elim J67_6 some)
 else
 bif n2.1 == 28 then
 ((gI k3 0).bind fun y33 =>
 bif y33 == 2 then
 (gI k3 1).bind fun y34 =>
 bif y34 == 1 then
 (gI k3 2).bind fun y35 =>
 (F89 (y35 == 1) 2).bind fun r36 =>
 some (.inl r36)
 else
 (F89 false 2).bind fun r37 =>
 some (.inl r37)
 else
 (F89 false 2).bind fun r38 =>
 some (.inl r38)).bind (Sum.elim J67_7 some)
 else
 bif n2.1 == 30 then
 (bif decide ((List.length k3 : Int) ≥ 1) then
 bif decide ((List.length k3 : Int) ≤ 7) then
 (gI k3 0).bind fun y40 =>
 bif y40 == 2 then
 bif decide ((0 : Int) ≤ 1 ∧ (1 : Int) ≤ (List.length k3 : Int) ∧ (List.length k3 : Int) ≤ (List.length k3 : Int)) then
 (F90 (slI k3 1 (List.length k3 : Int))).bind fun r41 =>
 (F89 r41 2).bind fun r42 =>
 some (.inl r42)
 else none
 else
 (F89 false 2).bind fun r43 =>
 some (.inl r43)
 else
 (F89 false 2).bind fun r44 =>
 some (.inl r44)
 else
 (F89 false 2).bind fun r45 =>
 some (.inl r45)).bind (Sum.elim J67_8 some)
 else
 bif n2.1 == 31 then
 (bif (Int.tmod (List.length k3 : Int) 2) == 1 then
 bif decide ((IntKind.wrap .i64 (Int.tdiv (List.length k3 : Int) 2)) ≥ 1) then
 bif decide ((IntKind.wrap .i64 (Int.tdiv (List.length k3 : Int) 2)) ≤ 16) then
 (gI k3 0).bind fun y47 =>
 bif y47 == 2 then
 bif decide ((0 : Int) ≤ 1 ∧ (1 : Int) ≤ IntKind.wrap .i64 ((IntKind.wrap .i64 (Int.tdiv (List.length k3 : Int) 2)) + 1) ∧ IntKind.wrap .i64 ((IntKind.wrap .i64 (Int.tdiv (List.length k3 : Int) 2)) + 1) ≤ (List.length k3 : Int)) then
 (F90 (slI k3 1 (IntKind.wrap .i64 ((IntKind.wrap .i64 (Int.tdiv (List.length k3 : Int) 2)) + 1)))).bind fun r48 =>
 bif r48 then
 (gI k3 (IntKind.wrap .i64 ((IntKind.wrap .i64 (Int.tdiv (List.length k3 : Int) 2)) + 1))).bind fun y49 =>
 bif y49 == 2 then
 bif decide ((0 : Int) ≤ IntKind.wrap .i64 ((IntKind.wrap .i64 (Int.tdiv (List.length k3 : Int) 2)) + 2) ∧ (IntKind.wrap .i64 ((IntKind.wrap .i64 (Int.tdiv (List.length k3 : Int) 2)) + 2) : Int) ≤ (List.length k3 : Int) ∧ (List.length k3 : Int) ≤ (List.length k3 : Int)) then
 (F90 (slI k3 (IntKind.wrap .i64 ((IntKind.wrap .i64 (Int.tdiv (List.length k3 : Int) 2)) + 2)) (List.length k3 : Int))).bind fun r50 =>
 (F89 r50 3).bind fun r51 =>
 some (.inl r51)
 else none
 else
 (F89 false 3).bind fun r52 =>
 some (.inl r52)
 else
 (F89 false 3).bind fun r53 =>
 some (.inl r53)
 else none
 else
 (F89 false 3).bind fun r54 =>
 some (.inl r54)
 else
 (F89 false 3).bind fun r55 =>
 some (.inl r55)
 else
 (F89 false 3).bind fun r56 =>
 some (.inl r56)
 else
 (F89 false 3).bind fun r57 =>
 some (.inl r57)).bind (Sum.elim J67_9 some)
 else
 (F90 k3).bind fun r58 =>
 (F89 r58 1).bind fun r59 =>
 some r59
noncomputable def J67_1 (l1 : TN) (n2 : Int × Int × List Int) (k3 : List Int) : Bool → Option Int := fun x5 =>
 bif x5 then
 some 0
 else
 bif n2.1 == 3 then
 bif (Int.tmod n2.2.1 16) == 0 then
 some 2
 else
 some 1
 else
 bif n2.1 == 26 then
 some 2
 else
 bif n2.1 == 22 then
 ((gI k3 0).bind fun y9 =>
 bif y9 != 1 then
 some (.inl true)
 else
 (gI k3 1).bind fun y10 =>
 (gI k3 2).bind fun y11 =>
 bif y10 != y11 then
 some (.inl true)
 else
 (gI k3 1).bind fun y12 =>
 some (.inl (y12 == 3))).bind (Sum.elim (J67_2 k3) some)
 else
 bif n2.1 == 23 then
 ((gI k3 0).bind fun y15 =>
 bif y15 == 2 then
 (gI k3 1).bind fun y16 =>
 (F89 (y16 == 1) 1).bind fun r17 =>
 some (.inl r17)
 else
 (F89 false 1).bind fun r18 =>
 some (.inl r18)).bind (Sum.elim J67_3 some)
 else
 bif n2.1 == 24 then
 (gI k3 0).bind fun y19 =>
 (F89 (y19 == 2) 1).bind fun r20 =>
 some r20
 else
 bif n2.1 == 25 then
 ((gI k3 0).bind fun y22 =>
 bif y22 != 3 then
 some (.inl true)
 else
 (gI n2.2.2 0).bind fun y23 =>
 (gI l1 y23).bind fun y24 =>
 some (.inl (decide (n2.2.1 ≥ (IntKind.wrap .i64 (Int.tdiv (List.length y24.2.2 : Int) 2)))))).bind (Sum.elim (J67_4 n2) some)
 else
 (bif n2.1 == 27 then
 some (.inl true)
 else
 some (.inl (n2.1 == 29))).bind (Sum.elim (J67_5 n2 k3) some)
noncomputable def F67 (l1 : TN) (n2 : Int × Int × List Int) (k3 : List Int) : Option Int :=
 (F59 n2.1).bind fun r4 =>
 (bif !r4.2 then
 some (.inl true)
 else
 bif decide (r4.1 ≥ 0) then
 bif (List.length n2.2.2 : Int) != r4.1 then
 some (.inl true)
 else
 (F88 n2.1 n2.2.1).bind fun r6 =>
 some (.inl (!r6))
 else
 (F88 n2.1 n2.2.1).bind fun r7 =>
 some (.inl (!r7))).bind (Sum.elim (J67_1 l1 n2 k3) some)
-- 36 fulling/fullingref7.Sorts
noncomputable def J36_3 (ok18 : Bool) (j19 : Int) (y24 : Int) : Y35 → Option (Y54 ⊕ (Y35 ⊕ Y33)) := fun (x25, out26, k27) =>
 bif x25 then
 (some (.inl (false, out26, k27))).map .inr
 else
 (gI out26 y24).bind fun y30 =>
 (gI out26 y24).bind fun y31 =>
 bif decide (List.length k27 + List.length ([y31] : List Int) ≤ 1000000) then
 some (.inl (ok18, IntKind.wrap .i64 (j19 + 1), out26, k27 ++ ([y31] : List Int)))
 else none
noncomputable def L36_2 (l1 : TN) (i5 : Int) : Y54 → Option (Y54 ⊕ (Y35 ⊕ Y33)) := fun (ok18, j19, out20, k21) =>
 (gI l1 i5).bind fun y22 =>
 bif decide (j19 < (List.length y22.2.2 : Int)) then
 (gI l1 i5).bind fun y23 =>
 (gI y23.2.2 j19).bind fun y24 =>
 (bif decide (y24 < 0) then
 some (.inl (true, out20, k21))
 else
 bif decide (y24 ≥ i5) then
 some (.inl (true, out20, k21))
 else
 (gI out20 y24).bind fun y28 =>
 (gI out20 y24).bind fun y29 =>
 some (.inl (y29 == 0, out20, k21))).bind (Sum.elim (J36_3 ok18 j19 y24) some)
 else
 (some (.inl (ok18, out20, k21))).map .inr
noncomputable def J36_2 (l1 : TN) (i5 : Int) : Y35 → Option Y33 := fun (ok8, out9, k10) =>
 bif ok8 then
 (gI l1 i5).bind fun y32 =>
 (F67 l1 y32 k10).bind fun r33 =>
 bif decide (List.length out9 + List.length ([r33] : List Int) ≤ 1000000) then
 some (.inl (out9 ++ ([r33] : List Int)))
 else none
 else
 bif decide (List.length out9 + List.length ([0] : List Int) ≤ 1000000) then
 some (.inl (out9 ++ ([0] : List Int)))
 else none
noncomputable def J36_1 (i5 : Int) : (List Int) → Option Y10 := fun out7 =>
 some (.inl (IntKind.wrap .i64 (i5 + 1), out7))
noncomputable def L36_1 (l1 : TN) : Y2 → Option Y10 := fun (i5, out6) =>
 bif decide (i5 < (List.length l1 : Int)) then
 ((loopL (L36_2 l1 i5) (true, 0, out6, [])).bind (Sum.elim (J36_2 l1 i5) some)).bind (Sum.elim (J36_1 i5) some)
 else
 (some out6).map .inr
noncomputable def F36 (l1 : TN) : Option (List Int) :=
 loopL (L36_1 l1) (0, [])
-- 60 fulling/fullingkeep.of
noncomputable def J60_1 (i8 : Int) : (List Int) → Option (Y2 ⊕ Int) := fun all10 =>
 some (.inl (IntKind.wrap .i64 (i8 + 1), all10))
noncomputable def L60_1 (l1 : TN) (sort2 : Int) (n3 : Int) (r4 : List Int) : Y2 → Option (Y2 ⊕ Int) := fun (i8, all9) =>
 bif decide (i8 < (List.length l1 : Int)) then
 ((gI r4 i8).bind fun y11 =>
 bif y11 == sort2 then
 bif decide (List.length all9 + List.length ([i8] : List Int) ≤ 1000000) then
 some (.inl (all9 ++ ([i8] : List Int)))
 else none
 else
 some (.inl all9)).bind (Sum.elim (J60_1 i8) some)
 else
 ((F29 n3 (List.length all9 : Int)).bind fun r12 =>
 (gI all9 (IntKind.wrap .i64 ((IntKind.wrap .i64 ((List.length all9 : Int) - 1)) - r12))).bind fun y13 =>
 (gI all9 (IntKind.wrap .i64 ((IntKind.wrap .i64 ((List.length all9 : Int) - 1)) - r12))).bind fun y14 =>
 some y14).map .inr
noncomputable def F60 (l1 : TN) (sort2 : Int) (n3 : Int) : Option Int :=
 (F36 l1).bind fun r4 =>
 loopL (L60_1 l1 sort2 n3 r4) (0, [])
-- 85 fulling/fullingref15.Sort
noncomputable def J85_1 : Bool → Option Int := fun x2 =>
 bif x2 then
 some 2
 else
 some 1
noncomputable def F85 (op1 : Int) : Option Int :=
 (bif op1 == 27 then
 some (.inl true)
 else
 bif op1 == 28 then
 some (.inl true)
 else
 some (.inl (op1 == 29))).bind (Sum.elim J85_1 some)
-- 61 fulling/fullingref15.OperandSort
noncomputable def J61_1 : Bool → Option Int := fun x3 =>
 bif x3 then
 some 2
 else
 some 1
noncomputable def F61 (op1 : Int) (k2 : Int) : Option Int :=
 (bif k2 == 0 then
 (F85 op1).bind fun r4 =>
 bif r4 == 2 then
 some (.inl true)
 else
 bif op1 == 23 then
 some (.inl true)
 else
 some (.inl (op1 == 24))
 else
 some (.inl false)).bind (Sum.elim J61_1 some)
-- 68 fulling/fullingref7.SameNode
noncomputable def L68_1 (a1 : Int × Int × List Int) (b2 : Int × Int × List Int) : Int → Option (Int ⊕ Bool) := fun i5 =>
 bif decide (i5 < (List.length a1.2.2 : Int)) then
 (gI a1.2.2 i5).bind fun y6 =>
 (gI b2.2.2 i5).bind fun y7 =>
 bif y6 != y7 then
 (some false).map .inr
 else
 some (.inl (IntKind.wrap .i64 (i5 + 1)))
 else
 (some true).map .inr
noncomputable def J68_1 (a1 : Int × Int × List Int) (b2 : Int × Int × List Int) : Bool → Option Bool := fun x3 =>
 bif x3 then
 some false
 else
 loopL (L68_1 a1 b2) 0
noncomputable def F68 (a1 : Int × Int × List Int) (b2 : Int × Int × List Int) : Option Bool :=
 (bif a1.1 != b2.1 then
 some (.inl true)
 else
 bif a1.2.1 != b2.2.1 then
 some (.inl true)
 else
 some (.inl ((List.length a1.2.2 : Int) != (List.length b2.2.2 : Int)))).bind (Sum.elim (J68_1 a1 b2) some)
-- 63 fulling/fullingkeep.contains
noncomputable def L63_1 (l1 : TN) (n2 : Int × Int × List Int) : Int → Option (Int ⊕ Bool) := fun i4 =>
 bif decide (i4 < (List.length l1 : Int)) then
 (gI l1 i4).bind fun y5 =>
 (F68 y5 n2).bind fun r6 =>
 bif r6 then
 (some true).map .inr
 else
 some (.inl (IntKind.wrap .i64 (i4 + 1)))
 else
 (some false).map .inr
noncomputable def F63 (l1 : TN) (n2 : Int × Int × List Int) : Option Bool :=
 loopL (L63_1 l1 n2) 0
-- 62 (*fulling/fullingkeep.Reader).Next
noncomputable def F62 (x1 : Int) (l2 : List Int) : Option Y40 :=
 bif (List.length l2 : Int) == 0 then
 some (0, x1, l2)
 else
 (gI l2 0).bind fun y3 =>
 (gI l2 0).bind fun y4 =>
 bif decide ((0 : Int) ≤ 1 ∧ (1 : Int) ≤ (List.length l2 : Int) ∧ (List.length l2 : Int) ≤ (List.length l2 : Int)) then
 some (y4, x1, slI l2 1 (List.length l2 : Int))
 else none
-- 28 fulling/fullingkeep.Nodes
noncomputable def J28_4 (l1 : List Int) (i5 : Int) : (Bool × TN × Int × Int × Int × List Int) → Option (Y57 ⊕ Y30) := fun (x20, out21, x22, n23, n24, l25) =>
 bif x20 then
 (gI l1 i5).bind fun y28 =>
 (F29 (IntKind.wrap .i64 (Int.tdiv y28 9)) 5).bind fun r29 =>
 (gI ([23, 27, 28, 29, 24] : List Int) r29).bind fun y30 =>
 (gI ([23, 27, 28, 29, 24] : List Int) r29).bind fun y31 =>
 some (.inl (out21, x22, y31, n24, l25))
 else
 some (.inl (out21, x22, n23, n24, l25))
noncomputable def J28_8 (l1 : List Int) (i5 : Int) : (Bool × TN × Int × Int × List Int) → Option (Y49 ⊕ Y30) := fun (x76, out77, n78, n79, l80) =>
 bif x76 then
 (gI l1 i5).bind fun y81 =>
 (F29 (IntKind.wrap .i64 (Int.tdiv y81 5)) 2).bind fun r82 =>
 some (.inl (out77, n78, r82, l80))
 else
 some (.inl (out77, n78, n79, l80))
noncomputable def J28_7 : Y49 → Option Y30 := fun (out72, n73, n74, l75) =>
 (F63 out72 (n73, n74, l75)).bind fun r83 =>
 bif !r83 then
 bif decide (List.length out72 + List.length ([(n73, n74, l75)] : TN) ≤ 1000000) then
 some (.inl (out72 ++ ([(n73, n74, l75)] : TN)))
 else none
 else
 some (.inl out72)
noncomputable def J28_6 (l1 : List Int) (i5 : Int) : Y49 → Option Y30 := fun (out66, n67, n68, l69) =>
 ((bif n67 == 23 then
 some (.inl (true, out66, n67, n68, l69))
 else
 some (.inl (n67 == 28, out66, n67, n68, l69))).bind (Sum.elim (J28_8 l1 i5) some)).bind (Sum.elim J28_7 some)
noncomputable def L28_2 (l1 : List Int) (i5 : Int) (r42 : Int × Bool) : Y64 → Option (Y64 ⊕ Y30) := fun (j56, out57, x58, n59, n60, l61, l62) =>
 bif decide (j56 < r42.1) then
 (F61 n59 j56).bind fun r63 =>
 (F62 x58 l61).bind fun r64 =>
 (F60 out57 r63 r64.1).bind fun r65 =>
 bif decide (List.length l62 + List.length ([r65] : List Int) ≤ 1000000) then
 some (.inl (IntKind.wrap .i64 (j56 + 1), out57, r64.2.1, n59, n60, r64.2.2, l62 ++ ([r65] : List Int)))
 else none
 else
 ((bif n59 == 27 then
 (gI l1 i5).bind fun y70 =>
 (F29 (IntKind.wrap .i64 (Int.tdiv y70 5)) 2).bind fun r71 =>
 some (.inl (out57, n59, IntKind.wrap .i64 (1 + r71), l62))
 else
 some (.inl (out57, n59, n60, l62))).bind (Sum.elim (J28_6 l1 i5) some)).map .inr
noncomputable def J28_5 (l1 : List Int) (i5 : Int) : Y57 → Option Y30 := fun (out32, x33, n34, n35, l36) =>
 (F59 n34).bind fun r42 =>
 loopL (L28_2 l1 i5 r42) (0, out32, x33, n34, n35, l36, [])
noncomputable def J28_3 (l1 : List Int) (i5 : Int) : Y57 → Option Y30 := fun (out15, x16, n17, n18, l19) =>
 ((gI l1 i5).bind fun y37 =>
 (F29 y37 11).bind fun r38 =>
 bif r38 == 0 then
 (gI l1 i5).bind fun y39 =>
 (gI l1 i5).bind fun y40 =>
 (F58 (IntKind.wrap .i64 (Int.tdiv y39 11)) y40).bind fun r41 =>
 some (.inl (out15, x16, 1, r41, l19))
 else
 some (.inl (out15, x16, n17, n18, l19))).bind (Sum.elim (J28_5 l1 i5) some)
noncomputable def J28_2 (i5 : Int) : TN → Option ((Int × TN) ⊕ TN) := fun out9 =>
 some (.inl (IntKind.wrap .i64 (i5 + 1), out9))
noncomputable def J28_1 (l1 : List Int) (values2 : Bool) (i5 : Int) : (Bool × TN) → Option ((Int × TN) ⊕ TN) := fun (x7, out8) =>
 bif x7 then
 ((gI l1 i5).bind fun y10 =>
 (gI l1 i5).bind fun y11 =>
 (gI l1 i5).bind fun y12 =>
 (gI l1 i5).bind fun y13 =>
 (F29 y13 19).bind fun r14 =>
 ((bif !values2 then
 (gI l1 i5).bind fun y26 =>
 (F29 y26 9).bind fun r27 =>
 some (.inl (decide (r27 > 5), out8, 0, IntKind.wrap .i64 (4 + r14), 0, ([IntKind.wrap .i64 (Int.tdiv y10 7), IntKind.wrap .i64 (Int.tdiv y11 101), IntKind.wrap .i64 (Int.tdiv y12 1009)] : List Int)))
 else
 some (.inl (false, out8, 0, IntKind.wrap .i64 (4 + r14), 0, ([IntKind.wrap .i64 (Int.tdiv y10 7), IntKind.wrap .i64 (Int.tdiv y11 101), IntKind.wrap .i64 (Int.tdiv y12 1009)] : List Int)))).bind (Sum.elim (J28_4 l1 i5) some)).bind (Sum.elim (J28_3 l1 i5) some)).bind (Sum.elim (J28_2 i5) some)
 else
 (some out8).map .inr
noncomputable def L28_1 (l1 : List Int) (values2 : Bool) : (Int × TN) → Option ((Int × TN) ⊕ TN) := fun (i5, out6) =>
 (bif decide (i5 < (List.length l1 : Int)) then
 some (.inl (decide (i5 < 14), out6))
 else
 some (.inl (false, out6))).bind (Sum.elim (J28_1 l1 values2 i5) some)
noncomputable def F28 (l1 : List Int) (values2 : Bool) : Option TN :=
 loopL (L28_1 l1 values2) (0, ([(2, 0, []), (2, 1, []), (26, 0, [])] : TN))
-- 32 fulling/fullingkeep2.last
noncomputable def J32_1 (sort2 : Int) (i4 : Int) : Bool → Option (Int ⊕ Int) := fun v5 =>
 bif v5 == (sort2 == 1) then
 (some i4).map .inr
 else
 some (.inl (IntKind.wrap .i64 (i4 - 1)))
noncomputable def L32_1 (l1 : TN) (sort2 : Int) : Int → Option (Int ⊕ Int) := fun i4 =>
 bif decide (i4 ≥ 0) then
 ((gI l1 i4).bind fun y6 =>
 bif decide (y6.1 ≥ 1) then
 (gI l1 i4).bind fun y7 =>
 bif decide (y7.1 ≤ 24) then
 some (.inl true)
 else
 (gI l1 i4).bind fun y8 =>
 bif y8.1 == 25 then
 (gI l1 i4).bind fun y9 =>
 some (.inl (y9.2.1 != 0))
 else
 some (.inl false)
 else
 (gI l1 i4).bind fun y10 =>
 bif y10.1 == 25 then
 (gI l1 i4).bind fun y11 =>
 some (.inl (y11.2.1 != 0))
 else
 some (.inl false)).bind (Sum.elim (J32_1 sort2 i4) some)
 else
 (some 0).map .inr
noncomputable def F32 (l1 : TN) (sort2 : Int) : Option Int :=
 loopL (L32_1 l1 sort2) (IntKind.wrap .i64 ((List.length l1 : Int) - 1))
-- 31 (*fulling/fullingkeep2.Digits).Next
noncomputable def F31 (m1 : Int) (d2 : Int) : Option (Int × Int) :=
 (F29 d2 m1).bind fun r3 =>
 bif decide (m1 = 0) then none else
 some (r3, IntKind.wrap .i64 (Int.tdiv (IntKind.wrap .i64 (d2 - r3)) m1))
-- 8 fulling/fullingkeep2.RawSaturation
-- 33 fulling/fullingkeep2.isValue
noncomputable def F33 (n1 : Int × Int × List Int) : Option Bool :=
 some (decide (n1.1 ≤ 24))
-- 9 fulling/fullingkeep2.MergedSaturation
noncomputable def J9_2 (i27 : Int) : (Int × Int × Int × Int × TN × Int × Int × Int × Int × TS) → Option (Y7 ⊕ TT) := fun (l49, l50, l51, l52, s53, s54, s55, s56, s57, l58) =>
 some (.inl (IntKind.wrap .i64 (i27 + 1), l49, l50, l51, l52, s53, s54, s55, s56, s57, l58))
noncomputable def J9_1 (pairs2 : List Int) (i27 : Int) : Y55 → Option (Y7 ⊕ TT) := fun (x38, l39, l40, l41, l42, s43, s44, s45, s46, s47, l48) =>
 bif x38 then
 ((gI pairs2 i27).bind fun y59 =>
 (F31 (List.length s43 : Int) y59).bind fun r60 =>
 (F31 (List.length s43 : Int) r60.2).bind fun r61 =>
 (gI s43 r60.1).bind fun y62 =>
 (gI s43 r61.1).bind fun y63 =>
 (F33 y62).bind fun r64 =>
 (F33 y63).bind fun r65 =>
 bif r64 == r65 then
 bif decide (List.length l48 + List.length ([(r60.1, r61.1, 1, [], [])] : TS) ≤ 1000000) then
 some (.inl (l39, l40, l41, l42, s43, s44, s45, s46, s47, l48 ++ ([(r60.1, r61.1, 1, [], [])] : TS)))
 else none
 else
 some (.inl (l39, l40, l41, l42, s43, s44, s45, s46, s47, l48))).bind (Sum.elim (J9_2 i27) some)
 else
 (some (s43, l48, [], s44, s45, s46, s47)).map .inr
noncomputable def L9_1 (pairs2 : List Int) : Y7 → Option (Y7 ⊕ TT) := fun (i27, l28, l29, l30, l31, s32, s33, s34, s35, s36, l37) =>
 (bif decide (i27 < (List.length pairs2 : Int)) then
 some (.inl (decide (i27 < 6), l28, l29, l30, l31, s32, s33, s34, s35, s36, l37))
 else
 some (.inl (false, l28, l29, l30, l31, s32, s33, s34, s35, s36, l37))).bind (Sum.elim (J9_1 pairs2 i27) some)
noncomputable def F9 (l1 : List Int) (pairs2 : List Int) : Option TT :=
 (F28 l1 false).bind fun r3 =>
 (F32 r3 1).bind fun r4 =>
 (F32 r3 2).bind fun r5 =>
 loopL (L9_1 pairs2) (0, 0, 0, 0, 0, r3, r4, r5, 0, 0, [])
-- 106 fulling/ir.Arity
noncomputable def J106_6 : Bool → Option (Int × Bool) := fun x7 =>
 bif x7 then
 some (2, true)
 else
 some (0, false)
noncomputable def J106_5 (op1 : Int) : Bool → Option (Int × Bool) := fun x6 =>
 bif x6 then
 some ((-1), true)
 else
 (bif decide (op1 ≥ 4) then
 some (.inl (decide (op1 ≤ 19)))
 else
 some (.inl false)).bind (Sum.elim J106_6 some)
noncomputable def J106_4 (op1 : Int) : Bool → Option (Int × Bool) := fun x5 =>
 bif x5 then
 some (3, true)
 else
 (bif op1 == 30 then
 some (.inl true)
 else
 some (.inl (op1 == 31))).bind (Sum.elim (J106_5 op1) some)
noncomputable def J106_3 (op1 : Int) : Bool → Option (Int × Bool) := fun x4 =>
 bif x4 then
 some (2, true)
 else
 (bif op1 == 22 then
 some (.inl true)
 else
 some (.inl (op1 == 28))).bind (Sum.elim (J106_4 op1) some)
noncomputable def J106_2 (op1 : Int) : Bool → Option (Int × Bool) := fun x3 =>
 bif x3 then
 some (1, true)
 else
 (bif op1 == 23 then
 some (.inl true)
 else
 bif op1 == 27 then
 some (.inl true)
 else
 some (.inl (op1 == 29))).bind (Sum.elim (J106_3 op1) some)
noncomputable def J106_1 (op1 : Int) : Bool → Option (Int × Bool) := fun x2 =>
 bif x2 then
 some (0, true)
 else
 (bif op1 == 20 then
 some (.inl true)
 else
 bif op1 == 21 then
 some (.inl true)
 else
 bif op1 == 24 then
 some (.inl true)
 else
 some (.inl (op1 == 25))).bind (Sum.elim (J106_2 op1) some)
noncomputable def F106 (op1 : Int) : Option (Int × Bool) :=
 (bif op1 == 1 then
 some (.inl true)
 else
 bif op1 == 2 then
 some (.inl true)
 else
 bif op1 == 3 then
 some (.inl true)
 else
 some (.inl (op1 == 26))).bind (Sum.elim (J106_1 op1) some)
-- 107 fulling/ir.loopVars
noncomputable def F107 (kids1 : Int) : Option Int :=
 some (IntKind.wrap .i64 (Int.tdiv (IntKind.wrap .i64 (kids1 - 1)) 2))
-- 108 fulling/ir.match
noncomputable def L108_1 (s1 : List Int) (want2 : List Int) : Int → Option (Int ⊕ Bool) := fun i4 =>
 bif decide (i4 < (List.length s1 : Int)) then
 (gI s1 i4).bind fun y5 =>
 (gI want2 i4).bind fun y6 =>
 bif y5 != y6 then
 (some false).map .inr
 else
 some (.inl (IntKind.wrap .i64 (i4 + 1)))
 else
 (some true).map .inr
noncomputable def F108 (s1 : List Int) (want2 : List Int) : Option Bool :=
 loopL (L108_1 s1 want2) 0
-- 109 fulling/ir.loopSorts
noncomputable def L109_1 (kids1 : Int) : Y2 → Option Y10 := fun (i5, l6) =>
 bif decide (i5 < kids1) then
 bif decide (List.length l6 + List.length ([1] : List Int) ≤ 1000000) then
 some (.inl (IntKind.wrap .i64 (i5 + 1), l6 ++ ([1] : List Int)))
 else none
 else
 ((F107 kids1).bind fun r7 =>
 (gI l6 0).bind fun y8 =>
 (gI l6 0).bind fun y9 =>
 (gI (setI l6 0 2) (IntKind.wrap .i64 (r7 + 1))).bind fun y10 =>
 (gI (setI l6 0 2) (IntKind.wrap .i64 (r7 + 1))).bind fun y11 =>
 some (setI (setI l6 0 2) (IntKind.wrap .i64 (r7 + 1)) 2)).map .inr
noncomputable def F109 (kids1 : Int) : Option (List Int) :=
 loopL (L109_1 kids1) (0, [])
-- 110 fulling/ir.operandSorts
noncomputable def J110_1 (op1 : Int) : Bool → Option (List Int) := fun x2 =>
 bif x2 then
 some ([2, 1] : List Int)
 else
 bif op1 == 28 then
 some ([2, 1, 1] : List Int)
 else
 bif op1 == 24 then
 some ([2] : List Int)
 else
 bif op1 == 25 then
 some ([3] : List Int)
 else
 some ([1, 1] : List Int)
noncomputable def F110 (op1 : Int) : Option (List Int) :=
 bif op1 == 22 then
 some ([1, 1, 1] : List Int)
 else
 (bif op1 == 23 then
 some (.inl true)
 else
 bif op1 == 27 then
 some (.inl true)
 else
 some (.inl (op1 == 29))).bind (Sum.elim (J110_1 op1) some)
-- 103 fulling/ir.validOperands
noncomputable def J103_2 : Bool → Option Bool := fun x5 =>
 some x5
noncomputable def L103_1 (s2 : List Int) : Int → Option (Int ⊕ Bool) := fun x12 =>
 bif decide (x12 < (List.length (slI s2 1 (List.length s2 : Int)) : Int)) then
 (gI (slI s2 1 (List.length s2 : Int)) x12).bind fun y13 =>
 bif y13 != 1 then
 (some false).map .inr
 else
 some (.inl (IntKind.wrap .i64 (x12 + 1)))
 else
 (some true).map .inr
noncomputable def J103_3 (s2 : List Int) : Bool → Option Bool := fun x9 =>
 bif x9 then
 some false
 else
 bif decide ((0 : Int) ≤ 1 ∧ (1 : Int) ≤ (List.length s2 : Int) ∧ (List.length s2 : Int) ≤ (List.length s2 : Int)) then
 loopL (L103_1 s2) 0
 else none
noncomputable def J103_5 : Bool → Option Bool := fun x16 =>
 some x16
noncomputable def J103_4 (n1 : Int × Int × List Int) (s2 : List Int) : Bool → Option Bool := fun x14 =>
 bif x14 then
 ((gI s2 0).bind fun y17 =>
 bif y17 == 1 then
 (gI s2 2).bind fun y18 =>
 some (.inl (y18 == 2))
 else
 some (.inl false)).bind (Sum.elim J103_5 some)
 else
 (F110 n1.1).bind fun r19 =>
 (F108 s2 r19).bind fun r20 =>
 some r20
noncomputable def J103_1 (n1 : Int × Int × List Int) (s2 : List Int) : Bool → Option Bool := fun x4 =>
 bif x4 then
 some false
 else
 bif n1.1 == 31 then
 (bif decide ((List.length s2 : Int) ≥ 3) then
 bif (Int.tmod (List.length s2 : Int) 2) == 1 then
 (F107 (List.length s2 : Int)).bind fun r6 =>
 bif decide (r6 ≤ 16) then
 (F109 (List.length s2 : Int)).bind fun r7 =>
 (F108 s2 r7).bind fun r8 =>
 some (.inl r8)
 else
 some (.inl false)
 else
 some (.inl false)
 else
 some (.inl false)).bind (Sum.elim J103_2 some)
 else
 bif n1.1 == 30 then
 (bif decide ((List.length s2 : Int) < 1) then
 some (.inl true)
 else
 bif decide ((List.length s2 : Int) > 7) then
 some (.inl true)
 else
 (gI s2 0).bind fun y10 =>
 some (.inl (y10 != 2))).bind (Sum.elim (J103_3 s2) some)
 else
 (bif n1.1 == 22 then
 (gI s2 1).bind fun y15 =>
 some (.inl (y15 == 2))
 else
 some (.inl false)).bind (Sum.elim (J103_4 n1 s2) some)
noncomputable def F103 (n1 : Int × Int × List Int) (s2 : List Int) : Option Bool :=
 (F106 n1.1).bind fun r3 =>
 (bif !r3.2 then
 some (.inl true)
 else
 bif decide (r3.1 ≥ 0) then
 some (.inl (r3.1 != (List.length s2 : Int)))
 else
 some (.inl false)).bind (Sum.elim (J103_1 n1 s2) some)
-- 104 fulling/ir.validImm
noncomputable def J104_3 : Bool → Option (Int ⊕ Bool) := fun x5 =>
 (some x5).map .inr
noncomputable def J104_2 (l1 : TN) (n2 : Int × Int × List Int) : Bool → Option (Int ⊕ Bool) := fun x4 =>
 bif x4 then
 some (.inl 3)
 else
 bif n2.1 == 27 then
 (bif decide (n2.2.1 ≥ 1) then
 some (.inl (decide (n2.2.1 ≤ 1000016)))
 else
 some (.inl false)).bind (Sum.elim J104_3 some)
 else
 bif n2.1 == 30 then
 some (.inl 7)
 else
 bif n2.1 == 31 then
 some (.inl 15)
 else
 bif n2.1 == 25 then
 (gI n2.2.2 0).bind fun y6 =>
 (gI l1 y6).bind fun y7 =>
 (F107 (List.length y7.2.2 : Int)).bind fun r8 =>
 some (.inl (IntKind.wrap .i64 (r8 - 1)))
 else
 some (.inl 0)
noncomputable def J104_4 : Bool → Option Bool := fun x9 =>
 some x9
noncomputable def J104_1 (n2 : Int × Int × List Int) : Int → Option Bool := fun most3 =>
 (bif decide (n2.2.1 ≥ 0) then
 some (.inl (decide (n2.2.1 ≤ most3)))
 else
 some (.inl false)).bind (Sum.elim J104_4 some)
noncomputable def F104 (l1 : TN) (n2 : Int × Int × List Int) : Option Bool :=
 (bif n2.1 == 1 then
 (some true).map .inr
 else
 bif n2.1 == 2 then
 some (.inl 5)
 else
 bif n2.1 == 3 then
 some (.inl 255)
 else
 (bif n2.1 == 23 then
 some (.inl true)
 else
 some (.inl (n2.1 == 28))).bind (Sum.elim (J104_2 l1 n2) some)).bind (Sum.elim (J104_1 n2) some)
-- 99 fulling/ir.sortOf
noncomputable def J99_1 (known3 : List Int) (x8 : Int) (y10 : Int) : Y13 → Option (Y2 ⊕ Int) := fun (x11, s12) =>
 bif x11 then
 (some 0).map .inr
 else
 (gI known3 y10).bind fun y14 =>
 bif decide (List.length s12 + List.length ([y14] : List Int) ≤ 1000000) then
 some (.inl (IntKind.wrap .i64 (x8 + 1), s12 ++ ([y14] : List Int)))
 else none
noncomputable def J99_4 (y4 : Int × Int × List Int) : Y13 → Option (Unit ⊕ Int) := fun (x19, s20) =>
 bif x19 then
 (some 2).map .inr
 else
 bif y4.1 == 22 then
 (gI s20 1).bind fun y21 =>
 (gI s20 1).bind fun y22 =>
 (some y22).map .inr
 else
 bif y4.1 == 3 then
 bif (Int.tmod y4.2.1 16) == 0 then
 (some 2).map .inr
 else
 some (.inl ())
 else
 bif y4.1 == 25 then
 bif y4.2.1 == 0 then
 (some 2).map .inr
 else
 some (.inl ())
 else
 some (.inl ())
noncomputable def J99_3 : Unit → Option Int := fun _ =>
 some 1
noncomputable def J99_2 (y4 : Int × Int × List Int) : Y13 → Option Int := fun (x15, s16) =>
 bif x15 then
 some 0
 else
 (bif y4.1 == 31 then
 (some 3).map .inr
 else
 (bif y4.1 == 26 then
 some (.inl (true, s16))
 else
 bif y4.1 == 27 then
 some (.inl (true, s16))
 else
 bif y4.1 == 28 then
 some (.inl (true, s16))
 else
 bif y4.1 == 29 then
 some (.inl (true, s16))
 else
 some (.inl (y4.1 == 30, s16))).bind (Sum.elim (J99_4 y4) some)).bind (Sum.elim J99_3 some)
noncomputable def L99_1 (l1 : TN) (i2 : Int) (known3 : List Int) (y4 : Int × Int × List Int) : Y2 → Option (Y2 ⊕ Int) := fun (x8, s9) =>
 bif decide (x8 < (List.length y4.2.2 : Int)) then
 (gI y4.2.2 x8).bind fun y10 =>
 (bif decide (y10 < 0) then
 some (.inl (true, s9))
 else
 bif decide (y10 ≥ i2) then
 some (.inl (true, s9))
 else
 (gI known3 y10).bind fun y13 =>
 some (.inl (y13 == 0, s9))).bind (Sum.elim (J99_1 known3 x8 y10) some)
 else
 (((F103 y4 s9).bind fun r17 =>
 bif !r17 then
 some (.inl (true, s9))
 else
 (F104 l1 y4).bind fun r18 =>
 some (.inl (!r18, s9))).bind (Sum.elim (J99_2 y4) some)).map .inr
noncomputable def F99 (l1 : TN) (i2 : Int) (known3 : List Int) : Option Int :=
 (gI l1 i2).bind fun y4 =>
 loopL (L99_1 l1 i2 known3 y4) (0, [])
-- 86 fulling/ir.sorts
noncomputable def L86_1 (l1 : TN) : Y2 → Option Y10 := fun (x4, s5) =>
 bif decide (x4 < (List.length l1 : Int)) then
 (F99 l1 x4 s5).bind fun r6 =>
 (gI s5 x4).bind fun y7 =>
 (gI s5 x4).bind fun y8 =>
 some (.inl (IntKind.wrap .i64 (x4 + 1), setI s5 x4 r6))
 else
 (some s5).map .inr
noncomputable def F86 (l1 : TN) : Option (List Int) :=
 bif decide ((0 : Int) ≤ (List.length l1 : Int) ∧ ((List.length l1 : Int) : Int) = (List.length l1 : Int) ∧ ((List.length l1 : Int) : Int) ≤ 1000000) then
 loopL (L86_1 l1) (0, (List.replicate (Int.toNat (List.length l1 : Int)) 0 : List Int))
 else none
-- 64 fulling/ir.Sort
noncomputable def J64_1 (l1 : TN) (i2 : Int) : Bool → Option Int := fun x3 =>
 bif x3 then
 some 0
 else
 bif decide ((0 : Int) ≤ 0 ∧ (0 : Int) ≤ IntKind.wrap .i64 (i2 + 1) ∧ IntKind.wrap .i64 (i2 + 1) ≤ (List.length l1 : Int)) then
 (F86 (slI l1 0 (IntKind.wrap .i64 (i2 + 1)))).bind fun r4 =>
 (gI r4 i2).bind fun y5 =>
 some y5
 else none
noncomputable def F64 (l1 : TN) (i2 : Int) : Option Int :=
 (bif decide (i2 < 0) then
 some (.inl true)
 else
 some (.inl (decide (i2 ≥ (List.length l1 : Int))))).bind (Sum.elim (J64_1 l1 i2) some)
-- 111 internal/strconv.small
noncomputable def F111 (i1 : Int) : Option ByteArray :=
 bif decide (i1 < 10) then
 bif decide ((0 : Int) ≤ i1 ∧ (i1 : Int) ≤ IntKind.wrap .i64 (i1 + 1) ∧ IntKind.wrap .i64 (i1 + 1) ≤ (BS0.size : Int)) then
 some (slB BS0 i1 (IntKind.wrap .i64 (i1 + 1)))
 else none
 else
 bif decide ((0 : Int) ≤ IntKind.wrap .i64 (i1 * 2) ∧ (IntKind.wrap .i64 (i1 * 2) : Int) ≤ IntKind.wrap .i64 ((IntKind.wrap .i64 (i1 * 2)) + 2) ∧ IntKind.wrap .i64 ((IntKind.wrap .i64 (i1 * 2)) + 2) ≤ (BS1.size : Int)) then
 some (slB BS1 (IntKind.wrap .i64 (i1 * 2)) (IntKind.wrap .i64 ((IntKind.wrap .i64 (i1 * 2)) + 2)))
 else none
-- 115 internal/strconv.log10Pow2
noncomputable def F115 (x1 : Int) : Option Int :=
 some (Int.fdiv (IntKind.wrap .i64 (x1 * 78913)) (2 ^ (min (Int.toNat 18) (IntKind.bits .i64))))
-- 116 math/bits.Len64
noncomputable def J116_3 : (Int × Int) → Option Int := fun (x6, n7) =>
 (gB BS2 (IntKind.wrap .u8 x6)).bind fun b8 =>
 some (IntKind.wrap .i64 (n7 + (IntKind.wrap .i64 b8)))
noncomputable def J116_2 : (Int × Int) → Option Int := fun (x4, n5) =>
 (bif decide (x4 ≥ 256) then
 some (.inl (Int.fdiv x4 (2 ^ (min (Int.toNat 8) (IntKind.bits .u64))), IntKind.wrap .i64 (n5 + 8)))
 else
 some (.inl (x4, n5))).bind (Sum.elim J116_3 some)
noncomputable def J116_1 : (Int × Int) → Option Int := fun (x2, n3) =>
 (bif decide (x2 ≥ 65536) then
 some (.inl (Int.fdiv x2 (2 ^ (min (Int.toNat 16) (IntKind.bits .u64))), IntKind.wrap .i64 (n3 + 16)))
 else
 some (.inl (x2, n3))).bind (Sum.elim J116_2 some)
noncomputable def F116 (x1 : Int) : Option Int :=
 (bif decide (x1 ≥ 4294967296) then
 some (.inl (Int.fdiv x1 (2 ^ (min (Int.toNat 32) (IntKind.bits .u64))), 32))
 else
 some (.inl (x1, 0))).bind (Sum.elim J116_1 some)
-- 117 internal/strconv.bool2[int]
noncomputable def F117 (b1 : Bool) : Option Int :=
 bif b1 then
 some 1
 else
 some 0
-- 112 internal/strconv.numDigits
noncomputable def F112 (d1 : Int) : Option Int :=
 (F116 d1).bind fun r2 =>
 (F115 r2).bind fun r3 =>
 (gI GT0 r3).bind fun y4 =>
 (F117 (decide (d1 ≥ y4))).bind fun r5 =>
 some (IntKind.wrap .i64 (r3 + r5))
-- 66 fulling/selection.identity
noncomputable def F66 (k1 : Int) : Option Int :=
 some k1
-- 113 internal/strconv.formatBase10
noncomputable def J113_2 : Y40 → Option (List Int) := fun (nd48, x49, a50) =>
 bif decide (nd48 > 0) then
 (gI a50 0).bind fun y57 =>
 (gI a50 0).bind fun y58 =>
 some (setI a50 0 (IntKind.wrap .u8 (IntKind.wrap .u32 (48 + x49))))
 else
 some a50
noncomputable def J113_1 : Y40 → Option (List Int) := fun (nd33, x34, a35) =>
 (bif decide (nd33 ≥ 2) then
 (gB BS1 (IntKind.wrap .u32 ((IntKind.wrap .u32 ((Int.tmod x34 100) * 2)) + 1))).bind fun b51 =>
 (gB BS1 (IntKind.wrap .u32 ((Int.tmod x34 100) * 2))).bind fun b52 =>
 (gI a35 (IntKind.wrap .i64 (nd33 - 1))).bind fun y53 =>
 (gI a35 (IntKind.wrap .i64 (nd33 - 1))).bind fun y54 =>
 (gI (setI a35 (IntKind.wrap .i64 (nd33 - 1)) b51) (IntKind.wrap .i64 (nd33 - 2))).bind fun y55 =>
 (gI (setI a35 (IntKind.wrap .i64 (nd33 - 1)) b51) (IntKind.wrap .i64 (nd33 - 2))).bind fun y56 =>
 some (.inl (IntKind.wrap .i64 (nd33 - 2), IntKind.wrap .u32 (Int.tdiv x34 100), setI (setI a35 (IntKind.wrap .i64 (nd33 - 1)) b51) (IntKind.wrap .i64 (nd33 - 2)) b52))
 else
 some (.inl (nd33, x34, a35))).bind (Sum.elim J113_2 some)
noncomputable def L113_1 : Y40 → Option (Y40 ⊕ (List Int)) := fun (u6, nd7, a8) =>
 bif decide (nd7 ≥ 8) then
 (gB BS1 (IntKind.wrap .u32 ((IntKind.wrap .u32 ((Int.tmod (Int.tmod (IntKind.wrap .u32 (Int.tmod u6 100000000)) 10000) 100) * 2)) + 1))).bind fun b9 =>
 (gB BS1 (IntKind.wrap .u32 ((Int.tmod (Int.tmod (IntKind.wrap .u32 (Int.tmod u6 100000000)) 10000) 100) * 2))).bind fun b10 =>
 (gI a8 (IntKind.wrap .i64 (nd7 - 1))).bind fun y11 =>
 (gI a8 (IntKind.wrap .i64 (nd7 - 1))).bind fun y12 =>
 (gI (setI a8 (IntKind.wrap .i64 (nd7 - 1)) b9) (IntKind.wrap .i64 (nd7 - 2))).bind fun y13 =>
 (gI (setI a8 (IntKind.wrap .i64 (nd7 - 1)) b9) (IntKind.wrap .i64 (nd7 - 2))).bind fun y14 =>
 (gB BS1 (IntKind.wrap .u32 ((IntKind.wrap .u32 ((IntKind.wrap .u32 (Int.tdiv (Int.tmod (IntKind.wrap .u32 (Int.tmod u6 100000000)) 10000) 100)) * 2)) + 1))).bind fun b15 =>
 (gB BS1 (IntKind.wrap .u32 ((IntKind.wrap .u32 (Int.tdiv (Int.tmod (IntKind.wrap .u32 (Int.tmod u6 100000000)) 10000) 100)) * 2))).bind fun b16 =>
 (gI (setI (setI a8 (IntKind.wrap .i64 (nd7 - 1)) b9) (IntKind.wrap .i64 (nd7 - 2)) b10) (IntKind.wrap .i64 (nd7 - 3))).bind fun y17 =>
 (gI (setI (setI a8 (IntKind.wrap .i64 (nd7 - 1)) b9) (IntKind.wrap .i64 (nd7 - 2)) b10) (IntKind.wrap .i64 (nd7 - 3))).bind fun y18 =>
 (gI (setI (setI (setI a8 (IntKind.wrap .i64 (nd7 - 1)) b9) (IntKind.wrap .i64 (nd7 - 2)) b10) (IntKind.wrap .i64 (nd7 - 3)) b15) (IntKind.wrap .i64 (nd7 - 4))).bind fun y19 =>
 (gI (setI (setI (setI a8 (IntKind.wrap .i64 (nd7 - 1)) b9) (IntKind.wrap .i64 (nd7 - 2)) b10) (IntKind.wrap .i64 (nd7 - 3)) b15) (IntKind.wrap .i64 (nd7 - 4))).bind fun y20 =>
 (gB BS1 (IntKind.wrap .u32 ((IntKind.wrap .u32 ((Int.tmod (IntKind.wrap .u32 (Int.tdiv (IntKind.wrap .u32 (Int.tmod u6 100000000)) 10000)) 100) * 2)) + 1))).bind fun b21 =>
 (gB BS1 (IntKind.wrap .u32 ((Int.tmod (IntKind.wrap .u32 (Int.tdiv (IntKind.wrap .u32 (Int.tmod u6 100000000)) 10000)) 100) * 2))).bind fun b22 =>
 (gI (setI (setI (setI (setI a8 (IntKind.wrap .i64 (nd7 - 1)) b9) (IntKind.wrap .i64 (nd7 - 2)) b10) (IntKind.wrap .i64 (nd7 - 3)) b15) (IntKind.wrap .i64 (nd7 - 4)) b16) (IntKind.wrap .i64 (nd7 - 5))).bind fun y23 =>
 (gI (setI (setI (setI (setI a8 (IntKind.wrap .i64 (nd7 - 1)) b9) (IntKind.wrap .i64 (nd7 - 2)) b10) (IntKind.wrap .i64 (nd7 - 3)) b15) (IntKind.wrap .i64 (nd7 - 4)) b16) (IntKind.wrap .i64 (nd7 - 5))).bind fun y24 =>
 (gI (setI (setI (setI (setI (setI a8 (IntKind.wrap .i64 (nd7 - 1)) b9) (IntKind.wrap .i64 (nd7 - 2)) b10) (IntKind.wrap .i64 (nd7 - 3)) b15) (IntKind.wrap .i64 (nd7 - 4)) b16) (IntKind.wrap .i64 (nd7 - 5)) b21) (IntKind.wrap .i64 (nd7 - 6))).bind fun y25 =>
 (gI (setI (setI (setI (setI (setI a8 (IntKind.wrap .i64 (nd7 - 1)) b9) (IntKind.wrap .i64 (nd7 - 2)) b10) (IntKind.wrap .i64 (nd7 - 3)) b15) (IntKind.wrap .i64 (nd7 - 4)) b16) (IntKind.wrap .i64 (nd7 - 5)) b21) (IntKind.wrap .i64 (nd7 - 6))).bind fun y26 =>
 (gB BS1 (IntKind.wrap .u32 ((IntKind.wrap .u32 ((IntKind.wrap .u32 (Int.tdiv (IntKind.wrap .u32 (Int.tdiv (IntKind.wrap .u32 (Int.tmod u6 100000000)) 10000)) 100)) * 2)) + 1))).bind fun b27 =>
 (gB BS1 (IntKind.wrap .u32 ((IntKind.wrap .u32 (Int.tdiv (IntKind.wrap .u32 (Int.tdiv (IntKind.wrap .u32 (Int.tmod u6 100000000)) 10000)) 100)) * 2))).bind fun b28 =>
 (gI (setI (setI (setI (setI (setI (setI a8 (IntKind.wrap .i64 (nd7 - 1)) b9) (IntKind.wrap .i64 (nd7 - 2)) b10) (IntKind.wrap .i64 (nd7 - 3)) b15) (IntKind.wrap .i64 (nd7 - 4)) b16) (IntKind.wrap .i64 (nd7 - 5)) b21) (IntKind.wrap .i64 (nd7 - 6)) b22) (IntKind.wrap .i64 (nd7 - 7))).bind fun y29 =>
 (gI (setI (setI (setI (setI (setI (setI a8 (IntKind.wrap .i64 (nd7 - 1)) b9) (IntKind.wrap .i64 (nd7 - 2)) b10) (IntKind.wrap .i64 (nd7 - 3)) b15) (IntKind.wrap .i64 (nd7 - 4)) b16) (IntKind.wrap .i64 (nd7 - 5)) b21) (IntKind.wrap .i64 (nd7 - 6)) b22) (IntKind.wrap .i64 (nd7 - 7))).bind fun y30 =>
 (gI (setI (setI (setI (setI (setI (setI (setI a8 (IntKind.wrap .i64 (nd7 - 1)) b9) (IntKind.wrap .i64 (nd7 - 2)) b10) (IntKind.wrap .i64 (nd7 - 3)) b15) (IntKind.wrap .i64 (nd7 - 4)) b16) (IntKind.wrap .i64 (nd7 - 5)) b21) (IntKind.wrap .i64 (nd7 - 6)) b22) (IntKind.wrap .i64 (nd7 - 7)) b27) (IntKind.wrap .i64 (nd7 - 8))).bind fun y31 =>
 (gI (setI (setI (setI (setI (setI (setI (setI a8 (IntKind.wrap .i64 (nd7 - 1)) b9) (IntKind.wrap .i64 (nd7 - 2)) b10) (IntKind.wrap .i64 (nd7 - 3)) b15) (IntKind.wrap .i64 (nd7 - 4)) b16) (IntKind.wrap .i64 (nd7 - 5)) b21) (IntKind.wrap .i64 (nd7 - 6)) b22) (IntKind.wrap .i64 (nd7 - 7)) b27) (IntKind.wrap .i64 (nd7 - 8))).bind fun y32 =>
 some (.inl (IntKind.wrap .u64 (Int.tdiv u6 100000000), IntKind.wrap .i64 (nd7 - 8), setI (setI (setI (setI (setI (setI (setI (setI a8 (IntKind.wrap .i64 (nd7 - 1)) b9) (IntKind.wrap .i64 (nd7 - 2)) b10) (IntKind.wrap .i64 (nd7 - 3)) b15) (IntKind.wrap .i64 (nd7 - 4)) b16) (IntKind.wrap .i64 (nd7 - 5)) b21) (IntKind.wrap .i64 (nd7 - 6)) b22) (IntKind.wrap .i64 (nd7 - 7)) b27) (IntKind.wrap .i64 (nd7 - 8)) b28))
 else
 ((bif decide (nd7 ≥ 4) then
 (gB BS1 (IntKind.wrap .u32 ((IntKind.wrap .u32 ((Int.tmod (Int.tmod (IntKind.wrap .u32 u6) 10000) 100) * 2)) + 1))).bind fun b36 =>
 (gB BS1 (IntKind.wrap .u32 ((Int.tmod (Int.tmod (IntKind.wrap .u32 u6) 10000) 100) * 2))).bind fun b37 =>
 (gI a8 (IntKind.wrap .i64 (nd7 - 1))).bind fun y38 =>
 (gI a8 (IntKind.wrap .i64 (nd7 - 1))).bind fun y39 =>
 (gI (setI a8 (IntKind.wrap .i64 (nd7 - 1)) b36) (IntKind.wrap .i64 (nd7 - 2))).bind fun y40 =>
 (gI (setI a8 (IntKind.wrap .i64 (nd7 - 1)) b36) (IntKind.wrap .i64 (nd7 - 2))).bind fun y41 =>
 (gB BS1 (IntKind.wrap .u32 ((IntKind.wrap .u32 ((IntKind.wrap .u32 (Int.tdiv (Int.tmod (IntKind.wrap .u32 u6) 10000) 100)) * 2)) + 1))).bind fun b42 =>
 (gB BS1 (IntKind.wrap .u32 ((IntKind.wrap .u32 (Int.tdiv (Int.tmod (IntKind.wrap .u32 u6) 10000) 100)) * 2))).bind fun b43 =>
 (gI (setI (setI a8 (IntKind.wrap .i64 (nd7 - 1)) b36) (IntKind.wrap .i64 (nd7 - 2)) b37) (IntKind.wrap .i64 (nd7 - 3))).bind fun y44 =>
 (gI (setI (setI a8 (IntKind.wrap .i64 (nd7 - 1)) b36) (IntKind.wrap .i64 (nd7 - 2)) b37) (IntKind.wrap .i64 (nd7 - 3))).bind fun y45 =>
 (gI (setI (setI (setI a8 (IntKind.wrap .i64 (nd7 - 1)) b36) (IntKind.wrap .i64 (nd7 - 2)) b37) (IntKind.wrap .i64 (nd7 - 3)) b42) (IntKind.wrap .i64 (nd7 - 4))).bind fun y46 =>
 (gI (setI (setI (setI a8 (IntKind.wrap .i64 (nd7 - 1)) b36) (IntKind.wrap .i64 (nd7 - 2)) b37) (IntKind.wrap .i64 (nd7 - 3)) b42) (IntKind.wrap .i64 (nd7 - 4))).bind fun y47 =>
 some (.inl (IntKind.wrap .i64 (nd7 - 4), IntKind.wrap .u32 (Int.tdiv (IntKind.wrap .u32 u6) 10000), setI (setI (setI (setI a8 (IntKind.wrap .i64 (nd7 - 1)) b36) (IntKind.wrap .i64 (nd7 - 2)) b37) (IntKind.wrap .i64 (nd7 - 3)) b42) (IntKind.wrap .i64 (nd7 - 4)) b43))
 else
 some (.inl (nd7, IntKind.wrap .u32 u6, a8))).bind (Sum.elim J113_1 some)).map .inr
noncomputable def F113 (u1 : Int) (a2 : List Int) : Option (List Int) :=
 loopL L113_1 (u1, (List.length a2 : Int), a2)
-- 105 internal/strconv.AppendUint
noncomputable def F105 (i1 : Int) (base2 : Int) (dst3 : List Int) : Option (List Int) :=
 bif base2 == 10 then
 bif decide (i1 < 100) then
 (F111 (IntKind.wrap .i64 i1)).bind fun r4 =>
 bif decide (List.length dst3 + List.length (toB r4) ≤ 1000000) then
 some (dst3 ++ (toB r4))
 else none
 else
 (F112 i1).bind fun r5 =>
 bif decide ((0 : Int) ≤ r5 ∧ r5 ≤ (24 : Int)) then
 (F113 i1 (slI (List.replicate 24 0 : List Int) 0 r5)).bind fun r6 =>
 bif decide (r5 = r5) then
 bif decide (List.length dst3 + List.length r6 ≤ 1000000) then
 some (dst3 ++ r6)
 else none
 else none
 else none
 else
 none
-- 100 internal/strconv.AppendInt
noncomputable def J100_1 (base2 : Int) : Y2 → Option (List Int) := fun (u4, dst5) =>
 (F105 u4 base2 dst5).bind fun r6 =>
 some r6
noncomputable def F100 (i1 : Int) (base2 : Int) (dst3 : List Int) : Option (List Int) :=
 (bif decide (i1 < 0) then
 bif decide (List.length dst3 + List.length ([45] : List Int) ≤ 1000000) then
 some (.inl (IntKind.wrap .u64 (0 - (IntKind.wrap .u64 i1)), dst3 ++ ([45] : List Int)))
 else none
 else
 some (.inl (IntKind.wrap .u64 i1, dst3))).bind (Sum.elim (J100_1 base2) some)
-- 87 strconv.AppendInt
noncomputable def F87 (i1 : Int) (base2 : Int) (dst3 : List Int) : Option (List Int) :=
 (F100 i1 base2 dst3).bind fun r4 =>
 some r4
-- 65x66 fulling/selection.key
noncomputable def L65x66_1 (n1 : Int × Int × List Int) : Y2 → Option (Y2 ⊕ ByteArray) := fun (x6, b7) =>
 bif decide (x6 < (List.length n1.2.2 : Int)) then
 (gI n1.2.2 x6).bind fun y8 =>
 bif decide (List.length b7 + List.length ([32] : List Int) ≤ 1000000) then
 (F66 y8).bind fun r9 =>
 (F87 r9 10 (b7 ++ ([32] : List Int))).bind fun r10 =>
 some (.inl (IntKind.wrap .i64 (x6 + 1), r10))
 else none
 else
 (some (ofB b7)).map .inr
noncomputable def F65x66 (n1 : Int × Int × List Int) : Option ByteArray :=
 (F87 n1.1 10 []).bind fun r2 =>
 bif decide (List.length r2 + List.length ([32] : List Int) ≤ 1000000) then
 (F87 n1.2.1 10 (r2 ++ ([32] : List Int))).bind fun r3 =>
 loopL (L65x66_1 n1) (0, r3)
 else none
-- 34 fulling/selection.sorts
noncomputable def J34_1 (x5 : Int) (r12 : ByteArray) : (Bool × List Int × List (ByteArray × Bool)) → Option (Y45 ⊕ Y65) := fun (x13, out14, l15) =>
 bif x13 then
 (some ([], false)).map .inr
 else
 some (.inl (IntKind.wrap .i64 (x5 + 1), out14, mPut (keyEq .str) l15 r12 true))
noncomputable def L34_1 (l1 : TN) : Y45 → Option (Y45 ⊕ Y65) := fun (x5, out6, l7) =>
 bif decide (x5 < (List.length l1 : Int)) then
 (F64 l1 x5).bind fun r8 =>
 (gI out6 x5).bind fun y9 =>
 (gI out6 x5).bind fun y10 =>
 (gI l1 x5).bind fun y11 =>
 (F65x66 y11).bind fun r12 =>
 ((gI (setI out6 x5 r8) x5).bind fun y16 =>
 (gI (setI out6 x5 r8) x5).bind fun y17 =>
 bif y17 == 0 then
 some (.inl (true, setI out6 x5 r8, l7))
 else
 some (.inl (Option.getD (mGet (keyEq .str) l7 r12) false, setI out6 x5 r8, l7))).bind (Sum.elim (J34_1 x5 r12) some)
 else
 (some (out6, true)).map .inr
noncomputable def F34 (l1 : TN) : Option Y65 :=
 bif decide ((0 : Int) ≤ (List.length l1 : Int) ∧ ((List.length l1 : Int) : Int) = (List.length l1 : Int) ∧ ((List.length l1 : Int) : Int) ≤ 1000000) then
 loopL (L34_1 l1) (0, (List.replicate (Int.toNat (List.length l1 : Int)) 0 : List Int), ([] : List (ByteArray × Bool)))
 else none
-- 35 fulling/selection.sort
noncomputable def J35_1 (l1 : List Int) (i2 : Int) : Bool → Option Int := fun x3 =>
 bif x3 then
 some 0
 else
 (gI l1 i2).bind fun y4 =>
 some y4
noncomputable def F35 (l1 : List Int) (i2 : Int) : Option Int :=
 (bif decide (i2 < 0) then
 some (.inl true)
 else
 some (.inl (decide (i2 ≥ (List.length l1 : Int))))).bind (Sum.elim (J35_1 l1 i2) some)
-- 10 fulling/selection.Valid
noncomputable def J10_2 (x7 : Int) : Bool → Option (Int ⊕ Bool) := fun x10 =>
 bif x10 then
 (some false).map .inr
 else
 some (.inl (IntKind.wrap .i64 (x7 + 1)))
noncomputable def L10_1 (s1 : TT) (r2 : List Int × Bool) : Int → Option (Int ⊕ Bool) := fun x7 =>
 bif decide (x7 < (List.length s1.2.1 : Int)) then
 (gI s1.2.1 x7).bind fun y8 =>
 (F35 r2.1 y8.1).bind fun r9 =>
 (bif r9 == 0 then
 some (.inl true)
 else
 (F35 r2.1 y8.2.1).bind fun r11 =>
 some (.inl (r9 != r11))).bind (Sum.elim (J10_2 x7) some)
 else
 (some true).map .inr
noncomputable def J10_1 (s1 : TT) (r2 : List Int × Bool) : Bool → Option Bool := fun x3 =>
 bif x3 then
 some false
 else
 loopL (L10_1 s1 r2) 0
noncomputable def F10 (s1 : TT) : Option Bool :=
 bif decide ((List.length s1.1 : Int) > 2000) then
 some false
 else
 (F34 s1.1).bind fun r2 =>
 (bif !r2.2 then
 some (.inl true)
 else
 (F35 r2.1 s1.2.2.2.1).bind fun r4 =>
 bif r4 != 1 then
 some (.inl true)
 else
 (F35 r2.1 s1.2.2.2.2.1).bind fun r5 =>
 some (.inl (r5 != 2))).bind (Sum.elim (J10_1 s1 r2) some)
-- 37 fulling/fullingref22.isNode
noncomputable def J37_1 : Bool → Option Bool := fun x3 =>
 some x3
noncomputable def F37 (l1 : TN) (i2 : Int) : Option Bool :=
 (bif decide (i2 ≥ 0) then
 some (.inl (decide (i2 < (List.length l1 : Int))))
 else
 some (.inl false)).bind (Sum.elim J37_1 some)
-- 38 fulling/fullingref22.distinctNodes
noncomputable def L38_2 (l1 : TN) (i4 : Int) : Int → Option (Int ⊕ (Int ⊕ Bool)) := fun k7 =>
 bif decide (k7 < i4) then
 (gI l1 k7).bind fun y8 =>
 (gI l1 i4).bind fun y9 =>
 (F68 y8 y9).bind fun r10 =>
 bif r10 then
 ((some false).map .inr).map .inr
 else
 some (.inl (IntKind.wrap .i64 (k7 + 1)))
 else
 (some (.inl (IntKind.wrap .i64 (i4 + 1)))).map .inr
noncomputable def L38_1 (l1 : TN) (r2 : List Int) : Int → Option (Int ⊕ Bool) := fun i4 =>
 bif decide (i4 < (List.length l1 : Int)) then
 (gI r2 i4).bind fun y5 =>
 bif y5 == 0 then
 (some false).map .inr
 else
 loopL (L38_2 l1 i4) 0
 else
 (some true).map .inr
noncomputable def F38 (l1 : TN) : Option Bool :=
 (F36 l1).bind fun r2 =>
 loopL (L38_1 l1 r2) 0
-- 39 fulling/fullingref22.isEdge
noncomputable def J39_1 : Bool → Option Bool := fun x3 =>
 some x3
noncomputable def F39 (l1 : TN) (s2 : Int × Int × Int × List Int × List Int) : Option Bool :=
 ((F37 l1 s2.1).bind fun r4 =>
 bif r4 then
 (F37 l1 s2.2.1).bind fun r5 =>
 some (.inl r5)
 else
 some (.inl false)).bind (Sum.elim J39_1 some)
-- 11 fulling/fullingref22.Valid
noncomputable def J11_2 (t10 : Int) : Bool → Option (Int ⊕ Bool) := fun x12 =>
 bif x12 then
 (some false).map .inr
 else
 some (.inl (IntKind.wrap .i64 (t10 + 1)))
noncomputable def L11_1 (s1 : TT) (r2 : List Int) : Int → Option (Int ⊕ Bool) := fun t10 =>
 bif decide (t10 < (List.length s1.2.1 : Int)) then
 (gI s1.2.1 t10).bind fun y11 =>
 ((F39 s1.1 y11).bind fun r13 =>
 bif !r13 then
 some (.inl true)
 else
 (gI r2 y11.1).bind fun y14 =>
 (gI r2 y11.2.1).bind fun y15 =>
 some (.inl (y14 != y15))).bind (Sum.elim (J11_2 t10) some)
 else
 (some true).map .inr
noncomputable def J11_1 (s1 : TT) (r2 : List Int) : Bool → Option Bool := fun x3 =>
 bif x3 then
 some false
 else
 loopL (L11_1 s1 r2) 0
noncomputable def F11 (s1 : TT) : Option Bool :=
 (F36 s1.1).bind fun r2 =>
 (bif decide ((List.length s1.1 : Int) > 2000) then
 some (.inl true)
 else
 (F37 s1.1 s1.2.2.2.1).bind fun r4 =>
 bif !r4 then
 some (.inl true)
 else
 (F37 s1.1 s1.2.2.2.2.1).bind fun r5 =>
 bif !r5 then
 some (.inl true)
 else
 (gI r2 s1.2.2.2.1).bind fun y6 =>
 bif y6 != 1 then
 some (.inl true)
 else
 (gI r2 s1.2.2.2.2.1).bind fun y7 =>
 bif y7 != 2 then
 some (.inl true)
 else
 (F38 s1.1).bind fun r8 =>
 some (.inl (!r8))).bind (Sum.elim (J11_1 s1 r2) some)
-- 93 (fulling/congruence.unionFind).find
noncomputable def L93_1 : Y2 → Option (Y2 ⊕ Y2) := fun (i5, s6) =>
 (gI s6 i5).bind fun y7 =>
 (gI s6 i5).bind fun y8 =>
 bif y8 != i5 then
 (gI s6 i5).bind fun y9 =>
 (gI s6 i5).bind fun y10 =>
 (gI s6 y10).bind fun y11 =>
 (gI s6 y10).bind fun y12 =>
 (gI s6 i5).bind fun y13 =>
 (gI s6 i5).bind fun y14 =>
 (gI (setI s6 i5 y12) i5).bind fun y15 =>
 (gI (setI s6 i5 y12) i5).bind fun y16 =>
 some (.inl (y16, setI s6 i5 y12))
 else
 (some (i5, s6)).map .inr
noncomputable def F93 (i1 : Int) (s2 : List Int) : Option Y2 :=
 loopL L93_1 (i1, s2)
-- 91 (fulling/congruence.unionFind).union
noncomputable def F91 (i1 : Int) (j2 : Int) (s3 : List Int) : Option Y13 :=
 (F93 i1 s3).bind fun r4 =>
 (F93 j2 r4.2).bind fun r5 =>
 bif r4.1 == r5.1 then
 some (false, r5.2)
 else
 (gI r5.2 (if r5.1 > r4.1 then r5.1 else r4.1)).bind fun y6 =>
 (gI r5.2 (if r5.1 > r4.1 then r5.1 else r4.1)).bind fun y7 =>
 some (true, setI r5.2 (if r5.1 > r4.1 then r5.1 else r4.1) (if r5.1 < r4.1 then r5.1 else r4.1))
-- 102 fulling/congruence.appendUint64
noncomputable def L102_1 (n1 : Int) : Y2 → Option Y10 := fun (i5, b6) =>
 bif decide (i5 < 8) then
 bif decide ((IntKind.wrap .u64 (IntKind.wrap .i64 (8 * i5))) < 0) then none else
 bif decide (List.length b6 + List.length ([IntKind.wrap .u8 (Int.fdiv n1 (2 ^ (min (Int.toNat (IntKind.wrap .u64 (IntKind.wrap .i64 (8 * i5)))) (IntKind.bits .u64))))] : List Int) ≤ 1000000) then
 some (.inl (IntKind.wrap .i64 (i5 + 1), b6 ++ ([IntKind.wrap .u8 (Int.fdiv n1 (2 ^ (min (Int.toNat (IntKind.wrap .u64 (IntKind.wrap .i64 (8 * i5)))) (IntKind.bits .u64))))] : List Int)))
 else none
 else
 (some b6).map .inr
noncomputable def F102 (n1 : Int) (b2 : List Int) : Option (List Int) :=
 loopL (L102_1 n1) (0, b2)
-- 92 (fulling/congruence.unionFind).key
noncomputable def J92_1 (x10 : Int) (y13 : Int) : Y35 → Option (Y21 ⊕ Y46) := fun (x14, s15, b16) =>
 bif x14 then
 (some ((ByteArray.mk #[]), false, s15)).map .inr
 else
 (F93 y13 s15).bind fun r17 =>
 (F102 (IntKind.wrap .u64 r17.1) b16).bind fun r18 =>
 some (.inl (IntKind.wrap .i64 (x10 + 1), r17.2, r18))
noncomputable def L92_1 (n3 : List Int) : Y21 → Option (Y21 ⊕ Y46) := fun (x10, s11, b12) =>
 bif decide (x10 < (List.length n3 : Int)) then
 (gI n3 x10).bind fun y13 =>
 (bif decide (y13 < 0) then
 some (.inl (true, s11, b12))
 else
 some (.inl (decide (y13 ≥ (List.length s11 : Int)), s11, b12))).bind (Sum.elim (J92_1 x10 y13) some)
 else
 (some (ofB b12, true, s11)).map .inr
noncomputable def F92 (n1 : Int) (n2 : Int) (n3 : List Int) (s4 : List Int) : Option Y46 :=
 (F102 (IntKind.wrap .u64 n1) []).bind fun r5 =>
 (F102 (IntKind.wrap .u64 n2) r5).bind fun r6 =>
 loopL (L92_1 n3) (0, s4, r6)
-- 69 fulling/congruence.Classes
noncomputable def J69_2 : (Bool × List Int × Int × Int) → Option Y33 := fun (x15, s16, p17, p18) =>
 bif x15 then
 (F91 p17 p18 s16).bind fun r19 =>
 some (.inl r19.2)
 else
 some (.inl s16)
noncomputable def J69_1 (x11 : Int) : (List Int) → Option Y10 := fun s13 =>
 some (.inl (IntKind.wrap .i64 (x11 + 1), s13))
noncomputable def J69_3 (x29 : Int) : (Bool × List Int × List (ByteArray × Int)) → Option (Y41 ⊕ Y34) := fun (on32, s33, l34) =>
 some (.inl (on32, IntKind.wrap .i64 (x29 + 1), s33, l34))
noncomputable def L69_4 (l1 : TN) : Y41 → Option (Y41 ⊕ Y34) := fun (on28, x29, s30, l31) =>
 bif decide (x29 < (List.length l1 : Int)) then
 ((gI l1 x29).bind fun y35 =>
 (F92 y35.1 y35.2.1 y35.2.2 s30).bind fun r36 =>
 bif !r36.2.1 then
 some (.inl (on28, r36.2.2, l31))
 else
 bif !(Option.isSome (mGet (keyEq .str) l31 r36.1)) then
 some (.inl (on28, r36.2.2, mPut (keyEq .str) l31 r36.1 x29))
 else
 (F91 x29 (Option.getD (mGet (keyEq .str) l31 r36.1) 0) r36.2.2).bind fun r37 =>
 bif r37.1 then
 some (.inl (true, r37.2, l31))
 else
 some (.inl (on28, r37.2, l31))).bind (Sum.elim (J69_3 x29) some)
 else
 (some (.inl (on28, s30))).map .inr
noncomputable def L69_5 (l1 : TN) : Y21 → Option (Y21 ⊕ (List Int)) := fun (x41, s42, out43) =>
 bif decide (x41 < (List.length (List.replicate (Int.toNat (List.length l1 : Int)) 0 : List Int) : Int)) then
 (F93 x41 s42).bind fun r44 =>
 (gI out43 x41).bind fun y45 =>
 (gI out43 x41).bind fun y46 =>
 some (.inl (IntKind.wrap .i64 (x41 + 1), r44.2, setI out43 x41 r44.1))
 else
 (some out43).map .inr
noncomputable def L69_3 (l1 : TN) : Y13 → Option Y34 := fun (on22, s23) =>
 bif on22 then
 loopL (L69_4 l1) (false, 0, s23, ([] : List (ByteArray × Int)))
 else
 (bif decide ((0 : Int) ≤ (List.length l1 : Int) ∧ ((List.length l1 : Int) : Int) = (List.length l1 : Int) ∧ ((List.length l1 : Int) : Int) ≤ 1000000) then
 loopL (L69_5 l1) (0, s23, (List.replicate (Int.toNat (List.length l1 : Int)) 0 : List Int))
 else none).map .inr
noncomputable def L69_2 (l1 : TN) (pairs2 : TP) : Y2 → Option Y10 := fun (x11, s12) =>
 bif decide (x11 < (List.length pairs2 : Int)) then
 ((gI pairs2 x11).bind fun y14 =>
 (bif decide ((if y14.2 < y14.1 then y14.2 else y14.1) ≥ 0) then
 some (.inl (decide ((if y14.2 > y14.1 then y14.2 else y14.1) < (List.length l1 : Int)), s12, y14.1, y14.2))
 else
 some (.inl (false, s12, y14.1, y14.2))).bind (Sum.elim J69_2 some)).bind (Sum.elim (J69_1 x11) some)
 else
 (loopL (L69_3 l1) (true, s12)).map .inr
noncomputable def L69_1 (l1 : TN) (pairs2 : TP) : Y2 → Option Y10 := fun (x5, s6) =>
 bif decide (x5 < (List.length (List.replicate (Int.toNat (List.length l1 : Int)) 0 : List Int) : Int)) then
 (gI s6 x5).bind fun y7 =>
 (gI s6 x5).bind fun y8 =>
 some (.inl (IntKind.wrap .i64 (x5 + 1), setI s6 x5 x5))
 else
 (loopL (L69_2 l1 pairs2) (0, s6)).map .inr
noncomputable def F69 (l1 : TN) (pairs2 : TP) : Option (List Int) :=
 bif decide ((0 : Int) ≤ (List.length l1 : Int) ∧ ((List.length l1 : Int) : Int) = (List.length l1 : Int) ∧ ((List.length l1 : Int) : Int) ≤ 1000000) then
 loopL (L69_1 l1 pairs2) (0, (List.replicate (Int.toNat (List.length l1 : Int)) 0 : List Int))
 else none
-- 70 fulling/selection.Open$1
noncomputable def F70 (i1 : Int) (l2 : TN) (l3 : TS) (l4 : TI) (l5 : Int) (l6 : Int) (l7 : Int) (l8 : Int) (l9 : List Int) (l10 : List Int) (l11 : List (List Int)) : Option Y44 :=
 (gI l9 i1).bind fun y12 =>
 some (y12, l2, l3, l4, l5, l6, l7, l8, l9, l10, l11)
-- 65x70 fulling/selection.key
noncomputable def L65x70_1 (n3 : List Int) : Y38 → Option (Y38 ⊕ Y22) := fun (x28, b29, l30, l31, l32, l33, l34, l35, l36, l37, l38, l39) =>
 bif decide (x28 < (List.length n3 : Int)) then
 (gI n3 x28).bind fun y40 =>
 bif decide (List.length b29 + List.length ([32] : List Int) ≤ 1000000) then
 (F70 y40 l30 l31 l32 l33 l34 l35 l36 l37 l38 l39).bind fun r41 =>
 (F87 r41.1 10 (b29 ++ ([32] : List Int))).bind fun r42 =>
 some (.inl (IntKind.wrap .i64 (x28 + 1), r42, r41.2.1, r41.2.2.1, r41.2.2.2.1, r41.2.2.2.2.1, r41.2.2.2.2.2.1, r41.2.2.2.2.2.2.1, r41.2.2.2.2.2.2.2.1, r41.2.2.2.2.2.2.2.2.1, r41.2.2.2.2.2.2.2.2.2.1, r41.2.2.2.2.2.2.2.2.2.2))
 else none
 else
 (some (ofB b29, l30, l31, l32, l33, l34, l35, l36, l37, l38, l39)).map .inr
noncomputable def F65x70 (n1 : Int) (n2 : Int) (n3 : List Int) (l4 : TN) (l5 : TS) (l6 : TI) (l7 : Int) (l8 : Int) (l9 : Int) (l10 : Int) (l11 : List Int) (l12 : List Int) (l13 : List (List Int)) : Option Y22 :=
 (F87 n1 10 []).bind fun r14 =>
 bif decide (List.length r14 + List.length ([32] : List Int) ≤ 1000000) then
 (F87 n2 10 (r14 ++ ([32] : List Int))).bind fun r15 =>
 loopL (L65x70_1 n3) (0, r15, l4, l5, l6, l7, l8, l9, l10, l11, l12, l13)
 else none
-- 40 fulling/selection.Open
noncomputable def J40_2 (x33 : Int) (y56 : Int × Int × List Int) (y57 : Int) : Y19 → Option (Y19 ⊕ (Y11 ⊕ Y51)) := fun (l58, l59, l60, l61, l62, l63, l64, l65, l66, l67, l68) =>
 (F65x70 y56.1 y56.2.1 y56.2.2 l59 l60 l61 l62 l63 l64 l65 l66 l67 l68).bind fun r69 =>
 bif !(Option.getD (mGet (keyEq .str) l58 r69.1) false) then
 (gI r69.2.2.2.2.2.2.2.2.2.2 y57).bind fun y70 =>
 (gI r69.2.2.2.2.2.2.2.2.2.2 y57).bind fun y71 =>
 bif decide (List.length y71 + List.length ([x33] : List Int) ≤ 1000000) then
 (gI r69.2.2.2.2.2.2.2.2.2.2 y57).bind fun y72 =>
 (gI r69.2.2.2.2.2.2.2.2.2.2 y57).bind fun y73 =>
 bif decide (y57 = y57) then
 some (.inl (mPut (keyEq .str) l58 r69.1 true, r69.2.1, r69.2.2.1, r69.2.2.2.1, r69.2.2.2.2.1, r69.2.2.2.2.2.1, r69.2.2.2.2.2.2.1, r69.2.2.2.2.2.2.2.1, r69.2.2.2.2.2.2.2.2.1, r69.2.2.2.2.2.2.2.2.2.1, setI r69.2.2.2.2.2.2.2.2.2.2 y57 (y71 ++ ([x33] : List Int))))
 else none
 else none
 else
 some (.inl (l58, r69.2.1, r69.2.2.1, r69.2.2.2.1, r69.2.2.2.2.1, r69.2.2.2.2.2.1, r69.2.2.2.2.2.2.1, r69.2.2.2.2.2.2.2.1, r69.2.2.2.2.2.2.2.2.1, r69.2.2.2.2.2.2.2.2.2.1, r69.2.2.2.2.2.2.2.2.2.2))
noncomputable def J40_1 (x33 : Int) : Y19 → Option (Y11 ⊕ Y51) := fun (l45, l46, l47, l48, l49, l50, l51, l52, l53, l54, l55) =>
 some (.inl (IntKind.wrap .i64 (x33 + 1), l45, l46, l47, l48, l49, l50, l51, l52, l53, l54, l55))
noncomputable def L40_2 (s1 : TT) : Y11 → Option (Y11 ⊕ Y51) := fun (x33, l34, l35, l36, l37, l38, l39, l40, l41, l42, l43, l44) =>
 bif decide (x33 < (List.length s1.1 : Int)) then
 ((gI s1.1 x33).bind fun y56 =>
 (gI l42 x33).bind fun y57 =>
 (bif y57 == x33 then
 bif decide (List.length l43 + List.length ([x33] : List Int) ≤ 1000000) then
 some (.inl (l34, l35, l36, l37, l38, l39, l40, l41, l42, l43 ++ ([x33] : List Int), l44))
 else none
 else
 some (.inl (l34, l35, l36, l37, l38, l39, l40, l41, l42, l43, l44))).bind (Sum.elim (J40_2 x33 y56 y57) some)).bind (Sum.elim (J40_1 x33) some)
 else
 (some ((some ((l35, l36, l37, l38, l39, l40, l41), l42, l43, l44)), true)).map .inr
noncomputable def L40_1 (s1 : TT) : (Int × TP) → Option ((Int × TP) ⊕ Y51) := fun (x6, pairs7) =>
 bif decide (x6 < (List.length s1.2.1 : Int)) then
 (gI s1.2.1 x6).bind fun y8 =>
 bif decide (List.length pairs7 + List.length ([(y8.1, y8.2.1)] : TP) ≤ 1000000) then
 some (.inl (IntKind.wrap .i64 (x6 + 1), pairs7 ++ ([(y8.1, y8.2.1)] : TP)))
 else none
 else
 (bif decide ((0 : Int) ≤ (List.length s1.1 : Int) ∧ ((List.length s1.1 : Int) : Int) = (List.length s1.1 : Int) ∧ ((List.length s1.1 : Int) : Int) ≤ 1000000) then
 (F69 s1.1 pairs7).bind fun r9 =>
 loopL (L40_2 s1) (0, ([] : List (ByteArray × Bool)), s1.1, s1.2.1, s1.2.2.1, s1.2.2.2.1, s1.2.2.2.2.1, s1.2.2.2.2.2.1, s1.2.2.2.2.2.2, r9, [], (List.replicate (Int.toNat (List.length s1.1 : Int)) [] : List (List Int)))
 else none).map .inr
noncomputable def F40 (s1 : TT) : Option Y51 :=
 (F10 s1).bind fun r2 =>
 bif !r2 then
 some (none, false)
 else
 loopL (L40_1 s1) (0, [])
-- 72 fulling/fullingref10.congruent
noncomputable def J72_2 (i6 : Int) : Bool → Option (Int ⊕ Bool) := fun x9 =>
 bif x9 then
 (some false).map .inr
 else
 some (.inl (IntKind.wrap .i64 (i6 + 1)))
noncomputable def L72_1 (a1 : Int × Int × List Int) (b2 : Int × Int × List Int) (c3 : List Int) : Int → Option (Int ⊕ Bool) := fun i6 =>
 bif decide (i6 < (List.length a1.2.2 : Int)) then
 (gI a1.2.2 i6).bind fun y7 =>
 (gI b2.2.2 i6).bind fun y8 =>
 (bif decide (y7 < 0) then
 some (.inl true)
 else
 bif decide (y8 < 0) then
 some (.inl true)
 else
 bif decide (y7 ≥ (List.length c3 : Int)) then
 some (.inl true)
 else
 bif decide (y8 ≥ (List.length c3 : Int)) then
 some (.inl true)
 else
 (gI c3 y7).bind fun y10 =>
 (gI c3 y8).bind fun y11 =>
 some (.inl (y10 != y11))).bind (Sum.elim (J72_2 i6) some)
 else
 (some true).map .inr
noncomputable def J72_1 (a1 : Int × Int × List Int) (b2 : Int × Int × List Int) (c3 : List Int) : Bool → Option Bool := fun x4 =>
 bif x4 then
 some false
 else
 loopL (L72_1 a1 b2 c3) 0
noncomputable def F72 (a1 : Int × Int × List Int) (b2 : Int × Int × List Int) (c3 : List Int) : Option Bool :=
 (bif a1.1 != b2.1 then
 some (.inl true)
 else
 bif a1.2.1 != b2.2.1 then
 some (.inl true)
 else
 some (.inl ((List.length a1.2.2 : Int) != (List.length b2.2.2 : Int)))).bind (Sum.elim (J72_1 a1 b2 c3) some)
-- 71 fulling/fullingref10.join
noncomputable def J71_1 (i14 : Int) : (List Int) → Option Y10 := fun c16 =>
 some (.inl (IntKind.wrap .i64 (i14 + 1), c16))
noncomputable def L71_1 (y5 : Int) (y7 : Int) (y9 : Int) (y11 : Int) : Y2 → Option Y10 := fun (i14, c15) =>
 bif decide (i14 < (List.length c15 : Int)) then
 ((gI c15 i14).bind fun y17 =>
 (gI c15 i14).bind fun y18 =>
 bif y18 == (if y11 > y9 then y11 else y9) then
 (gI c15 i14).bind fun y19 =>
 (gI c15 i14).bind fun y20 =>
 some (.inl (setI c15 i14 (if y7 < y5 then y7 else y5)))
 else
 some (.inl c15)).bind (Sum.elim (J71_1 i14) some)
 else
 (some c15).map .inr
noncomputable def F71 (a1 : Int) (b2 : Int) (c3 : List Int) : Option (List Int) :=
 (gI c3 a1).bind fun y4 =>
 (gI c3 a1).bind fun y5 =>
 (gI c3 b2).bind fun y6 =>
 (gI c3 b2).bind fun y7 =>
 (gI c3 a1).bind fun y8 =>
 (gI c3 a1).bind fun y9 =>
 (gI c3 b2).bind fun y10 =>
 (gI c3 b2).bind fun y11 =>
 loopL (L71_1 y5 y7 y9 y11) (0, c3)
-- 41 fulling/fullingref10.Classes
noncomputable def J41_2 (y13 : Int × Int) (y14 : Int × Int) : Y13 → Option Y33 := fun (x15, c16) =>
 bif x15 then
 (F71 y13.1 y14.2 c16).bind fun r17 =>
 some (.inl r17)
 else
 some (.inl c16)
noncomputable def J41_1 (i10 : Int) : (List Int) → Option Y10 := fun c12 =>
 some (.inl (IntKind.wrap .i64 (i10 + 1), c12))
noncomputable def J41_4 (j26 : Int) (more31 : Bool) (i32 : Int) : Y13 → Option (Y13 ⊕ (Y24 ⊕ (Y24 ⊕ Y34))) := fun (x36, c37) =>
 bif x36 then
 (F71 i32 j26 c37).bind fun r45 =>
 some (.inl (true, r45))
 else
 some (.inl (more31, c37))
noncomputable def J41_3 (i32 : Int) : Y13 → Option (Y24 ⊕ (Y24 ⊕ Y34)) := fun (more34, c35) =>
 some (.inl (more34, IntKind.wrap .i64 (i32 + 1), c35))
noncomputable def L41_5 (l1 : TN) (j26 : Int) : Y24 → Option (Y24 ⊕ (Y24 ⊕ Y34)) := fun (more31, i32, c33) =>
 bif decide (i32 < j26) then
 (((gI c33 i32).bind fun y38 =>
 (gI c33 i32).bind fun y39 =>
 (gI c33 j26).bind fun y40 =>
 (gI c33 j26).bind fun y41 =>
 bif y39 != y41 then
 (gI l1 i32).bind fun y42 =>
 (gI l1 j26).bind fun y43 =>
 (F72 y42 y43 c33).bind fun r44 =>
 some (.inl (r44, c33))
 else
 some (.inl (false, c33))).bind (Sum.elim (J41_4 j26 more31 i32) some)).bind (Sum.elim (J41_3 i32) some)
 else
 (some (.inl (more31, IntKind.wrap .i64 (j26 + 1), c33))).map .inr
noncomputable def L41_4 (l1 : TN) : Y24 → Option (Y24 ⊕ Y34) := fun (more25, j26, c27) =>
 bif decide (j26 < (List.length l1 : Int)) then
 loopL (L41_5 l1 j26) (more25, 0, c27)
 else
 (some (.inl (more25, c27))).map .inr
noncomputable def L41_3 (l1 : TN) : Y13 → Option Y34 := fun (more20, c21) =>
 bif more20 then
 loopL (L41_4 l1) (false, 0, c21)
 else
 (some c21).map .inr
noncomputable def L41_2 (l1 : TN) (pairs2 : TP) : Y2 → Option Y10 := fun (i10, c11) =>
 bif decide (i10 < (List.length pairs2 : Int)) then
 ((gI pairs2 i10).bind fun y13 =>
 (gI pairs2 i10).bind fun y14 =>
 (bif decide (y13.1 ≥ 0) then
 bif decide (y14.2 ≥ 0) then
 bif decide (y13.1 < (List.length l1 : Int)) then
 some (.inl (decide (y14.2 < (List.length l1 : Int)), c11))
 else
 some (.inl (false, c11))
 else
 some (.inl (false, c11))
 else
 some (.inl (false, c11))).bind (Sum.elim (J41_2 y13 y14) some)).bind (Sum.elim (J41_1 i10) some)
 else
 (loopL (L41_3 l1) (true, c11)).map .inr
noncomputable def L41_1 (l1 : TN) (pairs2 : TP) : Y2 → Option Y10 := fun (i6, c7) =>
 bif decide (i6 < (List.length l1 : Int)) then
 bif decide (List.length c7 + List.length ([i6] : List Int) ≤ 1000000) then
 some (.inl (IntKind.wrap .i64 (i6 + 1), c7 ++ ([i6] : List Int)))
 else none
 else
 (loopL (L41_2 l1 pairs2) (0, c7)).map .inr
noncomputable def F41 (l1 : TN) (pairs2 : TP) : Option (List Int) :=
 loopL (L41_1 l1 pairs2) (0, [])
-- 14 fulling/fullingref22.Classes
noncomputable def L14_1 (s1 : TT) : (Int × TP) → Option Y52 := fun (t6, pairs7) =>
 bif decide (t6 < (List.length s1.2.1 : Int)) then
 (gI s1.2.1 t6).bind fun y8 =>
 (gI s1.2.1 t6).bind fun y9 =>
 bif decide (List.length pairs7 + List.length ([(y8.1, y9.2.1)] : TP) ≤ 1000000) then
 some (.inl (IntKind.wrap .i64 (t6 + 1), pairs7 ++ ([(y8.1, y9.2.1)] : TP)))
 else none
 else
 ((F41 s1.1 pairs7).bind fun r10 =>
 some r10).map .inr
noncomputable def F14 (s1 : TT) : Option (List Int) :=
 (F11 s1).bind fun r2 =>
 bif !r2 then
 some []
 else
 loopL (L14_1 s1) (0, [])
-- 42 (*fulling/selection.Table).Candidates
noncomputable def J42_1 (t1 : Option Y0) (class2 : Int) : Bool → Option (List Int) := fun x3 =>
 bif x3 then
 some []
 else
 (t1).bind fun p5 =>
 (gI p5.2.2.2 class2).bind fun y6 =>
 some y6
noncomputable def F42 (t1 : Option Y0) (class2 : Int) : Option (List Int) :=
 (bif decide (class2 < 0) then
 some (.inl true)
 else
 (t1).bind fun p4 =>
 some (.inl (decide (class2 ≥ (List.length p4.2.2.2 : Int))))).bind (Sum.elim (J42_1 t1 class2) some)
-- 52 (*fulling/selection.Table).Is
noncomputable def J52_2 : Bool → Option Y50 := fun x7 =>
 bif x7 then
 ((some false).map .inr).map .inr
 else
 some (.inl ())
noncomputable def J52_1 (x5 : Int) : Unit → Option (Int ⊕ Bool) := fun _ =>
 some (.inl (IntKind.wrap .i64 (x5 + 1)))
noncomputable def L52_1 (t1 : Option Y0) (ch2 : List Int) : Int → Option (Int ⊕ Bool) := fun x5 =>
 bif decide (x5 < (List.length ch2 : Int)) then
 ((gI ch2 x5).bind fun y6 =>
 bif y6 == (-1) then
 some (.inl ())
 else
 ((t1).bind fun p8 =>
 (gI p8.2.1 x5).bind fun y9 =>
 bif y9 != x5 then
 some (.inl true)
 else
 bif decide (y6 < 0) then
 some (.inl true)
 else
 (t1).bind fun p10 =>
 bif decide (y6 ≥ (List.length p10.2.1 : Int)) then
 some (.inl true)
 else
 (t1).bind fun p11 =>
 (gI p11.2.1 y6).bind fun y12 =>
 some (.inl (y12 != x5))).bind (Sum.elim J52_2 some)).bind (Sum.elim (J52_1 x5) some)
 else
 (some true).map .inr
noncomputable def F52 (t1 : Option Y0) (ch2 : List Int) : Option Bool :=
 (t1).bind fun p3 =>
 bif (List.length ch2 : Int) != (List.length p3.2.1 : Int) then
 some false
 else
 loopL (L52_1 t1 ch2) 0
-- 76 fulling/cost.Node
noncomputable def J76_5 : Bool → Option Int := fun x6 =>
 bif x6 then
 some 20
 else
 some 0
noncomputable def J76_4 (n1 : Int × Int × List Int) : Bool → Option Int := fun x5 =>
 bif x5 then
 some 4
 else
 bif n1.1 == 31 then
 some 6
 else
 bif n1.1 == 30 then
 some 12
 else
 (bif n1.1 == 7 then
 some (.inl true)
 else
 some (.inl (n1.1 == 8))).bind (Sum.elim J76_5 some)
noncomputable def J76_3 (n1 : Int × Int × List Int) : Bool → Option Int := fun x4 =>
 bif x4 then
 some 3
 else
 (bif n1.1 == 6 then
 some (.inl true)
 else
 bif n1.1 == 23 then
 some (.inl true)
 else
 some (.inl (n1.1 == 28))).bind (Sum.elim (J76_4 n1) some)
noncomputable def J76_2 (n1 : Int × Int × List Int) : Bool → Option Int := fun x3 =>
 bif x3 then
 some 2
 else
 (bif n1.1 == 22 then
 some (.inl true)
 else
 some (.inl (n1.1 == 27))).bind (Sum.elim (J76_3 n1) some)
noncomputable def J76_1 (n1 : Int × Int × List Int) : Bool → Option Int := fun x2 =>
 bif x2 then
 some 1
 else
 (bif n1.1 == 20 then
 some (.inl true)
 else
 bif n1.1 == 21 then
 some (.inl true)
 else
 bif n1.1 == 4 then
 some (.inl true)
 else
 bif n1.1 == 5 then
 some (.inl true)
 else
 bif n1.1 == 9 then
 some (.inl true)
 else
 bif n1.1 == 10 then
 some (.inl true)
 else
 bif n1.1 == 11 then
 some (.inl true)
 else
 bif n1.1 == 12 then
 some (.inl true)
 else
 bif n1.1 == 13 then
 some (.inl true)
 else
 bif n1.1 == 14 then
 some (.inl true)
 else
 bif n1.1 == 15 then
 some (.inl true)
 else
 bif n1.1 == 16 then
 some (.inl true)
 else
 bif n1.1 == 17 then
 some (.inl true)
 else
 bif n1.1 == 18 then
 some (.inl true)
 else
 bif n1.1 == 19 then
 some (.inl true)
 else
 some (.inl (n1.1 == 29))).bind (Sum.elim (J76_2 n1) some)
noncomputable def F76 (n1 : Int × Int × List Int) : Option Int :=
 (bif n1.1 == 1 then
 some (.inl true)
 else
 bif n1.1 == 2 then
 some (.inl true)
 else
 some (.inl (n1.1 == 24))).bind (Sum.elim (J76_1 n1) some)
-- 3 fulling/fullinglaw25.SelectionClasses
-- 51 fulling/fullingref22.NodeCost
noncomputable def J51_6 : Bool → Option Int := fun x7 =>
 bif x7 then
 some 2
 else
 some 0
noncomputable def J51_5 (n1 : Int × Int × List Int) : Bool → Option Int := fun x6 =>
 bif x6 then
 some 2
 else
 (bif decide (n1.1 ≥ 4) then
 some (.inl (decide (n1.1 ≤ 19)))
 else
 some (.inl false)).bind (Sum.elim J51_6 some)
noncomputable def J51_4 (n1 : Int × Int × List Int) : Bool → Option Int := fun x5 =>
 bif x5 then
 some 20
 else
 (bif n1.1 == 29 then
 some (.inl true)
 else
 bif n1.1 == 20 then
 some (.inl true)
 else
 some (.inl (n1.1 == 21))).bind (Sum.elim (J51_5 n1) some)
noncomputable def J51_3 (n1 : Int × Int × List Int) : Bool → Option Int := fun x4 =>
 bif x4 then
 some 4
 else
 bif n1.1 == 31 then
 some 6
 else
 bif n1.1 == 30 then
 some 12
 else
 (bif n1.1 == 7 then
 some (.inl true)
 else
 some (.inl (n1.1 == 8))).bind (Sum.elim (J51_4 n1) some)
noncomputable def J51_2 (n1 : Int × Int × List Int) : Bool → Option Int := fun x3 =>
 bif x3 then
 some 3
 else
 (bif n1.1 == 6 then
 some (.inl true)
 else
 bif n1.1 == 23 then
 some (.inl true)
 else
 some (.inl (n1.1 == 28))).bind (Sum.elim (J51_3 n1) some)
noncomputable def J51_1 (n1 : Int × Int × List Int) : Bool → Option Int := fun x2 =>
 bif x2 then
 some 1
 else
 (bif n1.1 == 22 then
 some (.inl true)
 else
 some (.inl (n1.1 == 27))).bind (Sum.elim (J51_2 n1) some)
noncomputable def F51 (n1 : Int × Int × List Int) : Option Int :=
 (bif n1.1 == 1 then
 some (.inl true)
 else
 bif n1.1 == 2 then
 some (.inl true)
 else
 some (.inl (n1.1 == 24))).bind (Sum.elim (J51_1 n1) some)
-- 4 fulling/fullinglaw25.SelectionLeast
-- 22 fulling/fullingkeep2.Selection
noncomputable def J22_2 (k17 : Int) : (List Int × List Int) → Option (Y21 ⊕ Y33) := fun (out20, all21) =>
 some (.inl (IntKind.wrap .i64 (k17 + 1), out20, all21))
noncomputable def J22_3 (i6 : Int) : Y21 → Option Y33 := fun (n23, out24, all25) =>
 (F29 n23 13).bind fun r27 =>
 bif r27 != 12 then
 (F29 n23 (List.length all25 : Int)).bind fun r28 =>
 (gI all25 r28).bind fun y29 =>
 (gI all25 r28).bind fun y30 =>
 (gI out24 i6).bind fun y31 =>
 (gI out24 i6).bind fun y32 =>
 some (.inl (setI out24 i6 y30))
 else
 some (.inl out24)
noncomputable def L22_2 (l2 : List Int) (r3 : List Int) (i6 : Int) : Y21 → Option (Y21 ⊕ Y33) := fun (k17, out18, all19) =>
 bif decide (k17 < (List.length r3 : Int)) then
 ((gI r3 k17).bind fun y22 =>
 bif y22 == i6 then
 bif decide (List.length all19 + List.length ([k17] : List Int) ≤ 1000000) then
 some (.inl (out18, all19 ++ ([k17] : List Int)))
 else none
 else
 some (.inl (out18, all19))).bind (Sum.elim (J22_2 k17) some)
 else
 ((bif decide (i6 < (List.length l2 : Int)) then
 (gI l2 i6).bind fun y26 =>
 some (.inl (y26, out18, all19))
 else
 some (.inl (0, out18, all19))).bind (Sum.elim (J22_3 i6) some)).map .inr
noncomputable def J22_1 (i6 : Int) : (List Int) → Option Y10 := fun out8 =>
 some (.inl (IntKind.wrap .i64 (i6 + 1), out8))
noncomputable def L22_1 (l2 : List Int) (r3 : List Int) : Y2 → Option Y10 := fun (i6, out7) =>
 bif decide (i6 < (List.length r3 : Int)) then
 ((gI out7 i6).bind fun y9 =>
 (gI out7 i6).bind fun y10 =>
 (gI r3 i6).bind fun y11 =>
 bif y11 != i6 then
 some (.inl (setI out7 i6 (-1)))
 else
 loopL (L22_2 l2 r3 i6) (i6, setI out7 i6 (-1), [])).bind (Sum.elim (J22_1 i6) some)
 else
 (some out7).map .inr
noncomputable def F22 (s1 : TT) (l2 : List Int) : Option (List Int) :=
 (F14 s1).bind fun r3 =>
 bif decide ((0 : Int) ≤ (List.length r3 : Int) ∧ ((List.length r3 : Int) : Int) = (List.length r3 : Int) ∧ ((List.length r3 : Int) : Int) ≤ 1000000) then
 loopL (L22_1 l2 r3) (0, (List.replicate (Int.toNat (List.length r3 : Int)) 0 : List Int))
 else none
-- 23 fulling/fullinglaw26.partial
noncomputable def J23_1 (i5 : Int) : (List Int) → Option Y10 := fun out7 =>
 some (.inl (IntKind.wrap .i64 (i5 + 1), out7))
noncomputable def L23_1 (mask2 : Int) : Y2 → Option Y10 := fun (i5, out6) =>
 bif decide (i5 < (List.length out6 : Int)) then
 (bif decide ((IntKind.wrap .u64 (Int.tmod i5 60)) < 0) then none else
 bif (bitsI .i64 (BitVec.ofInt (IntKind.bits .i64) (Int.fdiv mask2 (2 ^ (min (Int.toNat (IntKind.wrap .u64 (Int.tmod i5 60))) (IntKind.bits .i64)))) &&& BitVec.ofInt (IntKind.bits .i64) 1)) == 0 then
 (gI out6 i5).bind fun y8 =>
 (gI out6 i5).bind fun y9 =>
 some (.inl (setI out6 i5 (-1)))
 else
 some (.inl out6)).bind (Sum.elim (J23_1 i5) some)
 else
 (some out6).map .inr
noncomputable def F23 (ch1 : List Int) (mask2 : Int) : Option (List Int) :=
 bif decide (List.length ch1 ≤ 1000000) then
 loopL (L23_1 mask2) (0, ch1)
 else none
-- 78 fulling/bound.decided
noncomputable def F78 (t1 : Option Y0) (ch2 : List Int) (class3 : Int) : Option Int :=
 (gI ch2 class3).bind fun y4 =>
 bif decide (y4 ≥ 0) then
 (gI ch2 class3).bind fun y5 =>
 some y5
 else
 (F42 t1 class3).bind fun r6 =>
 bif (List.length r6 : Int) == 1 then
 (gI r6 0).bind fun y7 =>
 some y7
 else
 some (-1)
-- 79 fulling/bound.shared
noncomputable def J79_1 (x14 : Int) : (TP × List (Int × Bool)) → Option (Y63 ⊕ Y52) := fun (l17, l18) =>
 some (.inl (IntKind.wrap .i64 (x14 + 1), l17, l18))
noncomputable def L79_2 (t1 : Option Y0) (x6 : Int) (y10 : Int × Int × List Int) : Y63 → Option (Y63 ⊕ Y52) := fun (x14, l15, l16) =>
 bif decide (x14 < (List.length y10.2.2 : Int)) then
 ((gI y10.2.2 x14).bind fun y19 =>
 (t1).bind fun p20 =>
 (gI p20.2.1 y19).bind fun y21 =>
 bif !(Option.getD (mGet (keyEq (.int .i64)) l16 y21) false) then
 some (.inl (mPut (keyEq (.int .i64)) l15 y21 (IntKind.wrap .i64 ((Option.getD (mGet (keyEq (.int .i64)) l15 y21) 0) + 1)), mPut (keyEq (.int .i64)) l16 y21 true))
 else
 some (.inl (l15, l16))).bind (Sum.elim (J79_1 x14) some)
 else
 (some (.inl (IntKind.wrap .i64 (x6 + 1), l15))).map .inr
noncomputable def J79_2 (x30 : Int) : (TP × List Int) → Option (Y67 ⊕ (List Int)) := fun (l33, out34) =>
 some (.inl (IntKind.wrap .i64 (x30 + 1), l33, out34))
noncomputable def L79_3 (t1 : Option Y0) (r3 : List Int) (y24 : Int × Int × List Int) : Y67 → Option (Y67 ⊕ (List Int)) := fun (x30, l31, out32) =>
 bif decide (x30 < (List.length y24.2.2 : Int)) then
 ((gI y24.2.2 x30).bind fun y35 =>
 (t1).bind fun p36 =>
 (gI p36.2.1 y35).bind fun y37 =>
 bif (Option.getD (mGet (keyEq (.int .i64)) l31 y37) 0) == (List.length r3 : Int) then
 bif decide (List.length out32 + List.length ([y37] : List Int) ≤ 1000000) then
 some (.inl (mPut (keyEq (.int .i64)) l31 y37 0, out32 ++ ([y37] : List Int)))
 else none
 else
 some (.inl (l31, out32))).bind (Sum.elim (J79_2 x30) some)
 else
 (some out32).map .inr
noncomputable def L79_1 (t1 : Option Y0) (r3 : List Int) : (Int × TP) → Option Y52 := fun (x6, l7) =>
 bif decide (x6 < (List.length r3 : Int)) then
 (gI r3 x6).bind fun y8 =>
 (t1).bind fun p9 =>
 (gI p9.1.1 y8).bind fun y10 =>
 loopL (L79_2 t1 x6 y10) (0, l7, ([] : List (Int × Bool)))
 else
 ((t1).bind fun p22 =>
 (gI r3 0).bind fun y23 =>
 (gI p22.1.1 y23).bind fun y24 =>
 loopL (L79_3 t1 r3 y24) (0, l7, [])).map .inr
noncomputable def F79 (t1 : Option Y0) (class2 : Int) : Option (List Int) :=
 (F42 t1 class2).bind fun r3 =>
 loopL (L79_1 t1 r3) (0, ([] : TP))
-- 96 fulling/bound.cyclic$1
noncomputable def L96_1 (rec96 : Int → (Option Y0) → (List Int) → (List Bool) → Bool → (List Int) → Option Y8) (c1 : Int) (y22 : Int × Int × List Int) : Y59 → Option (Y59 ⊕ Y8) := fun (x29, l30, l31, l32, l33, l34) =>
 bif decide (x29 < (List.length y22.2.2 : Int)) then
 (gI y22.2.2 x29).bind fun y35 =>
 (l30).bind fun p36 =>
 (gI p36.2.1 y35).bind fun y37 =>
 (rec96 y37 l30 l31 l32 l33 l34).bind fun r38 =>
 some (.inl (IntKind.wrap .i64 (x29 + 1), r38.1, r38.2.1, r38.2.2.1, r38.2.2.2.1, r38.2.2.2.2))
 else
 ((gI l34 c1).bind fun y39 =>
 (gI l34 c1).bind fun y40 =>
 some (l30, l31, l32, l33, setI l34 c1 2)).map .inr
noncomputable def J96_1 (rec96 : Int → (Option Y0) → (List Int) → (List Bool) → Bool → (List Int) → Option Y8) (c1 : Int) (r7 : Int) : (Bool × (Option Y0) × List Int × List Bool × Bool × List Int) → Option Y8 := fun (x8, l9, l10, l11, l12, l13) =>
 bif x8 then
 some (l9, l10, l11, l12, l13)
 else
 (gI l13 c1).bind fun y17 =>
 (gI l13 c1).bind fun y18 =>
 bif y18 == 1 then
 some (l9, l10, l11, true, l13)
 else
 (gI l13 c1).bind fun y19 =>
 (gI l13 c1).bind fun y20 =>
 (l9).bind fun p21 =>
 (gI p21.1.1 r7).bind fun y22 =>
 loopL (L96_1 rec96 c1 y22) (0, l9, l10, l11, l12, setI l13 c1 1)
noncomputable def G96 (rec96 : Int → (Option Y0) → (List Int) → (List Bool) → Bool → (List Int) → Option Y8) (c1 : Int) (l2 : Option Y0) (l3 : List Int) (l4 : List Bool) (l5 : Bool) (l6 : List Int) : Option Y8 :=
 (F78 l2 l3 c1).bind fun r7 =>
 (bif decide (r7 < 0) then
 some (.inl (true, l2, l3, l4, l5, l6))
 else
 (gI l4 c1).bind fun y14 =>
 bif !y14 then
 some (.inl (true, l2, l3, l4, l5, l6))
 else
 bif l5 then
 some (.inl (true, l2, l3, l4, l5, l6))
 else
 (gI l6 c1).bind fun y15 =>
 (gI l6 c1).bind fun y16 =>
 some (.inl (y16 == 2, l2, l3, l4, l5, l6))).bind (Sum.elim (J96_1 rec96 c1 r7) some)
noncomputable def N96 (n : Nat) : Int → (Option Y0) → (List Int) → (List Bool) → Bool → (List Int) → Option Y8 := Nat.rec (motive := fun _ => Int → (Option Y0) → (List Int) → (List Bool) → Bool → (List Int) → Option Y8) (fun _ _ _ _ _ _ => none) (fun _ ih => G96 ih) n
noncomputable def F96 (c1 : Int) (l2 : Option Y0) (l3 : List Int) (l4 : List Bool) (l5 : Bool) (l6 : List Int) : Option Y8 := N96 1000 c1 l2 l3 l4 l5 l6
-- 80 fulling/bound.cyclic
noncomputable def L80_1 (p4 : TT × List Int × List Int × List (List Int)) : Y60 → Option (Y60 ⊕ Bool) := fun (x11, found12, l13, l14, l15, l16) =>
 bif decide (x11 < (List.length p4.2.2.1 : Int)) then
 (gI p4.2.2.1 x11).bind fun y17 =>
 (F96 y17 l13 l14 l15 found12 l16).bind fun r18 =>
 some (.inl (IntKind.wrap .i64 (x11 + 1), r18.2.2.2.1, r18.1, r18.2.1, r18.2.2.1, r18.2.2.2.2))
 else
 (some found12).map .inr
noncomputable def F80 (t1 : Option Y0) (ch2 : List Int) (need3 : List Bool) : Option Bool :=
 bif decide ((0 : Int) ≤ (List.length ch2 : Int) ∧ ((List.length ch2 : Int) : Int) = (List.length ch2 : Int) ∧ ((List.length ch2 : Int) : Int) ≤ 1000000) then
 (t1).bind fun p4 =>
 loopL (L80_1 p4) (0, false, t1, ch2, need3, (List.replicate (Int.toNat (List.length ch2 : Int)) 0 : List Int))
 else none
-- 77 fulling/bound.Analyze$1
noncomputable def F77 (c1 : Int) (l2 : List Bool) (l3 : List Int) : Option (List Bool × List Int) :=
 (gI l2 c1).bind fun y4 =>
 (gI l2 c1).bind fun y5 =>
 bif !y5 then
 (gI l2 c1).bind fun y6 =>
 (gI l2 c1).bind fun y7 =>
 bif decide (List.length l3 + List.length ([c1] : List Int) ≤ 1000000) then
 some (setI l2 c1 true, l3 ++ ([c1] : List Int))
 else none
 else
 some (l2, l3)
-- 53 fulling/bound.Analyze
noncomputable def L53_2 (t1 : Option Y0) (y23 : Int × Int × List Int) : Y31 → Option (Y31 ⊕ (Y37 ⊕ Y25)) := fun (x29, l30, l31, l32, l33) =>
 bif decide (x29 < (List.length y23.2.2 : Int)) then
 (gI y23.2.2 x29).bind fun y34 =>
 (t1).bind fun p35 =>
 (gI p35.2.1 y34).bind fun y36 =>
 (F77 y36 l32 l33).bind fun r37 =>
 some (.inl (IntKind.wrap .i64 (x29 + 1), l30, l31, r37.1, r37.2))
 else
 (some (.inl (l30, l31, l32, l33))).map .inr
noncomputable def L53_3 (r38 : List Int) : Y31 → Option (Y31 ⊕ (Y37 ⊕ Y25)) := fun (x44, l45, l46, l47, l48) =>
 bif decide (x44 < (List.length r38 : Int)) then
 (gI r38 x44).bind fun y49 =>
 (F77 y49 l47 l48).bind fun r50 =>
 some (.inl (IntKind.wrap .i64 (x44 + 1), l45, l46, r50.1, r50.2))
 else
 (some (.inl (l45, l46, l47, l48))).map .inr
noncomputable def J53_3 (least98 : Int) (r118 : Int) : (Bool × Int × Bool × Int × Bool × List Bool × List Int × List Int) → Option (Y15 ⊕ Y6) := fun (x119, l120, l121, s122, s123, l124, l125, l126) =>
 bif x119 then
 some (.inl (r118, l120, l121, s122, s123, l124, l125, l126))
 else
 some (.inl (least98, l120, l121, s122, s123, l124, l125, l126))
noncomputable def J53_2 (x99 : Int) : Y15 → Option Y6 := fun (least107, l108, l109, s110, s111, l112, l113, l114) =>
 some (.inl (least107, IntKind.wrap .i64 (x99 + 1), l108, l109, s110, s111, l112, l113, l114))
noncomputable def L53_5 (t1 : Option Y0) (r88 : List Int) : (Int × Int × Int × Bool × Int × Bool × List Bool × List Int × List Int) → Option Y6 := fun (least98, x99, l100, l101, s102, s103, l104, l105, l106) =>
 bif decide (x99 < (List.length r88 : Int)) then
 ((gI r88 x99).bind fun y115 =>
 (t1).bind fun p116 =>
 (gI p116.1.1 y115).bind fun y117 =>
 (F76 y117).bind fun r118 =>
 (bif decide (least98 < 0) then
 some (.inl (true, l100, l101, s102, s103, l104, l105, l106))
 else
 some (.inl (decide (r118 < least98), l100, l101, s102, s103, l104, l105, l106))).bind (Sum.elim (J53_3 least98 r118) some)).bind (Sum.elim (J53_2 x99) some)
 else
 (some (.inl (l100, l101, IntKind.wrap .i64 (s102 + least98), s103, l104, l105, l106))).map .inr
noncomputable def J53_1 (x66 : Int) : (Int × Bool × Int × Bool × List Bool × List Int × List Int) → Option (Y15 ⊕ Y25) := fun (l74, l75, s76, s77, l78, l79, l80) =>
 some (.inl (IntKind.wrap .i64 (x66 + 1), l74, l75, s76, s77, l78, l79, l80))
noncomputable def L53_4 (t1 : Option Y0) (ch2 : List Int) (p51 : TT × List Int × List Int × List (List Int)) : Y15 → Option (Y15 ⊕ Y25) := fun (x66, l67, l68, s69, s70, l71, l72, l73) =>
 bif decide (x66 < (List.length p51.2.2.1 : Int)) then
 ((gI p51.2.2.1 x66).bind fun y81 =>
 (gI l71 y81).bind fun y82 =>
 (gI l71 y81).bind fun y83 =>
 bif !y83 then
 some (.inl (l67, l68, s69, s70, l71, l72, l73))
 else
 bif decide (List.length l72 + List.length ([y81] : List Int) ≤ 1000000) then
 (F78 t1 ch2 y81).bind fun r84 =>
 bif decide (r84 ≥ 0) then
 (t1).bind fun p85 =>
 (gI p85.1.1 r84).bind fun y86 =>
 (F76 y86).bind fun r87 =>
 some (.inl (l67, l68, IntKind.wrap .i64 (s69 + r87), s70, l71, l72 ++ ([y81] : List Int), l73))
 else
 bif decide (List.length l73 + List.length ([y81] : List Int) ≤ 1000000) then
 (F42 t1 y81).bind fun r88 =>
 loopL (L53_5 t1 r88) ((-1), 0, l67, l68, s69, s70, l71, l72 ++ ([y81] : List Int), l73 ++ ([y81] : List Int))
 else none
 else none).bind (Sum.elim (J53_1 x66) some)
 else
 ((F80 t1 ch2 l71).bind fun r127 =>
 some (l72, l73, s69, !r127)).map .inr
noncomputable def L53_1 (t1 : Option Y0) (ch2 : List Int) : Y37 → Option (Y37 ⊕ Y25) := fun (l15, l16, l17, l18) =>
 bif decide ((List.length l18 : Int) > 0) then
 (gI l18 (IntKind.wrap .i64 ((List.length l18 : Int) - 1))).bind fun y19 =>
 (gI l18 (IntKind.wrap .i64 ((List.length l18 : Int) - 1))).bind fun y20 =>
 bif decide ((0 : Int) ≤ 0 ∧ (0 : Int) ≤ IntKind.wrap .i64 ((List.length l18 : Int) - 1) ∧ IntKind.wrap .i64 ((List.length l18 : Int) - 1) ≤ (List.length l18 : Int)) then
 (F78 t1 ch2 y20).bind fun r21 =>
 bif decide (r21 ≥ 0) then
 (t1).bind fun p22 =>
 (gI p22.1.1 r21).bind fun y23 =>
 loopL (L53_2 t1 y23) (0, l15, l16, l17, slI l18 0 (IntKind.wrap .i64 ((List.length l18 : Int) - 1)))
 else
 (F79 t1 y20).bind fun r38 =>
 loopL (L53_3 r38) (0, l15, l16, l17, slI l18 0 (IntKind.wrap .i64 ((List.length l18 : Int) - 1)))
 else none
 else
 ((t1).bind fun p51 =>
 loopL (L53_4 t1 ch2 p51) (0, l15, l16, 0, false, l17, [], [])).map .inr
noncomputable def F53 (t1 : Option Y0) (ch2 : List Int) : Option Y25 :=
 bif decide ((0 : Int) ≤ (List.length ch2 : Int) ∧ ((List.length ch2 : Int) : Int) = (List.length ch2 : Int) ∧ ((List.length ch2 : Int) : Int) ≤ 1000000) then
 (t1).bind fun p3 =>
 (t1).bind fun p4 =>
 (gI p3.2.1 p4.1.2.2.2.1).bind fun y5 =>
 (F77 y5 (List.replicate (Int.toNat (List.length ch2 : Int)) false : List Bool) []).bind fun r6 =>
 (t1).bind fun p7 =>
 (t1).bind fun p8 =>
 (gI p7.2.1 p8.1.2.2.2.2.1).bind fun y9 =>
 (F77 y9 r6.1 r6.2).bind fun r10 =>
 loopL (L53_1 t1 ch2) (0, false, r10.1, r10.2)
 else none
-- 24 fulling/bound.LowerBound
noncomputable def J24_1 (ch2 : List Int) (r3 : (Option Y0) × Bool) : Bool → Option Y17 := fun x4 =>
 bif x4 then
 some ([], 0, false)
 else
 (F53 r3.1 ch2).bind fun r6 =>
 some r6.2
noncomputable def F24 (s1 : TT) (ch2 : List Int) : Option Y17 :=
 (F40 s1).bind fun r3 =>
 (bif !r3.2 then
 some (.inl true)
 else
 (F52 r3.1 ch2).bind fun r5 =>
 some (.inl (!r5))).bind (Sum.elim (J24_1 ch2 r3) some)
-- 5 fulling/fullinglaw26.BoundMatches
-- 6 fulling/fullinglaw26.BoundAdmissible
-- 7 fulling/fullinglaw26.BoundMonotone
noncomputable def J7_1 : Bool → Option Bool := fun x12 =>
 some x12
noncomputable def F7 (l1 : List Int) (pairs2 : List Int) (which3 : List Int) (mask4 : Int) (more5 : Int) : Option Bool :=
 (F9 l1 pairs2).bind fun r6 =>
 (F22 r6 which3).bind fun r7 =>
 (F23 r7 mask4).bind fun r8 =>
 (F24 r6 r8).bind fun r9 =>
 (F23 r7 (bitsI .i64 (BitVec.ofInt (IntKind.bits .i64) mask4 ||| BitVec.ofInt (IntKind.bits .i64) more5))).bind fun r10 =>
 (F24 r6 r10).bind fun r11 =>
 (bif decide (r9.2.1 ≤ r11.2.1) then
 (F26).bind fun r13 =>
 some (.inl r13)
 else
 some (.inl false)).bind (Sum.elim J7_1 some)
end Go.Dat
