/-
  What the program's functions compute, as plain functions. Printed by program.
-/
import Derived.Test.YtffkjnaocflmdaaE2Run
namespace Go.Dat
open Go.Eng
abbrev TN := List (Int × Int × List Int)
abbrev TS := List (Int × Int × Int × List Int × List Int)
abbrev TI := List (Int × Int × Int)
abbrev TP := List (Int × Int)
abbrev TT := TN × TS × TI × Int × Int × Int × Int
abbrev TQ := TN × TS × Int × Int
set_option linter.unusedVariables false
noncomputable def F3 : Option Bool := some true
-- 26 fulling/explain.inRange
noncomputable def J26_1 : Bool → Option Bool := fun x3 =>
 some x3
noncomputable def F26 (l1 : TN) (i2 : Int) : Option Bool :=
 (bif decide (i2 ≥ 0) then
 some (.inl (decide (i2 < (List.length l1 : Int))))
 else
 some (.inl false)).bind (Sum.elim J26_1 some)
-- 27 fulling/explain.shortest
noncomputable def J27_1 (x24 : Int) : (List Int × List Int) → Option ((Int × List Int × List Int) ⊕ ((Int × List Int × List Int) ⊕ (List Int × Bool))) := fun (dist27, queue28) =>
 some (.inl (IntKind.wrap .i64 (x24 + 1), dist27, queue28))
noncomputable def L27_3 (k15 : Int) (y20 : TP) : (Int × List Int × List Int) → Option ((Int × List Int × List Int) ⊕ ((Int × List Int × List Int) ⊕ (List Int × Bool))) := fun (x24, dist25, queue26) =>
 bif decide (x24 < (List.length y20 : Int)) then
 ((gI y20 x24).bind fun y29 =>
 (gI dist25 y29.1).bind fun y30 =>
 (gI dist25 y29.1).bind fun y31 =>
 bif decide (y31 < 0) then
 (gI queue26 k15).bind fun y32 =>
 (gI queue26 k15).bind fun y33 =>
 (gI dist25 y33).bind fun y34 =>
 (gI dist25 y33).bind fun y35 =>
 (gI dist25 y29.1).bind fun y36 =>
 (gI dist25 y29.1).bind fun y37 =>
 bif decide (List.length queue26 + List.length ([y29.1] : List Int) ≤ 1000000) then
 some (.inl (setI dist25 y29.1 (IntKind.wrap .i64 (y35 + 1)), queue26 ++ ([y29.1] : List Int)))
 else none
 else
 some (.inl (dist25, queue26))).bind (Sum.elim (J27_1 x24) some)
 else
 (some (.inl (IntKind.wrap .i64 (k15 + 1), dist25, queue26))).map .inr
noncomputable def L27_5 (y48 : TP) : (Int × Int × List Int × List Int) → Option ((Int × Int × List Int × List Int) ⊕ ((Int × List Int × List Int) ⊕ (List Int × Bool))) := fun (a53, x54, dist55, out56) =>
 bif decide (x54 < (List.length y48 : Int)) then
 (gI y48 x54).bind fun y57 =>
 (gI dist55 y57.1).bind fun y58 =>
 (gI dist55 y57.1).bind fun y59 =>
 (gI dist55 a53).bind fun y60 =>
 (gI dist55 a53).bind fun y61 =>
 bif y59 == (IntKind.wrap .i64 (y61 - 1)) then
 bif decide (List.length out56 + List.length ([y57.2] : List Int) ≤ 1000000) then
 (some (.inl (y57.1, dist55, out56 ++ ([y57.2] : List Int)))).map .inr
 else none
 else
 some (.inl (a53, IntKind.wrap .i64 (x54 + 1), dist55, out56))
 else
 (some (.inl (a53, dist55, out56))).map .inr
noncomputable def L27_4 (all1 : List TP) (b3 : Int) : (Int × List Int × List Int) → Option ((Int × List Int × List Int) ⊕ (List Int × Bool)) := fun (a45, dist46, out47) =>
 bif a45 != b3 then
 (gI all1 a45).bind fun y48 =>
 loopL (L27_5 y48) (a45, 0, dist46, out47)
 else
 (some (out47, true)).map .inr
noncomputable def L27_2 (all1 : List TP) (a2 : Int) (b3 : Int) : (Int × List Int × List Int) → Option ((Int × List Int × List Int) ⊕ (List Int × Bool)) := fun (k15, dist16, queue17) =>
 bif decide (k15 < (List.length queue17 : Int)) then
 (gI queue17 k15).bind fun y18 =>
 (gI queue17 k15).bind fun y19 =>
 (gI all1 y19).bind fun y20 =>
 loopL (L27_3 k15 y20) (0, dist16, queue17)
 else
 ((gI dist16 a2).bind fun y38 =>
 (gI dist16 a2).bind fun y39 =>
 bif decide (y39 < 0) then
 some ([], false)
 else
 loopL (L27_4 all1 b3) (a2, dist16, [])).map .inr
noncomputable def L27_1 (all1 : List TP) (a2 : Int) (b3 : Int) : (Int × List Int) → Option ((Int × List Int) ⊕ (List Int × Bool)) := fun (x6, dist7) =>
 bif decide (x6 < (List.length (List.replicate (Int.toNat (List.length all1 : Int)) 0 : List Int) : Int)) then
 (gI dist7 x6).bind fun y8 =>
 (gI dist7 x6).bind fun y9 =>
 some (.inl (IntKind.wrap .i64 (x6 + 1), setI dist7 x6 (-1)))
 else
 ((gI dist7 b3).bind fun y10 =>
 (gI dist7 b3).bind fun y11 =>
 loopL (L27_2 all1 a2 b3) (0, setI dist7 b3 0, ([b3] : List Int))).map .inr
noncomputable def F27 (all1 : List TP) (a2 : Int) (b3 : Int) : Option (List Int × Bool) :=
 bif decide ((0 : Int) ≤ (List.length all1 : Int) ∧ ((List.length all1 : Int) : Int) = (List.length all1 : Int) ∧ ((List.length all1 : Int) : Int) ≤ 1000000) then
 loopL (L27_1 all1 a2 b3) (0, (List.replicate (Int.toNat (List.length all1 : Int)) 0 : List Int))
 else none
-- 28 fulling/explain.edges
noncomputable def J28_3 (x6 : Int) (y9 : Int × Int × Int × List Int × List Int) : (Bool × List TP) → Option ((List TP) ⊕ ((Int × List TP) ⊕ ((List TP) ⊕ (List TP)))) := fun (x10, out11) =>
 bif x10 then
 some (.inl out11)
 else
 (gI out11 y9.1).bind fun y14 =>
 (gI out11 y9.1).bind fun y15 =>
 bif decide (List.length y15 + List.length ([(y9.2.1, x6)] : TP) ≤ 1000000) then
 (gI out11 y9.1).bind fun y16 =>
 (gI out11 y9.1).bind fun y17 =>
 bif decide (y9.1 = y9.1) then
 (gI (setI out11 y9.1 (y15 ++ ([(y9.2.1, x6)] : TP))) y9.2.1).bind fun y18 =>
 (gI (setI out11 y9.1 (y15 ++ ([(y9.2.1, x6)] : TP))) y9.2.1).bind fun y19 =>
 bif decide (List.length y19 + List.length ([(y9.1, x6)] : TP) ≤ 1000000) then
 (gI (setI out11 y9.1 (y15 ++ ([(y9.2.1, x6)] : TP))) y9.2.1).bind fun y20 =>
 (gI (setI out11 y9.1 (y15 ++ ([(y9.2.1, x6)] : TP))) y9.2.1).bind fun y21 =>
 bif decide (y9.2.1 = y9.2.1) then
 some (.inl (setI (setI out11 y9.1 (y15 ++ ([(y9.2.1, x6)] : TP))) y9.2.1 (y19 ++ ([(y9.1, x6)] : TP))))
 else none
 else none
 else none
 else none
noncomputable def J28_2 (x6 : Int) : (List TP) → Option ((Int × List TP) ⊕ ((List TP) ⊕ (List TP))) := fun out8 =>
 some (.inl (IntKind.wrap .i64 (x6 + 1), out8))
noncomputable def L28_1 (s1 : TN × TS × TI × Int × Int × Int × Int) (below2 : Int) : (Int × List TP) → Option ((Int × List TP) ⊕ ((List TP) ⊕ (List TP))) := fun (x6, out7) =>
 bif decide (x6 < (List.length s1.2.1 : Int)) then
 ((gI s1.2.1 x6).bind fun y9 =>
 bif decide (x6 ≥ below2) then
 ((some (.inl out7)).map .inr).map .inr
 else
 ((F26 s1.1 y9.1).bind fun r12 =>
 bif !r12 then
 some (.inl (true, out7))
 else
 (F26 s1.1 y9.2.1).bind fun r13 =>
 some (.inl (!r13, out7))).bind (Sum.elim (J28_3 x6 y9) some)).bind (Sum.elim (J28_2 x6) some)
 else
 (some (.inl out7)).map .inr
noncomputable def J28_1 : (List TP) → Option (List TP) := fun out3 =>
 some out3
noncomputable def F28 (s1 : TN × TS × TI × Int × Int × Int × Int) (below2 : Int) : Option (List TP) :=
 bif decide ((0 : Int) ≤ (List.length s1.1 : Int) ∧ ((List.length s1.1 : Int) : Int) = (List.length s1.1 : Int) ∧ ((List.length s1.1 : Int) : Int) ≤ 1000000) then
 (loopL (L28_1 s1 below2) (0, (List.replicate (Int.toNat (List.length s1.1 : Int)) [] : List TP))).bind (Sum.elim J28_1 some)
 else none
-- 8 fulling/explain.Path
noncomputable def J8_1 (s1 : TN × TS × TI × Int × Int × Int × Int) (a2 : Int) (b3 : Int) (below4 : Int) : Bool → Option (List Int × Bool) := fun x5 =>
 bif x5 then
 some ([], false)
 else
 (F28 s1 below4).bind fun r8 =>
 (F27 r8 a2 b3).bind fun r9 =>
 some r9
noncomputable def F8 (s1 : TN × TS × TI × Int × Int × Int × Int) (a2 : Int) (b3 : Int) (below4 : Int) : Option (List Int × Bool) :=
 ((F26 s1.1 a2).bind fun r6 =>
 bif !r6 then
 some (.inl true)
 else
 (F26 s1.1 b3).bind fun r7 =>
 some (.inl (!r7))).bind (Sum.elim (J8_1 s1 a2 b3 below4) some)
-- 33 fulling/explain.Dependencies$1
noncomputable def J33_2 (y40 : Int) : (Bool × TN × TS × TI × Int × Int × Int × Int × List Bool × List Int) → Option ((TN × TS × TI × Int × Int × Int × Int × List Bool × List Int) ⊕ ((Int × TN × TS × TI × Int × Int × Int × Int × List Bool × List Int) ⊕ (TN × TS × TI × Int × Int × Int × Int × List Bool × List Int))) := fun (x41, l42, l43, l44, l45, l46, l47, l48, l49, l50) =>
 bif x41 then
 some (.inl (l42, l43, l44, l45, l46, l47, l48, l49, l50))
 else
 (gI l49 y40).bind fun y57 =>
 (gI l49 y40).bind fun y58 =>
 bif decide (List.length l50 + List.length ([y40] : List Int) ≤ 1000000) then
 some (.inl (l42, l43, l44, l45, l46, l47, l48, setI l49 y40 true, l50 ++ ([y40] : List Int)))
 else none
noncomputable def J33_1 (x21 : Int) : (TN × TS × TI × Int × Int × Int × Int × List Bool × List Int) → Option ((Int × TN × TS × TI × Int × Int × Int × Int × List Bool × List Int) ⊕ (TN × TS × TI × Int × Int × Int × Int × List Bool × List Int)) := fun (l31, l32, l33, l34, l35, l36, l37, l38, l39) =>
 some (.inl (IntKind.wrap .i64 (x21 + 1), l31, l32, l33, l34, l35, l36, l37, l38, l39))
noncomputable def L33_1 (l1 : List Int) : (Int × TN × TS × TI × Int × Int × Int × Int × List Bool × List Int) → Option ((Int × TN × TS × TI × Int × Int × Int × Int × List Bool × List Int) ⊕ (TN × TS × TI × Int × Int × Int × Int × List Bool × List Int)) := fun (x21, l22, l23, l24, l25, l26, l27, l28, l29, l30) =>
 bif decide (x21 < (List.length l1 : Int)) then
 ((gI l1 x21).bind fun y40 =>
 (bif decide (y40 < 0) then
 some (.inl (true, l22, l23, l24, l25, l26, l27, l28, l29, l30))
 else
 bif decide (y40 ≥ (List.length l23 : Int)) then
 some (.inl (true, l22, l23, l24, l25, l26, l27, l28, l29, l30))
 else
 (gI l29 y40).bind fun y51 =>
 (gI l29 y40).bind fun y52 =>
 bif y52 then
 some (.inl (true, l22, l23, l24, l25, l26, l27, l28, l29, l30))
 else
 (gI l23 y40).bind fun y53 =>
 (F26 l22 y53.1).bind fun r54 =>
 bif !r54 then
 some (.inl (true, l22, l23, l24, l25, l26, l27, l28, l29, l30))
 else
 (gI l23 y40).bind fun y55 =>
 (F26 l22 y55.2.1).bind fun r56 =>
 some (.inl (!r56, l22, l23, l24, l25, l26, l27, l28, l29, l30))).bind (Sum.elim (J33_2 y40) some)).bind (Sum.elim (J33_1 x21) some)
 else
 (some (l22, l23, l24, l25, l26, l27, l28, l29, l30)).map .inr
noncomputable def F33 (l1 : List Int) (l2 : TN) (l3 : TS) (l4 : TI) (l5 : Int) (l6 : Int) (l7 : Int) (l8 : Int) (l9 : List Bool) (l10 : List Int) : Option (TN × TS × TI × Int × Int × Int × Int × List Bool × List Int) :=
 loopL (L33_1 l1) (0, l2, l3, l4, l5, l6, l7, l8, l9, l10)
-- 11 fulling/explain.Dependencies
noncomputable def J11_3 (y26 : Int × Int × List Int) (y28 : Int × Int × List Int) (r29 : List TP) (k40 : Int) : (Bool × TN × TS × TI × Int × Int × Int × Int × List Bool × List Int) → Option ((TN × TS × TI × Int × Int × Int × Int × List Bool × List Int) ⊕ ((Int × TN × TS × TI × Int × Int × Int × Int × List Bool × List Int) ⊕ ((TN × TS × TI × Int × Int × Int × Int × List Bool × List Int) ⊕ (List Int)))) := fun (x69, s70, s71, s72, s73, s74, s75, s76, l77, l78) =>
 bif x69 then
 (gI y26.2.2 k40).bind fun y83 =>
 (gI y28.2.2 k40).bind fun y84 =>
 (F27 r29 y83 y84).bind fun r85 =>
 bif r85.2 then
 (F33 r85.1 s70 s71 s72 s73 s74 s75 s76 l77 l78).bind fun r86 =>
 some (.inl r86)
 else
 some (.inl (s70, s71, s72, s73, s74, s75, s76, l77, l78))
 else
 some (.inl (s70, s71, s72, s73, s74, s75, s76, l77, l78))
noncomputable def J11_2 (k40 : Int) : (TN × TS × TI × Int × Int × Int × Int × List Bool × List Int) → Option ((Int × TN × TS × TI × Int × Int × Int × Int × List Bool × List Int) ⊕ ((TN × TS × TI × Int × Int × Int × Int × List Bool × List Int) ⊕ (List Int))) := fun (s60, s61, s62, s63, s64, s65, s66, l67, l68) =>
 some (.inl (IntKind.wrap .i64 (k40 + 1), s60, s61, s62, s63, s64, s65, s66, l67, l68))
noncomputable def J11_1 (y26 : Int × Int × List Int) (y28 : Int × Int × List Int) (r29 : List TP) (k40 : Int) : (Bool × TN × TS × TI × Int × Int × Int × Int × List Bool × List Int) → Option ((Int × TN × TS × TI × Int × Int × Int × Int × List Bool × List Int) ⊕ ((TN × TS × TI × Int × Int × Int × Int × List Bool × List Int) ⊕ (List Int))) := fun (x50, s51, s52, s53, s54, s55, s56, s57, l58, l59) =>
 bif x50 then
 (((gI y26.2.2 k40).bind fun y79 =>
 (F26 s51 y79).bind fun r80 =>
 bif r80 then
 (gI y28.2.2 k40).bind fun y81 =>
 (F26 s51 y81).bind fun r82 =>
 some (.inl (r82, s51, s52, s53, s54, s55, s56, s57, l58, l59))
 else
 some (.inl (false, s51, s52, s53, s54, s55, s56, s57, l58, l59))).bind (Sum.elim (J11_3 y26 y28 r29 k40) some)).bind (Sum.elim (J11_2 k40) some)
 else
 (some (.inl (s51, s52, s53, s54, s55, s56, s57, l58, l59))).map .inr
noncomputable def L11_2 (y26 : Int × Int × List Int) (y28 : Int × Int × List Int) (r29 : List TP) : (Int × TN × TS × TI × Int × Int × Int × Int × List Bool × List Int) → Option ((Int × TN × TS × TI × Int × Int × Int × Int × List Bool × List Int) ⊕ ((TN × TS × TI × Int × Int × Int × Int × List Bool × List Int) ⊕ (List Int))) := fun (k40, s41, s42, s43, s44, s45, s46, s47, l48, l49) =>
 (bif decide (k40 < (List.length y26.2.2 : Int)) then
 some (.inl (decide (k40 < (List.length y28.2.2 : Int)), s41, s42, s43, s44, s45, s46, s47, l48, l49))
 else
 some (.inl (false, s41, s42, s43, s44, s45, s46, s47, l48, l49))).bind (Sum.elim (J11_1 y26 y28 r29 k40) some)
noncomputable def J11_4 (x92 : Int) : (List Int × List Bool) → Option ((Int × List Int × List Bool) ⊕ (List Int)) := fun (out95, l96) =>
 some (.inl (IntKind.wrap .i64 (x92 + 1), out95, l96))
noncomputable def L11_3 (l20 : List Bool) : (Int × List Int × List Bool) → Option ((Int × List Int × List Bool) ⊕ (List Int)) := fun (x92, out93, l94) =>
 bif decide (x92 < (List.length l20 : Int)) then
 ((gI l94 x92).bind fun y97 =>
 (gI l94 x92).bind fun y98 =>
 bif y98 then
 bif decide (List.length out93 + List.length ([x92] : List Int) ≤ 1000000) then
 some (.inl (out93 ++ ([x92] : List Int), l94))
 else none
 else
 some (.inl (out93, l94))).bind (Sum.elim (J11_4 x92) some)
 else
 (some out93).map .inr
noncomputable def L11_1 : (TN × TS × TI × Int × Int × Int × Int × List Bool × List Int) → Option ((TN × TS × TI × Int × Int × Int × Int × List Bool × List Int) ⊕ (List Int)) := fun (s13, s14, s15, s16, s17, s18, s19, l20, l21) =>
 bif decide ((List.length l21 : Int) > 0) then
 (gI l21 (IntKind.wrap .i64 ((List.length l21 : Int) - 1))).bind fun y22 =>
 (gI l21 (IntKind.wrap .i64 ((List.length l21 : Int) - 1))).bind fun y23 =>
 bif decide ((0 : Int) ≤ 0 ∧ (0 : Int) ≤ IntKind.wrap .i64 ((List.length l21 : Int) - 1) ∧ IntKind.wrap .i64 ((List.length l21 : Int) - 1) ≤ (List.length l21 : Int)) then
 (gI s14 y23).bind fun y24 =>
 bif y24.2.2.1 != 0 then
 some (.inl (s13, s14, s15, s16, s17, s18, s19, l20, slI l21 0 (IntKind.wrap .i64 ((List.length l21 : Int) - 1))))
 else
 (gI s14 y23).bind fun y25 =>
 (gI s13 y25.1).bind fun y26 =>
 (gI s14 y23).bind fun y27 =>
 (gI s13 y27.2.1).bind fun y28 =>
 (F28 (s13, s14, s15, s16, s17, s18, s19) y23).bind fun r29 =>
 loopL (L11_2 y26 y28 r29) (0, s13, s14, s15, s16, s17, s18, s19, l20, slI l21 0 (IntKind.wrap .i64 ((List.length l21 : Int) - 1)))
 else none
 else
 (loopL (L11_3 l20) (0, [], l20)).map .inr
noncomputable def F11 (s1 : TN × TS × TI × Int × Int × Int × Int) (l2 : List Int) : Option (List Int) :=
 bif decide ((0 : Int) ≤ (List.length s1.2.1 : Int) ∧ ((List.length s1.2.1 : Int) : Int) = (List.length s1.2.1 : Int) ∧ ((List.length s1.2.1 : Int) : Int) ≤ 1000000) then
 (F33 l2 s1.1 s1.2.1 s1.2.2.1 s1.2.2.2.1 s1.2.2.2.2.1 s1.2.2.2.2.2.1 s1.2.2.2.2.2.2 (List.replicate (Int.toNat (List.length s1.2.1 : Int)) false : List Bool) []).bind fun r3 =>
 loopL L11_1 r3
 else none
-- 31 fulling/explain.renumber
noncomputable def J31_1 (x6 : Int) : (Int × List Int) → Option ((Int × Int × List Int) ⊕ (List Int)) := fun (next8, out9) =>
 some (.inl (next8, IntKind.wrap .i64 (x6 + 1), out9))
noncomputable def L31_1 (in1 : List Bool) : (Int × Int × List Int) → Option ((Int × Int × List Int) ⊕ (List Int)) := fun (next5, x6, out7) =>
 bif decide (x6 < (List.length (List.replicate (Int.toNat (List.length in1 : Int)) 0 : List Int) : Int)) then
 ((gI out7 x6).bind fun y10 =>
 (gI out7 x6).bind fun y11 =>
 (gI in1 x6).bind fun y12 =>
 bif y12 then
 (gI (setI out7 x6 (-1)) x6).bind fun y13 =>
 (gI (setI out7 x6 (-1)) x6).bind fun y14 =>
 some (.inl (IntKind.wrap .i64 (next5 + 1), setI (setI out7 x6 (-1)) x6 next5))
 else
 some (.inl (next5, setI out7 x6 (-1)))).bind (Sum.elim (J31_1 x6) some)
 else
 (some out7).map .inr
noncomputable def F31 (in1 : List Bool) : Option (List Int) :=
 bif decide ((0 : Int) ≤ (List.length in1 : Int) ∧ ((List.length in1 : Int) : Int) = (List.length in1 : Int) ∧ ((List.length in1 : Int) : Int) ≤ 1000000) then
 loopL (L31_1 in1) (0, 0, (List.replicate (Int.toNat (List.length in1 : Int)) 0 : List Int))
 else none
-- 46 fulling/explain.translate
noncomputable def J46_2 (num2 : List Int) (y9 : Int) : (Bool × List Int) → Option ((List Int) ⊕ ((Int × List Int) ⊕ (List Int))) := fun (x10, out11) =>
 bif x10 then
 (gI num2 y9).bind fun y12 =>
 bif decide (List.length out11 + List.length ([y12] : List Int) ≤ 1000000) then
 some (.inl (out11 ++ ([y12] : List Int)))
 else none
 else
 bif decide (List.length out11 + List.length ([(-1)] : List Int) ≤ 1000000) then
 some (.inl (out11 ++ ([(-1)] : List Int)))
 else none
noncomputable def J46_1 (x6 : Int) : (List Int) → Option ((Int × List Int) ⊕ (List Int)) := fun out8 =>
 some (.inl (IntKind.wrap .i64 (x6 + 1), out8))
noncomputable def L46_1 (l1 : List Int) (num2 : List Int) : (Int × List Int) → Option ((Int × List Int) ⊕ (List Int)) := fun (x6, out7) =>
 bif decide (x6 < (List.length l1 : Int)) then
 ((gI l1 x6).bind fun y9 =>
 (bif decide (y9 ≥ 0) then
 some (.inl (decide (y9 < (List.length num2 : Int)), out7))
 else
 some (.inl (false, out7))).bind (Sum.elim (J46_2 num2 y9) some)).bind (Sum.elim (J46_1 x6) some)
 else
 (some out7).map .inr
noncomputable def F46 (l1 : List Int) (num2 : List Int) : Option (List Int) :=
 loopL (L46_1 l1 num2) (0, [])
-- 32 fulling/explain.subset
noncomputable def J32_1 (x8 : Int) : TN → Option ((Int × TN) ⊕ (TN × TS)) := fun nodes10 =>
 some (.inl (IntKind.wrap .i64 (x8 + 1), nodes10))
noncomputable def L32_2 (s1 : TN × TS × TI × Int × Int × Int × Int) (steps2 : List Int) (num4 : List Int) : (Int × TN × TS) → Option ((Int × TN × TS) ⊕ (TN × TS)) := fun (x19, nodes20, out21) =>
 bif decide (x19 < (List.length steps2 : Int)) then
 (gI steps2 x19).bind fun y22 =>
 (gI s1.2.1 y22).bind fun y23 =>
 (gI num4 y23.1).bind fun y24 =>
 (gI num4 y23.2.1).bind fun y25 =>
 (F46 y23.2.2.2.1 num4).bind fun r26 =>
 bif decide (List.length ([] : List Int) + List.length y23.2.2.2.2 ≤ 1000000) then
 bif decide (List.length out21 + List.length ([(y24, y25, y23.2.2.1, r26, ([] : List Int) ++ y23.2.2.2.2)] : TS) ≤ 1000000) then
 some (.inl (IntKind.wrap .i64 (x19 + 1), nodes20, out21 ++ ([(y24, y25, y23.2.2.1, r26, ([] : List Int) ++ y23.2.2.2.2)] : TS)))
 else none
 else none
 else
 (some (nodes20, out21)).map .inr
noncomputable def L32_1 (s1 : TN × TS × TI × Int × Int × Int × Int) (steps2 : List Int) (in3 : List Bool) (num4 : List Int) : (Int × TN) → Option ((Int × TN) ⊕ (TN × TS)) := fun (x8, nodes9) =>
 bif decide (x8 < (List.length s1.1 : Int)) then
 ((gI s1.1 x8).bind fun y11 =>
 (gI in3 x8).bind fun y12 =>
 bif y12 then
 (F46 y11.2.2 num4).bind fun r13 =>
 bif decide (List.length nodes9 + List.length ([(y11.1, y11.2.1, r13)] : TN) ≤ 1000000) then
 some (.inl (nodes9 ++ ([(y11.1, y11.2.1, r13)] : TN)))
 else none
 else
 some (.inl nodes9)).bind (Sum.elim (J32_1 x8) some)
 else
 (loopL (L32_2 s1 steps2 num4) (0, nodes9, [])).map .inr
noncomputable def F32 (s1 : TN × TS × TI × Int × Int × Int × Int) (steps2 : List Int) (in3 : List Bool) (num4 : List Int) : Option (TN × TS) :=
 loopL (L32_1 s1 steps2 in3 num4) (0, [])
-- 29 fulling/explain.mark
noncomputable def J29_1 (l1 : TN) (y9 : Int) : (Bool × List Bool × List Int) → Option ((List Bool × List Int) ⊕ (List Bool)) := fun (x10, in11, stack12) =>
 bif x10 then
 some (.inl (in11, stack12))
 else
 (gI in11 y9).bind fun y16 =>
 (gI in11 y9).bind fun y17 =>
 (gI l1 y9).bind fun y18 =>
 bif decide (List.length stack12 + List.length y18.2.2 ≤ 1000000) then
 some (.inl (setI in11 y9 true, stack12 ++ y18.2.2))
 else none
noncomputable def L29_1 (l1 : TN) : (List Bool × List Int) → Option ((List Bool × List Int) ⊕ (List Bool)) := fun (in6, stack7) =>
 bif decide ((List.length stack7 : Int) > 0) then
 (gI stack7 (IntKind.wrap .i64 ((List.length stack7 : Int) - 1))).bind fun y8 =>
 (gI stack7 (IntKind.wrap .i64 ((List.length stack7 : Int) - 1))).bind fun y9 =>
 bif decide ((0 : Int) ≤ 0 ∧ (0 : Int) ≤ IntKind.wrap .i64 ((List.length stack7 : Int) - 1) ∧ IntKind.wrap .i64 ((List.length stack7 : Int) - 1) ≤ (List.length stack7 : Int)) then
 ((F26 l1 y9).bind fun r13 =>
 bif !r13 then
 some (.inl (true, in6, slI stack7 0 (IntKind.wrap .i64 ((List.length stack7 : Int) - 1))))
 else
 (gI in6 y9).bind fun y14 =>
 (gI in6 y9).bind fun y15 =>
 some (.inl (y15, in6, slI stack7 0 (IntKind.wrap .i64 ((List.length stack7 : Int) - 1))))).bind (Sum.elim (J29_1 l1 y9) some)
 else none
 else
 (some in6).map .inr
noncomputable def F29 (l1 : TN) (i2 : Int) (in3 : List Bool) : Option (List Bool) :=
 loopL (L29_1 l1) (in3, ([i2] : List Int))
-- 30 fulling/explain.markSteps
noncomputable def L30_2 (s1 : TN) (x12 : Int) (y15 : Int × Int × Int × List Int × List Int) : (Int × List Bool) → Option ((Int × List Bool) ⊕ ((Int × List Bool) ⊕ (List Bool))) := fun (x20, in21) =>
 bif decide (x20 < (List.length y15.2.2.2.1 : Int)) then
 (gI y15.2.2.2.1 x20).bind fun y22 =>
 (F29 s1 y22 in21).bind fun r23 =>
 some (.inl (IntKind.wrap .i64 (x20 + 1), r23))
 else
 (some (.inl (IntKind.wrap .i64 (x12 + 1), in21))).map .inr
noncomputable def L30_1 (s1 : TN) (s2 : TS) (steps8 : List Int) : (Int × List Bool) → Option ((Int × List Bool) ⊕ (List Bool)) := fun (x12, in13) =>
 bif decide (x12 < (List.length steps8 : Int)) then
 (gI steps8 x12).bind fun y14 =>
 (gI s2 y14).bind fun y15 =>
 (F29 s1 y15.1 in13).bind fun r16 =>
 (F29 s1 y15.2.1 r16).bind fun r17 =>
 loopL (L30_2 s1 x12 y15) (0, r17)
 else
 (some in13).map .inr
noncomputable def F30 (s1 : TN) (s2 : TS) (s3 : TI) (s4 : Int) (s5 : Int) (s6 : Int) (s7 : Int) (steps8 : List Int) (in9 : List Bool) : Option (List Bool) :=
 loopL (L30_1 s1 s2 steps8) (0, in9)
-- 9 fulling/explain.Prove
noncomputable def F9 (s1 : TN × TS × TI × Int × Int × Int × Int) (a2 : Int) (b3 : Int) : Option (TQ × Bool) :=
 (F8 s1 a2 b3 (List.length s1.2.1 : Int)).bind fun r4 =>
 bif !r4.2 then
 some (([], [], 0, 0), false)
 else
 (F11 s1 r4.1).bind fun r5 =>
 bif decide ((0 : Int) ≤ (List.length s1.1 : Int) ∧ ((List.length s1.1 : Int) : Int) = (List.length s1.1 : Int) ∧ ((List.length s1.1 : Int) : Int) ≤ 1000000) then
 (F29 s1.1 a2 (List.replicate (Int.toNat (List.length s1.1 : Int)) false : List Bool)).bind fun r6 =>
 (F29 s1.1 b3 r6).bind fun r7 =>
 (F30 s1.1 s1.2.1 s1.2.2.1 s1.2.2.2.1 s1.2.2.2.2.1 s1.2.2.2.2.2.1 s1.2.2.2.2.2.2 r5 r7).bind fun r8 =>
 (F31 r8).bind fun r9 =>
 (F32 s1 r5 r8 r9).bind fun r10 =>
 (gI r9 a2).bind fun y11 =>
 (gI r9 b3).bind fun y12 =>
 some ((r10.1, r10.2, y11, y12), true)
 else none
-- 10 fulling/fullingref22.SameInts
noncomputable def L10_1 (a1 : List Int) (b2 : List Int) : Int → Option (Int ⊕ Bool) := fun i4 =>
 bif decide (i4 < (List.length a1 : Int)) then
 (gI a1 i4).bind fun y5 =>
 (gI b2 i4).bind fun y6 =>
 bif y5 != y6 then
 (some false).map .inr
 else
 some (.inl (IntKind.wrap .i64 (i4 + 1)))
 else
 (some true).map .inr
noncomputable def F10 (a1 : List Int) (b2 : List Int) : Option Bool :=
 bif (List.length a1 : Int) != (List.length b2 : Int) then
 some false
 else
 loopL (L10_1 a1 b2) 0
-- 34 (fulling/explain.sets).find
noncomputable def L34_1 : (Int × List Int) → Option ((Int × List Int) ⊕ (Int × List Int)) := fun (i5, u6) =>
 (gI u6 i5).bind fun y7 =>
 (gI u6 i5).bind fun y8 =>
 bif y8 != i5 then
 (gI u6 i5).bind fun y9 =>
 (gI u6 i5).bind fun y10 =>
 (gI u6 y10).bind fun y11 =>
 (gI u6 y10).bind fun y12 =>
 (gI u6 i5).bind fun y13 =>
 (gI u6 i5).bind fun y14 =>
 (gI (setI u6 i5 y12) i5).bind fun y15 =>
 (gI (setI u6 i5 y12) i5).bind fun y16 =>
 some (.inl (y16, setI u6 i5 y12))
 else
 (some (i5, u6)).map .inr
noncomputable def F34 (i1 : Int) (u2 : List Int) : Option (Int × List Int) :=
 loopL L34_1 (i1, u2)
-- 12 fulling/explain.Connects
noncomputable def J12_4 (x24 : Int) : (Bool × List Int) → Option ((Int × List Int) ⊕ ((List Int) ⊕ ((Int × List Int) ⊕ Bool))) := fun (x26, u27) =>
 bif x26 then
 (((some false).map .inr).map .inr).map .inr
 else
 some (.inl (IntKind.wrap .i64 (x24 + 1), u27))
noncomputable def L12_3 (p1 : TN × TS × Int × Int) (y18 : Int × Int × List Int) (y19 : Int × Int × List Int) : (Int × List Int) → Option ((Int × List Int) ⊕ ((List Int) ⊕ ((Int × List Int) ⊕ Bool))) := fun (x24, u25) =>
 bif decide (x24 < (List.length y18.2.2 : Int)) then
 ((gI y18.2.2 x24).bind fun y28 =>
 (F26 p1.1 y28).bind fun r29 =>
 bif !r29 then
 some (.inl (true, u25))
 else
 (gI y19.2.2 x24).bind fun y30 =>
 (F26 p1.1 y30).bind fun r31 =>
 bif !r31 then
 some (.inl (true, u25))
 else
 (gI y18.2.2 x24).bind fun y32 =>
 (gI y19.2.2 x24).bind fun y33 =>
 (F34 y32 u25).bind fun r34 =>
 (F34 y33 r34.2).bind fun r35 =>
 some (.inl (r34.1 != r35.1, r35.2))).bind (Sum.elim (J12_4 x24) some)
 else
 (some (.inl u25)).map .inr
noncomputable def J12_3 (p1 : TN × TS × Int × Int) (y18 : Int × Int × List Int) (y19 : Int × Int × List Int) : (Bool × List Int) → Option ((List Int) ⊕ ((Int × List Int) ⊕ Bool)) := fun (x20, u21) =>
 bif x20 then
 ((some false).map .inr).map .inr
 else
 loopL (L12_3 p1 y18 y19) (0, u21)
noncomputable def J12_2 (x10 : Int) (y12 : Int × Int × Int × List Int × List Int) : (List Int) → Option ((Int × List Int) ⊕ Bool) := fun u17 =>
 (F34 y12.1 u17).bind fun r36 =>
 (F34 y12.2.1 r36.2).bind fun r37 =>
 (gI r37.2 r36.1).bind fun y38 =>
 (gI r37.2 r36.1).bind fun y39 =>
 some (.inl (IntKind.wrap .i64 (x10 + 1), setI r37.2 r36.1 r37.1))
noncomputable def J12_1 (p1 : TN × TS × Int × Int) (x10 : Int) (y12 : Int × Int × Int × List Int × List Int) : (Bool × List Int) → Option ((Int × List Int) ⊕ Bool) := fun (x13, u14) =>
 bif x13 then
 (some false).map .inr
 else
 (bif y12.2.2.1 == 0 then
 (gI p1.1 y12.1).bind fun y18 =>
 (gI p1.1 y12.2.1).bind fun y19 =>
 (bif y18.1 != y19.1 then
 some (.inl (true, u14))
 else
 bif y18.2.1 != y19.2.1 then
 some (.inl (true, u14))
 else
 some (.inl ((List.length y18.2.2 : Int) != (List.length y19.2.2 : Int), u14))).bind (Sum.elim (J12_3 p1 y18 y19) some)
 else
 some (.inl u14)).bind (Sum.elim (J12_2 x10 y12) some)
noncomputable def J12_5 : Bool → Option Bool := fun x40 =>
 some x40
noncomputable def L12_2 (p1 : TN × TS × Int × Int) : (Int × List Int) → Option ((Int × List Int) ⊕ Bool) := fun (x10, u11) =>
 bif decide (x10 < (List.length p1.2.1 : Int)) then
 (gI p1.2.1 x10).bind fun y12 =>
 ((F26 p1.1 y12.1).bind fun r15 =>
 bif !r15 then
 some (.inl (true, u11))
 else
 (F26 p1.1 y12.2.1).bind fun r16 =>
 some (.inl (!r16, u11))).bind (Sum.elim (J12_1 p1 x10 y12) some)
 else
 (((F26 p1.1 p1.2.2.1).bind fun r41 =>
 bif r41 then
 (F26 p1.1 p1.2.2.2).bind fun r42 =>
 bif r42 then
 (F34 p1.2.2.1 u11).bind fun r43 =>
 (F34 p1.2.2.2 r43.2).bind fun r44 =>
 some (.inl (r43.1 == r44.1))
 else
 some (.inl false)
 else
 some (.inl false)).bind (Sum.elim J12_5 some)).map .inr
noncomputable def L12_1 (p1 : TN × TS × Int × Int) : (Int × List Int) → Option ((Int × List Int) ⊕ Bool) := fun (x4, u5) =>
 bif decide (x4 < (List.length (List.replicate (Int.toNat (List.length p1.1 : Int)) 0 : List Int) : Int)) then
 (gI u5 x4).bind fun y6 =>
 (gI u5 x4).bind fun y7 =>
 some (.inl (IntKind.wrap .i64 (x4 + 1), setI u5 x4 x4))
 else
 (loopL (L12_2 p1) (0, u5)).map .inr
noncomputable def F12 (p1 : TN × TS × Int × Int) : Option Bool :=
 bif decide ((0 : Int) ≤ (List.length p1.1 : Int) ∧ ((List.length p1.1 : Int) : Int) = (List.length p1.1 : Int) ∧ ((List.length p1.1 : Int) : Int) ≤ 1000000) then
 loopL (L12_1 p1) (0, (List.replicate (Int.toNat (List.length p1.1 : Int)) 0 : List Int))
 else none
-- 15 fulling/fullingkeep.Pick
noncomputable def J15_1 : Int → Option Int := fun n3 =>
 some n3
noncomputable def F15 (n1 : Int) (m2 : Int) : Option Int :=
 bif decide (m2 = 0) then none else
 (bif decide ((Int.tmod n1 m2) < 0) then
 some (.inl (IntKind.wrap .i64 ((Int.tmod n1 m2) + m2)))
 else
 some (.inl (Int.tmod n1 m2))).bind (Sum.elim J15_1 some)
-- 49 fulling/fullingkeep.Word
noncomputable def F49 (n1 : Int) (raw2 : Int) : Option Int :=
 (F15 n1 24).bind fun r3 =>
 bif decide (r3 < 10) then
 (gI ([0, 1, (-1), 2, (-9223372036854775808), 9223372036854775807, 4294967296, (-2147483648), 63, 64] : List Int) r3).bind fun y4 =>
 (gI ([0, 1, (-1), 2, (-9223372036854775808), 9223372036854775807, 4294967296, (-2147483648), 63, 64] : List Int) r3).bind fun y5 =>
 some y5
 else
 bif decide (r3 < 22) then
 (F15 (IntKind.wrap .i64 (Int.tdiv n1 24)) 17).bind fun r6 =>
 some (IntKind.wrap .i64 (r6 - 6))
 else
 some raw2
-- 50 fulling/fullingref7.Arity
noncomputable def J50_5 : Bool → Option (Int × Bool) := fun x6 =>
 bif x6 then
 some ((-1), true)
 else
 some (0, false)
noncomputable def J50_4 (op1 : Int) : Bool → Option (Int × Bool) := fun x5 =>
 bif x5 then
 some (3, true)
 else
 (bif op1 == 30 then
 some (.inl true)
 else
 some (.inl (op1 == 31))).bind (Sum.elim J50_5 some)
noncomputable def J50_3 (op1 : Int) : Bool → Option (Int × Bool) := fun x4 =>
 bif x4 then
 some (2, true)
 else
 (bif op1 == 22 then
 some (.inl true)
 else
 some (.inl (op1 == 28))).bind (Sum.elim (J50_4 op1) some)
noncomputable def J50_2 (op1 : Int) : Bool → Option (Int × Bool) := fun x3 =>
 bif x3 then
 some (1, true)
 else
 (bif decide (op1 ≥ 4) then
 bif decide (op1 ≤ 19) then
 some (.inl true)
 else
 bif op1 == 23 then
 some (.inl true)
 else
 bif op1 == 27 then
 some (.inl true)
 else
 some (.inl (op1 == 29))
 else
 bif op1 == 23 then
 some (.inl true)
 else
 bif op1 == 27 then
 some (.inl true)
 else
 some (.inl (op1 == 29))).bind (Sum.elim (J50_3 op1) some)
noncomputable def J50_1 (op1 : Int) : Bool → Option (Int × Bool) := fun x2 =>
 bif x2 then
 some (0, true)
 else
 (bif op1 == 20 then
 some (.inl true)
 else
 bif op1 == 21 then
 some (.inl true)
 else
 bif op1 == 24 then
 some (.inl true)
 else
 some (.inl (op1 == 25))).bind (Sum.elim (J50_2 op1) some)
noncomputable def F50 (op1 : Int) : Option (Int × Bool) :=
 (bif op1 == 1 then
 some (.inl true)
 else
 bif op1 == 2 then
 some (.inl true)
 else
 bif op1 == 3 then
 some (.inl true)
 else
 some (.inl (op1 == 26))).bind (Sum.elim (J50_1 op1) some)
-- 65 fulling/fullingref7.maxImm
noncomputable def J65_1 (op1 : Int) : Bool → Option Int := fun x2 =>
 bif x2 then
 some 3
 else
 bif op1 == 27 then
 some 1000016
 else
 bif op1 == 30 then
 some 7
 else
 bif op1 == 31 then
 some 15
 else
 bif op1 == 25 then
 some 15
 else
 some (-1)
noncomputable def F65 (op1 : Int) : Option Int :=
 bif op1 == 2 then
 some 5
 else
 bif op1 == 3 then
 some 255
 else
 (bif op1 == 23 then
 some (.inl true)
 else
 some (.inl (op1 == 28))).bind (Sum.elim (J65_1 op1) some)
-- 62 fulling/fullingref7.ValidImm
noncomputable def J62_1 : Bool → Option Bool := fun x4 =>
 some x4
noncomputable def F62 (op1 : Int) (n2 : Int) : Option Bool :=
 bif op1 == 1 then
 some true
 else
 (F65 op1).bind fun r3 =>
 bif decide (r3 < 0) then
 some (n2 == 0)
 else
 (bif decide (n2 ≥ 0) then
 bif decide (n2 ≤ r3) then
 bif op1 != 27 then
 some (.inl true)
 else
 some (.inl (decide (n2 > 0)))
 else
 some (.inl false)
 else
 some (.inl false)).bind (Sum.elim J62_1 some)
-- 63 fulling/fullingref7.sortIf
noncomputable def F63 (ok1 : Bool) (n2 : Int) : Option Int :=
 bif ok1 then
 some n2
 else
 some 0
-- 64 fulling/fullingref7.allValues
noncomputable def L64_1 (k1 : List Int) : Int → Option (Int ⊕ Bool) := fun i3 =>
 bif decide (i3 < (List.length k1 : Int)) then
 (gI k1 i3).bind fun y4 =>
 bif y4 != 1 then
 (some false).map .inr
 else
 some (.inl (IntKind.wrap .i64 (i3 + 1)))
 else
 (some true).map .inr
noncomputable def F64 (k1 : List Int) : Option Bool :=
 loopL (L64_1 k1) 0
-- 61 fulling/fullingref7.nodeSort
noncomputable def J61_2 (k3 : List Int) : Bool → Option Int := fun x8 =>
 bif x8 then
 some 0
 else
 (gI k3 1).bind fun y13 =>
 some y13
noncomputable def J61_3 : Int → Option Int := fun x14 =>
 some x14
noncomputable def J61_4 (n2 : Int × Int × List Int) : Bool → Option Int := fun x21 =>
 bif x21 then
 some 0
 else
 (F63 (n2.2.1 == 0) 1).bind fun r25 =>
 some (IntKind.wrap .i64 (r25 + 1))
noncomputable def J61_6 : Int → Option Int := fun x27 =>
 some x27
noncomputable def J61_7 : Int → Option Int := fun x32 =>
 some x32
noncomputable def J61_8 : Int → Option Int := fun x39 =>
 some x39
noncomputable def J61_9 : Int → Option Int := fun x46 =>
 some x46
noncomputable def J61_5 (n2 : Int × Int × List Int) (k3 : List Int) : Bool → Option Int := fun x26 =>
 bif x26 then
 ((gI k3 0).bind fun y28 =>
 bif y28 == 2 then
 (gI k3 1).bind fun y29 =>
 (F63 (y29 == 1) 2).bind fun r30 =>
 some (.inl r30)
 else
 (F63 false 2).bind fun r31 =>
 some (.inl r31)).bind (Sum.elim J61_6 some)
 else
 bif n2.1 == 28 then
 ((gI k3 0).bind fun y33 =>
 bif y33 == 2 then
 (gI k3 1).bind fun y34 =>
 bif y34 == 1 then
 (gI k3 2).bind fun y35 =>
 (F63 (y35 == 1) 2).bind fun r36 =>
 some (.inl r36)
 else
 (F63 false 2).bind fun r37 =>
 some (.inl r37)
 else
 (F63 false 2).bind fun r38 =>
 some (.inl r38)).bind (Sum.elim J61_7 some)
 else
 bif n2.1 == 30 then
 (bif decide ((List.length k3 : Int) ≥ 1) then
 bif decide ((List.length k3 : Int) ≤ 7) then
 (gI k3 0).bind fun y40 =>
 bif y40 == 2 then
 bif decide ((0 : Int) ≤ 1 ∧ (1 : Int) ≤ (List.length k3 : Int) ∧ (List.length k3 : Int) ≤ (List.length k3 : Int)) then
 (F64 (slI k3 1 (List.length k3 : Int))).bind fun r41 =>
 (F63 r41 2).bind fun r42 =>
 some (.inl r42)
 else none
 else
 (F63 false 2).bind fun r43 =>
 some (.inl r43)
 else
 (F63 false 2).bind fun r44 =>
 some (.inl r44)
 else
 (F63 false 2).bind fun r45 =>
 some (.inl r45)).bind (Sum.elim J61_8 some)
 else
 bif n2.1 == 31 then
 (bif (Int.tmod (List.length k3 : Int) 2) == 1 then
 bif decide ((IntKind.wrap .i64 (Int.tdiv (List.length k3 : Int) 2)) ≥ 1) then
 bif decide ((IntKind.wrap .i64 (Int.tdiv (List.length k3 : Int) 2)) ≤ 16) then
 (gI k3 0).bind fun y47 =>
 bif y47 == 2 then
 bif decide ((0 : Int) ≤ 1 ∧ (1 : Int) ≤ IntKind.wrap .i64 ((IntKind.wrap .i64 (Int.tdiv (List.length k3 : Int) 2)) + 1) ∧ IntKind.wrap .i64 ((IntKind.wrap .i64 (Int.tdiv (List.length k3 : Int) 2)) + 1) ≤ (List.length k3 : Int)) then
 (F64 (slI k3 1 (IntKind.wrap .i64 ((IntKind.wrap .i64 (Int.tdiv (List.length k3 : Int) 2)) + 1)))).bind fun r48 =>
 bif r48 then
 (gI k3 (IntKind.wrap .i64 ((IntKind.wrap .i64 (Int.tdiv (List.length k3 : Int) 2)) + 1))).bind fun y49 =>
 bif y49 == 2 then
 bif decide ((0 : Int) ≤ IntKind.wrap .i64 ((IntKind.wrap .i64 (Int.tdiv (List.length k3 : Int) 2)) + 2) ∧ (IntKind.wrap .i64 ((IntKind.wrap .i64 (Int.tdiv (List.length k3 : Int) 2)) + 2) : Int) ≤ (List.length k3 : Int) ∧ (List.length k3 : Int) ≤ (List.length k3 : Int)) then
 (F64 (slI k3 (IntKind.wrap .i64 ((IntKind.wrap .i64 (Int.tdiv (List.length k3 : Int) 2)) + 2)) (List.length k3 : Int))).bind fun r50 =>
 (F63 r50 3).bind fun r51 =>
 some (.inl r51)
 else none
 else
 (F63 false 3).bind fun r52 =>
 some (.inl r52)
 else
 (F63 false 3).bind fun r53 =>
 some (.inl r53)
 else none
 else
 (F63 false 3).bind fun r54 =>
 some (.inl r54)
 else
 (F63 false 3).bind fun r55 =>
 some (.inl r55)
 else
 (F63 false 3).bind fun r56 =>
 some (.inl r56)
 else
 (F63 false 3).bind fun r57 =>
 some (.inl r57)).bind (Sum.elim J61_9 some)
 else
 (F64 k3).bind fun r58 =>
 (F63 r58 1).bind fun r59 =>
 some r59
noncomputable def J61_1 (l1 : TN) (n2 : Int × Int × List Int) (k3 : List Int) : Bool → Option Int := fun x5 =>
 bif x5 then
 some 0
 else
 bif n2.1 == 3 then
 bif (Int.tmod n2.2.1 16) == 0 then
 some 2
 else
 some 1
 else
 bif n2.1 == 26 then
 some 2
 else
 bif n2.1 == 22 then
 ((gI k3 0).bind fun y9 =>
 bif y9 != 1 then
 some (.inl true)
 else
 (gI k3 1).bind fun y10 =>
 (gI k3 2).bind fun y11 =>
 bif y10 != y11 then
 some (.inl true)
 else
 (gI k3 1).bind fun y12 =>
 some (.inl (y12 == 3))).bind (Sum.elim (J61_2 k3) some)
 else
 bif n2.1 == 23 then
 ((gI k3 0).bind fun y15 =>
 bif y15 == 2 then
 (gI k3 1).bind fun y16 =>
 (F63 (y16 == 1) 1).bind fun r17 =>
 some (.inl r17)
 else
 (F63 false 1).bind fun r18 =>
 some (.inl r18)).bind (Sum.elim J61_3 some)
 else
 bif n2.1 == 24 then
 (gI k3 0).bind fun y19 =>
 (F63 (y19 == 2) 1).bind fun r20 =>
 some r20
 else
 bif n2.1 == 25 then
 ((gI k3 0).bind fun y22 =>
 bif y22 != 3 then
 some (.inl true)
 else
 (gI n2.2.2 0).bind fun y23 =>
 (gI l1 y23).bind fun y24 =>
 some (.inl (decide (n2.2.1 ≥ (IntKind.wrap .i64 (Int.tdiv (List.length y24.2.2 : Int) 2)))))).bind (Sum.elim (J61_4 n2) some)
 else
 (bif n2.1 == 27 then
 some (.inl true)
 else
 some (.inl (n2.1 == 29))).bind (Sum.elim (J61_5 n2 k3) some)
noncomputable def F61 (l1 : TN) (n2 : Int × Int × List Int) (k3 : List Int) : Option Int :=
 (F50 n2.1).bind fun r4 =>
 (bif !r4.2 then
 some (.inl true)
 else
 bif decide (r4.1 ≥ 0) then
 bif (List.length n2.2.2 : Int) != r4.1 then
 some (.inl true)
 else
 (F62 n2.1 n2.2.1).bind fun r6 =>
 some (.inl (!r6))
 else
 (F62 n2.1 n2.2.1).bind fun r7 =>
 some (.inl (!r7))).bind (Sum.elim (J61_1 l1 n2 k3) some)
-- 59 fulling/fullingref7.Sorts
noncomputable def J59_3 (ok18 : Bool) (j19 : Int) (y24 : Int) : (Bool × List Int × List Int) → Option ((Bool × Int × List Int × List Int) ⊕ ((Bool × List Int × List Int) ⊕ ((List Int) ⊕ ((Int × List Int) ⊕ (List Int))))) := fun (x25, out26, k27) =>
 bif x25 then
 (some (.inl (false, out26, k27))).map .inr
 else
 (gI out26 y24).bind fun y30 =>
 (gI out26 y24).bind fun y31 =>
 bif decide (List.length k27 + List.length ([y31] : List Int) ≤ 1000000) then
 some (.inl (ok18, IntKind.wrap .i64 (j19 + 1), out26, k27 ++ ([y31] : List Int)))
 else none
noncomputable def L59_2 (l1 : TN) (i5 : Int) : (Bool × Int × List Int × List Int) → Option ((Bool × Int × List Int × List Int) ⊕ ((Bool × List Int × List Int) ⊕ ((List Int) ⊕ ((Int × List Int) ⊕ (List Int))))) := fun (ok18, j19, out20, k21) =>
 (gI l1 i5).bind fun y22 =>
 bif decide (j19 < (List.length y22.2.2 : Int)) then
 (gI l1 i5).bind fun y23 =>
 (gI y23.2.2 j19).bind fun y24 =>
 (bif decide (y24 < 0) then
 some (.inl (true, out20, k21))
 else
 bif decide (y24 ≥ i5) then
 some (.inl (true, out20, k21))
 else
 (gI out20 y24).bind fun y28 =>
 (gI out20 y24).bind fun y29 =>
 some (.inl (y29 == 0, out20, k21))).bind (Sum.elim (J59_3 ok18 j19 y24) some)
 else
 (some (.inl (ok18, out20, k21))).map .inr
noncomputable def J59_2 (l1 : TN) (i5 : Int) : (Bool × List Int × List Int) → Option ((List Int) ⊕ ((Int × List Int) ⊕ (List Int))) := fun (ok8, out9, k10) =>
 bif ok8 then
 (gI l1 i5).bind fun y32 =>
 (F61 l1 y32 k10).bind fun r33 =>
 bif decide (List.length out9 + List.length ([r33] : List Int) ≤ 1000000) then
 some (.inl (out9 ++ ([r33] : List Int)))
 else none
 else
 bif decide (List.length out9 + List.length ([0] : List Int) ≤ 1000000) then
 some (.inl (out9 ++ ([0] : List Int)))
 else none
noncomputable def J59_1 (i5 : Int) : (List Int) → Option ((Int × List Int) ⊕ (List Int)) := fun out7 =>
 some (.inl (IntKind.wrap .i64 (i5 + 1), out7))
noncomputable def L59_1 (l1 : TN) : (Int × List Int) → Option ((Int × List Int) ⊕ (List Int)) := fun (i5, out6) =>
 bif decide (i5 < (List.length l1 : Int)) then
 ((loopL (L59_2 l1 i5) (true, 0, out6, [])).bind (Sum.elim (J59_2 l1 i5) some)).bind (Sum.elim (J59_1 i5) some)
 else
 (some out6).map .inr
noncomputable def F59 (l1 : TN) : Option (List Int) :=
 loopL (L59_1 l1) (0, [])
-- 51 fulling/fullingkeep.of
noncomputable def J51_1 (i8 : Int) : (List Int) → Option ((Int × List Int) ⊕ Int) := fun all10 =>
 some (.inl (IntKind.wrap .i64 (i8 + 1), all10))
noncomputable def L51_1 (l1 : TN) (sort2 : Int) (n3 : Int) (r4 : List Int) : (Int × List Int) → Option ((Int × List Int) ⊕ Int) := fun (i8, all9) =>
 bif decide (i8 < (List.length l1 : Int)) then
 ((gI r4 i8).bind fun y11 =>
 bif y11 == sort2 then
 bif decide (List.length all9 + List.length ([i8] : List Int) ≤ 1000000) then
 some (.inl (all9 ++ ([i8] : List Int)))
 else none
 else
 some (.inl all9)).bind (Sum.elim (J51_1 i8) some)
 else
 ((F15 n3 (List.length all9 : Int)).bind fun r12 =>
 (gI all9 (IntKind.wrap .i64 ((IntKind.wrap .i64 ((List.length all9 : Int) - 1)) - r12))).bind fun y13 =>
 (gI all9 (IntKind.wrap .i64 ((IntKind.wrap .i64 ((List.length all9 : Int) - 1)) - r12))).bind fun y14 =>
 some y14).map .inr
noncomputable def F51 (l1 : TN) (sort2 : Int) (n3 : Int) : Option Int :=
 (F59 l1).bind fun r4 =>
 loopL (L51_1 l1 sort2 n3 r4) (0, [])
-- 60 fulling/fullingref15.Sort
noncomputable def J60_1 : Bool → Option Int := fun x2 =>
 bif x2 then
 some 2
 else
 some 1
noncomputable def F60 (op1 : Int) : Option Int :=
 (bif op1 == 27 then
 some (.inl true)
 else
 bif op1 == 28 then
 some (.inl true)
 else
 some (.inl (op1 == 29))).bind (Sum.elim J60_1 some)
-- 52 fulling/fullingref15.OperandSort
noncomputable def J52_1 : Bool → Option Int := fun x3 =>
 bif x3 then
 some 2
 else
 some 1
noncomputable def F52 (op1 : Int) (k2 : Int) : Option Int :=
 (bif k2 == 0 then
 (F60 op1).bind fun r4 =>
 bif r4 == 2 then
 some (.inl true)
 else
 bif op1 == 23 then
 some (.inl true)
 else
 some (.inl (op1 == 24))
 else
 some (.inl false)).bind (Sum.elim J52_1 some)
-- 48 fulling/fullingref7.SameNode
noncomputable def L48_1 (a1 : Int × Int × List Int) (b2 : Int × Int × List Int) : Int → Option (Int ⊕ Bool) := fun i5 =>
 bif decide (i5 < (List.length a1.2.2 : Int)) then
 (gI a1.2.2 i5).bind fun y6 =>
 (gI b2.2.2 i5).bind fun y7 =>
 bif y6 != y7 then
 (some false).map .inr
 else
 some (.inl (IntKind.wrap .i64 (i5 + 1)))
 else
 (some true).map .inr
noncomputable def J48_1 (a1 : Int × Int × List Int) (b2 : Int × Int × List Int) : Bool → Option Bool := fun x3 =>
 bif x3 then
 some false
 else
 loopL (L48_1 a1 b2) 0
noncomputable def F48 (a1 : Int × Int × List Int) (b2 : Int × Int × List Int) : Option Bool :=
 (bif a1.1 != b2.1 then
 some (.inl true)
 else
 bif a1.2.1 != b2.2.1 then
 some (.inl true)
 else
 some (.inl ((List.length a1.2.2 : Int) != (List.length b2.2.2 : Int)))).bind (Sum.elim (J48_1 a1 b2) some)
-- 54 fulling/fullingkeep.contains
noncomputable def L54_1 (l1 : TN) (n2 : Int × Int × List Int) : Int → Option (Int ⊕ Bool) := fun i4 =>
 bif decide (i4 < (List.length l1 : Int)) then
 (gI l1 i4).bind fun y5 =>
 (F48 y5 n2).bind fun r6 =>
 bif r6 then
 (some true).map .inr
 else
 some (.inl (IntKind.wrap .i64 (i4 + 1)))
 else
 (some false).map .inr
noncomputable def F54 (l1 : TN) (n2 : Int × Int × List Int) : Option Bool :=
 loopL (L54_1 l1 n2) 0
-- 53 (*fulling/fullingkeep.Reader).Next
noncomputable def F53 (x1 : Int) (l2 : List Int) : Option (Int × Int × List Int) :=
 bif (List.length l2 : Int) == 0 then
 some (0, x1, l2)
 else
 (gI l2 0).bind fun y3 =>
 (gI l2 0).bind fun y4 =>
 bif decide ((0 : Int) ≤ 1 ∧ (1 : Int) ≤ (List.length l2 : Int) ∧ (List.length l2 : Int) ≤ (List.length l2 : Int)) then
 some (y4, x1, slI l2 1 (List.length l2 : Int))
 else none
-- 35 fulling/fullingkeep.Nodes
noncomputable def J35_4 (l1 : List Int) (i5 : Int) : (Bool × TN × Int × Int × Int × List Int) → Option ((TN × Int × Int × Int × List Int) ⊕ (TN ⊕ ((Int × TN) ⊕ TN))) := fun (x20, out21, x22, n23, n24, l25) =>
 bif x20 then
 (gI l1 i5).bind fun y28 =>
 (F15 (IntKind.wrap .i64 (Int.tdiv y28 9)) 5).bind fun r29 =>
 (gI ([23, 27, 28, 29, 24] : List Int) r29).bind fun y30 =>
 (gI ([23, 27, 28, 29, 24] : List Int) r29).bind fun y31 =>
 some (.inl (out21, x22, y31, n24, l25))
 else
 some (.inl (out21, x22, n23, n24, l25))
noncomputable def J35_8 (l1 : List Int) (i5 : Int) : (Bool × TN × Int × Int × List Int) → Option ((TN × Int × Int × List Int) ⊕ (TN ⊕ ((Int × TN) ⊕ TN))) := fun (x76, out77, n78, n79, l80) =>
 bif x76 then
 (gI l1 i5).bind fun y81 =>
 (F15 (IntKind.wrap .i64 (Int.tdiv y81 5)) 2).bind fun r82 =>
 some (.inl (out77, n78, r82, l80))
 else
 some (.inl (out77, n78, n79, l80))
noncomputable def J35_7 : (TN × Int × Int × List Int) → Option (TN ⊕ ((Int × TN) ⊕ TN)) := fun (out72, n73, n74, l75) =>
 (F54 out72 (n73, n74, l75)).bind fun r83 =>
 bif !r83 then
 bif decide (List.length out72 + List.length ([(n73, n74, l75)] : TN) ≤ 1000000) then
 some (.inl (out72 ++ ([(n73, n74, l75)] : TN)))
 else none
 else
 some (.inl out72)
noncomputable def J35_6 (l1 : List Int) (i5 : Int) : (TN × Int × Int × List Int) → Option (TN ⊕ ((Int × TN) ⊕ TN)) := fun (out66, n67, n68, l69) =>
 ((bif n67 == 23 then
 some (.inl (true, out66, n67, n68, l69))
 else
 some (.inl (n67 == 28, out66, n67, n68, l69))).bind (Sum.elim (J35_8 l1 i5) some)).bind (Sum.elim J35_7 some)
noncomputable def L35_2 (l1 : List Int) (i5 : Int) (r42 : Int × Bool) : (Int × TN × Int × Int × Int × List Int × List Int) → Option ((Int × TN × Int × Int × Int × List Int × List Int) ⊕ (TN ⊕ ((Int × TN) ⊕ TN))) := fun (j56, out57, x58, n59, n60, l61, l62) =>
 bif decide (j56 < r42.1) then
 (F52 n59 j56).bind fun r63 =>
 (F53 x58 l61).bind fun r64 =>
 (F51 out57 r63 r64.1).bind fun r65 =>
 bif decide (List.length l62 + List.length ([r65] : List Int) ≤ 1000000) then
 some (.inl (IntKind.wrap .i64 (j56 + 1), out57, r64.2.1, n59, n60, r64.2.2, l62 ++ ([r65] : List Int)))
 else none
 else
 ((bif n59 == 27 then
 (gI l1 i5).bind fun y70 =>
 (F15 (IntKind.wrap .i64 (Int.tdiv y70 5)) 2).bind fun r71 =>
 some (.inl (out57, n59, IntKind.wrap .i64 (1 + r71), l62))
 else
 some (.inl (out57, n59, n60, l62))).bind (Sum.elim (J35_6 l1 i5) some)).map .inr
noncomputable def J35_5 (l1 : List Int) (i5 : Int) : (TN × Int × Int × Int × List Int) → Option (TN ⊕ ((Int × TN) ⊕ TN)) := fun (out32, x33, n34, n35, l36) =>
 (F50 n34).bind fun r42 =>
 loopL (L35_2 l1 i5 r42) (0, out32, x33, n34, n35, l36, [])
noncomputable def J35_3 (l1 : List Int) (i5 : Int) : (TN × Int × Int × Int × List Int) → Option (TN ⊕ ((Int × TN) ⊕ TN)) := fun (out15, x16, n17, n18, l19) =>
 ((gI l1 i5).bind fun y37 =>
 (F15 y37 11).bind fun r38 =>
 bif r38 == 0 then
 (gI l1 i5).bind fun y39 =>
 (gI l1 i5).bind fun y40 =>
 (F49 (IntKind.wrap .i64 (Int.tdiv y39 11)) y40).bind fun r41 =>
 some (.inl (out15, x16, 1, r41, l19))
 else
 some (.inl (out15, x16, n17, n18, l19))).bind (Sum.elim (J35_5 l1 i5) some)
noncomputable def J35_2 (i5 : Int) : TN → Option ((Int × TN) ⊕ TN) := fun out9 =>
 some (.inl (IntKind.wrap .i64 (i5 + 1), out9))
noncomputable def J35_1 (l1 : List Int) (values2 : Bool) (i5 : Int) : (Bool × TN) → Option ((Int × TN) ⊕ TN) := fun (x7, out8) =>
 bif x7 then
 ((gI l1 i5).bind fun y10 =>
 (gI l1 i5).bind fun y11 =>
 (gI l1 i5).bind fun y12 =>
 (gI l1 i5).bind fun y13 =>
 (F15 y13 19).bind fun r14 =>
 ((bif !values2 then
 (gI l1 i5).bind fun y26 =>
 (F15 y26 9).bind fun r27 =>
 some (.inl (decide (r27 > 5), out8, 0, IntKind.wrap .i64 (4 + r14), 0, ([IntKind.wrap .i64 (Int.tdiv y10 7), IntKind.wrap .i64 (Int.tdiv y11 101), IntKind.wrap .i64 (Int.tdiv y12 1009)] : List Int)))
 else
 some (.inl (false, out8, 0, IntKind.wrap .i64 (4 + r14), 0, ([IntKind.wrap .i64 (Int.tdiv y10 7), IntKind.wrap .i64 (Int.tdiv y11 101), IntKind.wrap .i64 (Int.tdiv y12 1009)] : List Int)))).bind (Sum.elim (J35_4 l1 i5) some)).bind (Sum.elim (J35_3 l1 i5) some)).bind (Sum.elim (J35_2 i5) some)
 else
 (some out8).map .inr
noncomputable def L35_1 (l1 : List Int) (values2 : Bool) : (Int × TN) → Option ((Int × TN) ⊕ TN) := fun (i5, out6) =>
 (bif decide (i5 < (List.length l1 : Int)) then
 some (.inl (decide (i5 < 14), out6))
 else
 some (.inl (false, out6))).bind (Sum.elim (J35_1 l1 values2 i5) some)
noncomputable def F35 (l1 : List Int) (values2 : Bool) : Option TN :=
 loopL (L35_1 l1 values2) (0, ([(2, 0, []), (2, 1, []), (26, 0, [])] : TN))
-- 36 fulling/fullingkeep.Mutate
noncomputable def J36_1 (r4 : Int) : (TN × Int × Int × List Int) → Option TN := fun (out7, n8, n9, l10) =>
 (gI out7 r4).bind fun y20 =>
 (gI out7 r4).bind fun y21 =>
 some (setI out7 r4 (n8, n9, l10))
noncomputable def F36 (l1 : TN) (how2 : Int) (at3 : Int) : Option TN :=
 bif decide (List.length ([] : TN) + List.length l1 ≤ 1000000) then
 bif (List.length (([] : TN) ++ l1) : Int) == 0 then
 some (([] : TN) ++ l1)
 else
 (F15 at3 (List.length (([] : TN) ++ l1) : Int)).bind fun r4 =>
 (gI (([] : TN) ++ l1) r4).bind fun y5 =>
 (gI (([] : TN) ++ l1) r4).bind fun y6 =>
 bif decide (List.length ([] : List Int) + List.length y6.2.2 ≤ 1000000) then
 ((F15 how2 10).bind fun r11 =>
 bif r11 == 0 then
 (F15 (IntKind.wrap .i64 (Int.tdiv how2 10)) 36).bind fun r12 =>
 some (.inl (([] : TN) ++ l1, IntKind.wrap .i64 (r12 - 1), y6.2.1, ([] : List Int) ++ y6.2.2))
 else
 bif r11 == 1 then
 (F15 (IntKind.wrap .i64 (Int.tdiv how2 10)) 300).bind fun r13 =>
 some (.inl (([] : TN) ++ l1, y6.1, IntKind.wrap .i64 (r13 - 3), ([] : List Int) ++ y6.2.2))
 else
 bif r11 == 2 then
 (F15 (IntKind.wrap .i64 (Int.tdiv how2 10)) (IntKind.wrap .i64 ((List.length (([] : TN) ++ l1) : Int) + 2))).bind fun r14 =>
 bif decide (List.length (([] : List Int) ++ y6.2.2) + List.length ([IntKind.wrap .i64 (r14 - 1)] : List Int) ≤ 1000000) then
 some (.inl (([] : TN) ++ l1, y6.1, y6.2.1, (([] : List Int) ++ y6.2.2) ++ ([IntKind.wrap .i64 (r14 - 1)] : List Int)))
 else none
 else
 bif r11 == 3 then
 bif decide ((List.length (([] : List Int) ++ y6.2.2) : Int) > 0) then
 (F15 (IntKind.wrap .i64 (Int.tdiv how2 10)) (List.length (([] : List Int) ++ y6.2.2) : Int)).bind fun r15 =>
 (F15 (IntKind.wrap .i64 (Int.tdiv at3 3)) (IntKind.wrap .i64 ((List.length (([] : TN) ++ l1) : Int) + 2))).bind fun r16 =>
 (gI (([] : List Int) ++ y6.2.2) r15).bind fun y17 =>
 (gI (([] : List Int) ++ y6.2.2) r15).bind fun y18 =>
 some (.inl (([] : TN) ++ l1, y6.1, y6.2.1, setI (([] : List Int) ++ y6.2.2) r15 (IntKind.wrap .i64 (r16 - 1))))
 else
 some (.inl (([] : TN) ++ l1, y6.1, y6.2.1, ([] : List Int) ++ y6.2.2))
 else
 bif r11 == 4 then
 bif decide ((List.length (([] : List Int) ++ y6.2.2) : Int) > 0) then
 bif decide ((0 : Int) ≤ 1 ∧ (1 : Int) ≤ (List.length (([] : List Int) ++ y6.2.2) : Int) ∧ (List.length (([] : List Int) ++ y6.2.2) : Int) ≤ (List.length (([] : List Int) ++ y6.2.2) : Int)) then
 some (.inl (([] : TN) ++ l1, y6.1, y6.2.1, slI (([] : List Int) ++ y6.2.2) 1 (List.length (([] : List Int) ++ y6.2.2) : Int)))
 else none
 else
 some (.inl (([] : TN) ++ l1, y6.1, y6.2.1, ([] : List Int) ++ y6.2.2))
 else
 bif r11 == 5 then
 bif decide (List.length (([] : TN) ++ l1) + List.length ([(y6.1, y6.2.1, ([] : List Int) ++ y6.2.2)] : TN) ≤ 1000000) then
 some (.inl ((([] : TN) ++ l1) ++ ([(y6.1, y6.2.1, ([] : List Int) ++ y6.2.2)] : TN), y6.1, y6.2.1, ([] : List Int) ++ y6.2.2))
 else none
 else
 bif r11 == 6 then
 (F15 (IntKind.wrap .i64 (Int.tdiv how2 10)) 40).bind fun r19 =>
 some (.inl (([] : TN) ++ l1, 3, r19, []))
 else
 some (.inl (([] : TN) ++ l1, y6.1, y6.2.1, ([] : List Int) ++ y6.2.2))).bind (Sum.elim (J36_1 r4) some)
 else none
 else none
-- 38 fulling/fullingkeep2.last
noncomputable def J38_1 (sort2 : Int) (i4 : Int) : Bool → Option (Int ⊕ Int) := fun v5 =>
 bif v5 == (sort2 == 1) then
 (some i4).map .inr
 else
 some (.inl (IntKind.wrap .i64 (i4 - 1)))
noncomputable def L38_1 (l1 : TN) (sort2 : Int) : Int → Option (Int ⊕ Int) := fun i4 =>
 bif decide (i4 ≥ 0) then
 ((gI l1 i4).bind fun y6 =>
 bif decide (y6.1 ≥ 1) then
 (gI l1 i4).bind fun y7 =>
 bif decide (y7.1 ≤ 24) then
 some (.inl true)
 else
 (gI l1 i4).bind fun y8 =>
 bif y8.1 == 25 then
 (gI l1 i4).bind fun y9 =>
 some (.inl (y9.2.1 != 0))
 else
 some (.inl false)
 else
 (gI l1 i4).bind fun y10 =>
 bif y10.1 == 25 then
 (gI l1 i4).bind fun y11 =>
 some (.inl (y11.2.1 != 0))
 else
 some (.inl false)).bind (Sum.elim (J38_1 sort2 i4) some)
 else
 (some 0).map .inr
noncomputable def F38 (l1 : TN) (sort2 : Int) : Option Int :=
 loopL (L38_1 l1 sort2) (IntKind.wrap .i64 ((List.length l1 : Int) - 1))
-- 37 (*fulling/fullingkeep2.Digits).Next
noncomputable def F37 (m1 : Int) (d2 : Int) : Option (Int × Int) :=
 (F15 d2 m1).bind fun r3 =>
 bif decide (m1 = 0) then none else
 some (r3, IntKind.wrap .i64 (Int.tdiv (IntKind.wrap .i64 (d2 - r3)) m1))
-- 13 fulling/fullingkeep2.RawSaturation
noncomputable def L13_2 (s10 : TN) (i38 : Int) : (Int × Int × Int × Int × Int × TN × Int × Int × Int × Int × Int × Int × Int × Int × TS × List Int) → Option ((Int × Int × Int × Int × Int × TN × Int × Int × Int × Int × Int × Int × Int × Int × TS × List Int) ⊕ ((Int × Int × Int × Int × Int × TN × Int × Int × Int × Int × TS) ⊕ TT)) := fun (k113, l114, l115, l116, l117, s118, s119, s120, s121, s122, d123, x124, x125, x126, l127, l128) =>
 bif decide (k113 > 0) then
 (F37 (IntKind.wrap .i64 ((List.length s10 : Int) + 2)) d123).bind fun r129 =>
 bif decide (List.length l128 + List.length ([IntKind.wrap .i64 (r129.1 - 1)] : List Int) ≤ 1000000) then
 some (.inl (IntKind.wrap .i64 (k113 - 1), l114, l115, l116, l117, s118, s119, s120, s121, s122, r129.2, x124, x125, x126, l127, l128 ++ ([IntKind.wrap .i64 (r129.1 - 1)] : List Int)))
 else none
 else
 (bif decide (List.length l127 + List.length ([(x124, x125, x126, l128, [])] : TS) ≤ 1000000) then
 some (.inl (IntKind.wrap .i64 (i38 + 1), l114, l115, l116, l117, s118, s119, s120, s121, s122, l127 ++ ([(x124, x125, x126, l128, [])] : TS)))
 else none).map .inr
noncomputable def J13_3 (s10 : TN) (i38 : Int) : (Int × Int × Int × Int × TN × Int × Int × Int × Int × Int × Int × Int × Int × TS) → Option ((Int × Int × Int × Int × Int × TN × Int × Int × Int × Int × TS) ⊕ TT) := fun (l66, l67, l68, l69, s70, s71, s72, s73, s74, d75, x76, x77, x78, l79) =>
 (F37 3 d75).bind fun r81 =>
 loopL (L13_2 s10 i38) (r81.1, l66, l67, l68, l69, s70, s71, s72, s73, s74, r81.2, x76, x77, x78, l79, [])
noncomputable def J13_2 (steps2 : List Int) (s10 : TN) (i38 : Int) : (Bool × Int × Int × Int × Int × TN × Int × Int × Int × Int × TS) → Option ((Int × Int × Int × Int × Int × TN × Int × Int × Int × Int × TS) ⊕ TT) := fun (x49, l50, l51, l52, l53, s54, s55, s56, s57, s58, l59) =>
 bif x49 then
 (gI steps2 i38).bind fun y60 =>
 (F37 5 y60).bind fun r61 =>
 (gI ([0, 1, (-1), 2, 1] : List Int) r61.1).bind fun y62 =>
 (gI ([0, 1, (-1), 2, 1] : List Int) r61.1).bind fun y63 =>
 (F37 (IntKind.wrap .i64 ((List.length s10 : Int) + 1)) r61.2).bind fun r64 =>
 (F37 (IntKind.wrap .i64 ((List.length s10 : Int) + 1)) r64.2).bind fun r65 =>
 (bif r64.1 == (List.length s10 : Int) then
 (F37 2 r65.2).bind fun r80 =>
 some (.inl (l50, l51, l52, l53, s54, s55, s56, s57, s58, r80.2, IntKind.wrap .i64 ((-1) + (IntKind.wrap .i64 (r80.1 * (List.length s10 : Int)))), r65.1, y63, l59))
 else
 some (.inl (l50, l51, l52, l53, s54, s55, s56, s57, s58, r65.2, r64.1, r65.1, y63, l59))).bind (Sum.elim (J13_3 s10 i38) some)
 else
 ((F38 s54 1).bind fun r130 =>
 (F38 s54 2).bind fun r131 =>
 some (s54, l59, [], r130, r131, s57, s58)).map .inr
noncomputable def L13_1 (steps2 : List Int) (s10 : TN) : (Int × Int × Int × Int × Int × TN × Int × Int × Int × Int × TS) → Option ((Int × Int × Int × Int × Int × TN × Int × Int × Int × Int × TS) ⊕ TT) := fun (i38, l39, l40, l41, l42, s43, s44, s45, s46, s47, l48) =>
 (bif decide (i38 < (List.length steps2 : Int)) then
 some (.inl (decide (i38 < 16), l39, l40, l41, l42, s43, s44, s45, s46, s47, l48))
 else
 some (.inl (false, l39, l40, l41, l42, s43, s44, s45, s46, s47, l48))).bind (Sum.elim (J13_2 steps2 s10 i38) some)
noncomputable def J13_1 (steps2 : List Int) : (Int × Int × Int × Int × TN × Int × Int × Int × Int) → Option TT := fun (l6, l7, l8, l9, s10, s11, s12, s13, s14) =>
 loopL (L13_1 steps2 s10) (0, l6, l7, l8, l9, s10, s11, s12, s13, s14, [])
noncomputable def F13 (l1 : List Int) (steps2 : List Int) (how3 : Int) (at4 : Int) : Option TT :=
 (F35 l1 false).bind fun r5 =>
 ((F15 how3 3).bind fun r15 =>
 bif r15 == 1 then
 (F36 r5 (IntKind.wrap .i64 (Int.tdiv how3 3)) at4).bind fun r16 =>
 some (.inl (0, 0, 0, 0, r16, 0, 2, 0, 0))
 else
 some (.inl (0, 0, 0, 0, r5, 0, 2, 0, 0))).bind (Sum.elim (J13_1 steps2) some)
-- 39 fulling/fullingref22.isNode
noncomputable def J39_1 : Bool → Option Bool := fun x3 =>
 some x3
noncomputable def F39 (l1 : TN) (i2 : Int) : Option Bool :=
 (bif decide (i2 ≥ 0) then
 some (.inl (decide (i2 < (List.length l1 : Int))))
 else
 some (.inl false)).bind (Sum.elim J39_1 some)
-- 41 fulling/fullingref22.isEdge
noncomputable def J41_1 : Bool → Option Bool := fun x3 =>
 some x3
noncomputable def F41 (l1 : TN) (s2 : Int × Int × Int × List Int × List Int) : Option Bool :=
 ((F39 l1 s2.1).bind fun r4 =>
 bif r4 then
 (F39 l1 s2.2.1).bind fun r5 =>
 some (.inl r5)
 else
 some (.inl false)).bind (Sum.elim J41_1 some)
-- 40 fulling/fullingref22.distances
noncomputable def J40_4 (n15 : Int) (more21 : Bool) (y28 : Int × Int × Int × List Int × List Int) : (Bool × List Int) → Option ((Bool × List Int) ⊕ ((Bool × List Int) ⊕ ((Bool × Int × List Int) ⊕ ((Int × Bool × List Int) ⊕ (List Int))))) := fun (x32, d33) =>
 bif x32 then
 (gI d33 y28.2.1).bind fun y38 =>
 (gI d33 y28.2.1).bind fun y39 =>
 some (.inl (true, setI d33 y28.2.1 (IntKind.wrap .i64 (n15 + 1))))
 else
 some (.inl (more21, d33))
noncomputable def J40_5 (n15 : Int) (y28 : Int × Int × Int × List Int × List Int) (more30 : Bool) : (Bool × List Int) → Option ((Bool × List Int) ⊕ ((Bool × Int × List Int) ⊕ ((Int × Bool × List Int) ⊕ (List Int)))) := fun (x40, d41) =>
 bif x40 then
 (gI d41 y28.1).bind fun y46 =>
 (gI d41 y28.1).bind fun y47 =>
 some (.inl (true, setI d41 y28.1 (IntKind.wrap .i64 (n15 + 1))))
 else
 some (.inl (more30, d41))
noncomputable def J40_3 (n15 : Int) (y28 : Int × Int × Int × List Int × List Int) : (Bool × List Int) → Option ((Bool × List Int) ⊕ ((Bool × Int × List Int) ⊕ ((Int × Bool × List Int) ⊕ (List Int)))) := fun (more30, d31) =>
 ((gI d31 y28.2.1).bind fun y42 =>
 (gI d31 y28.2.1).bind fun y43 =>
 bif y43 == n15 then
 (gI d31 y28.1).bind fun y44 =>
 (gI d31 y28.1).bind fun y45 =>
 some (.inl (decide (y45 < 0), d31))
 else
 some (.inl (false, d31))).bind (Sum.elim (J40_5 n15 y28 more30) some)
noncomputable def J40_2 (t22 : Int) : (Bool × List Int) → Option ((Bool × Int × List Int) ⊕ ((Int × Bool × List Int) ⊕ (List Int))) := fun (more26, d27) =>
 some (.inl (more26, IntKind.wrap .i64 (t22 + 1), d27))
noncomputable def J40_1 (s1 : TN × TS × TI × Int × Int × Int × Int) (n15 : Int) (more21 : Bool) (t22 : Int) : (Bool × List Int) → Option ((Bool × Int × List Int) ⊕ ((Int × Bool × List Int) ⊕ (List Int))) := fun (x24, d25) =>
 bif x24 then
 ((gI s1.2.1 t22).bind fun y28 =>
 (F41 s1.1 y28).bind fun r29 =>
 bif !r29 then
 some (.inl (more21, d25))
 else
 (((gI d25 y28.1).bind fun y34 =>
 (gI d25 y28.1).bind fun y35 =>
 bif y35 == n15 then
 (gI d25 y28.2.1).bind fun y36 =>
 (gI d25 y28.2.1).bind fun y37 =>
 some (.inl (decide (y37 < 0), d25))
 else
 some (.inl (false, d25))).bind (Sum.elim (J40_4 n15 more21 y28) some)).bind (Sum.elim (J40_3 n15 y28) some)).bind (Sum.elim (J40_2 t22) some)
 else
 (some (.inl (IntKind.wrap .i64 (n15 + 1), more21, d25))).map .inr
noncomputable def L40_3 (s1 : TN × TS × TI × Int × Int × Int × Int) (below3 : Int) (n15 : Int) : (Bool × Int × List Int) → Option ((Bool × Int × List Int) ⊕ ((Int × Bool × List Int) ⊕ (List Int))) := fun (more21, t22, d23) =>
 (bif decide (t22 < (List.length s1.2.1 : Int)) then
 some (.inl (decide (t22 < below3), d23))
 else
 some (.inl (false, d23))).bind (Sum.elim (J40_1 s1 n15 more21 t22) some)
noncomputable def L40_2 (s1 : TN × TS × TI × Int × Int × Int × Int) (below3 : Int) : (Int × Bool × List Int) → Option ((Int × Bool × List Int) ⊕ (List Int)) := fun (n15, more16, d17) =>
 bif more16 then
 loopL (L40_3 s1 below3 n15) (false, 0, d17)
 else
 (some d17).map .inr
noncomputable def L40_1 (s1 : TN × TS × TI × Int × Int × Int × Int) (b2 : Int) (below3 : Int) : (Int × List Int) → Option ((Int × List Int) ⊕ (List Int)) := fun (i6, d7) =>
 bif decide (i6 < (List.length d7 : Int)) then
 (gI d7 i6).bind fun y8 =>
 (gI d7 i6).bind fun y9 =>
 some (.inl (IntKind.wrap .i64 (i6 + 1), setI d7 i6 (-1)))
 else
 ((gI d7 b2).bind fun y10 =>
 (gI d7 b2).bind fun y11 =>
 loopL (L40_2 s1 below3) (0, true, setI d7 b2 0)).map .inr
noncomputable def F40 (s1 : TN × TS × TI × Int × Int × Int × Int) (b2 : Int) (below3 : Int) : Option (List Int) :=
 bif decide ((0 : Int) ≤ (List.length s1.1 : Int) ∧ ((List.length s1.1 : Int) : Int) = (List.length s1.1 : Int) ∧ ((List.length s1.1 : Int) : Int) ≤ 1000000) then
 loopL (L40_1 s1 b2 below3) (0, (List.replicate (Int.toNat (List.length s1.1 : Int)) 0 : List Int))
 else none
-- 14 fulling/fullingref22.Path
noncomputable def J14_4 (at18 : Int) (t19 : Int) (y23 : Int × Int × Int × List Int × List Int) : (Bool × List Int) → Option ((Int × List Int) ⊕ ((Int × Int × List Int) ⊕ ((Int × List Int) ⊕ (List Int × Bool)))) := fun (x29, row30) =>
 bif x29 then
 bif decide (List.length row30 + List.length ([t19] : List Int) ≤ 1000000) then
 ((some (.inl (y23.1, row30 ++ ([t19] : List Int)))).map .inr).map .inr
 else none
 else
 some (.inl (at18, row30))
noncomputable def J14_3 (r8 : List Int) (at18 : Int) (t19 : Int) (y23 : Int × Int × Int × List Int × List Int) : (Bool × List Int) → Option ((Int × List Int) ⊕ ((Int × Int × List Int) ⊕ ((Int × List Int) ⊕ (List Int × Bool)))) := fun (x25, row26) =>
 bif x25 then
 bif decide (List.length row26 + List.length ([t19] : List Int) ≤ 1000000) then
 ((some (.inl (y23.2.1, row26 ++ ([t19] : List Int)))).map .inr).map .inr
 else none
 else
 (bif y23.2.1 == at18 then
 (gI r8 y23.1).bind fun y31 =>
 (gI r8 at18).bind fun y32 =>
 some (.inl (y31 == (IntKind.wrap .i64 (y32 - 1)), row26))
 else
 some (.inl (false, row26))).bind (Sum.elim (J14_4 at18 t19 y23) some)
noncomputable def J14_2 (t19 : Int) : (Int × List Int) → Option ((Int × Int × List Int) ⊕ ((Int × List Int) ⊕ (List Int × Bool))) := fun (at21, row22) =>
 some (.inl (at21, IntKind.wrap .i64 (t19 + 1), row22))
noncomputable def L14_2 (s1 : TN × TS × TI × Int × Int × Int × Int) (r8 : List Int) : (Int × Int × List Int) → Option ((Int × Int × List Int) ⊕ ((Int × List Int) ⊕ (List Int × Bool))) := fun (at18, t19, row20) =>
 bif decide (t19 < (List.length s1.2.1 : Int)) then
 ((gI s1.2.1 t19).bind fun y23 =>
 (F41 s1.1 y23).bind fun r24 =>
 bif !r24 then
 some (.inl (at18, row20))
 else
 (bif y23.1 == at18 then
 (gI r8 y23.2.1).bind fun y27 =>
 (gI r8 at18).bind fun y28 =>
 some (.inl (y27 == (IntKind.wrap .i64 (y28 - 1)), row20))
 else
 some (.inl (false, row20))).bind (Sum.elim (J14_3 r8 at18 t19 y23) some)).bind (Sum.elim (J14_2 t19) some)
 else
 (some (.inl (at18, row20))).map .inr
noncomputable def L14_1 (s1 : TN × TS × TI × Int × Int × Int × Int) (b3 : Int) (r8 : List Int) : (Int × List Int) → Option ((Int × List Int) ⊕ (List Int × Bool)) := fun (at13, row14) =>
 bif at13 != b3 then
 loopL (L14_2 s1 r8) (at13, 0, row14)
 else
 (some (row14, true)).map .inr
noncomputable def J14_1 (s1 : TN × TS × TI × Int × Int × Int × Int) (a2 : Int) (b3 : Int) (below4 : Int) : Bool → Option (List Int × Bool) := fun x5 =>
 bif x5 then
 some ([], false)
 else
 (F40 s1 b3 below4).bind fun r8 =>
 (gI r8 a2).bind fun y9 =>
 bif decide (y9 < 0) then
 some ([], false)
 else
 loopL (L14_1 s1 b3 r8) (a2, [])
noncomputable def F14 (s1 : TN × TS × TI × Int × Int × Int × Int) (a2 : Int) (b3 : Int) (below4 : Int) : Option (List Int × Bool) :=
 ((F39 s1.1 a2).bind fun r6 =>
 bif !r6 then
 some (.inl true)
 else
 (F39 s1.1 b3).bind fun r7 =>
 some (.inl (!r7))).bind (Sum.elim (J14_1 s1 a2 b3 below4) some)
-- 16 fulling/fullingref22.Dependencies
noncomputable def J16_2 (l2 : List Int) (i5 : Int) : (Bool × List Bool) → Option ((List Bool) ⊕ ((Int × List Bool) ⊕ (List Int))) := fun (x8, in9) =>
 bif x8 then
 (gI l2 i5).bind fun y12 =>
 (gI in9 y12).bind fun y13 =>
 (gI in9 y12).bind fun y14 =>
 some (.inl (setI in9 y12 true))
 else
 some (.inl in9)
noncomputable def J16_1 (i5 : Int) : (List Bool) → Option ((Int × List Bool) ⊕ (List Int)) := fun in7 =>
 some (.inl (IntKind.wrap .i64 (i5 + 1), in7))
noncomputable def L16_4 (k30 : Int) (r36 : List Int × Bool) : (Int × List Bool) → Option ((Int × List Bool) ⊕ ((Int × List Bool) ⊕ ((List Bool) ⊕ ((Int × List Bool) ⊕ (List Int))))) := fun (i39, in40) =>
 bif decide (i39 < (List.length r36.1 : Int)) then
 (gI r36.1 i39).bind fun y41 =>
 (gI in40 y41).bind fun y42 =>
 (gI in40 y41).bind fun y43 =>
 some (.inl (IntKind.wrap .i64 (i39 + 1), setI in40 y41 true))
 else
 (some (.inl (IntKind.wrap .i64 (k30 + 1), in40))).map .inr
noncomputable def J16_5 (s1 : TN × TS × TI × Int × Int × Int × Int) (t17 : Int) (y26 : Int × Int × List Int) (y27 : Int × Int × List Int) (k30 : Int) : (Bool × List Bool) → Option ((Int × List Bool) ⊕ ((List Bool) ⊕ ((Int × List Bool) ⊕ (List Int)))) := fun (x32, in33) =>
 bif x32 then
 (gI y26.2.2 k30).bind fun y34 =>
 (gI y27.2.2 k30).bind fun y35 =>
 (F14 s1 y34 y35 t17).bind fun r36 =>
 loopL (L16_4 k30 r36) (0, in33)
 else
 (some (.inl in33)).map .inr
noncomputable def L16_3 (s1 : TN × TS × TI × Int × Int × Int × Int) (t17 : Int) (y26 : Int × Int × List Int) (y27 : Int × Int × List Int) : (Int × List Bool) → Option ((Int × List Bool) ⊕ ((List Bool) ⊕ ((Int × List Bool) ⊕ (List Int)))) := fun (k30, in31) =>
 (bif decide (k30 < (List.length y26.2.2 : Int)) then
 some (.inl (decide (k30 < (List.length y27.2.2 : Int)), in31))
 else
 some (.inl (false, in31))).bind (Sum.elim (J16_5 s1 t17 y26 y27 k30) some)
noncomputable def J16_4 (s1 : TN × TS × TI × Int × Int × Int × Int) (t17 : Int) (y20 : Int × Int × Int × List Int × List Int) : (Bool × List Bool) → Option ((List Bool) ⊕ ((Int × List Bool) ⊕ (List Int))) := fun (x21, in22) =>
 bif x21 then
 some (.inl in22)
 else
 (gI s1.1 y20.1).bind fun y26 =>
 (gI s1.1 y20.2.1).bind fun y27 =>
 loopL (L16_3 s1 t17 y26 y27) (0, in22)
noncomputable def J16_3 (t17 : Int) : (List Bool) → Option ((Int × List Bool) ⊕ (List Int)) := fun in19 =>
 some (.inl (IntKind.wrap .i64 (t17 - 1), in19))
noncomputable def J16_7 (t49 : Int) : (Bool × List Bool × List Int) → Option ((List Bool × List Int) ⊕ ((Int × List Bool × List Int) ⊕ (List Int))) := fun (x54, in55, out56) =>
 bif x54 then
 bif decide (List.length out56 + List.length ([t49] : List Int) ≤ 1000000) then
 some (.inl (in55, out56 ++ ([t49] : List Int)))
 else none
 else
 some (.inl (in55, out56))
noncomputable def J16_6 (t49 : Int) : (List Bool × List Int) → Option ((Int × List Bool × List Int) ⊕ (List Int)) := fun (in52, out53) =>
 some (.inl (IntKind.wrap .i64 (t49 + 1), in52, out53))
noncomputable def L16_5 (s1 : TN × TS × TI × Int × Int × Int × Int) : (Int × List Bool × List Int) → Option ((Int × List Bool × List Int) ⊕ (List Int)) := fun (t49, in50, out51) =>
 bif decide (t49 < (List.length in50 : Int)) then
 (((gI in50 t49).bind fun y57 =>
 (gI in50 t49).bind fun y58 =>
 bif y58 then
 (gI s1.2.1 t49).bind fun y59 =>
 (F41 s1.1 y59).bind fun r60 =>
 some (.inl (r60, in50, out51))
 else
 some (.inl (false, in50, out51))).bind (Sum.elim (J16_7 t49) some)).bind (Sum.elim (J16_6 t49) some)
 else
 (some out51).map .inr
noncomputable def L16_2 (s1 : TN × TS × TI × Int × Int × Int × Int) : (Int × List Bool) → Option ((Int × List Bool) ⊕ (List Int)) := fun (t17, in18) =>
 bif decide (t17 ≥ 0) then
 ((gI s1.2.1 t17).bind fun y20 =>
 ((gI in18 t17).bind fun y23 =>
 (gI in18 t17).bind fun y24 =>
 bif !y24 then
 some (.inl (true, in18))
 else
 bif y20.2.2.1 != 0 then
 some (.inl (true, in18))
 else
 (F41 s1.1 y20).bind fun r25 =>
 some (.inl (!r25, in18))).bind (Sum.elim (J16_4 s1 t17 y20) some)).bind (Sum.elim (J16_3 t17) some)
 else
 (loopL (L16_5 s1) (0, in18, [])).map .inr
noncomputable def L16_1 (s1 : TN × TS × TI × Int × Int × Int × Int) (l2 : List Int) : (Int × List Bool) → Option ((Int × List Bool) ⊕ (List Int)) := fun (i5, in6) =>
 bif decide (i5 < (List.length l2 : Int)) then
 (((gI l2 i5).bind fun y10 =>
 bif decide (y10 ≥ 0) then
 (gI l2 i5).bind fun y11 =>
 some (.inl (decide (y11 < (List.length in6 : Int)), in6))
 else
 some (.inl (false, in6))).bind (Sum.elim (J16_2 l2 i5) some)).bind (Sum.elim (J16_1 i5) some)
 else
 (loopL (L16_2 s1) (IntKind.wrap .i64 ((List.length in6 : Int) - 1), in6)).map .inr
noncomputable def F16 (s1 : TN × TS × TI × Int × Int × Int × Int) (l2 : List Int) : Option (List Int) :=
 bif decide ((0 : Int) ≤ (List.length s1.2.1 : Int) ∧ ((List.length s1.2.1 : Int) : Int) = (List.length s1.2.1 : Int) ∧ ((List.length s1.2.1 : Int) : Int) ≤ 1000000) then
 loopL (L16_1 s1 l2) (0, (List.replicate (Int.toNat (List.length s1.2.1 : Int)) false : List Bool))
 else none
-- 47 fulling/fullingref22.renumber
noncomputable def J47_2 (l1 : List Int) (at2 : List Int) (i6 : Int) : (Bool × List Int) → Option ((Int × List Int) ⊕ ((Int × List Int) ⊕ (List Int))) := fun (x10, out11) =>
 bif x10 then
 (gI l1 i6).bind fun y14 =>
 (gI at2 y14).bind fun y15 =>
 some (.inl (y15, out11))
 else
 some (.inl ((-1), out11))
noncomputable def J47_1 (i6 : Int) : (Int × List Int) → Option ((Int × List Int) ⊕ (List Int)) := fun (n8, out9) =>
 bif decide (List.length out9 + List.length ([n8] : List Int) ≤ 1000000) then
 some (.inl (IntKind.wrap .i64 (i6 + 1), out9 ++ ([n8] : List Int)))
 else none
noncomputable def L47_1 (l1 : List Int) (at2 : List Int) : (Int × List Int) → Option ((Int × List Int) ⊕ (List Int)) := fun (i6, out7) =>
 bif decide (i6 < (List.length l1 : Int)) then
 (((gI l1 i6).bind fun y12 =>
 bif decide (y12 ≥ 0) then
 (gI l1 i6).bind fun y13 =>
 some (.inl (decide (y13 < (List.length at2 : Int)), out7))
 else
 some (.inl (false, out7))).bind (Sum.elim (J47_2 l1 at2 i6) some)).bind (Sum.elim (J47_1 i6) some)
 else
 (some out7).map .inr
noncomputable def F47 (l1 : List Int) (at2 : List Int) : Option (List Int) :=
 loopL (L47_1 l1 at2) (0, [])
-- 55 fulling/fullingref22.markOperands
noncomputable def J55_3 (more16 : Bool) (y27 : Int) : (Bool × List Bool) → Option ((Bool × List Bool) ⊕ ((Bool × Int × List Bool) ⊕ ((Bool × Int × List Bool) ⊕ ((Bool × List Bool) ⊕ (List Bool))))) := fun (x28, in29) =>
 bif x28 then
 (gI in29 y27).bind fun y33 =>
 (gI in29 y27).bind fun y34 =>
 some (.inl (true, setI in29 y27 true))
 else
 some (.inl (more16, in29))
noncomputable def J55_2 (k17 : Int) : (Bool × List Bool) → Option ((Bool × Int × List Bool) ⊕ ((Bool × Int × List Bool) ⊕ ((Bool × List Bool) ⊕ (List Bool)))) := fun (more24, in25) =>
 some (.inl (more24, IntKind.wrap .i64 (k17 + 1), in25))
noncomputable def J55_1 (l1 : TN) (i11 : Int) (more16 : Bool) (k17 : Int) : (Bool × List Bool) → Option ((Bool × Int × List Bool) ⊕ ((Bool × Int × List Bool) ⊕ ((Bool × List Bool) ⊕ (List Bool)))) := fun (x19, in20) =>
 bif x19 then
 ((gI l1 i11).bind fun y26 =>
 (gI y26.2.2 k17).bind fun y27 =>
 ((F39 l1 y27).bind fun r30 =>
 bif r30 then
 (gI in20 y27).bind fun y31 =>
 (gI in20 y27).bind fun y32 =>
 some (.inl (!y32, in20))
 else
 some (.inl (false, in20))).bind (Sum.elim (J55_3 more16 y27) some)).bind (Sum.elim (J55_2 k17) some)
 else
 (some (.inl (more16, IntKind.wrap .i64 (i11 + 1), in20))).map .inr
noncomputable def L55_3 (l1 : TN) (i11 : Int) : (Bool × Int × List Bool) → Option ((Bool × Int × List Bool) ⊕ ((Bool × Int × List Bool) ⊕ ((Bool × List Bool) ⊕ (List Bool)))) := fun (more16, k17, in18) =>
 ((gI l1 i11).bind fun y21 =>
 bif decide (k17 < (List.length y21.2.2 : Int)) then
 (gI in18 i11).bind fun y22 =>
 (gI in18 i11).bind fun y23 =>
 some (.inl (y23, in18))
 else
 some (.inl (false, in18))).bind (Sum.elim (J55_1 l1 i11 more16 k17) some)
noncomputable def L55_2 (l1 : TN) : (Bool × Int × List Bool) → Option ((Bool × Int × List Bool) ⊕ ((Bool × List Bool) ⊕ (List Bool))) := fun (more10, i11, in12) =>
 bif decide (i11 < (List.length l1 : Int)) then
 loopL (L55_3 l1 i11) (more10, 0, in12)
 else
 (some (.inl (more10, in12))).map .inr
noncomputable def L55_1 (l1 : TN) : (Bool × List Bool) → Option ((Bool × List Bool) ⊕ (List Bool)) := fun (more5, in6) =>
 bif more5 then
 loopL (L55_2 l1) (false, 0, in6)
 else
 (some in6).map .inr
noncomputable def F55 (l1 : TN) (in2 : List Bool) : Option (List Bool) :=
 loopL (L55_1 l1) (true, in2)
-- 42 fulling/fullingref22.Subset
noncomputable def J42_1 (k22 : Int) : (List Bool) → Option ((Int × List Bool) ⊕ ((Int × List Bool) ⊕ (List Bool × TN × TS × List Int))) := fun in24 =>
 some (.inl (IntKind.wrap .i64 (k22 + 1), in24))
noncomputable def L42_2 (s1 : TN) (i12 : Int) (y15 : Int × Int × Int × List Int × List Int) : (Int × List Bool) → Option ((Int × List Bool) ⊕ ((Int × List Bool) ⊕ (List Bool × TN × TS × List Int))) := fun (k22, in23) =>
 bif decide (k22 < (List.length y15.2.2.2.1 : Int)) then
 ((gI y15.2.2.2.1 k22).bind fun y25 =>
 (F39 s1 y25).bind fun r26 =>
 bif r26 then
 (gI y15.2.2.2.1 k22).bind fun y27 =>
 (gI in23 y27).bind fun y28 =>
 (gI in23 y27).bind fun y29 =>
 some (.inl (setI in23 y27 true))
 else
 some (.inl in23)).bind (Sum.elim (J42_1 k22) some)
 else
 (some (.inl (IntKind.wrap .i64 (i12 + 1), in23))).map .inr
noncomputable def J42_2 (i36 : Int) : (Int × List Bool × List Int) → Option ((Int × Int × List Bool × List Int) ⊕ (List Bool × TN × TS × List Int)) := fun (n39, in40, at41) =>
 some (.inl (n39, IntKind.wrap .i64 (i36 + 1), in40, at41))
noncomputable def J42_3 (i55 : Int) : (List Bool × List Int × TN) → Option ((Int × List Bool × List Int × TN) ⊕ (List Bool × TN × TS × List Int)) := fun (in59, at60, nodes61) =>
 some (.inl (IntKind.wrap .i64 (i55 + 1), in59, at60, nodes61))
noncomputable def L42_5 (s2 : TS) (steps8 : List Int) : (Int × List Bool × List Int × TN × TS) → Option ((Int × List Bool × List Int × TN × TS) ⊕ (List Bool × TN × TS × List Int)) := fun (i75, in76, at77, nodes78, out79) =>
 bif decide (i75 < (List.length steps8 : Int)) then
 (gI steps8 i75).bind fun y80 =>
 (gI s2 y80).bind fun y81 =>
 (gI at77 y81.1).bind fun y82 =>
 (gI at77 y81.1).bind fun y83 =>
 (gI at77 y81.2.1).bind fun y84 =>
 (gI at77 y81.2.1).bind fun y85 =>
 (F47 y81.2.2.2.1 at77).bind fun r86 =>
 bif decide (List.length y81.2.2.2.2 ≤ 1000000) then
 bif decide (List.length out79 + List.length ([(y83, y85, y81.2.2.1, r86, y81.2.2.2.2)] : TS) ≤ 1000000) then
 some (.inl (IntKind.wrap .i64 (i75 + 1), in76, at77, nodes78, out79 ++ ([(y83, y85, y81.2.2.1, r86, y81.2.2.2.2)] : TS)))
 else none
 else none
 else
 (some (in76, nodes78, out79, at77)).map .inr
noncomputable def L42_4 (s1 : TN) (s2 : TS) (steps8 : List Int) : (Int × List Bool × List Int × TN) → Option ((Int × List Bool × List Int × TN) ⊕ (List Bool × TN × TS × List Int)) := fun (i55, in56, at57, nodes58) =>
 bif decide (i55 < (List.length at57 : Int)) then
 ((gI in56 i55).bind fun y62 =>
 (gI in56 i55).bind fun y63 =>
 bif y63 then
 (gI s1 i55).bind fun y64 =>
 (F47 y64.2.2 at57).bind fun r65 =>
 bif decide (List.length nodes58 + List.length ([(y64.1, y64.2.1, r65)] : TN) ≤ 1000000) then
 some (.inl (in56, at57, nodes58 ++ ([(y64.1, y64.2.1, r65)] : TN)))
 else none
 else
 some (.inl (in56, at57, nodes58))).bind (Sum.elim (J42_3 i55) some)
 else
 (loopL (L42_5 s2 steps8) (0, in56, at57, nodes58, [])).map .inr
noncomputable def L42_3 (s1 : TN) (s2 : TS) (steps8 : List Int) : (Int × Int × List Bool × List Int) → Option ((Int × Int × List Bool × List Int) ⊕ (List Bool × TN × TS × List Int)) := fun (n35, i36, in37, at38) =>
 bif decide (i36 < (List.length at38 : Int)) then
 ((gI at38 i36).bind fun y42 =>
 (gI at38 i36).bind fun y43 =>
 (gI in37 i36).bind fun y44 =>
 (gI in37 i36).bind fun y45 =>
 bif y45 then
 (gI (setI at38 i36 (-1)) i36).bind fun y46 =>
 (gI (setI at38 i36 (-1)) i36).bind fun y47 =>
 some (.inl (IntKind.wrap .i64 (n35 + 1), in37, setI (setI at38 i36 (-1)) i36 n35))
 else
 some (.inl (n35, in37, setI at38 i36 (-1)))).bind (Sum.elim (J42_2 i36) some)
 else
 (loopL (L42_4 s1 s2 steps8) (0, in37, at38, [])).map .inr
noncomputable def L42_1 (s1 : TN) (s2 : TS) (steps8 : List Int) : (Int × List Bool) → Option ((Int × List Bool) ⊕ (List Bool × TN × TS × List Int)) := fun (i12, in13) =>
 bif decide (i12 < (List.length steps8 : Int)) then
 (gI steps8 i12).bind fun y14 =>
 (gI s2 y14).bind fun y15 =>
 (gI in13 y15.1).bind fun y16 =>
 (gI in13 y15.1).bind fun y17 =>
 (gI (setI in13 y15.1 true) y15.2.1).bind fun y18 =>
 (gI (setI in13 y15.1 true) y15.2.1).bind fun y19 =>
 loopL (L42_2 s1 i12 y15) (0, setI (setI in13 y15.1 true) y15.2.1 true)
 else
 ((F55 s1 in13).bind fun r30 =>
 bif decide ((0 : Int) ≤ (List.length s1 : Int) ∧ ((List.length s1 : Int) : Int) = (List.length s1 : Int) ∧ ((List.length s1 : Int) : Int) ≤ 1000000) then
 loopL (L42_3 s1 s2 steps8) (0, 0, r30, (List.replicate (Int.toNat (List.length s1 : Int)) 0 : List Int))
 else none).map .inr
noncomputable def F42 (s1 : TN) (s2 : TS) (s3 : TI) (s4 : Int) (s5 : Int) (s6 : Int) (s7 : Int) (steps8 : List Int) (in9 : List Bool) : Option (List Bool × TN × TS × List Int) :=
 loopL (L42_1 s1 s2 steps8) (0, in9)
-- 17 fulling/fullingref22.Prove
noncomputable def F17 (s1 : TN × TS × TI × Int × Int × Int × Int) (a2 : Int) (b3 : Int) : Option (TQ × Bool) :=
 (F14 s1 a2 b3 (List.length s1.2.1 : Int)).bind fun r4 =>
 bif !r4.2 then
 some (([], [], 0, 0), false)
 else
 bif decide ((0 : Int) ≤ (List.length s1.1 : Int) ∧ ((List.length s1.1 : Int) : Int) = (List.length s1.1 : Int) ∧ ((List.length s1.1 : Int) : Int) ≤ 1000000) then
 (gI (List.replicate (Int.toNat (List.length s1.1 : Int)) false : List Bool) a2).bind fun y5 =>
 (gI (List.replicate (Int.toNat (List.length s1.1 : Int)) false : List Bool) a2).bind fun y6 =>
 (gI (setI (List.replicate (Int.toNat (List.length s1.1 : Int)) false : List Bool) a2 true) b3).bind fun y7 =>
 (gI (setI (List.replicate (Int.toNat (List.length s1.1 : Int)) false : List Bool) a2 true) b3).bind fun y8 =>
 (F16 s1 r4.1).bind fun r9 =>
 (F42 s1.1 s1.2.1 s1.2.2.1 s1.2.2.2.1 s1.2.2.2.2.1 s1.2.2.2.2.2.1 s1.2.2.2.2.2.2 r9 (setI (setI (List.replicate (Int.toNat (List.length s1.1 : Int)) false : List Bool) a2 true) b3 true)).bind fun r10 =>
 (gI r10.2.2.2 a2).bind fun y11 =>
 (gI r10.2.2.2 a2).bind fun y12 =>
 (gI r10.2.2.2 b3).bind fun y13 =>
 (gI r10.2.2.2 b3).bind fun y14 =>
 some ((r10.2.1, r10.2.2.1, y12, y14), true)
 else none
-- 24 fulling/fullingref7.SameNodes
noncomputable def L24_1 (a1 : TN) (b2 : TN) : Int → Option (Int ⊕ Bool) := fun i4 =>
 bif decide (i4 < (List.length a1 : Int)) then
 (gI a1 i4).bind fun y5 =>
 (gI b2 i4).bind fun y6 =>
 (F48 y5 y6).bind fun r7 =>
 bif !r7 then
 (some false).map .inr
 else
 some (.inl (IntKind.wrap .i64 (i4 + 1)))
 else
 (some true).map .inr
noncomputable def F24 (a1 : TN) (b2 : TN) : Option Bool :=
 bif (List.length a1 : Int) != (List.length b2 : Int) then
 some false
 else
 loopL (L24_1 a1 b2) 0
-- 25 fulling/fullingref22.SameSteps
noncomputable def L25_2 (i4 : Int) (y5 : Int × Int × Int × List Int × List Int) (y6 : Int × Int × Int × List Int × List Int) : Int → Option (Int ⊕ (Int ⊕ Bool)) := fun k10 =>
 bif decide (k10 < (List.length y5.2.2.2.2 : Int)) then
 (gI y5.2.2.2.2 k10).bind fun y11 =>
 (gI y6.2.2.2.2 k10).bind fun y12 =>
 bif y11 != y12 then
 ((some false).map .inr).map .inr
 else
 some (.inl (IntKind.wrap .i64 (k10 + 1)))
 else
 (some (.inl (IntKind.wrap .i64 (i4 + 1)))).map .inr
noncomputable def J25_1 (i4 : Int) (y5 : Int × Int × Int × List Int × List Int) (y6 : Int × Int × Int × List Int × List Int) : Bool → Option (Int ⊕ Bool) := fun x7 =>
 bif x7 then
 (some false).map .inr
 else
 loopL (L25_2 i4 y5 y6) 0
noncomputable def L25_1 (a1 : TS) (b2 : TS) : Int → Option (Int ⊕ Bool) := fun i4 =>
 bif decide (i4 < (List.length a1 : Int)) then
 (gI a1 i4).bind fun y5 =>
 (gI b2 i4).bind fun y6 =>
 (bif y5.1 != y6.1 then
 some (.inl true)
 else
 bif y5.2.1 != y6.2.1 then
 some (.inl true)
 else
 bif y5.2.2.1 != y6.2.2.1 then
 some (.inl true)
 else
 (F10 y5.2.2.2.1 y6.2.2.2.1).bind fun r8 =>
 bif !r8 then
 some (.inl true)
 else
 some (.inl ((List.length y5.2.2.2.2 : Int) != (List.length y6.2.2.2.2 : Int)))).bind (Sum.elim (J25_1 i4 y5 y6) some)
 else
 (some true).map .inr
noncomputable def F25 (a1 : TS) (b2 : TS) : Option Bool :=
 bif (List.length a1 : Int) != (List.length b2 : Int) then
 some false
 else
 loopL (L25_1 a1 b2) 0
-- 18 fulling/fullingref22.SameProof
noncomputable def J18_1 : Bool → Option Bool := fun x3 =>
 some x3
noncomputable def F18 (a1 : TN × TS × Int × Int) (b2 : TN × TS × Int × Int) : Option Bool :=
 (bif a1.2.2.1 == b2.2.2.1 then
 bif a1.2.2.2 == b2.2.2.2 then
 (F24 a1.1 b2.1).bind fun r4 =>
 bif r4 then
 (F25 a1.2.1 b2.2.1).bind fun r5 =>
 some (.inl r5)
 else
 some (.inl false)
 else
 some (.inl false)
 else
 some (.inl false)).bind (Sum.elim J18_1 some)
-- 57 fulling/fullingref22.congruent
noncomputable def J57_2 (k9 : Int) : Bool → Option (Int ⊕ Bool) := fun x10 =>
 bif x10 then
 (some false).map .inr
 else
 some (.inl (IntKind.wrap .i64 (k9 + 1)))
noncomputable def L57_1 (l1 : TN) (one2 : List Int) (y5 : Int × Int × List Int) (y6 : Int × Int × List Int) : Int → Option (Int ⊕ Bool) := fun k9 =>
 bif decide (k9 < (List.length y5.2.2 : Int)) then
 ((gI y5.2.2 k9).bind fun y11 =>
 (F39 l1 y11).bind fun r12 =>
 bif !r12 then
 some (.inl true)
 else
 (gI y6.2.2 k9).bind fun y13 =>
 (F39 l1 y13).bind fun r14 =>
 bif !r14 then
 some (.inl true)
 else
 (gI y5.2.2 k9).bind fun y15 =>
 (gI one2 y15).bind fun y16 =>
 (gI y6.2.2 k9).bind fun y17 =>
 (gI one2 y17).bind fun y18 =>
 some (.inl (y16 != y18))).bind (Sum.elim (J57_2 k9) some)
 else
 (some true).map .inr
noncomputable def J57_1 (l1 : TN) (one2 : List Int) (y5 : Int × Int × List Int) (y6 : Int × Int × List Int) : Bool → Option Bool := fun x7 =>
 bif x7 then
 some false
 else
 loopL (L57_1 l1 one2 y5 y6) 0
noncomputable def F57 (l1 : TN) (one2 : List Int) (a3 : Int) (b4 : Int) : Option Bool :=
 (gI l1 a3).bind fun y5 =>
 (gI l1 b4).bind fun y6 =>
 (bif y5.1 != y6.1 then
 some (.inl true)
 else
 bif y5.2.1 != y6.2.1 then
 some (.inl true)
 else
 some (.inl ((List.length y5.2.2 : Int) != (List.length y6.2.2 : Int)))).bind (Sum.elim (J57_1 l1 one2 y5 y6) some)
-- 56 fulling/fullingref22.identity
noncomputable def L56_1 (n1 : Int) : (Int × List Int) → Option ((Int × List Int) ⊕ (List Int)) := fun (i4, l5) =>
 bif decide (i4 < n1) then
 (gI l5 i4).bind fun y6 =>
 (gI l5 i4).bind fun y7 =>
 some (.inl (IntKind.wrap .i64 (i4 + 1), setI l5 i4 i4))
 else
 (some l5).map .inr
noncomputable def F56 (n1 : Int) : Option (List Int) :=
 bif decide ((0 : Int) ≤ n1 ∧ (n1 : Int) = n1 ∧ (n1 : Int) ≤ 1000000) then
 loopL (L56_1 n1) (0, (List.replicate (Int.toNat n1) 0 : List Int))
 else none
-- 58 fulling/fullingref22.join
noncomputable def J58_1 (i10 : Int) : (List Int) → Option ((Int × List Int) ⊕ (List Int)) := fun l12 =>
 some (.inl (IntKind.wrap .i64 (i10 + 1), l12))
noncomputable def L58_1 (y5 : Int) (y7 : Int) : (Int × List Int) → Option ((Int × List Int) ⊕ (List Int)) := fun (i10, l11) =>
 bif decide (i10 < (List.length l11 : Int)) then
 ((gI l11 i10).bind fun y13 =>
 (gI l11 i10).bind fun y14 =>
 bif y14 == y7 then
 (gI l11 i10).bind fun y15 =>
 (gI l11 i10).bind fun y16 =>
 some (.inl (setI l11 i10 y5))
 else
 some (.inl l11)).bind (Sum.elim (J58_1 i10) some)
 else
 (some l11).map .inr
noncomputable def F58 (a1 : Int) (b2 : Int) (l3 : List Int) : Option (List Int) :=
 (gI l3 a1).bind fun y4 =>
 (gI l3 a1).bind fun y5 =>
 (gI l3 b2).bind fun y6 =>
 (gI l3 b2).bind fun y7 =>
 loopL (L58_1 y5 y7) (0, l3)
-- 43 fulling/fullingref22.replay
noncomputable def J43_1 (t6 : Int) (y8 : Int × Int × Int × List Int × List Int) : (Bool × List Int) → Option ((Int × List Int) ⊕ (List Int × Bool)) := fun (x9, one10) =>
 bif x9 then
 (some ([], false)).map .inr
 else
 (F58 y8.1 y8.2.1 one10).bind fun r13 =>
 some (.inl (IntKind.wrap .i64 (t6 + 1), r13))
noncomputable def L43_1 (l1 : TN) (steps2 : TS) : (Int × List Int) → Option ((Int × List Int) ⊕ (List Int × Bool)) := fun (t6, one7) =>
 bif decide (t6 < (List.length steps2 : Int)) then
 (gI steps2 t6).bind fun y8 =>
 ((F41 l1 y8).bind fun r11 =>
 bif !r11 then
 some (.inl (true, one7))
 else
 bif y8.2.2.1 == 0 then
 (F57 l1 one7 y8.1 y8.2.1).bind fun r12 =>
 some (.inl (!r12, one7))
 else
 some (.inl (false, one7))).bind (Sum.elim (J43_1 t6 y8) some)
 else
 (some (one7, true)).map .inr
noncomputable def F43 (l1 : TN) (steps2 : TS) : Option (List Int × Bool) :=
 (F56 (List.length l1 : Int)).bind fun r3 =>
 loopL (L43_1 l1 steps2) (0, r3)
-- 19 fulling/fullingref22.Connects
noncomputable def J19_1 : Bool → Option Bool := fun x3 =>
 some x3
noncomputable def F19 (p1 : TN × TS × Int × Int) : Option Bool :=
 (F43 p1.1 p1.2.1).bind fun r2 =>
 (bif r2.2 then
 (F39 p1.1 p1.2.2.1).bind fun r4 =>
 bif r4 then
 (F39 p1.1 p1.2.2.2).bind fun r5 =>
 bif r5 then
 (gI r2.1 p1.2.2.1).bind fun y6 =>
 (gI r2.1 p1.2.2.2).bind fun y7 =>
 some (.inl (y6 == y7))
 else
 some (.inl false)
 else
 some (.inl false)
 else
 some (.inl false)).bind (Sum.elim J19_1 some)
-- 44 fulling/explain.clone
noncomputable def L44_2 (p1 : TN × TS × Int × Int) : (Int × Int × Int × Int × Int × TN × TS) → Option ((Int × Int × Int × Int × Int × TN × TS) ⊕ TQ) := fun (x33, l34, l35, q36, q37, l38, l39) =>
 bif decide (x33 < (List.length p1.2.1 : Int)) then
 (gI p1.2.1 x33).bind fun y40 =>
 bif decide (List.length ([] : List Int) + List.length y40.2.2.2.1 ≤ 1000000) then
 bif decide (List.length ([] : List Int) + List.length y40.2.2.2.2 ≤ 1000000) then
 bif decide (List.length l39 + List.length ([(y40.1, y40.2.1, y40.2.2.1, ([] : List Int) ++ y40.2.2.2.1, ([] : List Int) ++ y40.2.2.2.2)] : TS) ≤ 1000000) then
 some (.inl (IntKind.wrap .i64 (x33 + 1), l34, l35, q36, q37, l38, l39 ++ ([(y40.1, y40.2.1, y40.2.2.1, ([] : List Int) ++ y40.2.2.2.1, ([] : List Int) ++ y40.2.2.2.2)] : TS)))
 else none
 else none
 else none
 else
 (some (l38, l39, q36, q37)).map .inr
noncomputable def L44_1 (p1 : TN × TS × Int × Int) : (Int × Int × Int × Int × Int × TN) → Option ((Int × Int × Int × Int × Int × TN) ⊕ TQ) := fun (x13, l14, l15, q16, q17, l18) =>
 bif decide (x13 < (List.length p1.1 : Int)) then
 (gI p1.1 x13).bind fun y19 =>
 bif decide (List.length ([] : List Int) + List.length y19.2.2 ≤ 1000000) then
 bif decide (List.length l18 + List.length ([(y19.1, y19.2.1, ([] : List Int) ++ y19.2.2)] : TN) ≤ 1000000) then
 some (.inl (IntKind.wrap .i64 (x13 + 1), l14, l15, q16, q17, l18 ++ ([(y19.1, y19.2.1, ([] : List Int) ++ y19.2.2)] : TN)))
 else none
 else none
 else
 (loopL (L44_2 p1) (0, l14, l15, q16, q17, l18, [])).map .inr
noncomputable def F44 (p1 : TN × TS × Int × Int) : Option TQ :=
 loopL (L44_1 p1) (0, 0, 0, p1.2.2.1, p1.2.2.2, [])
-- 20 fulling/explain.Minimize
noncomputable def J20_1 (k18 : Int) : (Int × Int × TN × Int × Int × TS) → Option ((Int × Int × Int × TN × Int × Int × TS) ⊕ TQ) := fun (l25, l26, q27, q28, q29, l30) =>
 some (.inl (IntKind.wrap .i64 (k18 - 1), l25, l26, q27, q28, q29, l30))
noncomputable def L20_1 : (Int × Int × Int × TN × Int × Int × TS) → Option ((Int × Int × Int × TN × Int × Int × TS) ⊕ TQ) := fun (k18, l19, l20, q21, q22, q23, l24) =>
 bif decide (k18 ≥ 0) then
 (bif decide ((0 : Int) ≤ 0 ∧ (0 : Int) ≤ k18 ∧ k18 ≤ (List.length l24 : Int)) then
 bif decide ((0 : Int) ≤ IntKind.wrap .i64 (k18 + 1) ∧ (IntKind.wrap .i64 (k18 + 1) : Int) ≤ (List.length l24 : Int) ∧ (List.length l24 : Int) ≤ (List.length l24 : Int)) then
 bif decide (List.length ([] : TS) + List.length (slI l24 0 k18) ≤ 1000000) then
 bif decide (List.length (([] : TS) ++ (slI l24 0 k18)) + List.length (slI l24 (IntKind.wrap .i64 (k18 + 1)) (List.length l24 : Int)) ≤ 1000000) then
 (F12 (q21, (([] : TS) ++ (slI l24 0 k18)) ++ (slI l24 (IntKind.wrap .i64 (k18 + 1)) (List.length l24 : Int)), q22, q23)).bind fun r31 =>
 bif r31 then
 some (.inl (l19, l20, q21, q22, q23, (([] : TS) ++ (slI l24 0 k18)) ++ (slI l24 (IntKind.wrap .i64 (k18 + 1)) (List.length l24 : Int))))
 else
 some (.inl (l19, l20, q21, q22, q23, l24))
 else none
 else none
 else none
 else none).bind (Sum.elim (J20_1 k18) some)
 else
 (some (q21, l24, q22, q23)).map .inr
noncomputable def F20 (p1 : TN × TS × Int × Int) : Option TQ :=
 (F44 p1).bind fun r2 =>
 (F12 r2).bind fun r3 =>
 bif !r3 then
 some r2
 else
 loopL L20_1 (IntKind.wrap .i64 ((List.length r2.2.1 : Int) - 1), 0, 0, r2.1, r2.2.2.1, r2.2.2.2, r2.2.1)
-- 45 fulling/fullingref22.CopyProof
noncomputable def L45_2 (p1 : TN × TS × Int × Int) : (Int × Int × Int × Int × Int × TN × TS) → Option ((Int × Int × Int × Int × Int × TN × TS) ⊕ TQ) := fun (i33, l34, l35, q36, q37, l38, l39) =>
 bif decide (i33 < (List.length p1.2.1 : Int)) then
 (gI p1.2.1 i33).bind fun y40 =>
 bif decide (List.length y40.2.2.2.1 ≤ 1000000) then
 bif decide (List.length y40.2.2.2.2 ≤ 1000000) then
 bif decide (List.length l39 + List.length ([y40] : TS) ≤ 1000000) then
 some (.inl (IntKind.wrap .i64 (i33 + 1), l34, l35, q36, q37, l38, l39 ++ ([y40] : TS)))
 else none
 else none
 else none
 else
 (some (l38, l39, q36, q37)).map .inr
noncomputable def L45_1 (p1 : TN × TS × Int × Int) : (Int × Int × Int × Int × Int × TN) → Option ((Int × Int × Int × Int × Int × TN) ⊕ TQ) := fun (i13, l14, l15, q16, q17, l18) =>
 bif decide (i13 < (List.length p1.1 : Int)) then
 (gI p1.1 i13).bind fun y19 =>
 bif decide (List.length y19.2.2 ≤ 1000000) then
 bif decide (List.length l18 + List.length ([y19] : TN) ≤ 1000000) then
 some (.inl (IntKind.wrap .i64 (i13 + 1), l14, l15, q16, q17, l18 ++ ([y19] : TN)))
 else none
 else none
 else
 (loopL (L45_2 p1) (0, l14, l15, q16, q17, l18, [])).map .inr
noncomputable def F45 (p1 : TN × TS × Int × Int) : Option TQ :=
 loopL (L45_1 p1) (0, 0, 0, p1.2.2.1, p1.2.2.2, [])
-- 21 fulling/fullingref22.Minimize
noncomputable def J21_1 (t18 : Int) : (Int × Int × TN × Int × Int × TS) → Option ((Int × Int × Int × TN × Int × Int × TS) ⊕ TQ) := fun (l25, l26, q27, q28, q29, l30) =>
 some (.inl (IntKind.wrap .i64 (t18 - 1), l25, l26, q27, q28, q29, l30))
noncomputable def L21_1 : (Int × Int × Int × TN × Int × Int × TS) → Option ((Int × Int × Int × TN × Int × Int × TS) ⊕ TQ) := fun (t18, l19, l20, q21, q22, q23, l24) =>
 bif decide (t18 ≥ 0) then
 (bif decide ((0 : Int) ≤ 0 ∧ (0 : Int) ≤ t18 ∧ t18 ≤ (List.length l24 : Int)) then
 bif decide ((0 : Int) ≤ IntKind.wrap .i64 (t18 + 1) ∧ (IntKind.wrap .i64 (t18 + 1) : Int) ≤ (List.length l24 : Int) ∧ (List.length l24 : Int) ≤ (List.length l24 : Int)) then
 bif decide (List.length (slI l24 0 t18) ≤ 1000000) then
 bif decide (List.length (slI l24 0 t18) + List.length (slI l24 (IntKind.wrap .i64 (t18 + 1)) (List.length l24 : Int)) ≤ 1000000) then
 (F19 (q21, (slI l24 0 t18) ++ (slI l24 (IntKind.wrap .i64 (t18 + 1)) (List.length l24 : Int)), q22, q23)).bind fun r31 =>
 bif r31 then
 some (.inl (l19, l20, q21, q22, q23, (slI l24 0 t18) ++ (slI l24 (IntKind.wrap .i64 (t18 + 1)) (List.length l24 : Int))))
 else
 some (.inl (l19, l20, q21, q22, q23, l24))
 else none
 else none
 else none
 else none).bind (Sum.elim (J21_1 t18) some)
 else
 (some (q21, l24, q22, q23)).map .inr
noncomputable def F21 (p1 : TN × TS × Int × Int) : Option TQ :=
 (F45 p1).bind fun r2 =>
 (F19 p1).bind fun r3 =>
 bif !r3 then
 some r2
 else
 loopL L21_1 (IntKind.wrap .i64 ((List.length r2.2.1 : Int) - 1), 0, 0, r2.1, r2.2.2.1, r2.2.2.2, r2.2.1)
-- 22 fulling/explain.Restrict
noncomputable def L22_3 (pairs3 : TP) (r49 : List Int) : (Int × Int × Int × Int × Int × TN × TS × Int × Int × Int × Int × TP × TI) → Option ((Int × Int × Int × Int × Int × TN × TS × Int × Int × Int × Int × TP × TI) ⊕ (TT × TP × Bool)) := fun (x79, l80, l81, l82, l83, o84, o85, o86, o87, o88, o89, out90, l91) =>
 bif decide (x79 < (List.length pairs3 : Int)) then
 (gI pairs3 x79).bind fun y92 =>
 (gI r49 y92.1).bind fun y93 =>
 (gI r49 y92.2).bind fun y94 =>
 bif decide (List.length out90 + List.length ([(y93, y94)] : TP) ≤ 1000000) then
 some (.inl (IntKind.wrap .i64 (x79 + 1), l80, l81, l82, l83, o84, o85, o86, o87, o88, o89, out90 ++ ([(y93, y94)] : TP), l91))
 else none
 else
 (some ((o84, o85, l91, o86, o87, o88, o89), out90, true)).map .inr
noncomputable def J22_1 (s1 : TN × TS × TI × Int × Int × Int × Int) (pairs3 : TP) (r28 : List Int) (k36 : Int) : (Bool × Int × Int × Int × Int × List Bool) → Option ((Int × Int × Int × Int × Int × List Bool) ⊕ (TT × TP × Bool)) := fun (x42, l43, l44, l45, l46, in47) =>
 bif x42 then
 (F29 s1.1 k36 in47).bind fun r48 =>
 some (.inl (IntKind.wrap .i64 (k36 + 1), l43, l44, l45, l46, r48))
 else
 ((F31 in47).bind fun r49 =>
 bif decide (List.length ([] : TI) + List.length s1.2.2.1 ≤ 1000000) then
 (F32 s1 r28 in47 r49).bind fun r50 =>
 (F46 ([s1.2.2.2.1, s1.2.2.2.2.1] : List Int) r49).bind fun r51 =>
 (gI r51 0).bind fun y52 =>
 (gI r51 1).bind fun y53 =>
 loopL (L22_3 pairs3 r49) (0, l43, l44, l45, l46, r50.1, r50.2, y52, y53, s1.2.2.2.2.2.1, s1.2.2.2.2.2.2, [], ([] : TI) ++ s1.2.2.1)
 else none).map .inr
noncomputable def L22_2 (s1 : TN × TS × TI × Int × Int × Int × Int) (first2 : Int) (pairs3 : TP) (r28 : List Int) : (Int × Int × Int × Int × Int × List Bool) → Option ((Int × Int × Int × Int × Int × List Bool) ⊕ (TT × TP × Bool)) := fun (k36, l37, l38, l39, l40, in41) =>
 (bif decide (k36 < first2) then
 some (.inl (decide (k36 < (List.length in41 : Int)), l37, l38, l39, l40, in41))
 else
 some (.inl (false, l37, l38, l39, l40, in41))).bind (Sum.elim (J22_1 s1 pairs3 r28 k36) some)
noncomputable def L22_1 (s1 : TN × TS × TI × Int × Int × Int × Int) (first2 : Int) (pairs3 : TP) : (Int × Int × Int × Int × Int × List Bool × List Int) → Option ((Int × Int × Int × Int × Int × List Bool × List Int) ⊕ (TT × TP × Bool)) := fun (x17, l18, l19, l20, l21, in22, all23) =>
 bif decide (x17 < (List.length pairs3 : Int)) then
 (gI pairs3 x17).bind fun y24 =>
 (F8 s1 y24.1 y24.2 (List.length s1.2.1 : Int)).bind fun r25 =>
 bif !r25.2 then
 (some (([], [], [], 0, 0, 0, 0), [], false)).map .inr
 else
 bif decide (List.length all23 + List.length r25.1 ≤ 1000000) then
 (F29 s1.1 y24.1 in22).bind fun r26 =>
 (F29 s1.1 y24.2 r26).bind fun r27 =>
 some (.inl (IntKind.wrap .i64 (x17 + 1), l18, l19, l20, l21, r27, all23 ++ r25.1))
 else none
 else
 ((F11 s1 all23).bind fun r28 =>
 (F30 s1.1 s1.2.1 s1.2.2.1 s1.2.2.2.1 s1.2.2.2.2.1 s1.2.2.2.2.2.1 s1.2.2.2.2.2.2 r28 in22).bind fun r29 =>
 loopL (L22_2 s1 first2 pairs3 r28) (0, l18, l19, l20, l21, r29)).map .inr
noncomputable def F22 (s1 : TN × TS × TI × Int × Int × Int × Int) (first2 : Int) (pairs3 : TP) : Option (TT × TP × Bool) :=
 bif decide ((0 : Int) ≤ (List.length s1.1 : Int) ∧ ((List.length s1.1 : Int) : Int) = (List.length s1.1 : Int) ∧ ((List.length s1.1 : Int) : Int) ≤ 1000000) then
 loopL (L22_1 s1 first2 pairs3) (0, 0, 0, 0, 0, (List.replicate (Int.toNat (List.length s1.1 : Int)) false : List Bool), [])
 else none
-- 23 fulling/fullingref22.Restrict
noncomputable def L23_3 (pairs3 : TP) : (Int × Int × Int × Int × Int × Int × Int × Int × Int × List Int × TP × TN × TS × TI) → Option ((Int × Int × Int × Int × Int × Int × Int × Int × Int × List Int × TP × TN × TS × TI) ⊕ (TT × TP × Bool)) := fun (k86, l87, l88, l89, l90, out91, out92, out93, out94, at95, by96, l97, l98, l99) =>
 bif decide (k86 < (List.length pairs3 : Int)) then
 (gI pairs3 k86).bind fun y100 =>
 (gI at95 y100.1).bind fun y101 =>
 (gI at95 y100.1).bind fun y102 =>
 (gI pairs3 k86).bind fun y103 =>
 (gI at95 y103.2).bind fun y104 =>
 (gI at95 y103.2).bind fun y105 =>
 bif decide (List.length by96 + List.length ([(y102, y105)] : TP) ≤ 1000000) then
 some (.inl (IntKind.wrap .i64 (k86 + 1), l87, l88, l89, l90, out91, out92, out93, out94, at95, by96 ++ ([(y102, y105)] : TP), l97, l98, l99))
 else none
 else
 (some ((l97, l98, l99, out91, out92, out93, out94), by96, true)).map .inr
noncomputable def L23_2 (s1 : TN × TS × TI × Int × Int × Int × Int) (pairs3 : TP) : (Int × Int × Int × Int × Int × List Bool × List Int) → Option ((Int × Int × Int × Int × Int × List Bool × List Int) ⊕ (TT × TP × Bool)) := fun (k37, l38, l39, l40, l41, in42, all43) =>
 bif decide (k37 < (List.length pairs3 : Int)) then
 (gI pairs3 k37).bind fun y44 =>
 (gI pairs3 k37).bind fun y45 =>
 (F14 s1 y44.1 y45.2 (List.length s1.2.1 : Int)).bind fun r46 =>
 bif !r46.2 then
 (some (([], [], [], 0, 0, 0, 0), [], false)).map .inr
 else
 (gI pairs3 k37).bind fun y47 =>
 (gI pairs3 k37).bind fun y48 =>
 (gI in42 y47.1).bind fun y49 =>
 (gI in42 y47.1).bind fun y50 =>
 (gI (setI in42 y47.1 true) y48.2).bind fun y51 =>
 (gI (setI in42 y47.1 true) y48.2).bind fun y52 =>
 bif decide (List.length all43 + List.length r46.1 ≤ 1000000) then
 some (.inl (IntKind.wrap .i64 (k37 + 1), l38, l39, l40, l41, setI (setI in42 y47.1 true) y48.2 true, all43 ++ r46.1))
 else none
 else
 (bif decide (List.length s1.2.2.1 ≤ 1000000) then
 (F16 s1 all43).bind fun r53 =>
 (F42 s1.1 s1.2.1 s1.2.2.1 s1.2.2.2.1 s1.2.2.2.2.1 s1.2.2.2.2.2.1 s1.2.2.2.2.2.2 r53 in42).bind fun r54 =>
 (F47 ([s1.2.2.2.1] : List Int) r54.2.2.2).bind fun r55 =>
 (gI r55 0).bind fun y56 =>
 (F47 ([s1.2.2.2.2.1] : List Int) r54.2.2.2).bind fun r57 =>
 (gI r57 0).bind fun y58 =>
 loopL (L23_3 pairs3) (0, l38, l39, l40, l41, y56, y58, s1.2.2.2.2.2.1, s1.2.2.2.2.2.2, r54.2.2.2, [], r54.2.1, r54.2.2.1, s1.2.2.1)
 else none).map .inr
noncomputable def J23_1 (s1 : TN × TS × TI × Int × Int × Int × Int) (pairs3 : TP) (i10 : Int) : (Bool × Int × Int × Int × Int × List Bool) → Option ((Int × Int × Int × Int × Int × List Bool) ⊕ (TT × TP × Bool)) := fun (x16, l17, l18, l19, l20, in21) =>
 bif x16 then
 (gI in21 i10).bind fun y22 =>
 (gI in21 i10).bind fun y23 =>
 some (.inl (IntKind.wrap .i64 (i10 + 1), l17, l18, l19, l20, setI in21 i10 true))
 else
 (loopL (L23_2 s1 pairs3) (0, l17, l18, l19, l20, in21, [])).map .inr
noncomputable def L23_1 (s1 : TN × TS × TI × Int × Int × Int × Int) (first2 : Int) (pairs3 : TP) : (Int × Int × Int × Int × Int × List Bool) → Option ((Int × Int × Int × Int × Int × List Bool) ⊕ (TT × TP × Bool)) := fun (i10, l11, l12, l13, l14, in15) =>
 (bif decide (i10 < first2) then
 some (.inl (decide (i10 < (List.length in15 : Int)), l11, l12, l13, l14, in15))
 else
 some (.inl (false, l11, l12, l13, l14, in15))).bind (Sum.elim (J23_1 s1 pairs3 i10) some)
noncomputable def F23 (s1 : TN × TS × TI × Int × Int × Int × Int) (first2 : Int) (pairs3 : TP) : Option (TT × TP × Bool) :=
 bif decide ((0 : Int) ≤ (List.length s1.1 : Int) ∧ ((List.length s1.1 : Int) : Int) = (List.length s1.1 : Int) ∧ ((List.length s1.1 : Int) : Int) ≤ 1000000) then
 loopL (L23_1 s1 first2 pairs3) (0, 0, 0, 0, 0, (List.replicate (Int.toNat (List.length s1.1 : Int)) false : List Bool))
 else none
-- 6 fulling/fullinglaw22.ExplainProves
noncomputable def L6_2 (x14 : Int) (r31 : TT × TP × Bool) (r33 : TT × TP × Bool) : (Int × TP) → Option ((Int × TP) ⊕ ((Int × TP) ⊕ Bool)) := fun (i40, l41) =>
 bif decide (i40 < (List.length r31.2.1 : Int)) then
 (gI r31.2.1 i40).bind fun y42 =>
 (gI r33.2.1 i40).bind fun y43 =>
 bif !(y42.1 == y43.1 && y42.2 == y43.2) then
 ((some false).map .inr).map .inr
 else
 some (.inl (IntKind.wrap .i64 (i40 + 1), l41))
 else
 (some (.inl (IntKind.wrap .i64 (x14 + 1), l41))).map .inr
noncomputable def J6_2 (x14 : Int) (r31 : TT × TP × Bool) (r33 : TT × TP × Bool) : (Bool × TP) → Option ((Int × TP) ⊕ Bool) := fun (x34, l35) =>
 bif x34 then
 (some false).map .inr
 else
 loopL (L6_2 x14 r31 r33) (0, l35)
noncomputable def J6_1 (first7 : Int) (r8 : TN × TS × TI × Int × Int × Int × Int) (x14 : Int) : (Bool × Int × Int × TP) → Option ((Int × TP) ⊕ Bool) := fun (x20, x21, x22, l23) =>
 bif x20 then
 (some false).map .inr
 else
 (F15 first7 (IntKind.wrap .i64 ((List.length r8.1 : Int) + 2))).bind fun r30 =>
 (F22 r8 r30 ([(x21, x22), (r8.2.2.2.2.1, r8.2.2.2.2.1)] : TP)).bind fun r31 =>
 (F15 first7 (IntKind.wrap .i64 ((List.length r8.1 : Int) + 2))).bind fun r32 =>
 (F23 r8 r32 ([(x21, x22), (r8.2.2.2.2.1, r8.2.2.2.2.1)] : TP)).bind fun r33 =>
 (bif !(r31.2.2 == r33.2.2) then
 some (.inl (true, l23))
 else
 bif (List.length r31.2.1 : Int) != (List.length r33.2.1 : Int) then
 some (.inl (true, l23))
 else
 bif r31.1.2.2.2.1 != r33.1.2.2.2.1 then
 some (.inl (true, l23))
 else
 bif r31.1.2.2.2.2.1 != r33.1.2.2.2.2.1 then
 some (.inl (true, l23))
 else
 (F24 r31.1.1 r33.1.1).bind fun r36 =>
 bif !r36 then
 some (.inl (true, l23))
 else
 (F25 r31.1.2.1 r33.1.2.1).bind fun r37 =>
 some (.inl (!r37, l23))).bind (Sum.elim (J6_2 x14 r31 r33) some)
noncomputable def L6_1 (a5 : Int) (b6 : Int) (first7 : Int) (r8 : TN × TS × TI × Int × Int × Int × Int) (r9 : Int) (r10 : Int) (r11 : Int) : (Int × TP) → Option ((Int × TP) ⊕ Bool) := fun (x14, l15) =>
 bif decide (x14 < (List.length ([(a5, b6), (r9, r10), (r8.2.2.2.1, r11)] : TP) : Int)) then
 (gI l15 x14).bind fun y16 =>
 (gI l15 x14).bind fun y17 =>
 (F9 r8 y17.1 y17.2).bind fun r18 =>
 (F17 r8 y17.1 y17.2).bind fun r19 =>
 (bif !(r18.2 == r19.2) then
 some (.inl (true, y17.1, y17.2, l15))
 else
 (F18 r18.1 r19.1).bind fun r24 =>
 bif !r24 then
 some (.inl (true, y17.1, y17.2, l15))
 else
 (F12 r19.1).bind fun r25 =>
 (F19 r19.1).bind fun r26 =>
 bif !(r25 == r26) then
 some (.inl (true, y17.1, y17.2, l15))
 else
 (F20 r19.1).bind fun r27 =>
 (F21 r19.1).bind fun r28 =>
 (F18 r27 r28).bind fun r29 =>
 some (.inl (!r29, y17.1, y17.2, l15))).bind (Sum.elim (J6_1 first7 r8 x14) some)
 else
 ((F3).bind fun r44 =>
 some r44).map .inr
noncomputable def F6 (l1 : List Int) (steps2 : List Int) (how3 : Int) (at4 : Int) (a5 : Int) (b6 : Int) (first7 : Int) : Option Bool :=
 (F13 l1 steps2 how3 at4).bind fun r8 =>
 (F15 a5 (List.length r8.1 : Int)).bind fun r9 =>
 (F15 b6 (List.length r8.1 : Int)).bind fun r10 =>
 (F15 a5 (List.length r8.1 : Int)).bind fun r11 =>
 loopL (L6_1 a5 b6 first7 r8 r9 r10 r11) (0, ([(a5, b6), (r9, r10), (r8.2.2.2.1, r11)] : TP))
end Go.Dat
