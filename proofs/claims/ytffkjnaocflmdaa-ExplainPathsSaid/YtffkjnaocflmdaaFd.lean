/-
  What the program's functions compute, as plain functions. Printed by program.
-/
import Derived.Test.YtffkjnaocflmdaaE2Run
namespace Go.Dat
open Go.Eng
set_option linter.unusedVariables false
noncomputable def F3 : Option Bool := some true
-- 26 fulling/explain.inRange
noncomputable def J26_1 : Bool → Option Bool := fun x3 =>
  some x3
noncomputable def F26 (l1 : List (Int × Int × List Int)) (i2 : Int) : Option Bool :=
  (bif decide (i2 ≥ 0) then
    some (.inl (decide (i2 < (List.length l1 : Int))))
  else
    some (.inl false)).bind (Sum.elim J26_1 some)
-- 27 fulling/explain.shortest
noncomputable def J27_1 (x24 : Int) : (List Int × List Int) → Option ((Int × List Int × List Int) ⊕ ((Int × List Int × List Int) ⊕ (List Int × Bool))) := fun (dist27, queue28) =>
  some (.inl (IntKind.wrap .i64 (x24 + 1), dist27, queue28))
noncomputable def L27_3 (k15 : Int) (y20 : List (Int × Int)) : (Int × List Int × List Int) → Option ((Int × List Int × List Int) ⊕ ((Int × List Int × List Int) ⊕ (List Int × Bool))) := fun (x24, dist25, queue26) =>
  bif decide (x24 < (List.length y20 : Int)) then
    ((gI y20 x24).bind fun y29 =>
    (gI dist25 y29.1).bind fun y30 =>
    (gI dist25 y29.1).bind fun y31 =>
    bif decide (y31 < 0) then
      (gI queue26 k15).bind fun y32 =>
      (gI queue26 k15).bind fun y33 =>
      (gI dist25 y33).bind fun y34 =>
      (gI dist25 y33).bind fun y35 =>
      (gI dist25 y29.1).bind fun y36 =>
      (gI dist25 y29.1).bind fun y37 =>
      bif decide (List.length queue26 + List.length ([y29.1] : List Int) ≤ 1000000) then
        some (.inl (setI dist25 y29.1 (IntKind.wrap .i64 (y35 + 1)), queue26 ++ ([y29.1] : List Int)))
      else none
    else
      some (.inl (dist25, queue26))).bind (Sum.elim (J27_1 x24) some)
  else
    (some (.inl (IntKind.wrap .i64 (k15 + 1), dist25, queue26))).map .inr
noncomputable def L27_5 (y48 : List (Int × Int)) : (Int × Int × List Int × List Int) → Option ((Int × Int × List Int × List Int) ⊕ ((Int × List Int × List Int) ⊕ (List Int × Bool))) := fun (a53, x54, dist55, out56) =>
  bif decide (x54 < (List.length y48 : Int)) then
    (gI y48 x54).bind fun y57 =>
    (gI dist55 y57.1).bind fun y58 =>
    (gI dist55 y57.1).bind fun y59 =>
    (gI dist55 a53).bind fun y60 =>
    (gI dist55 a53).bind fun y61 =>
    bif y59 == (IntKind.wrap .i64 (y61 - 1)) then
      bif decide (List.length out56 + List.length ([y57.2] : List Int) ≤ 1000000) then
        (some (.inl (y57.1, dist55, out56 ++ ([y57.2] : List Int)))).map .inr
      else none
    else
      some (.inl (a53, IntKind.wrap .i64 (x54 + 1), dist55, out56))
  else
    (some (.inl (a53, dist55, out56))).map .inr
noncomputable def L27_4 (all1 : List (List (Int × Int))) (b3 : Int) : (Int × List Int × List Int) → Option ((Int × List Int × List Int) ⊕ (List Int × Bool)) := fun (a45, dist46, out47) =>
  bif a45 != b3 then
    (gI all1 a45).bind fun y48 =>
    loopL (L27_5 y48) (a45, 0, dist46, out47)
  else
    (some (out47, true)).map .inr
noncomputable def L27_2 (all1 : List (List (Int × Int))) (a2 : Int) (b3 : Int) : (Int × List Int × List Int) → Option ((Int × List Int × List Int) ⊕ (List Int × Bool)) := fun (k15, dist16, queue17) =>
  bif decide (k15 < (List.length queue17 : Int)) then
    (gI queue17 k15).bind fun y18 =>
    (gI queue17 k15).bind fun y19 =>
    (gI all1 y19).bind fun y20 =>
    loopL (L27_3 k15 y20) (0, dist16, queue17)
  else
    ((gI dist16 a2).bind fun y38 =>
    (gI dist16 a2).bind fun y39 =>
    bif decide (y39 < 0) then
      some ([], false)
    else
      loopL (L27_4 all1 b3) (a2, dist16, [])).map .inr
noncomputable def L27_1 (all1 : List (List (Int × Int))) (a2 : Int) (b3 : Int) : (Int × List Int) → Option ((Int × List Int) ⊕ (List Int × Bool)) := fun (x6, dist7) =>
  bif decide (x6 < (List.length (List.replicate (Int.toNat (List.length all1 : Int)) 0 : List Int) : Int)) then
    (gI dist7 x6).bind fun y8 =>
    (gI dist7 x6).bind fun y9 =>
    some (.inl (IntKind.wrap .i64 (x6 + 1), setI dist7 x6 (-1)))
  else
    ((gI dist7 b3).bind fun y10 =>
    (gI dist7 b3).bind fun y11 =>
    loopL (L27_2 all1 a2 b3) (0, setI dist7 b3 0, ([b3] : List Int))).map .inr
noncomputable def F27 (all1 : List (List (Int × Int))) (a2 : Int) (b3 : Int) : Option (List Int × Bool) :=
  bif decide ((0 : Int) ≤ (List.length all1 : Int) ∧ ((List.length all1 : Int) : Int) = (List.length all1 : Int) ∧ ((List.length all1 : Int) : Int) ≤ 1000000) then
    loopL (L27_1 all1 a2 b3) (0, (List.replicate (Int.toNat (List.length all1 : Int)) 0 : List Int))
  else none
-- 28 fulling/explain.edges
noncomputable def J28_3 (x6 : Int) (y9 : Int × Int × Int × List Int × List Int) : (Bool × List (List (Int × Int))) → Option ((List (List (Int × Int))) ⊕ ((Int × List (List (Int × Int))) ⊕ ((List (List (Int × Int))) ⊕ (List (List (Int × Int)))))) := fun (x10, out11) =>
  bif x10 then
    some (.inl out11)
  else
    (gI out11 y9.1).bind fun y14 =>
    (gI out11 y9.1).bind fun y15 =>
    bif decide (List.length y15 + List.length ([(y9.2.1, x6)] : List (Int × Int)) ≤ 1000000) then
      (gI out11 y9.1).bind fun y16 =>
      (gI out11 y9.1).bind fun y17 =>
      bif decide (y9.1 = y9.1) then
        (gI (setI out11 y9.1 (y15 ++ ([(y9.2.1, x6)] : List (Int × Int)))) y9.2.1).bind fun y18 =>
        (gI (setI out11 y9.1 (y15 ++ ([(y9.2.1, x6)] : List (Int × Int)))) y9.2.1).bind fun y19 =>
        bif decide (List.length y19 + List.length ([(y9.1, x6)] : List (Int × Int)) ≤ 1000000) then
          (gI (setI out11 y9.1 (y15 ++ ([(y9.2.1, x6)] : List (Int × Int)))) y9.2.1).bind fun y20 =>
          (gI (setI out11 y9.1 (y15 ++ ([(y9.2.1, x6)] : List (Int × Int)))) y9.2.1).bind fun y21 =>
          bif decide (y9.2.1 = y9.2.1) then
            some (.inl (setI (setI out11 y9.1 (y15 ++ ([(y9.2.1, x6)] : List (Int × Int)))) y9.2.1 (y19 ++ ([(y9.1, x6)] : List (Int × Int)))))
          else none
        else none
      else none
    else none
noncomputable def J28_2 (x6 : Int) : (List (List (Int × Int))) → Option ((Int × List (List (Int × Int))) ⊕ ((List (List (Int × Int))) ⊕ (List (List (Int × Int))))) := fun out8 =>
  some (.inl (IntKind.wrap .i64 (x6 + 1), out8))
noncomputable def L28_1 (s1 : (List (Int × Int × List Int)) × (List (Int × Int × Int × List Int × List Int)) × (List (Int × Int × Int)) × Int × Int × Int × Int) (below2 : Int) : (Int × List (List (Int × Int))) → Option ((Int × List (List (Int × Int))) ⊕ ((List (List (Int × Int))) ⊕ (List (List (Int × Int))))) := fun (x6, out7) =>
  bif decide (x6 < (List.length s1.2.1 : Int)) then
    ((gI s1.2.1 x6).bind fun y9 =>
    bif decide (x6 ≥ below2) then
      ((some (.inl out7)).map .inr).map .inr
    else
      ((F26 s1.1 y9.1).bind fun r12 =>
      bif !r12 then
        some (.inl (true, out7))
      else
        (F26 s1.1 y9.2.1).bind fun r13 =>
        some (.inl (!r13, out7))).bind (Sum.elim (J28_3 x6 y9) some)).bind (Sum.elim (J28_2 x6) some)
  else
    (some (.inl out7)).map .inr
noncomputable def J28_1 : (List (List (Int × Int))) → Option (List (List (Int × Int))) := fun out3 =>
  some out3
noncomputable def F28 (s1 : (List (Int × Int × List Int)) × (List (Int × Int × Int × List Int × List Int)) × (List (Int × Int × Int)) × Int × Int × Int × Int) (below2 : Int) : Option (List (List (Int × Int))) :=
  bif decide ((0 : Int) ≤ (List.length s1.1 : Int) ∧ ((List.length s1.1 : Int) : Int) = (List.length s1.1 : Int) ∧ ((List.length s1.1 : Int) : Int) ≤ 1000000) then
    (loopL (L28_1 s1 below2) (0, (List.replicate (Int.toNat (List.length s1.1 : Int)) [] : List (List (Int × Int))))).bind (Sum.elim J28_1 some)
  else none
-- 8 fulling/explain.Path
noncomputable def J8_1 (s1 : (List (Int × Int × List Int)) × (List (Int × Int × Int × List Int × List Int)) × (List (Int × Int × Int)) × Int × Int × Int × Int) (a2 : Int) (b3 : Int) (below4 : Int) : Bool → Option (List Int × Bool) := fun x5 =>
  bif x5 then
    some ([], false)
  else
    (F28 s1 below4).bind fun r8 =>
    (F27 r8 a2 b3).bind fun r9 =>
    some r9
noncomputable def F8 (s1 : (List (Int × Int × List Int)) × (List (Int × Int × Int × List Int × List Int)) × (List (Int × Int × Int)) × Int × Int × Int × Int) (a2 : Int) (b3 : Int) (below4 : Int) : Option (List Int × Bool) :=
  ((F26 s1.1 a2).bind fun r6 =>
  bif !r6 then
    some (.inl true)
  else
    (F26 s1.1 b3).bind fun r7 =>
    some (.inl (!r7))).bind (Sum.elim (J8_1 s1 a2 b3 below4) some)
-- 33 fulling/explain.Dependencies$1
noncomputable def J33_2 (y40 : Int) : (Bool × (List (Int × Int × List Int)) × (List (Int × Int × Int × List Int × List Int)) × (List (Int × Int × Int)) × Int × Int × Int × Int × List Bool × List Int) → Option (((List (Int × Int × List Int)) × (List (Int × Int × Int × List Int × List Int)) × (List (Int × Int × Int)) × Int × Int × Int × Int × List Bool × List Int) ⊕ ((Int × (List (Int × Int × List Int)) × (List (Int × Int × Int × List Int × List Int)) × (List (Int × Int × Int)) × Int × Int × Int × Int × List Bool × List Int) ⊕ ((List (Int × Int × List Int)) × (List (Int × Int × Int × List Int × List Int)) × (List (Int × Int × Int)) × Int × Int × Int × Int × List Bool × List Int))) := fun (x41, l42, l43, l44, l45, l46, l47, l48, l49, l50) =>
  bif x41 then
    some (.inl (l42, l43, l44, l45, l46, l47, l48, l49, l50))
  else
    (gI l49 y40).bind fun y57 =>
    (gI l49 y40).bind fun y58 =>
    bif decide (List.length l50 + List.length ([y40] : List Int) ≤ 1000000) then
      some (.inl (l42, l43, l44, l45, l46, l47, l48, setI l49 y40 true, l50 ++ ([y40] : List Int)))
    else none
noncomputable def J33_1 (x21 : Int) : ((List (Int × Int × List Int)) × (List (Int × Int × Int × List Int × List Int)) × (List (Int × Int × Int)) × Int × Int × Int × Int × List Bool × List Int) → Option ((Int × (List (Int × Int × List Int)) × (List (Int × Int × Int × List Int × List Int)) × (List (Int × Int × Int)) × Int × Int × Int × Int × List Bool × List Int) ⊕ ((List (Int × Int × List Int)) × (List (Int × Int × Int × List Int × List Int)) × (List (Int × Int × Int)) × Int × Int × Int × Int × List Bool × List Int)) := fun (l31, l32, l33, l34, l35, l36, l37, l38, l39) =>
  some (.inl (IntKind.wrap .i64 (x21 + 1), l31, l32, l33, l34, l35, l36, l37, l38, l39))
noncomputable def L33_1 (l1 : List Int) : (Int × (List (Int × Int × List Int)) × (List (Int × Int × Int × List Int × List Int)) × (List (Int × Int × Int)) × Int × Int × Int × Int × List Bool × List Int) → Option ((Int × (List (Int × Int × List Int)) × (List (Int × Int × Int × List Int × List Int)) × (List (Int × Int × Int)) × Int × Int × Int × Int × List Bool × List Int) ⊕ ((List (Int × Int × List Int)) × (List (Int × Int × Int × List Int × List Int)) × (List (Int × Int × Int)) × Int × Int × Int × Int × List Bool × List Int)) := fun (x21, l22, l23, l24, l25, l26, l27, l28, l29, l30) =>
  bif decide (x21 < (List.length l1 : Int)) then
    ((gI l1 x21).bind fun y40 =>
    (bif decide (y40 < 0) then
      some (.inl (true, l22, l23, l24, l25, l26, l27, l28, l29, l30))
    else
      bif decide (y40 ≥ (List.length l23 : Int)) then
        some (.inl (true, l22, l23, l24, l25, l26, l27, l28, l29, l30))
      else
        (gI l29 y40).bind fun y51 =>
        (gI l29 y40).bind fun y52 =>
        bif y52 then
          some (.inl (true, l22, l23, l24, l25, l26, l27, l28, l29, l30))
        else
          (gI l23 y40).bind fun y53 =>
          (F26 l22 y53.1).bind fun r54 =>
          bif !r54 then
            some (.inl (true, l22, l23, l24, l25, l26, l27, l28, l29, l30))
          else
            (gI l23 y40).bind fun y55 =>
            (F26 l22 y55.2.1).bind fun r56 =>
            some (.inl (!r56, l22, l23, l24, l25, l26, l27, l28, l29, l30))).bind (Sum.elim (J33_2 y40) some)).bind (Sum.elim (J33_1 x21) some)
  else
    (some (l22, l23, l24, l25, l26, l27, l28, l29, l30)).map .inr
noncomputable def F33 (l1 : List Int) (l2 : List (Int × Int × List Int)) (l3 : List (Int × Int × Int × List Int × List Int)) (l4 : List (Int × Int × Int)) (l5 : Int) (l6 : Int) (l7 : Int) (l8 : Int) (l9 : List Bool) (l10 : List Int) : Option ((List (Int × Int × List Int)) × (List (Int × Int × Int × List Int × List Int)) × (List (Int × Int × Int)) × Int × Int × Int × Int × List Bool × List Int) :=
  loopL (L33_1 l1) (0, l2, l3, l4, l5, l6, l7, l8, l9, l10)
-- 11 fulling/explain.Dependencies
noncomputable def J11_3 (y26 : Int × Int × List Int) (y28 : Int × Int × List Int) (r29 : List (List (Int × Int))) (k40 : Int) : (Bool × (List (Int × Int × List Int)) × (List (Int × Int × Int × List Int × List Int)) × (List (Int × Int × Int)) × Int × Int × Int × Int × List Bool × List Int) → Option (((List (Int × Int × List Int)) × (List (Int × Int × Int × List Int × List Int)) × (List (Int × Int × Int)) × Int × Int × Int × Int × List Bool × List Int) ⊕ ((Int × (List (Int × Int × List Int)) × (List (Int × Int × Int × List Int × List Int)) × (List (Int × Int × Int)) × Int × Int × Int × Int × List Bool × List Int) ⊕ (((List (Int × Int × List Int)) × (List (Int × Int × Int × List Int × List Int)) × (List (Int × Int × Int)) × Int × Int × Int × Int × List Bool × List Int) ⊕ (List Int)))) := fun (x69, s70, s71, s72, s73, s74, s75, s76, l77, l78) =>
  bif x69 then
    (gI y26.2.2 k40).bind fun y83 =>
    (gI y28.2.2 k40).bind fun y84 =>
    (F27 r29 y83 y84).bind fun r85 =>
    bif r85.2 then
      (F33 r85.1 s70 s71 s72 s73 s74 s75 s76 l77 l78).bind fun r86 =>
      some (.inl r86)
    else
      some (.inl (s70, s71, s72, s73, s74, s75, s76, l77, l78))
  else
    some (.inl (s70, s71, s72, s73, s74, s75, s76, l77, l78))
noncomputable def J11_2 (k40 : Int) : ((List (Int × Int × List Int)) × (List (Int × Int × Int × List Int × List Int)) × (List (Int × Int × Int)) × Int × Int × Int × Int × List Bool × List Int) → Option ((Int × (List (Int × Int × List Int)) × (List (Int × Int × Int × List Int × List Int)) × (List (Int × Int × Int)) × Int × Int × Int × Int × List Bool × List Int) ⊕ (((List (Int × Int × List Int)) × (List (Int × Int × Int × List Int × List Int)) × (List (Int × Int × Int)) × Int × Int × Int × Int × List Bool × List Int) ⊕ (List Int))) := fun (s60, s61, s62, s63, s64, s65, s66, l67, l68) =>
  some (.inl (IntKind.wrap .i64 (k40 + 1), s60, s61, s62, s63, s64, s65, s66, l67, l68))
noncomputable def J11_1 (y26 : Int × Int × List Int) (y28 : Int × Int × List Int) (r29 : List (List (Int × Int))) (k40 : Int) : (Bool × (List (Int × Int × List Int)) × (List (Int × Int × Int × List Int × List Int)) × (List (Int × Int × Int)) × Int × Int × Int × Int × List Bool × List Int) → Option ((Int × (List (Int × Int × List Int)) × (List (Int × Int × Int × List Int × List Int)) × (List (Int × Int × Int)) × Int × Int × Int × Int × List Bool × List Int) ⊕ (((List (Int × Int × List Int)) × (List (Int × Int × Int × List Int × List Int)) × (List (Int × Int × Int)) × Int × Int × Int × Int × List Bool × List Int) ⊕ (List Int))) := fun (x50, s51, s52, s53, s54, s55, s56, s57, l58, l59) =>
  bif x50 then
    (((gI y26.2.2 k40).bind fun y79 =>
    (F26 s51 y79).bind fun r80 =>
    bif r80 then
      (gI y28.2.2 k40).bind fun y81 =>
      (F26 s51 y81).bind fun r82 =>
      some (.inl (r82, s51, s52, s53, s54, s55, s56, s57, l58, l59))
    else
      some (.inl (false, s51, s52, s53, s54, s55, s56, s57, l58, l59))).bind (Sum.elim (J11_3 y26 y28 r29 k40) some)).bind (Sum.elim (J11_2 k40) some)
  else
    (some (.inl (s51, s52, s53, s54, s55, s56, s57, l58, l59))).map .inr
noncomputable def L11_2 (y26 : Int × Int × List Int) (y28 : Int × Int × List Int) (r29 : List (List (Int × Int))) : (Int × (List (Int × Int × List Int)) × (List (Int × Int × Int × List Int × List Int)) × (List (Int × Int × Int)) × Int × Int × Int × Int × List Bool × List Int) → Option ((Int × (List (Int × Int × List Int)) × (List (Int × Int × Int × List Int × List Int)) × (List (Int × Int × Int)) × Int × Int × Int × Int × List Bool × List Int) ⊕ (((List (Int × Int × List Int)) × (List (Int × Int × Int × List Int × List Int)) × (List (Int × Int × Int)) × Int × Int × Int × Int × List Bool × List Int) ⊕ (List Int))) := fun (k40, s41, s42, s43, s44, s45, s46, s47, l48, l49) =>
  (bif decide (k40 < (List.length y26.2.2 : Int)) then
    some (.inl (decide (k40 < (List.length y28.2.2 : Int)), s41, s42, s43, s44, s45, s46, s47, l48, l49))
  else
    some (.inl (false, s41, s42, s43, s44, s45, s46, s47, l48, l49))).bind (Sum.elim (J11_1 y26 y28 r29 k40) some)
noncomputable def J11_4 (x92 : Int) : (List Int × List Bool) → Option ((Int × List Int × List Bool) ⊕ (List Int)) := fun (out95, l96) =>
  some (.inl (IntKind.wrap .i64 (x92 + 1), out95, l96))
noncomputable def L11_3 (l20 : List Bool) : (Int × List Int × List Bool) → Option ((Int × List Int × List Bool) ⊕ (List Int)) := fun (x92, out93, l94) =>
  bif decide (x92 < (List.length l20 : Int)) then
    ((gI l94 x92).bind fun y97 =>
    (gI l94 x92).bind fun y98 =>
    bif y98 then
      bif decide (List.length out93 + List.length ([x92] : List Int) ≤ 1000000) then
        some (.inl (out93 ++ ([x92] : List Int), l94))
      else none
    else
      some (.inl (out93, l94))).bind (Sum.elim (J11_4 x92) some)
  else
    (some out93).map .inr
noncomputable def L11_1 : ((List (Int × Int × List Int)) × (List (Int × Int × Int × List Int × List Int)) × (List (Int × Int × Int)) × Int × Int × Int × Int × List Bool × List Int) → Option (((List (Int × Int × List Int)) × (List (Int × Int × Int × List Int × List Int)) × (List (Int × Int × Int)) × Int × Int × Int × Int × List Bool × List Int) ⊕ (List Int)) := fun (s13, s14, s15, s16, s17, s18, s19, l20, l21) =>
  bif decide ((List.length l21 : Int) > 0) then
    (gI l21 (IntKind.wrap .i64 ((List.length l21 : Int) - 1))).bind fun y22 =>
    (gI l21 (IntKind.wrap .i64 ((List.length l21 : Int) - 1))).bind fun y23 =>
    bif decide ((0 : Int) ≤ 0 ∧ (0 : Int) ≤ IntKind.wrap .i64 ((List.length l21 : Int) - 1) ∧ IntKind.wrap .i64 ((List.length l21 : Int) - 1) ≤ (List.length l21 : Int)) then
      (gI s14 y23).bind fun y24 =>
      bif y24.2.2.1 != 0 then
        some (.inl (s13, s14, s15, s16, s17, s18, s19, l20, slI l21 0 (IntKind.wrap .i64 ((List.length l21 : Int) - 1))))
      else
        (gI s14 y23).bind fun y25 =>
        (gI s13 y25.1).bind fun y26 =>
        (gI s14 y23).bind fun y27 =>
        (gI s13 y27.2.1).bind fun y28 =>
        (F28 (s13, s14, s15, s16, s17, s18, s19) y23).bind fun r29 =>
        loopL (L11_2 y26 y28 r29) (0, s13, s14, s15, s16, s17, s18, s19, l20, slI l21 0 (IntKind.wrap .i64 ((List.length l21 : Int) - 1)))
    else none
  else
    (loopL (L11_3 l20) (0, [], l20)).map .inr
noncomputable def F11 (s1 : (List (Int × Int × List Int)) × (List (Int × Int × Int × List Int × List Int)) × (List (Int × Int × Int)) × Int × Int × Int × Int) (l2 : List Int) : Option (List Int) :=
  bif decide ((0 : Int) ≤ (List.length s1.2.1 : Int) ∧ ((List.length s1.2.1 : Int) : Int) = (List.length s1.2.1 : Int) ∧ ((List.length s1.2.1 : Int) : Int) ≤ 1000000) then
    (F33 l2 s1.1 s1.2.1 s1.2.2.1 s1.2.2.2.1 s1.2.2.2.2.1 s1.2.2.2.2.2.1 s1.2.2.2.2.2.2 (List.replicate (Int.toNat (List.length s1.2.1 : Int)) false : List Bool) []).bind fun r3 =>
    loopL L11_1 r3
  else none
-- 10 fulling/fullingref22.SameInts
noncomputable def L10_1 (a1 : List Int) (b2 : List Int) : Int → Option (Int ⊕ Bool) := fun i4 =>
  bif decide (i4 < (List.length a1 : Int)) then
    (gI a1 i4).bind fun y5 =>
    (gI b2 i4).bind fun y6 =>
    bif y5 != y6 then
      (some false).map .inr
    else
      some (.inl (IntKind.wrap .i64 (i4 + 1)))
  else
    (some true).map .inr
noncomputable def F10 (a1 : List Int) (b2 : List Int) : Option Bool :=
  bif (List.length a1 : Int) != (List.length b2 : Int) then
    some false
  else
    loopL (L10_1 a1 b2) 0
-- 15 fulling/fullingkeep.Pick
noncomputable def J15_1 : Int → Option Int := fun n3 =>
  some n3
noncomputable def F15 (n1 : Int) (m2 : Int) : Option Int :=
  bif decide (m2 = 0) then none else
    (bif decide ((Int.tmod n1 m2) < 0) then
      some (.inl (IntKind.wrap .i64 ((Int.tmod n1 m2) + m2)))
    else
      some (.inl (Int.tmod n1 m2))).bind (Sum.elim J15_1 some)
-- 49 fulling/fullingkeep.Word
noncomputable def F49 (n1 : Int) (raw2 : Int) : Option Int :=
  (F15 n1 24).bind fun r3 =>
  bif decide (r3 < 10) then
    (gI ([0, 1, (-1), 2, (-9223372036854775808), 9223372036854775807, 4294967296, (-2147483648), 63, 64] : List Int) r3).bind fun y4 =>
    (gI ([0, 1, (-1), 2, (-9223372036854775808), 9223372036854775807, 4294967296, (-2147483648), 63, 64] : List Int) r3).bind fun y5 =>
    some y5
  else
    bif decide (r3 < 22) then
      (F15 (IntKind.wrap .i64 (Int.tdiv n1 24)) 17).bind fun r6 =>
      some (IntKind.wrap .i64 (r6 - 6))
    else
      some raw2
-- 50 fulling/fullingref7.Arity
noncomputable def J50_5 : Bool → Option (Int × Bool) := fun x6 =>
  bif x6 then
    some ((-1), true)
  else
    some (0, false)
noncomputable def J50_4 (op1 : Int) : Bool → Option (Int × Bool) := fun x5 =>
  bif x5 then
    some (3, true)
  else
    (bif op1 == 30 then
      some (.inl true)
    else
      some (.inl (op1 == 31))).bind (Sum.elim J50_5 some)
noncomputable def J50_3 (op1 : Int) : Bool → Option (Int × Bool) := fun x4 =>
  bif x4 then
    some (2, true)
  else
    (bif op1 == 22 then
      some (.inl true)
    else
      some (.inl (op1 == 28))).bind (Sum.elim (J50_4 op1) some)
noncomputable def J50_2 (op1 : Int) : Bool → Option (Int × Bool) := fun x3 =>
  bif x3 then
    some (1, true)
  else
    (bif decide (op1 ≥ 4) then
      bif decide (op1 ≤ 19) then
        some (.inl true)
      else
        bif op1 == 23 then
          some (.inl true)
        else
          bif op1 == 27 then
            some (.inl true)
          else
            some (.inl (op1 == 29))
    else
      bif op1 == 23 then
        some (.inl true)
      else
        bif op1 == 27 then
          some (.inl true)
        else
          some (.inl (op1 == 29))).bind (Sum.elim (J50_3 op1) some)
noncomputable def J50_1 (op1 : Int) : Bool → Option (Int × Bool) := fun x2 =>
  bif x2 then
    some (0, true)
  else
    (bif op1 == 20 then
      some (.inl true)
    else
      bif op1 == 21 then
        some (.inl true)
      else
        bif op1 == 24 then
          some (.inl true)
        else
          some (.inl (op1 == 25))).bind (Sum.elim (J50_2 op1) some)
noncomputable def F50 (op1 : Int) : Option (Int × Bool) :=
  (bif op1 == 1 then
    some (.inl true)
  else
    bif op1 == 2 then
      some (.inl true)
    else
      bif op1 == 3 then
        some (.inl true)
      else
        some (.inl (op1 == 26))).bind (Sum.elim (J50_1 op1) some)
-- 65 fulling/fullingref7.maxImm
noncomputable def J65_1 (op1 : Int) : Bool → Option Int := fun x2 =>
  bif x2 then
    some 3
  else
    bif op1 == 27 then
      some 1000016
    else
      bif op1 == 30 then
        some 7
      else
        bif op1 == 31 then
          some 15
        else
          bif op1 == 25 then
            some 15
          else
            some (-1)
noncomputable def F65 (op1 : Int) : Option Int :=
  bif op1 == 2 then
    some 5
  else
    bif op1 == 3 then
      some 255
    else
      (bif op1 == 23 then
        some (.inl true)
      else
        some (.inl (op1 == 28))).bind (Sum.elim (J65_1 op1) some)
-- 62 fulling/fullingref7.ValidImm
noncomputable def J62_1 : Bool → Option Bool := fun x4 =>
  some x4
noncomputable def F62 (op1 : Int) (n2 : Int) : Option Bool :=
  bif op1 == 1 then
    some true
  else
    (F65 op1).bind fun r3 =>
    bif decide (r3 < 0) then
      some (n2 == 0)
    else
      (bif decide (n2 ≥ 0) then
        bif decide (n2 ≤ r3) then
          bif op1 != 27 then
            some (.inl true)
          else
            some (.inl (decide (n2 > 0)))
        else
          some (.inl false)
      else
        some (.inl false)).bind (Sum.elim J62_1 some)
-- 63 fulling/fullingref7.sortIf
noncomputable def F63 (ok1 : Bool) (n2 : Int) : Option Int :=
  bif ok1 then
    some n2
  else
    some 0
-- 64 fulling/fullingref7.allValues
noncomputable def L64_1 (k1 : List Int) : Int → Option (Int ⊕ Bool) := fun i3 =>
  bif decide (i3 < (List.length k1 : Int)) then
    (gI k1 i3).bind fun y4 =>
    bif y4 != 1 then
      (some false).map .inr
    else
      some (.inl (IntKind.wrap .i64 (i3 + 1)))
  else
    (some true).map .inr
noncomputable def F64 (k1 : List Int) : Option Bool :=
  loopL (L64_1 k1) 0
-- 61 fulling/fullingref7.nodeSort
noncomputable def J61_2 (k3 : List Int) : Bool → Option Int := fun x8 =>
  bif x8 then
    some 0
  else
    (gI k3 1).bind fun y13 =>
    some y13
noncomputable def J61_3 : Int → Option Int := fun x14 =>
  some x14
noncomputable def J61_4 (n2 : Int × Int × List Int) : Bool → Option Int := fun x21 =>
  bif x21 then
    some 0
  else
    (F63 (n2.2.1 == 0) 1).bind fun r25 =>
    some (IntKind.wrap .i64 (r25 + 1))
noncomputable def J61_6 : Int → Option Int := fun x27 =>
  some x27
noncomputable def J61_7 : Int → Option Int := fun x32 =>
  some x32
noncomputable def J61_8 : Int → Option Int := fun x39 =>
  some x39
noncomputable def J61_9 : Int → Option Int := fun x46 =>
  some x46
noncomputable def J61_5 (n2 : Int × Int × List Int) (k3 : List Int) : Bool → Option Int := fun x26 =>
  bif x26 then
    ((gI k3 0).bind fun y28 =>
    bif y28 == 2 then
      (gI k3 1).bind fun y29 =>
      (F63 (y29 == 1) 2).bind fun r30 =>
      some (.inl r30)
    else
      (F63 false 2).bind fun r31 =>
      some (.inl r31)).bind (Sum.elim J61_6 some)
  else
    bif n2.1 == 28 then
      ((gI k3 0).bind fun y33 =>
      bif y33 == 2 then
        (gI k3 1).bind fun y34 =>
        bif y34 == 1 then
          (gI k3 2).bind fun y35 =>
          (F63 (y35 == 1) 2).bind fun r36 =>
          some (.inl r36)
        else
          (F63 false 2).bind fun r37 =>
          some (.inl r37)
      else
        (F63 false 2).bind fun r38 =>
        some (.inl r38)).bind (Sum.elim J61_7 some)
    else
      bif n2.1 == 30 then
        (bif decide ((List.length k3 : Int) ≥ 1) then
          bif decide ((List.length k3 : Int) ≤ 7) then
            (gI k3 0).bind fun y40 =>
            bif y40 == 2 then
              bif decide ((0 : Int) ≤ 1 ∧ (1 : Int) ≤ (List.length k3 : Int) ∧ (List.length k3 : Int) ≤ (List.length k3 : Int)) then
                (F64 (slI k3 1 (List.length k3 : Int))).bind fun r41 =>
                (F63 r41 2).bind fun r42 =>
                some (.inl r42)
              else none
            else
              (F63 false 2).bind fun r43 =>
              some (.inl r43)
          else
            (F63 false 2).bind fun r44 =>
            some (.inl r44)
        else
          (F63 false 2).bind fun r45 =>
          some (.inl r45)).bind (Sum.elim J61_8 some)
      else
        bif n2.1 == 31 then
          (bif (Int.tmod (List.length k3 : Int) 2) == 1 then
            bif decide ((IntKind.wrap .i64 (Int.tdiv (List.length k3 : Int) 2)) ≥ 1) then
              bif decide ((IntKind.wrap .i64 (Int.tdiv (List.length k3 : Int) 2)) ≤ 16) then
                (gI k3 0).bind fun y47 =>
                bif y47 == 2 then
                  bif decide ((0 : Int) ≤ 1 ∧ (1 : Int) ≤ IntKind.wrap .i64 ((IntKind.wrap .i64 (Int.tdiv (List.length k3 : Int) 2)) + 1) ∧ IntKind.wrap .i64 ((IntKind.wrap .i64 (Int.tdiv (List.length k3 : Int) 2)) + 1) ≤ (List.length k3 : Int)) then
                    (F64 (slI k3 1 (IntKind.wrap .i64 ((IntKind.wrap .i64 (Int.tdiv (List.length k3 : Int) 2)) + 1)))).bind fun r48 =>
                    bif r48 then
                      (gI k3 (IntKind.wrap .i64 ((IntKind.wrap .i64 (Int.tdiv (List.length k3 : Int) 2)) + 1))).bind fun y49 =>
                      bif y49 == 2 then
                        bif decide ((0 : Int) ≤ IntKind.wrap .i64 ((IntKind.wrap .i64 (Int.tdiv (List.length k3 : Int) 2)) + 2) ∧ (IntKind.wrap .i64 ((IntKind.wrap .i64 (Int.tdiv (List.length k3 : Int) 2)) + 2) : Int) ≤ (List.length k3 : Int) ∧ (List.length k3 : Int) ≤ (List.length k3 : Int)) then
                          (F64 (slI k3 (IntKind.wrap .i64 ((IntKind.wrap .i64 (Int.tdiv (List.length k3 : Int) 2)) + 2)) (List.length k3 : Int))).bind fun r50 =>
                          (F63 r50 3).bind fun r51 =>
                          some (.inl r51)
                        else none
                      else
                        (F63 false 3).bind fun r52 =>
                        some (.inl r52)
                    else
                      (F63 false 3).bind fun r53 =>
                      some (.inl r53)
                  else none
                else
                  (F63 false 3).bind fun r54 =>
                  some (.inl r54)
              else
                (F63 false 3).bind fun r55 =>
                some (.inl r55)
            else
              (F63 false 3).bind fun r56 =>
              some (.inl r56)
          else
            (F63 false 3).bind fun r57 =>
            some (.inl r57)).bind (Sum.elim J61_9 some)
        else
          (F64 k3).bind fun r58 =>
          (F63 r58 1).bind fun r59 =>
          some r59
noncomputable def J61_1 (l1 : List (Int × Int × List Int)) (n2 : Int × Int × List Int) (k3 : List Int) : Bool → Option Int := fun x5 =>
  bif x5 then
    some 0
  else
    bif n2.1 == 3 then
      bif (Int.tmod n2.2.1 16) == 0 then
        some 2
      else
        some 1
    else
      bif n2.1 == 26 then
        some 2
      else
        bif n2.1 == 22 then
          ((gI k3 0).bind fun y9 =>
          bif y9 != 1 then
            some (.inl true)
          else
            (gI k3 1).bind fun y10 =>
            (gI k3 2).bind fun y11 =>
            bif y10 != y11 then
              some (.inl true)
            else
              (gI k3 1).bind fun y12 =>
              some (.inl (y12 == 3))).bind (Sum.elim (J61_2 k3) some)
        else
          bif n2.1 == 23 then
            ((gI k3 0).bind fun y15 =>
            bif y15 == 2 then
              (gI k3 1).bind fun y16 =>
              (F63 (y16 == 1) 1).bind fun r17 =>
              some (.inl r17)
            else
              (F63 false 1).bind fun r18 =>
              some (.inl r18)).bind (Sum.elim J61_3 some)
          else
            bif n2.1 == 24 then
              (gI k3 0).bind fun y19 =>
              (F63 (y19 == 2) 1).bind fun r20 =>
              some r20
            else
              bif n2.1 == 25 then
                ((gI k3 0).bind fun y22 =>
                bif y22 != 3 then
                  some (.inl true)
                else
                  (gI n2.2.2 0).bind fun y23 =>
                  (gI l1 y23).bind fun y24 =>
                  some (.inl (decide (n2.2.1 ≥ (IntKind.wrap .i64 (Int.tdiv (List.length y24.2.2 : Int) 2)))))).bind (Sum.elim (J61_4 n2) some)
              else
                (bif n2.1 == 27 then
                  some (.inl true)
                else
                  some (.inl (n2.1 == 29))).bind (Sum.elim (J61_5 n2 k3) some)
noncomputable def F61 (l1 : List (Int × Int × List Int)) (n2 : Int × Int × List Int) (k3 : List Int) : Option Int :=
  (F50 n2.1).bind fun r4 =>
  (bif !r4.2 then
    some (.inl true)
  else
    bif decide (r4.1 ≥ 0) then
      bif (List.length n2.2.2 : Int) != r4.1 then
        some (.inl true)
      else
        (F62 n2.1 n2.2.1).bind fun r6 =>
        some (.inl (!r6))
    else
      (F62 n2.1 n2.2.1).bind fun r7 =>
      some (.inl (!r7))).bind (Sum.elim (J61_1 l1 n2 k3) some)
-- 59 fulling/fullingref7.Sorts
noncomputable def J59_3 (ok18 : Bool) (j19 : Int) (y24 : Int) : (Bool × List Int × List Int) → Option ((Bool × Int × List Int × List Int) ⊕ ((Bool × List Int × List Int) ⊕ ((List Int) ⊕ ((Int × List Int) ⊕ (List Int))))) := fun (x25, out26, k27) =>
  bif x25 then
    (some (.inl (false, out26, k27))).map .inr
  else
    (gI out26 y24).bind fun y30 =>
    (gI out26 y24).bind fun y31 =>
    bif decide (List.length k27 + List.length ([y31] : List Int) ≤ 1000000) then
      some (.inl (ok18, IntKind.wrap .i64 (j19 + 1), out26, k27 ++ ([y31] : List Int)))
    else none
noncomputable def L59_2 (l1 : List (Int × Int × List Int)) (i5 : Int) : (Bool × Int × List Int × List Int) → Option ((Bool × Int × List Int × List Int) ⊕ ((Bool × List Int × List Int) ⊕ ((List Int) ⊕ ((Int × List Int) ⊕ (List Int))))) := fun (ok18, j19, out20, k21) =>
  (gI l1 i5).bind fun y22 =>
  bif decide (j19 < (List.length y22.2.2 : Int)) then
    (gI l1 i5).bind fun y23 =>
    (gI y23.2.2 j19).bind fun y24 =>
    (bif decide (y24 < 0) then
      some (.inl (true, out20, k21))
    else
      bif decide (y24 ≥ i5) then
        some (.inl (true, out20, k21))
      else
        (gI out20 y24).bind fun y28 =>
        (gI out20 y24).bind fun y29 =>
        some (.inl (y29 == 0, out20, k21))).bind (Sum.elim (J59_3 ok18 j19 y24) some)
  else
    (some (.inl (ok18, out20, k21))).map .inr
noncomputable def J59_2 (l1 : List (Int × Int × List Int)) (i5 : Int) : (Bool × List Int × List Int) → Option ((List Int) ⊕ ((Int × List Int) ⊕ (List Int))) := fun (ok8, out9, k10) =>
  bif ok8 then
    (gI l1 i5).bind fun y32 =>
    (F61 l1 y32 k10).bind fun r33 =>
    bif decide (List.length out9 + List.length ([r33] : List Int) ≤ 1000000) then
      some (.inl (out9 ++ ([r33] : List Int)))
    else none
  else
    bif decide (List.length out9 + List.length ([0] : List Int) ≤ 1000000) then
      some (.inl (out9 ++ ([0] : List Int)))
    else none
noncomputable def J59_1 (i5 : Int) : (List Int) → Option ((Int × List Int) ⊕ (List Int)) := fun out7 =>
  some (.inl (IntKind.wrap .i64 (i5 + 1), out7))
noncomputable def L59_1 (l1 : List (Int × Int × List Int)) : (Int × List Int) → Option ((Int × List Int) ⊕ (List Int)) := fun (i5, out6) =>
  bif decide (i5 < (List.length l1 : Int)) then
    ((loopL (L59_2 l1 i5) (true, 0, out6, [])).bind (Sum.elim (J59_2 l1 i5) some)).bind (Sum.elim (J59_1 i5) some)
  else
    (some out6).map .inr
noncomputable def F59 (l1 : List (Int × Int × List Int)) : Option (List Int) :=
  loopL (L59_1 l1) (0, [])
-- 51 fulling/fullingkeep.of
noncomputable def J51_1 (i8 : Int) : (List Int) → Option ((Int × List Int) ⊕ Int) := fun all10 =>
  some (.inl (IntKind.wrap .i64 (i8 + 1), all10))
noncomputable def L51_1 (l1 : List (Int × Int × List Int)) (sort2 : Int) (n3 : Int) (r4 : List Int) : (Int × List Int) → Option ((Int × List Int) ⊕ Int) := fun (i8, all9) =>
  bif decide (i8 < (List.length l1 : Int)) then
    ((gI r4 i8).bind fun y11 =>
    bif y11 == sort2 then
      bif decide (List.length all9 + List.length ([i8] : List Int) ≤ 1000000) then
        some (.inl (all9 ++ ([i8] : List Int)))
      else none
    else
      some (.inl all9)).bind (Sum.elim (J51_1 i8) some)
  else
    ((F15 n3 (List.length all9 : Int)).bind fun r12 =>
    (gI all9 (IntKind.wrap .i64 ((IntKind.wrap .i64 ((List.length all9 : Int) - 1)) - r12))).bind fun y13 =>
    (gI all9 (IntKind.wrap .i64 ((IntKind.wrap .i64 ((List.length all9 : Int) - 1)) - r12))).bind fun y14 =>
    some y14).map .inr
noncomputable def F51 (l1 : List (Int × Int × List Int)) (sort2 : Int) (n3 : Int) : Option Int :=
  (F59 l1).bind fun r4 =>
  loopL (L51_1 l1 sort2 n3 r4) (0, [])
-- 60 fulling/fullingref15.Sort
noncomputable def J60_1 : Bool → Option Int := fun x2 =>
  bif x2 then
    some 2
  else
    some 1
noncomputable def F60 (op1 : Int) : Option Int :=
  (bif op1 == 27 then
    some (.inl true)
  else
    bif op1 == 28 then
      some (.inl true)
    else
      some (.inl (op1 == 29))).bind (Sum.elim J60_1 some)
-- 52 fulling/fullingref15.OperandSort
noncomputable def J52_1 : Bool → Option Int := fun x3 =>
  bif x3 then
    some 2
  else
    some 1
noncomputable def F52 (op1 : Int) (k2 : Int) : Option Int :=
  (bif k2 == 0 then
    (F60 op1).bind fun r4 =>
    bif r4 == 2 then
      some (.inl true)
    else
      bif op1 == 23 then
        some (.inl true)
      else
        some (.inl (op1 == 24))
  else
    some (.inl false)).bind (Sum.elim J52_1 some)
-- 48 fulling/fullingref7.SameNode
noncomputable def L48_1 (a1 : Int × Int × List Int) (b2 : Int × Int × List Int) : Int → Option (Int ⊕ Bool) := fun i5 =>
  bif decide (i5 < (List.length a1.2.2 : Int)) then
    (gI a1.2.2 i5).bind fun y6 =>
    (gI b2.2.2 i5).bind fun y7 =>
    bif y6 != y7 then
      (some false).map .inr
    else
      some (.inl (IntKind.wrap .i64 (i5 + 1)))
  else
    (some true).map .inr
noncomputable def J48_1 (a1 : Int × Int × List Int) (b2 : Int × Int × List Int) : Bool → Option Bool := fun x3 =>
  bif x3 then
    some false
  else
    loopL (L48_1 a1 b2) 0
noncomputable def F48 (a1 : Int × Int × List Int) (b2 : Int × Int × List Int) : Option Bool :=
  (bif a1.1 != b2.1 then
    some (.inl true)
  else
    bif a1.2.1 != b2.2.1 then
      some (.inl true)
    else
      some (.inl ((List.length a1.2.2 : Int) != (List.length b2.2.2 : Int)))).bind (Sum.elim (J48_1 a1 b2) some)
-- 54 fulling/fullingkeep.contains
noncomputable def L54_1 (l1 : List (Int × Int × List Int)) (n2 : Int × Int × List Int) : Int → Option (Int ⊕ Bool) := fun i4 =>
  bif decide (i4 < (List.length l1 : Int)) then
    (gI l1 i4).bind fun y5 =>
    (F48 y5 n2).bind fun r6 =>
    bif r6 then
      (some true).map .inr
    else
      some (.inl (IntKind.wrap .i64 (i4 + 1)))
  else
    (some false).map .inr
noncomputable def F54 (l1 : List (Int × Int × List Int)) (n2 : Int × Int × List Int) : Option Bool :=
  loopL (L54_1 l1 n2) 0
-- 53 (*fulling/fullingkeep.Reader).Next
noncomputable def F53 (x1 : Int) (l2 : List Int) : Option (Int × Int × List Int) :=
  bif (List.length l2 : Int) == 0 then
    some (0, x1, l2)
  else
    (gI l2 0).bind fun y3 =>
    (gI l2 0).bind fun y4 =>
    bif decide ((0 : Int) ≤ 1 ∧ (1 : Int) ≤ (List.length l2 : Int) ∧ (List.length l2 : Int) ≤ (List.length l2 : Int)) then
      some (y4, x1, slI l2 1 (List.length l2 : Int))
    else none
-- 35 fulling/fullingkeep.Nodes
noncomputable def J35_4 (l1 : List Int) (i5 : Int) : (Bool × (List (Int × Int × List Int)) × Int × Int × Int × List Int) → Option (((List (Int × Int × List Int)) × Int × Int × Int × List Int) ⊕ ((List (Int × Int × List Int)) ⊕ ((Int × List (Int × Int × List Int)) ⊕ (List (Int × Int × List Int))))) := fun (x20, out21, x22, n23, n24, l25) =>
  bif x20 then
    (gI l1 i5).bind fun y28 =>
    (F15 (IntKind.wrap .i64 (Int.tdiv y28 9)) 5).bind fun r29 =>
    (gI ([23, 27, 28, 29, 24] : List Int) r29).bind fun y30 =>
    (gI ([23, 27, 28, 29, 24] : List Int) r29).bind fun y31 =>
    some (.inl (out21, x22, y31, n24, l25))
  else
    some (.inl (out21, x22, n23, n24, l25))
noncomputable def J35_8 (l1 : List Int) (i5 : Int) : (Bool × (List (Int × Int × List Int)) × Int × Int × List Int) → Option (((List (Int × Int × List Int)) × Int × Int × List Int) ⊕ ((List (Int × Int × List Int)) ⊕ ((Int × List (Int × Int × List Int)) ⊕ (List (Int × Int × List Int))))) := fun (x76, out77, n78, n79, l80) =>
  bif x76 then
    (gI l1 i5).bind fun y81 =>
    (F15 (IntKind.wrap .i64 (Int.tdiv y81 5)) 2).bind fun r82 =>
    some (.inl (out77, n78, r82, l80))
  else
    some (.inl (out77, n78, n79, l80))
noncomputable def J35_7 : ((List (Int × Int × List Int)) × Int × Int × List Int) → Option ((List (Int × Int × List Int)) ⊕ ((Int × List (Int × Int × List Int)) ⊕ (List (Int × Int × List Int)))) := fun (out72, n73, n74, l75) =>
  (F54 out72 (n73, n74, l75)).bind fun r83 =>
  bif !r83 then
    bif decide (List.length out72 + List.length ([(n73, n74, l75)] : List (Int × Int × List Int)) ≤ 1000000) then
      some (.inl (out72 ++ ([(n73, n74, l75)] : List (Int × Int × List Int))))
    else none
  else
    some (.inl out72)
noncomputable def J35_6 (l1 : List Int) (i5 : Int) : ((List (Int × Int × List Int)) × Int × Int × List Int) → Option ((List (Int × Int × List Int)) ⊕ ((Int × List (Int × Int × List Int)) ⊕ (List (Int × Int × List Int)))) := fun (out66, n67, n68, l69) =>
  ((bif n67 == 23 then
    some (.inl (true, out66, n67, n68, l69))
  else
    some (.inl (n67 == 28, out66, n67, n68, l69))).bind (Sum.elim (J35_8 l1 i5) some)).bind (Sum.elim J35_7 some)
noncomputable def L35_2 (l1 : List Int) (i5 : Int) (r42 : Int × Bool) : (Int × (List (Int × Int × List Int)) × Int × Int × Int × List Int × List Int) → Option ((Int × (List (Int × Int × List Int)) × Int × Int × Int × List Int × List Int) ⊕ ((List (Int × Int × List Int)) ⊕ ((Int × List (Int × Int × List Int)) ⊕ (List (Int × Int × List Int))))) := fun (j56, out57, x58, n59, n60, l61, l62) =>
  bif decide (j56 < r42.1) then
    (F52 n59 j56).bind fun r63 =>
    (F53 x58 l61).bind fun r64 =>
    (F51 out57 r63 r64.1).bind fun r65 =>
    bif decide (List.length l62 + List.length ([r65] : List Int) ≤ 1000000) then
      some (.inl (IntKind.wrap .i64 (j56 + 1), out57, r64.2.1, n59, n60, r64.2.2, l62 ++ ([r65] : List Int)))
    else none
  else
    ((bif n59 == 27 then
      (gI l1 i5).bind fun y70 =>
      (F15 (IntKind.wrap .i64 (Int.tdiv y70 5)) 2).bind fun r71 =>
      some (.inl (out57, n59, IntKind.wrap .i64 (1 + r71), l62))
    else
      some (.inl (out57, n59, n60, l62))).bind (Sum.elim (J35_6 l1 i5) some)).map .inr
noncomputable def J35_5 (l1 : List Int) (i5 : Int) : ((List (Int × Int × List Int)) × Int × Int × Int × List Int) → Option ((List (Int × Int × List Int)) ⊕ ((Int × List (Int × Int × List Int)) ⊕ (List (Int × Int × List Int)))) := fun (out32, x33, n34, n35, l36) =>
  (F50 n34).bind fun r42 =>
  loopL (L35_2 l1 i5 r42) (0, out32, x33, n34, n35, l36, [])
noncomputable def J35_3 (l1 : List Int) (i5 : Int) : ((List (Int × Int × List Int)) × Int × Int × Int × List Int) → Option ((List (Int × Int × List Int)) ⊕ ((Int × List (Int × Int × List Int)) ⊕ (List (Int × Int × List Int)))) := fun (out15, x16, n17, n18, l19) =>
  ((gI l1 i5).bind fun y37 =>
  (F15 y37 11).bind fun r38 =>
  bif r38 == 0 then
    (gI l1 i5).bind fun y39 =>
    (gI l1 i5).bind fun y40 =>
    (F49 (IntKind.wrap .i64 (Int.tdiv y39 11)) y40).bind fun r41 =>
    some (.inl (out15, x16, 1, r41, l19))
  else
    some (.inl (out15, x16, n17, n18, l19))).bind (Sum.elim (J35_5 l1 i5) some)
noncomputable def J35_2 (i5 : Int) : (List (Int × Int × List Int)) → Option ((Int × List (Int × Int × List Int)) ⊕ (List (Int × Int × List Int))) := fun out9 =>
  some (.inl (IntKind.wrap .i64 (i5 + 1), out9))
noncomputable def J35_1 (l1 : List Int) (values2 : Bool) (i5 : Int) : (Bool × List (Int × Int × List Int)) → Option ((Int × List (Int × Int × List Int)) ⊕ (List (Int × Int × List Int))) := fun (x7, out8) =>
  bif x7 then
    ((gI l1 i5).bind fun y10 =>
    (gI l1 i5).bind fun y11 =>
    (gI l1 i5).bind fun y12 =>
    (gI l1 i5).bind fun y13 =>
    (F15 y13 19).bind fun r14 =>
    ((bif !values2 then
      (gI l1 i5).bind fun y26 =>
      (F15 y26 9).bind fun r27 =>
      some (.inl (decide (r27 > 5), out8, 0, IntKind.wrap .i64 (4 + r14), 0, ([IntKind.wrap .i64 (Int.tdiv y10 7), IntKind.wrap .i64 (Int.tdiv y11 101), IntKind.wrap .i64 (Int.tdiv y12 1009)] : List Int)))
    else
      some (.inl (false, out8, 0, IntKind.wrap .i64 (4 + r14), 0, ([IntKind.wrap .i64 (Int.tdiv y10 7), IntKind.wrap .i64 (Int.tdiv y11 101), IntKind.wrap .i64 (Int.tdiv y12 1009)] : List Int)))).bind (Sum.elim (J35_4 l1 i5) some)).bind (Sum.elim (J35_3 l1 i5) some)).bind (Sum.elim (J35_2 i5) some)
  else
    (some out8).map .inr
noncomputable def L35_1 (l1 : List Int) (values2 : Bool) : (Int × List (Int × Int × List Int)) → Option ((Int × List (Int × Int × List Int)) ⊕ (List (Int × Int × List Int))) := fun (i5, out6) =>
  (bif decide (i5 < (List.length l1 : Int)) then
    some (.inl (decide (i5 < 14), out6))
  else
    some (.inl (false, out6))).bind (Sum.elim (J35_1 l1 values2 i5) some)
noncomputable def F35 (l1 : List Int) (values2 : Bool) : Option (List (Int × Int × List Int)) :=
  loopL (L35_1 l1 values2) (0, ([(2, 0, []), (2, 1, []), (26, 0, [])] : List (Int × Int × List Int)))
-- 36 fulling/fullingkeep.Mutate
noncomputable def J36_1 (r4 : Int) : ((List (Int × Int × List Int)) × Int × Int × List Int) → Option (List (Int × Int × List Int)) := fun (out7, n8, n9, l10) =>
  (gI out7 r4).bind fun y20 =>
  (gI out7 r4).bind fun y21 =>
  some (setI out7 r4 (n8, n9, l10))
noncomputable def F36 (l1 : List (Int × Int × List Int)) (how2 : Int) (at3 : Int) : Option (List (Int × Int × List Int)) :=
  bif decide (List.length ([] : List (Int × Int × List Int)) + List.length l1 ≤ 1000000) then
    bif (List.length (([] : List (Int × Int × List Int)) ++ l1) : Int) == 0 then
      some (([] : List (Int × Int × List Int)) ++ l1)
    else
      (F15 at3 (List.length (([] : List (Int × Int × List Int)) ++ l1) : Int)).bind fun r4 =>
      (gI (([] : List (Int × Int × List Int)) ++ l1) r4).bind fun y5 =>
      (gI (([] : List (Int × Int × List Int)) ++ l1) r4).bind fun y6 =>
      bif decide (List.length ([] : List Int) + List.length y6.2.2 ≤ 1000000) then
        ((F15 how2 10).bind fun r11 =>
        bif r11 == 0 then
          (F15 (IntKind.wrap .i64 (Int.tdiv how2 10)) 36).bind fun r12 =>
          some (.inl (([] : List (Int × Int × List Int)) ++ l1, IntKind.wrap .i64 (r12 - 1), y6.2.1, ([] : List Int) ++ y6.2.2))
        else
          bif r11 == 1 then
            (F15 (IntKind.wrap .i64 (Int.tdiv how2 10)) 300).bind fun r13 =>
            some (.inl (([] : List (Int × Int × List Int)) ++ l1, y6.1, IntKind.wrap .i64 (r13 - 3), ([] : List Int) ++ y6.2.2))
          else
            bif r11 == 2 then
              (F15 (IntKind.wrap .i64 (Int.tdiv how2 10)) (IntKind.wrap .i64 ((List.length (([] : List (Int × Int × List Int)) ++ l1) : Int) + 2))).bind fun r14 =>
              bif decide (List.length (([] : List Int) ++ y6.2.2) + List.length ([IntKind.wrap .i64 (r14 - 1)] : List Int) ≤ 1000000) then
                some (.inl (([] : List (Int × Int × List Int)) ++ l1, y6.1, y6.2.1, (([] : List Int) ++ y6.2.2) ++ ([IntKind.wrap .i64 (r14 - 1)] : List Int)))
              else none
            else
              bif r11 == 3 then
                bif decide ((List.length (([] : List Int) ++ y6.2.2) : Int) > 0) then
                  (F15 (IntKind.wrap .i64 (Int.tdiv how2 10)) (List.length (([] : List Int) ++ y6.2.2) : Int)).bind fun r15 =>
                  (F15 (IntKind.wrap .i64 (Int.tdiv at3 3)) (IntKind.wrap .i64 ((List.length (([] : List (Int × Int × List Int)) ++ l1) : Int) + 2))).bind fun r16 =>
                  (gI (([] : List Int) ++ y6.2.2) r15).bind fun y17 =>
                  (gI (([] : List Int) ++ y6.2.2) r15).bind fun y18 =>
                  some (.inl (([] : List (Int × Int × List Int)) ++ l1, y6.1, y6.2.1, setI (([] : List Int) ++ y6.2.2) r15 (IntKind.wrap .i64 (r16 - 1))))
                else
                  some (.inl (([] : List (Int × Int × List Int)) ++ l1, y6.1, y6.2.1, ([] : List Int) ++ y6.2.2))
              else
                bif r11 == 4 then
                  bif decide ((List.length (([] : List Int) ++ y6.2.2) : Int) > 0) then
                    bif decide ((0 : Int) ≤ 1 ∧ (1 : Int) ≤ (List.length (([] : List Int) ++ y6.2.2) : Int) ∧ (List.length (([] : List Int) ++ y6.2.2) : Int) ≤ (List.length (([] : List Int) ++ y6.2.2) : Int)) then
                      some (.inl (([] : List (Int × Int × List Int)) ++ l1, y6.1, y6.2.1, slI (([] : List Int) ++ y6.2.2) 1 (List.length (([] : List Int) ++ y6.2.2) : Int)))
                    else none
                  else
                    some (.inl (([] : List (Int × Int × List Int)) ++ l1, y6.1, y6.2.1, ([] : List Int) ++ y6.2.2))
                else
                  bif r11 == 5 then
                    bif decide (List.length (([] : List (Int × Int × List Int)) ++ l1) + List.length ([(y6.1, y6.2.1, ([] : List Int) ++ y6.2.2)] : List (Int × Int × List Int)) ≤ 1000000) then
                      some (.inl ((([] : List (Int × Int × List Int)) ++ l1) ++ ([(y6.1, y6.2.1, ([] : List Int) ++ y6.2.2)] : List (Int × Int × List Int)), y6.1, y6.2.1, ([] : List Int) ++ y6.2.2))
                    else none
                  else
                    bif r11 == 6 then
                      (F15 (IntKind.wrap .i64 (Int.tdiv how2 10)) 40).bind fun r19 =>
                      some (.inl (([] : List (Int × Int × List Int)) ++ l1, 3, r19, []))
                    else
                      some (.inl (([] : List (Int × Int × List Int)) ++ l1, y6.1, y6.2.1, ([] : List Int) ++ y6.2.2))).bind (Sum.elim (J36_1 r4) some)
      else none
  else none
-- 38 fulling/fullingkeep2.last
noncomputable def J38_1 (sort2 : Int) (i4 : Int) : Bool → Option (Int ⊕ Int) := fun v5 =>
  bif v5 == (sort2 == 1) then
    (some i4).map .inr
  else
    some (.inl (IntKind.wrap .i64 (i4 - 1)))
noncomputable def L38_1 (l1 : List (Int × Int × List Int)) (sort2 : Int) : Int → Option (Int ⊕ Int) := fun i4 =>
  bif decide (i4 ≥ 0) then
    ((gI l1 i4).bind fun y6 =>
    bif decide (y6.1 ≥ 1) then
      (gI l1 i4).bind fun y7 =>
      bif decide (y7.1 ≤ 24) then
        some (.inl true)
      else
        (gI l1 i4).bind fun y8 =>
        bif y8.1 == 25 then
          (gI l1 i4).bind fun y9 =>
          some (.inl (y9.2.1 != 0))
        else
          some (.inl false)
    else
      (gI l1 i4).bind fun y10 =>
      bif y10.1 == 25 then
        (gI l1 i4).bind fun y11 =>
        some (.inl (y11.2.1 != 0))
      else
        some (.inl false)).bind (Sum.elim (J38_1 sort2 i4) some)
  else
    (some 0).map .inr
noncomputable def F38 (l1 : List (Int × Int × List Int)) (sort2 : Int) : Option Int :=
  loopL (L38_1 l1 sort2) (IntKind.wrap .i64 ((List.length l1 : Int) - 1))
-- 37 (*fulling/fullingkeep2.Digits).Next
noncomputable def F37 (m1 : Int) (d2 : Int) : Option (Int × Int) :=
  (F15 d2 m1).bind fun r3 =>
  bif decide (m1 = 0) then none else
    some (r3, IntKind.wrap .i64 (Int.tdiv (IntKind.wrap .i64 (d2 - r3)) m1))
-- 13 fulling/fullingkeep2.RawSaturation
noncomputable def L13_2 (s10 : List (Int × Int × List Int)) (i38 : Int) : (Int × Int × Int × Int × Int × (List (Int × Int × List Int)) × Int × Int × Int × Int × Int × Int × Int × Int × (List (Int × Int × Int × List Int × List Int)) × List Int) → Option ((Int × Int × Int × Int × Int × (List (Int × Int × List Int)) × Int × Int × Int × Int × Int × Int × Int × Int × (List (Int × Int × Int × List Int × List Int)) × List Int) ⊕ ((Int × Int × Int × Int × Int × (List (Int × Int × List Int)) × Int × Int × Int × Int × List (Int × Int × Int × List Int × List Int)) ⊕ ((List (Int × Int × List Int)) × (List (Int × Int × Int × List Int × List Int)) × (List (Int × Int × Int)) × Int × Int × Int × Int))) := fun (k113, l114, l115, l116, l117, s118, s119, s120, s121, s122, d123, x124, x125, x126, l127, l128) =>
  bif decide (k113 > 0) then
    (F37 (IntKind.wrap .i64 ((List.length s10 : Int) + 2)) d123).bind fun r129 =>
    bif decide (List.length l128 + List.length ([IntKind.wrap .i64 (r129.1 - 1)] : List Int) ≤ 1000000) then
      some (.inl (IntKind.wrap .i64 (k113 - 1), l114, l115, l116, l117, s118, s119, s120, s121, s122, r129.2, x124, x125, x126, l127, l128 ++ ([IntKind.wrap .i64 (r129.1 - 1)] : List Int)))
    else none
  else
    (bif decide (List.length l127 + List.length ([(x124, x125, x126, l128, [])] : List (Int × Int × Int × List Int × List Int)) ≤ 1000000) then
      some (.inl (IntKind.wrap .i64 (i38 + 1), l114, l115, l116, l117, s118, s119, s120, s121, s122, l127 ++ ([(x124, x125, x126, l128, [])] : List (Int × Int × Int × List Int × List Int))))
    else none).map .inr
noncomputable def J13_3 (s10 : List (Int × Int × List Int)) (i38 : Int) : (Int × Int × Int × Int × (List (Int × Int × List Int)) × Int × Int × Int × Int × Int × Int × Int × Int × List (Int × Int × Int × List Int × List Int)) → Option ((Int × Int × Int × Int × Int × (List (Int × Int × List Int)) × Int × Int × Int × Int × List (Int × Int × Int × List Int × List Int)) ⊕ ((List (Int × Int × List Int)) × (List (Int × Int × Int × List Int × List Int)) × (List (Int × Int × Int)) × Int × Int × Int × Int)) := fun (l66, l67, l68, l69, s70, s71, s72, s73, s74, d75, x76, x77, x78, l79) =>
  (F37 3 d75).bind fun r81 =>
  loopL (L13_2 s10 i38) (r81.1, l66, l67, l68, l69, s70, s71, s72, s73, s74, r81.2, x76, x77, x78, l79, [])
noncomputable def J13_2 (steps2 : List Int) (s10 : List (Int × Int × List Int)) (i38 : Int) : (Bool × Int × Int × Int × Int × (List (Int × Int × List Int)) × Int × Int × Int × Int × List (Int × Int × Int × List Int × List Int)) → Option ((Int × Int × Int × Int × Int × (List (Int × Int × List Int)) × Int × Int × Int × Int × List (Int × Int × Int × List Int × List Int)) ⊕ ((List (Int × Int × List Int)) × (List (Int × Int × Int × List Int × List Int)) × (List (Int × Int × Int)) × Int × Int × Int × Int)) := fun (x49, l50, l51, l52, l53, s54, s55, s56, s57, s58, l59) =>
  bif x49 then
    (gI steps2 i38).bind fun y60 =>
    (F37 5 y60).bind fun r61 =>
    (gI ([0, 1, (-1), 2, 1] : List Int) r61.1).bind fun y62 =>
    (gI ([0, 1, (-1), 2, 1] : List Int) r61.1).bind fun y63 =>
    (F37 (IntKind.wrap .i64 ((List.length s10 : Int) + 1)) r61.2).bind fun r64 =>
    (F37 (IntKind.wrap .i64 ((List.length s10 : Int) + 1)) r64.2).bind fun r65 =>
    (bif r64.1 == (List.length s10 : Int) then
      (F37 2 r65.2).bind fun r80 =>
      some (.inl (l50, l51, l52, l53, s54, s55, s56, s57, s58, r80.2, IntKind.wrap .i64 ((-1) + (IntKind.wrap .i64 (r80.1 * (List.length s10 : Int)))), r65.1, y63, l59))
    else
      some (.inl (l50, l51, l52, l53, s54, s55, s56, s57, s58, r65.2, r64.1, r65.1, y63, l59))).bind (Sum.elim (J13_3 s10 i38) some)
  else
    ((F38 s54 1).bind fun r130 =>
    (F38 s54 2).bind fun r131 =>
    some (s54, l59, [], r130, r131, s57, s58)).map .inr
noncomputable def L13_1 (steps2 : List Int) (s10 : List (Int × Int × List Int)) : (Int × Int × Int × Int × Int × (List (Int × Int × List Int)) × Int × Int × Int × Int × List (Int × Int × Int × List Int × List Int)) → Option ((Int × Int × Int × Int × Int × (List (Int × Int × List Int)) × Int × Int × Int × Int × List (Int × Int × Int × List Int × List Int)) ⊕ ((List (Int × Int × List Int)) × (List (Int × Int × Int × List Int × List Int)) × (List (Int × Int × Int)) × Int × Int × Int × Int)) := fun (i38, l39, l40, l41, l42, s43, s44, s45, s46, s47, l48) =>
  (bif decide (i38 < (List.length steps2 : Int)) then
    some (.inl (decide (i38 < 16), l39, l40, l41, l42, s43, s44, s45, s46, s47, l48))
  else
    some (.inl (false, l39, l40, l41, l42, s43, s44, s45, s46, s47, l48))).bind (Sum.elim (J13_2 steps2 s10 i38) some)
noncomputable def J13_1 (steps2 : List Int) : (Int × Int × Int × Int × (List (Int × Int × List Int)) × Int × Int × Int × Int) → Option ((List (Int × Int × List Int)) × (List (Int × Int × Int × List Int × List Int)) × (List (Int × Int × Int)) × Int × Int × Int × Int) := fun (l6, l7, l8, l9, s10, s11, s12, s13, s14) =>
  loopL (L13_1 steps2 s10) (0, l6, l7, l8, l9, s10, s11, s12, s13, s14, [])
noncomputable def F13 (l1 : List Int) (steps2 : List Int) (how3 : Int) (at4 : Int) : Option ((List (Int × Int × List Int)) × (List (Int × Int × Int × List Int × List Int)) × (List (Int × Int × Int)) × Int × Int × Int × Int) :=
  (F35 l1 false).bind fun r5 =>
  ((F15 how3 3).bind fun r15 =>
  bif r15 == 1 then
    (F36 r5 (IntKind.wrap .i64 (Int.tdiv how3 3)) at4).bind fun r16 =>
    some (.inl (0, 0, 0, 0, r16, 0, 2, 0, 0))
  else
    some (.inl (0, 0, 0, 0, r5, 0, 2, 0, 0))).bind (Sum.elim (J13_1 steps2) some)
-- 39 fulling/fullingref22.isNode
noncomputable def J39_1 : Bool → Option Bool := fun x3 =>
  some x3
noncomputable def F39 (l1 : List (Int × Int × List Int)) (i2 : Int) : Option Bool :=
  (bif decide (i2 ≥ 0) then
    some (.inl (decide (i2 < (List.length l1 : Int))))
  else
    some (.inl false)).bind (Sum.elim J39_1 some)
-- 41 fulling/fullingref22.isEdge
noncomputable def J41_1 : Bool → Option Bool := fun x3 =>
  some x3
noncomputable def F41 (l1 : List (Int × Int × List Int)) (s2 : Int × Int × Int × List Int × List Int) : Option Bool :=
  ((F39 l1 s2.1).bind fun r4 =>
  bif r4 then
    (F39 l1 s2.2.1).bind fun r5 =>
    some (.inl r5)
  else
    some (.inl false)).bind (Sum.elim J41_1 some)
-- 40 fulling/fullingref22.distances
noncomputable def J40_4 (n15 : Int) (more21 : Bool) (y28 : Int × Int × Int × List Int × List Int) : (Bool × List Int) → Option ((Bool × List Int) ⊕ ((Bool × List Int) ⊕ ((Bool × Int × List Int) ⊕ ((Int × Bool × List Int) ⊕ (List Int))))) := fun (x32, d33) =>
  bif x32 then
    (gI d33 y28.2.1).bind fun y38 =>
    (gI d33 y28.2.1).bind fun y39 =>
    some (.inl (true, setI d33 y28.2.1 (IntKind.wrap .i64 (n15 + 1))))
  else
    some (.inl (more21, d33))
noncomputable def J40_5 (n15 : Int) (y28 : Int × Int × Int × List Int × List Int) (more30 : Bool) : (Bool × List Int) → Option ((Bool × List Int) ⊕ ((Bool × Int × List Int) ⊕ ((Int × Bool × List Int) ⊕ (List Int)))) := fun (x40, d41) =>
  bif x40 then
    (gI d41 y28.1).bind fun y46 =>
    (gI d41 y28.1).bind fun y47 =>
    some (.inl (true, setI d41 y28.1 (IntKind.wrap .i64 (n15 + 1))))
  else
    some (.inl (more30, d41))
noncomputable def J40_3 (n15 : Int) (y28 : Int × Int × Int × List Int × List Int) : (Bool × List Int) → Option ((Bool × List Int) ⊕ ((Bool × Int × List Int) ⊕ ((Int × Bool × List Int) ⊕ (List Int)))) := fun (more30, d31) =>
  ((gI d31 y28.2.1).bind fun y42 =>
  (gI d31 y28.2.1).bind fun y43 =>
  bif y43 == n15 then
    (gI d31 y28.1).bind fun y44 =>
    (gI d31 y28.1).bind fun y45 =>
    some (.inl (decide (y45 < 0), d31))
  else
    some (.inl (false, d31))).bind (Sum.elim (J40_5 n15 y28 more30) some)
noncomputable def J40_2 (t22 : Int) : (Bool × List Int) → Option ((Bool × Int × List Int) ⊕ ((Int × Bool × List Int) ⊕ (List Int))) := fun (more26, d27) =>
  some (.inl (more26, IntKind.wrap .i64 (t22 + 1), d27))
noncomputable def J40_1 (s1 : (List (Int × Int × List Int)) × (List (Int × Int × Int × List Int × List Int)) × (List (Int × Int × Int)) × Int × Int × Int × Int) (n15 : Int) (more21 : Bool) (t22 : Int) : (Bool × List Int) → Option ((Bool × Int × List Int) ⊕ ((Int × Bool × List Int) ⊕ (List Int))) := fun (x24, d25) =>
  bif x24 then
    ((gI s1.2.1 t22).bind fun y28 =>
    (F41 s1.1 y28).bind fun r29 =>
    bif !r29 then
      some (.inl (more21, d25))
    else
      (((gI d25 y28.1).bind fun y34 =>
      (gI d25 y28.1).bind fun y35 =>
      bif y35 == n15 then
        (gI d25 y28.2.1).bind fun y36 =>
        (gI d25 y28.2.1).bind fun y37 =>
        some (.inl (decide (y37 < 0), d25))
      else
        some (.inl (false, d25))).bind (Sum.elim (J40_4 n15 more21 y28) some)).bind (Sum.elim (J40_3 n15 y28) some)).bind (Sum.elim (J40_2 t22) some)
  else
    (some (.inl (IntKind.wrap .i64 (n15 + 1), more21, d25))).map .inr
noncomputable def L40_3 (s1 : (List (Int × Int × List Int)) × (List (Int × Int × Int × List Int × List Int)) × (List (Int × Int × Int)) × Int × Int × Int × Int) (below3 : Int) (n15 : Int) : (Bool × Int × List Int) → Option ((Bool × Int × List Int) ⊕ ((Int × Bool × List Int) ⊕ (List Int))) := fun (more21, t22, d23) =>
  (bif decide (t22 < (List.length s1.2.1 : Int)) then
    some (.inl (decide (t22 < below3), d23))
  else
    some (.inl (false, d23))).bind (Sum.elim (J40_1 s1 n15 more21 t22) some)
noncomputable def L40_2 (s1 : (List (Int × Int × List Int)) × (List (Int × Int × Int × List Int × List Int)) × (List (Int × Int × Int)) × Int × Int × Int × Int) (below3 : Int) : (Int × Bool × List Int) → Option ((Int × Bool × List Int) ⊕ (List Int)) := fun (n15, more16, d17) =>
  bif more16 then
    loopL (L40_3 s1 below3 n15) (false, 0, d17)
  else
    (some d17).map .inr
noncomputable def L40_1 (s1 : (List (Int × Int × List Int)) × (List (Int × Int × Int × List Int × List Int)) × (List (Int × Int × Int)) × Int × Int × Int × Int) (b2 : Int) (below3 : Int) : (Int × List Int) → Option ((Int × List Int) ⊕ (List Int)) := fun (i6, d7) =>
  bif decide (i6 < (List.length d7 : Int)) then
    (gI d7 i6).bind fun y8 =>
    (gI d7 i6).bind fun y9 =>
    some (.inl (IntKind.wrap .i64 (i6 + 1), setI d7 i6 (-1)))
  else
    ((gI d7 b2).bind fun y10 =>
    (gI d7 b2).bind fun y11 =>
    loopL (L40_2 s1 below3) (0, true, setI d7 b2 0)).map .inr
noncomputable def F40 (s1 : (List (Int × Int × List Int)) × (List (Int × Int × Int × List Int × List Int)) × (List (Int × Int × Int)) × Int × Int × Int × Int) (b2 : Int) (below3 : Int) : Option (List Int) :=
  bif decide ((0 : Int) ≤ (List.length s1.1 : Int) ∧ ((List.length s1.1 : Int) : Int) = (List.length s1.1 : Int) ∧ ((List.length s1.1 : Int) : Int) ≤ 1000000) then
    loopL (L40_1 s1 b2 below3) (0, (List.replicate (Int.toNat (List.length s1.1 : Int)) 0 : List Int))
  else none
-- 14 fulling/fullingref22.Path
noncomputable def J14_4 (at18 : Int) (t19 : Int) (y23 : Int × Int × Int × List Int × List Int) : (Bool × List Int) → Option ((Int × List Int) ⊕ ((Int × Int × List Int) ⊕ ((Int × List Int) ⊕ (List Int × Bool)))) := fun (x29, row30) =>
  bif x29 then
    bif decide (List.length row30 + List.length ([t19] : List Int) ≤ 1000000) then
      ((some (.inl (y23.1, row30 ++ ([t19] : List Int)))).map .inr).map .inr
    else none
  else
    some (.inl (at18, row30))
noncomputable def J14_3 (r8 : List Int) (at18 : Int) (t19 : Int) (y23 : Int × Int × Int × List Int × List Int) : (Bool × List Int) → Option ((Int × List Int) ⊕ ((Int × Int × List Int) ⊕ ((Int × List Int) ⊕ (List Int × Bool)))) := fun (x25, row26) =>
  bif x25 then
    bif decide (List.length row26 + List.length ([t19] : List Int) ≤ 1000000) then
      ((some (.inl (y23.2.1, row26 ++ ([t19] : List Int)))).map .inr).map .inr
    else none
  else
    (bif y23.2.1 == at18 then
      (gI r8 y23.1).bind fun y31 =>
      (gI r8 at18).bind fun y32 =>
      some (.inl (y31 == (IntKind.wrap .i64 (y32 - 1)), row26))
    else
      some (.inl (false, row26))).bind (Sum.elim (J14_4 at18 t19 y23) some)
noncomputable def J14_2 (t19 : Int) : (Int × List Int) → Option ((Int × Int × List Int) ⊕ ((Int × List Int) ⊕ (List Int × Bool))) := fun (at21, row22) =>
  some (.inl (at21, IntKind.wrap .i64 (t19 + 1), row22))
noncomputable def L14_2 (s1 : (List (Int × Int × List Int)) × (List (Int × Int × Int × List Int × List Int)) × (List (Int × Int × Int)) × Int × Int × Int × Int) (r8 : List Int) : (Int × Int × List Int) → Option ((Int × Int × List Int) ⊕ ((Int × List Int) ⊕ (List Int × Bool))) := fun (at18, t19, row20) =>
  bif decide (t19 < (List.length s1.2.1 : Int)) then
    ((gI s1.2.1 t19).bind fun y23 =>
    (F41 s1.1 y23).bind fun r24 =>
    bif !r24 then
      some (.inl (at18, row20))
    else
      (bif y23.1 == at18 then
        (gI r8 y23.2.1).bind fun y27 =>
        (gI r8 at18).bind fun y28 =>
        some (.inl (y27 == (IntKind.wrap .i64 (y28 - 1)), row20))
      else
        some (.inl (false, row20))).bind (Sum.elim (J14_3 r8 at18 t19 y23) some)).bind (Sum.elim (J14_2 t19) some)
  else
    (some (.inl (at18, row20))).map .inr
noncomputable def L14_1 (s1 : (List (Int × Int × List Int)) × (List (Int × Int × Int × List Int × List Int)) × (List (Int × Int × Int)) × Int × Int × Int × Int) (b3 : Int) (r8 : List Int) : (Int × List Int) → Option ((Int × List Int) ⊕ (List Int × Bool)) := fun (at13, row14) =>
  bif at13 != b3 then
    loopL (L14_2 s1 r8) (at13, 0, row14)
  else
    (some (row14, true)).map .inr
noncomputable def J14_1 (s1 : (List (Int × Int × List Int)) × (List (Int × Int × Int × List Int × List Int)) × (List (Int × Int × Int)) × Int × Int × Int × Int) (a2 : Int) (b3 : Int) (below4 : Int) : Bool → Option (List Int × Bool) := fun x5 =>
  bif x5 then
    some ([], false)
  else
    (F40 s1 b3 below4).bind fun r8 =>
    (gI r8 a2).bind fun y9 =>
    bif decide (y9 < 0) then
      some ([], false)
    else
      loopL (L14_1 s1 b3 r8) (a2, [])
noncomputable def F14 (s1 : (List (Int × Int × List Int)) × (List (Int × Int × Int × List Int × List Int)) × (List (Int × Int × Int)) × Int × Int × Int × Int) (a2 : Int) (b3 : Int) (below4 : Int) : Option (List Int × Bool) :=
  ((F39 s1.1 a2).bind fun r6 =>
  bif !r6 then
    some (.inl true)
  else
    (F39 s1.1 b3).bind fun r7 =>
    some (.inl (!r7))).bind (Sum.elim (J14_1 s1 a2 b3 below4) some)
-- 16 fulling/fullingref22.Dependencies
noncomputable def J16_2 (l2 : List Int) (i5 : Int) : (Bool × List Bool) → Option ((List Bool) ⊕ ((Int × List Bool) ⊕ (List Int))) := fun (x8, in9) =>
  bif x8 then
    (gI l2 i5).bind fun y12 =>
    (gI in9 y12).bind fun y13 =>
    (gI in9 y12).bind fun y14 =>
    some (.inl (setI in9 y12 true))
  else
    some (.inl in9)
noncomputable def J16_1 (i5 : Int) : (List Bool) → Option ((Int × List Bool) ⊕ (List Int)) := fun in7 =>
  some (.inl (IntKind.wrap .i64 (i5 + 1), in7))
noncomputable def L16_4 (k30 : Int) (r36 : List Int × Bool) : (Int × List Bool) → Option ((Int × List Bool) ⊕ ((Int × List Bool) ⊕ ((List Bool) ⊕ ((Int × List Bool) ⊕ (List Int))))) := fun (i39, in40) =>
  bif decide (i39 < (List.length r36.1 : Int)) then
    (gI r36.1 i39).bind fun y41 =>
    (gI in40 y41).bind fun y42 =>
    (gI in40 y41).bind fun y43 =>
    some (.inl (IntKind.wrap .i64 (i39 + 1), setI in40 y41 true))
  else
    (some (.inl (IntKind.wrap .i64 (k30 + 1), in40))).map .inr
noncomputable def J16_5 (s1 : (List (Int × Int × List Int)) × (List (Int × Int × Int × List Int × List Int)) × (List (Int × Int × Int)) × Int × Int × Int × Int) (t17 : Int) (y26 : Int × Int × List Int) (y27 : Int × Int × List Int) (k30 : Int) : (Bool × List Bool) → Option ((Int × List Bool) ⊕ ((List Bool) ⊕ ((Int × List Bool) ⊕ (List Int)))) := fun (x32, in33) =>
  bif x32 then
    (gI y26.2.2 k30).bind fun y34 =>
    (gI y27.2.2 k30).bind fun y35 =>
    (F14 s1 y34 y35 t17).bind fun r36 =>
    loopL (L16_4 k30 r36) (0, in33)
  else
    (some (.inl in33)).map .inr
noncomputable def L16_3 (s1 : (List (Int × Int × List Int)) × (List (Int × Int × Int × List Int × List Int)) × (List (Int × Int × Int)) × Int × Int × Int × Int) (t17 : Int) (y26 : Int × Int × List Int) (y27 : Int × Int × List Int) : (Int × List Bool) → Option ((Int × List Bool) ⊕ ((List Bool) ⊕ ((Int × List Bool) ⊕ (List Int)))) := fun (k30, in31) =>
  (bif decide (k30 < (List.length y26.2.2 : Int)) then
    some (.inl (decide (k30 < (List.length y27.2.2 : Int)), in31))
  else
    some (.inl (false, in31))).bind (Sum.elim (J16_5 s1 t17 y26 y27 k30) some)
noncomputable def J16_4 (s1 : (List (Int × Int × List Int)) × (List (Int × Int × Int × List Int × List Int)) × (List (Int × Int × Int)) × Int × Int × Int × Int) (t17 : Int) (y20 : Int × Int × Int × List Int × List Int) : (Bool × List Bool) → Option ((List Bool) ⊕ ((Int × List Bool) ⊕ (List Int))) := fun (x21, in22) =>
  bif x21 then
    some (.inl in22)
  else
    (gI s1.1 y20.1).bind fun y26 =>
    (gI s1.1 y20.2.1).bind fun y27 =>
    loopL (L16_3 s1 t17 y26 y27) (0, in22)
noncomputable def J16_3 (t17 : Int) : (List Bool) → Option ((Int × List Bool) ⊕ (List Int)) := fun in19 =>
  some (.inl (IntKind.wrap .i64 (t17 - 1), in19))
noncomputable def J16_7 (t49 : Int) : (Bool × List Bool × List Int) → Option ((List Bool × List Int) ⊕ ((Int × List Bool × List Int) ⊕ (List Int))) := fun (x54, in55, out56) =>
  bif x54 then
    bif decide (List.length out56 + List.length ([t49] : List Int) ≤ 1000000) then
      some (.inl (in55, out56 ++ ([t49] : List Int)))
    else none
  else
    some (.inl (in55, out56))
noncomputable def J16_6 (t49 : Int) : (List Bool × List Int) → Option ((Int × List Bool × List Int) ⊕ (List Int)) := fun (in52, out53) =>
  some (.inl (IntKind.wrap .i64 (t49 + 1), in52, out53))
noncomputable def L16_5 (s1 : (List (Int × Int × List Int)) × (List (Int × Int × Int × List Int × List Int)) × (List (Int × Int × Int)) × Int × Int × Int × Int) : (Int × List Bool × List Int) → Option ((Int × List Bool × List Int) ⊕ (List Int)) := fun (t49, in50, out51) =>
  bif decide (t49 < (List.length in50 : Int)) then
    (((gI in50 t49).bind fun y57 =>
    (gI in50 t49).bind fun y58 =>
    bif y58 then
      (gI s1.2.1 t49).bind fun y59 =>
      (F41 s1.1 y59).bind fun r60 =>
      some (.inl (r60, in50, out51))
    else
      some (.inl (false, in50, out51))).bind (Sum.elim (J16_7 t49) some)).bind (Sum.elim (J16_6 t49) some)
  else
    (some out51).map .inr
noncomputable def L16_2 (s1 : (List (Int × Int × List Int)) × (List (Int × Int × Int × List Int × List Int)) × (List (Int × Int × Int)) × Int × Int × Int × Int) : (Int × List Bool) → Option ((Int × List Bool) ⊕ (List Int)) := fun (t17, in18) =>
  bif decide (t17 ≥ 0) then
    ((gI s1.2.1 t17).bind fun y20 =>
    ((gI in18 t17).bind fun y23 =>
    (gI in18 t17).bind fun y24 =>
    bif !y24 then
      some (.inl (true, in18))
    else
      bif y20.2.2.1 != 0 then
        some (.inl (true, in18))
      else
        (F41 s1.1 y20).bind fun r25 =>
        some (.inl (!r25, in18))).bind (Sum.elim (J16_4 s1 t17 y20) some)).bind (Sum.elim (J16_3 t17) some)
  else
    (loopL (L16_5 s1) (0, in18, [])).map .inr
noncomputable def L16_1 (s1 : (List (Int × Int × List Int)) × (List (Int × Int × Int × List Int × List Int)) × (List (Int × Int × Int)) × Int × Int × Int × Int) (l2 : List Int) : (Int × List Bool) → Option ((Int × List Bool) ⊕ (List Int)) := fun (i5, in6) =>
  bif decide (i5 < (List.length l2 : Int)) then
    (((gI l2 i5).bind fun y10 =>
    bif decide (y10 ≥ 0) then
      (gI l2 i5).bind fun y11 =>
      some (.inl (decide (y11 < (List.length in6 : Int)), in6))
    else
      some (.inl (false, in6))).bind (Sum.elim (J16_2 l2 i5) some)).bind (Sum.elim (J16_1 i5) some)
  else
    (loopL (L16_2 s1) (IntKind.wrap .i64 ((List.length in6 : Int) - 1), in6)).map .inr
noncomputable def F16 (s1 : (List (Int × Int × List Int)) × (List (Int × Int × Int × List Int × List Int)) × (List (Int × Int × Int)) × Int × Int × Int × Int) (l2 : List Int) : Option (List Int) :=
  bif decide ((0 : Int) ≤ (List.length s1.2.1 : Int) ∧ ((List.length s1.2.1 : Int) : Int) = (List.length s1.2.1 : Int) ∧ ((List.length s1.2.1 : Int) : Int) ≤ 1000000) then
    loopL (L16_1 s1 l2) (0, (List.replicate (Int.toNat (List.length s1.2.1 : Int)) false : List Bool))
  else none
-- 4 fulling/fullinglaw22.ExplainPaths
noncomputable def J4_1 (i11 : Int) : Bool → Option (Int ⊕ Bool) := fun x20 =>
  bif x20 then
    (some false).map .inr
  else
    some (.inl (IntKind.wrap .i64 (i11 + 1)))
noncomputable def J4_2 : Bool → Option Bool := fun x23 =>
  some x23
noncomputable def L4_1 (a5 : Int) (b6 : Int) (below7 : Int) (some8 : List Int) (r9 : (List (Int × Int × List Int)) × (List (Int × Int × Int × List Int × List Int)) × (List (Int × Int × Int)) × Int × Int × Int × Int) : Int → Option (Int ⊕ Bool) := fun i11 =>
  bif decide (i11 ≤ (List.length r9.1 : Int)) then
    (F8 r9 a5 i11 below7).bind fun r12 =>
    (F14 r9 a5 i11 below7).bind fun r13 =>
    (F15 b6 (List.length r9.1 : Int)).bind fun r14 =>
    (F15 below7 20).bind fun r15 =>
    (F8 r9 i11 r14 r15).bind fun r16 =>
    (F15 b6 (List.length r9.1 : Int)).bind fun r17 =>
    (F15 below7 20).bind fun r18 =>
    (F14 r9 i11 r17 r18).bind fun r19 =>
    (bif !(r12.2 == r13.2) then
      some (.inl true)
    else
      bif !(r16.2 == r19.2) then
        some (.inl true)
      else
        (F10 r12.1 r13.1).bind fun r21 =>
        bif !r21 then
          some (.inl true)
        else
          (F10 r16.1 r19.1).bind fun r22 =>
          some (.inl (!r22))).bind (Sum.elim (J4_1 i11) some)
  else
    (((F11 r9 some8).bind fun r24 =>
    (F16 r9 some8).bind fun r25 =>
    (F10 r24 r25).bind fun r26 =>
    bif r26 then
      (F11 r9 ([0, 3, 5, 9, 12] : List Int)).bind fun r27 =>
      (F16 r9 ([0, 3, 5, 9, 12] : List Int)).bind fun r28 =>
      (F10 r27 r28).bind fun r29 =>
      bif r29 then
        (F3).bind fun r30 =>
        some (.inl r30)
      else
        some (.inl false)
    else
      some (.inl false)).bind (Sum.elim J4_2 some)).map .inr
noncomputable def F4 (l1 : List Int) (steps2 : List Int) (how3 : Int) (at4 : Int) (a5 : Int) (b6 : Int) (below7 : Int) (some8 : List Int) : Option Bool :=
  (F13 l1 steps2 how3 at4).bind fun r9 =>
  loopL (L4_1 a5 b6 below7 some8 r9) (-1)
end Go.Dat
