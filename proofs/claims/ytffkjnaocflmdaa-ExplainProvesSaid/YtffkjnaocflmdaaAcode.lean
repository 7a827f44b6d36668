/-
  The program's functions, annotated, and that they compute the plain functions. Printed by program.
-/
import Derived.Test.YtffkjnaocflmdaaSb
import Derived.Test.YtffkjnaocflmdaaFd
namespace Go.Proofs.Ytffkjnaocflmdaa
open Go.Eng Go.Dat
set_option linter.unusedVariables false
noncomputable def a26 : FA := ⟨13, (.seq
 (.ops [y 4 (.assign (.const (.bool false)))])
 (.jn ⟨[], [(4, dB)], []⟩
 (.ops [mv 5 1,
 y 6 (.binOp .geq 3 (t 5) (cI 0) 3),
 mv 7 6,
 u 7 true 8 (.move (t 1)),
 u 7 true 9 (.move (t 0)),
 u 7 true 10 (.call ⟨.builtin .len, #[t 9], #[22]⟩),
 u 7 true 11 (.binOp .lss 3 (t 8) (t 10) 3),
 y 12 (.pick (t 7) (t 11) (.const (.bool false))),
 sg 4 12])
 .ret)), [.tmp 4]⟩
theorem is26 : IsFA P pol (planOf pol) 26 2 a26 := ⟨⟨_, _, Try.func26, rfl, rfl, rfl, by kernel_rfl⟩, by decide⟩
theorem ok26 : a26.c.ok = true := by kernel_rfl
theorem r26 (x : denL [(.list tn), tI]) : fun2 (env [] []) a26 [(.list tn), tI] [.bool] x = F26 x.1 x.2 := by kernel_rfl
noncomputable def sp26 : FSp := ⟨[(.list tn), tI], [.bool], fun x => F26 x.1 x.2⟩
theorem s26 : SpOk pol P 26 sp26 := fun x r h => fun_ok is26 (fun _ => rfl) (tyOk [] []) (kOk rfl rfl rfl allN imN) ok26 rfl rfl ((r26 x).trans h)
noncomputable def a27 : FA := ⟨113, (.seq
 (.ops [y 6 (.assign (.const (.slice none 0 0))),
 y 7 (.assign (.const (.bool false)))])
 (.seq
 (.ops [mv 17 0,
 lenC 18 17 58,
 y 19 (.makeSlice 28 (t 18) (t 18)),
 sg 8 19])
 (.keep [0, 1, 2, 8] (.seq
 (.seq
 (.ops [mv 20 8,
 lenC 21 20 28,
 y 22 (.move (cI 0))])
 (.block 0 (.loop ⟨[0, 1, 2, 21], [(8, .sl 0), (22, dI)], [.own tI true]⟩ (.keep [0, 1, 2, 8, 21, 22] (.seq
 (.ops [y 23 (.binOp .lss 3 (t 22) (t 21) 3)])
 (.seq
 (.cond (t 23)
 .skip
 (.exit 0))
 (.keep [0, 1, 2, 8, 21, 22] (.seq
 (.block 1 (.seq
 (.ops [mv 24 22,
 sg 9 24])
 (.ops [mv 25 8,
 mv 26 9,
 ia 27 28 25 26,
 ⟨.yes, .store 3 (t 27) (cI (-1)), none⟩])))
 (.keep [0, 1, 2, 8, 21, 22] (.ops [y 28 (.binOp .add 3 (t 22) (cI 1) 3),
 mv 22 28]))))))))))
 (.keep [0, 1, 2, 8] (.seq
 (.ops [mv 29 8,
 mv 30 2,
 ia 31 28 29 30,
 ⟨.yes, .store 3 (t 31) (cI 0), none⟩])
 (.keep [0, 1, 2, 8] (.seq
 (.ops [mv 32 2,
 y 33 (.buildSlice 28 1 #[(0, t 32)]),
 sg 10 33])
 (.seq
 (.seq
 (.ops [y 11 (.assign (cI 0))])
 (.block 2 (.loop ⟨[0, 1, 2], [(8, .sl 0), (10, .sl 1), (11, dI)], [.own tI true, .own tI true]⟩ (.keep [0, 1, 2, 8, 10, 11] (.seq
 (.seq
 (.ops [mv 34 11,
 mv 35 10,
 lenC 36 35 28,
 y 37 (.binOp .lss 3 (t 34) (t 36) 3)])
 (.keep [0, 1, 2, 8, 10, 11, 37] (.cond (t 37)
 .skip
 (.exit 2))))
 (.keep [0, 1, 2, 8, 10, 11] (.seq
 (.block 3 (.seq
 (.ops [mv 40 0,
 mv 41 10,
 mv 42 11,
 ia 43 28 41 42,
 ld 44 3 43,
 ia 45 58 40 44,
 ld 46 82 45,
 lenC 47 46 82,
 y 48 (.move (cI 0))])
 (.keep [0, 1, 2, 8, 10, 11, 46, 47, 48] (.block 4 (.loop ⟨[0, 1, 2, 11, 46, 47], [(8, .sl 0), (10, .sl 1), (48, dI)], [.own tI true, .own tI true]⟩ (.keep [0, 1, 2, 8, 10, 11, 46, 47, 48] (.seq
 (.ops [y 49 (.binOp .lss 3 (t 48) (t 47) 3)])
 (.seq
 (.cond (t 49)
 .skip
 (.exit 4))
 (.keep [0, 1, 2, 8, 10, 11, 46, 47, 48] (.jn ⟨[0, 1, 2, 11, 46, 47, 48], [(8, .sl 0), (10, .sl 1)], [.own tI true, .own tI true]⟩
 (.block 5 (.seq
 (.ops [ia 50 82 46 48,
 ld 51 84 50,
 y 13 (.alloc 84),
 ⟨.yes, .store 84 (t 13) (t 51), none⟩])
 (.lock 13 (.keep [0, 1, 2, 8, 10, 11, 13, 46, 47, 48] (.seq
 (.ops [mv 52 8,
 fa 53 84 13 0,
 ld 54 3 53,
 ia 55 28 52 54,
 ld 56 3 55,
 y 57 (.binOp .lss 3 (t 56) (cI 0) 3)])
 (.keep [0, 1, 2, 8, 10, 11, 13, 46, 47, 48, 57] (.cond (t 57)
 (.seq
 (.plan [q 0 58 (.move (t 8)),
 q 1 59 (.fieldAddr 84 (t 13) 0),
 qr 2 60 (.load 3 (t 59)),
 q 3 61 (.move (t 8)),
 q 4 62 (.move (t 10)),
 q 5 63 (.move (t 11)),
 q 6 64 (.indexAddr 28 (t 62) (t 63)),
 qr 7 65 (.load 3 (t 64)),
 q 8 66 (.indexAddr 28 (t 61) (t 65)),
 qr 9 67 (.load 3 (t 66)),
 q 10 68 (.binOp .add 3 (t 67) (cI 1) 3),
 q 11 69 (.indexAddr 28 (t 58) (t 60)),
 ⟨12, [], false, .write, .yes, .store 3 (t 69) (t 68), none⟩])
 (.keep [0, 1, 2, 8, 10, 11, 13, 46, 47, 48] (.ops [mv 70 10,
 fa 71 84 13 0,
 ld 72 3 71,
 y 73 (.buildSlice 28 1 #[(0, t 72)]),
 y 74 (.call ⟨.builtin .append, #[t 70, t 73], #[28, 28]⟩),
 sg 10 74])))
 .skip)))))))
 (.keep [0, 1, 2, 8, 10, 11, 46, 47, 48] (.ops [y 75 (.binOp .add 3 (t 48) (cI 1) 3),
 mv 48 75]))))))))))))
 (.keep [0, 1, 2, 8, 10, 11] (.ops [mv 38 11,
 y 39 (.binOp .add 3 (t 38) (cI 1) 3),
 sg 11 39])))))))))
 (.keep [0, 1, 2, 8] (.seq
 (.seq
 (.ops [mv 76 8,
 mv 77 1,
 ia 78 28 76 77,
 ld 79 3 78,
 y 80 (.binOp .lss 3 (t 79) (cI 0) 3)])
 (.keep [0, 1, 2, 8, 80] (.cond (t 80)
 (.seq
 (.ops [y 6 (.assign (.const (.slice none 0 0))),
 y 7 (.assign (.const (.bool false)))])
 .ret)
 .skip)))
 (.keep [0, 1, 2, 8] (.seq
 (.ops [y 14 (.assign (.const (.slice none 0 0)))])
 (.seq
 (.block 6 (.loop ⟨[0, 2], [(1, dI), (8, .sl 0), (14, .sl 1)], [.own tI true, .own tI true]⟩ (.keep [0, 1, 2, 8, 14] (.seq
 (.seq
 (.ops [mv 81 1,
 mv 82 2,
 y 83 (.binOp .neq 3 (t 81) (t 82) 3)])
 (.cond (t 83)
 .skip
 (.exit 6)))
 (.keep [0, 1, 2, 8, 14] (.block 7 (.seq
 (.ops [mv 84 0,
 mv 85 1,
 ia 86 58 84 85,
 ld 87 82 86,
 lenC 88 87 82,
 y 89 (.move (cI 0))])
 (.keep [0, 1, 2, 8, 14, 87, 88, 89] (.block 8 (.loop ⟨[0, 2, 87, 88], [(1, dI), (8, .sl 0), (14, .sl 1), (89, dI)], [.own tI true, .own tI true]⟩ (.keep [0, 1, 2, 8, 14, 87, 88, 89] (.seq
 (.ops [y 90 (.binOp .lss 3 (t 89) (t 88) 3)])
 (.seq
 (.cond (t 90)
 .skip
 (.exit 8))
 (.keep [0, 1, 2, 8, 14, 87, 88, 89] (.seq
 (.block 9 (.seq
 (.ops [ia 91 82 87 89,
 ld 92 84 91,
 y 16 (.alloc 84),
 ⟨.yes, .store 84 (t 16) (t 92), none⟩])
 (.lock 16 (.keep [0, 1, 2, 8, 14, 16, 87, 88, 89] (.seq
 (.plan [q 0 93 (.move (t 8)),
 q 1 94 (.fieldAddr 84 (t 16) 0),
 qr 2 95 (.load 3 (t 94)),
 q 3 96 (.indexAddr 28 (t 93) (t 95)),
 qr 4 97 (.load 3 (t 96)),
 q 5 98 (.move (t 8)),
 q 6 99 (.move (t 1)),
 q 7 100 (.indexAddr 28 (t 98) (t 99)),
 qr 8 101 (.load 3 (t 100)),
 q 9 102 (.binOp .sub 3 (t 101) (cI 1) 3),
 q 10 103 (.binOp .eql 3 (t 97) (t 102) 3)])
 (.keep [0, 1, 2, 8, 14, 16, 87, 88, 89, 103] (.cond (t 103)
 (.seq
 (.ops [mv 104 14,
 fa 105 84 16 1,
 ld 106 3 105,
 y 107 (.buildSlice 28 1 #[(0, t 106)]),
 y 108 (.call ⟨.builtin .append, #[t 104, t 107], #[28, 28]⟩),
 sg 14 108])
 (.keep [0, 2, 8, 14, 16] (.seq
 (.ops [fa 109 84 16 0,
 ld 110 3 109,
 sg 1 110])
 (.exit 8))))
 .skip)))))))
 (.keep [0, 1, 2, 8, 14, 87, 88, 89] (.ops [y 111 (.binOp .add 3 (t 89) (cI 1) 3),
 mv 89 111])))))))))))))))))
 (.keep [14] (.seq
 (.ops [mv 112 14,
 sg 6 112,
 y 7 (.assign (.const (.bool true)))])
 .ret)))))))))))))))), [.tmp 6, .tmp 7]⟩
theorem is27 : IsFA P pol (planOf pol) 27 3 a27 := ⟨⟨_, _, Try.func27, rfl, rfl, rfl, by kernel_rfl⟩, by decide⟩
theorem ok27 : a27.c.ok = true := by kernel_rfl
theorem r27 (x : denL [(.list (.list (.st (.prod tI tI)))), tI, tI]) : fun2 (env [] []) a27 [(.list (.list (.st (.prod tI tI)))), tI, tI] [tL, .bool] x = F27 x.1 x.2.1 x.2.2 := by kernel_rfl
noncomputable def sp27 : FSp := ⟨[(.list (.list (.st (.prod tI tI)))), tI, tI], [tL, .bool], fun x => F27 x.1 x.2.1 x.2.2⟩
theorem s27 : SpOk pol P 27 sp27 := fun x r h => fun_ok is27 (fun _ => rfl) (tyOk [] []) (kOk rfl rfl rfl allN imN) ok27 rfl rfl ((r27 x).trans h)
noncomputable def a28 : FA := ⟨69, (.seq
 (.ops [y 2 (.box 26 (t 0)),
 y 4 (.assign (.const (.slice none 0 0)))])
 (.lock 2 (.seq
 (.ops [fa 8 26 2 0,
 ld 9 22 8,
 lenC 10 9 22,
 y 11 (.makeSlice 58 (t 10) (t 10)),
 sg 5 11])
 (.keep [1, 2, 5] (.jn ⟨[], [(5, .sl 0)], [.own2 (.st (.prod tI tI))]⟩
 (.seq
 (.ops [fa 12 26 2 1,
 ld 13 23 12,
 lenC 14 13 23,
 y 15 (.move (cI 0))])
 (.keep [1, 2, 5, 13, 14, 15] (.block 0 (.loop ⟨[1, 2, 13, 14], [(5, .sl 0), (15, dI)], [.own2 (.st (.prod tI tI))]⟩ (.keep [1, 2, 5, 13, 14, 15] (.seq
 (.ops [y 16 (.binOp .lss 3 (t 15) (t 14) 3)])
 (.seq
 (.cond (t 16)
 .skip
 (.exit 0))
 (.keep [1, 2, 5, 13, 14, 15] (.jn ⟨[1, 2, 13, 14, 15], [(5, .sl 0)], [.own2 (.st (.prod tI tI))]⟩
 (.block 1 (.seq
 (.ops [mv 17 15,
 ia 18 23 13 15,
 ld 19 44 18,
 y 7 (.alloc 44),
 sg 6 17,
 ⟨.yes, .store 44 (t 7) (t 19), none⟩])
 (.lock 7 (.keep [1, 2, 5, 6, 7, 13, 14, 15] (.seq
 (.seq
 (.ops [mv 20 6,
 mv 21 1,
 y 22 (.binOp .geq 3 (t 20) (t 21) 3)])
 (.cond (t 22)
 (.exit 0)
 .skip))
 (.keep [1, 2, 5, 6, 7, 13, 14, 15] (.seq
 (.jn ⟨[1, 2, 6, 7, 13, 14, 15], [(5, .sl 0), (36, dB)], [.own2 (.st (.prod tI tI))]⟩
 (.ops [fa 23 26 2 0,
 ld 24 22 23,
 fa 25 44 7 0,
 ld 26 3 25,
 y 27 (.call ⟨.value (.func 26), #[t 24, t 26], #[22, 3]⟩),
 y 28 (.unOp .not 4 (t 27)),
 mv 29 28,
 u 29 false 30 (.fieldAddr 26 (t 2) 0),
 u 29 false 31 (.load 22 (t 30)),
 u 29 false 32 (.fieldAddr 44 (t 7) 1),
 u 29 false 33 (.load 3 (t 32)),
 u 29 false 34 (.call ⟨.value (.func 26), #[t 31, t 33], #[22, 3]⟩),
 u 29 false 35 (.unOp .not 4 (t 34)),
 y 36 (.pick (t 29) (.const (.bool true)) (t 35))])
 (.keep [1, 2, 5, 6, 7, 13, 14, 15, 36] (.cond (t 36)
 (.exit 1)
 .skip)))
 (.keep [1, 2, 5, 6, 7, 13, 14, 15] (.seq
 (.plan [q 0 37 (.move (t 5)),
 q 1 38 (.fieldAddr 44 (t 7) 0),
 qn 2 39 (.load 3 (t 38)),
 q 3 40 (.move (t 5)),
 q 4 41 (.fieldAddr 44 (t 7) 0),
 qn 5 42 (.load 3 (t 41)),
 q 6 43 (.indexAddr 58 (t 40) (t 42)),
 qn 7 44 (.load 82 (t 43)),
 q 8 45 (.fieldAddr 44 (t 7) 1),
 qr 9 46 (.load 3 (t 45)),
 q 10 47 (.move (t 6)),
 q 11 48 (.build 84 #[(0, t 46), (1, t 47)]),
 ⟨12, [2, 5, 7], false, .alloc, .yes, .buildSlice 82 1 #[(0, t 48)], some 49⟩,
 ⟨13, [2], false, .write, .yes, .call ⟨.builtin .append, #[t 44, t 49], #[82, 82]⟩, some 50⟩,
 q 14 51 (.indexAddr 58 (t 37) (t 39)),
 ⟨15, [], false, .write, .yes, .store 82 (t 51) (t 50), none⟩])
 (.keep [1, 2, 5, 6, 7, 13, 14, 15] (.plan [q 0 52 (.move (t 5)),
 q 1 53 (.fieldAddr 44 (t 7) 1),
 qn 2 54 (.load 3 (t 53)),
 q 3 55 (.move (t 5)),
 q 4 56 (.fieldAddr 44 (t 7) 1),
 qn 5 57 (.load 3 (t 56)),
 q 6 58 (.indexAddr 58 (t 55) (t 57)),
 qn 7 59 (.load 82 (t 58)),
 q 8 60 (.fieldAddr 44 (t 7) 0),
 qr 9 61 (.load 3 (t 60)),
 q 10 62 (.move (t 6)),
 q 11 63 (.build 84 #[(0, t 61), (1, t 62)]),
 ⟨12, [2, 5, 7], false, .alloc, .yes, .buildSlice 82 1 #[(0, t 63)], some 64⟩,
 ⟨13, [2], false, .write, .yes, .call ⟨.builtin .append, #[t 59, t 64], #[82, 82]⟩, some 65⟩,
 q 14 66 (.indexAddr 58 (t 52) (t 54)),
 ⟨15, [], false, .write, .yes, .store 82 (t 66) (t 65), none⟩])))))))))))
 (.keep [1, 2, 5, 13, 14, 15] (.ops [y 67 (.binOp .add 3 (t 15) (cI 1) 3),
 mv 15 67])))))))))))
 (.keep [5] (.seq
 (.ops [mv 68 5,
 sg 4 68])
 .ret))))))), [.tmp 4]⟩
theorem is28 : IsFA P pol (planOf pol) 28 2 a28 := ⟨⟨_, _, Try.func28, rfl, rfl, rfl, by kernel_rfl⟩, by decide⟩
theorem ok28 : a28.c.ok = true := by kernel_rfl
theorem r28 (x : denL [(.st (.prod (.list tn) (.prod (.list ts) (.prod (.list (.st (.prod tI (.st (.prod tI tI))))) (.prod tI (.prod tI (.prod tI tI))))))), tI]) : fun2 (env [(26, sp26)] []) a28 [(.st (.prod (.list tn) (.prod (.list ts) (.prod (.list (.st (.prod tI (.st (.prod tI tI))))) (.prod tI (.prod tI (.prod tI tI))))))), tI] [(.list (.list (.st (.prod tI tI))))] x = F28 x.1 x.2 := by kernel_rfl
noncomputable def sp28 : FSp := ⟨[(.st (.prod (.list tn) (.prod (.list ts) (.prod (.list (.st (.prod tI (.st (.prod tI tI))))) (.prod tI (.prod tI (.prod tI tI))))))), tI], [(.list (.list (.st (.prod tI tI))))], fun x => F28 x.1 x.2⟩
theorem s28 : SpOk pol P 28 sp28 := fun x r h => fun_ok is28 (fun _ => rfl) (tyOk [(26, sp26)] []) (kOk rfl rfl rfl (allC s26 allN) imN) ok28 rfl rfl ((r28 x).trans h)
noncomputable def a8 : FA := ⟨30, (.seq
 (.ops [y 4 (.box 26 (t 0)),
 y 8 (.assign (.const (.slice none 0 0))),
 y 9 (.assign (.const (.bool false)))])
 (.lock 4 (.seq
 (.jn ⟨[1, 2, 3, 4], [(21, dB)], []⟩
 (.ops [fa 10 26 4 0,
 ld 11 22 10,
 mv 12 1,
 y 13 (.call ⟨.value (.func 26), #[t 11, t 12], #[22, 3]⟩),
 y 14 (.unOp .not 4 (t 13)),
 mv 15 14,
 u 15 false 16 (.fieldAddr 26 (t 4) 0),
 u 15 false 17 (.load 22 (t 16)),
 u 15 false 18 (.move (t 2)),
 u 15 false 19 (.call ⟨.value (.func 26), #[t 17, t 18], #[22, 3]⟩),
 u 15 false 20 (.unOp .not 4 (t 19)),
 y 21 (.pick (t 15) (.const (.bool true)) (t 20))])
 (.keep [1, 2, 3, 4, 21] (.cond (t 21)
 (.seq
 (.ops [y 8 (.assign (.const (.slice none 0 0))),
 y 9 (.assign (.const (.bool false)))])
 .ret)
 .skip)))
 (.keep [1, 2, 3, 4] (.seq
 (.ops [ld 22 26 4,
 mv 23 3,
 y 24 (.call ⟨.value (.func 28), #[t 22, t 23], #[26, 3]⟩),
 mv 25 1,
 mv 26 2,
 y 27 (.call ⟨.value (.func 27), #[t 24, t 25, t 26], #[58, 3, 3]⟩),
 y 28 (.extract (t 27) 0),
 y 29 (.extract (t 27) 1),
 sg 8 28,
 sg 9 29])
 .ret))))), [.tmp 8, .tmp 9]⟩
theorem is8 : IsFA P pol (planOf pol) 8 4 a8 := ⟨⟨_, _, Try.func8, rfl, rfl, rfl, by kernel_rfl⟩, by decide⟩
theorem ok8 : a8.c.ok = true := by kernel_rfl
theorem r8 (x : denL [(.st (.prod (.list tn) (.prod (.list ts) (.prod (.list (.st (.prod tI (.st (.prod tI tI))))) (.prod tI (.prod tI (.prod tI tI))))))), tI, tI, tI]) : fun2 (env [(26, sp26), (27, sp27), (28, sp28)] []) a8 [(.st (.prod (.list tn) (.prod (.list ts) (.prod (.list (.st (.prod tI (.st (.prod tI tI))))) (.prod tI (.prod tI (.prod tI tI))))))), tI, tI, tI] [tL, .bool] x = F8 x.1 x.2.1 x.2.2.1 x.2.2.2 := by kernel_rfl
noncomputable def sp8 : FSp := ⟨[(.st (.prod (.list tn) (.prod (.list ts) (.prod (.list (.st (.prod tI (.st (.prod tI tI))))) (.prod tI (.prod tI (.prod tI tI))))))), tI, tI, tI], [tL, .bool], fun x => F8 x.1 x.2.1 x.2.2.1 x.2.2.2⟩
theorem s8 : SpOk pol P 8 sp8 := fun x r h => fun_ok is8 (fun _ => rfl) (tyOk [(26, sp26), (27, sp27), (28, sp28)] []) (kOk rfl rfl rfl (allC s26 (allC s27 (allC s28 allN))) imN) ok8 rfl rfl ((r8 x).trans h)
noncomputable def a33 : FA := ⟨60, (.seq
 (.ops [mv 7 0,
 lenC 8 7 28,
 y 9 (.move (cI 0))])
 (.block 0 (.loop ⟨[7, 8], [(1, .bx 0 0), (2, .bx 1 0), (3, .bx 2 0), (9, dI)], [.box [.dat (.list tn), .dat (.list ts), .dat (.list (.st (.prod tI (.st (.prod tI tI))))), dI, dI, dI, dI] true, .box [.sl 3] true, .box [.sl 4] true, .own .bool true, .own tI true]⟩ (.keep [1, 2, 3, 7, 8, 9] (.seq
 (.ops [y 10 (.binOp .lss 3 (t 9) (t 8) 3)])
 (.seq
 (.cond (t 10)
 .skip
 (.exit 0))
 (.keep [1, 2, 3, 7, 8, 9] (.jn ⟨[7, 8, 9], [(1, .bx 0 0), (2, .bx 1 0), (3, .bx 2 0)], [.box [.dat (.list tn), .dat (.list ts), .dat (.list (.st (.prod tI (.st (.prod tI tI))))), dI, dI, dI, dI] true, .box [.sl 3] true, .box [.sl 4] true, .own .bool true, .own tI true]⟩
 (.block 1 (.seq
 (.ops [ia 11 28 7 9,
 ld 12 3 11,
 sg 6 12])
 (.seq
 (.jn ⟨[6, 7, 8, 9], [(1, .bx 0 0), (2, .bx 1 0), (3, .bx 2 0), (51, dB)], [.box [.dat (.list tn), .dat (.list ts), .dat (.list (.st (.prod tI (.st (.prod tI tI))))), dI, dI, dI, dI] true, .box [.sl 3] true, .box [.sl 4] true, .own .bool true, .own tI true]⟩
 (.plan [q 0 13 (.move (t 6)),
 q 1 14 (.binOp .lss 3 (t 13) (cI 0) 3),
 q 2 15 (.move (t 14)),
 qu 3 15 false 16 (.move (t 6)),
 qu 4 15 false 17 (.fieldAddr 26 (t 1) 1),
 qw 5 15 false 18 (.load 23 (t 17)),
 qw 6 15 false 19 (.call ⟨.builtin .len, #[t 18], #[23]⟩),
 qu 7 15 false 20 (.binOp .geq 3 (t 16) (t 19) 3),
 q 8 21 (.pick (t 15) (.const (.bool true)) (t 20)),
 q 9 22 (.move (t 21)),
 qw 10 22 false 23 (.load 60 (t 2)),
 qu 11 22 false 24 (.move (t 6)),
 qu 12 22 false 25 (.indexAddr 60 (t 23) (t 24)),
 qw 13 22 false 26 (.load 4 (t 25)),
 q 14 27 (.pick (t 22) (.const (.bool true)) (t 26)),
 q 15 28 (.move (t 27)),
 qu 16 28 false 29 (.fieldAddr 26 (t 1) 0),
 qw 17 28 false 30 (.load 22 (t 29)),
 qu 18 28 false 31 (.fieldAddr 26 (t 1) 1),
 qw 19 28 false 32 (.load 23 (t 31)),
 qu 20 28 false 33 (.move (t 6)),
 qu 21 28 false 34 (.indexAddr 23 (t 32) (t 33)),
 qu 22 28 false 35 (.fieldAddr 44 (t 34) 0),
 qw 23 28 false 36 (.load 3 (t 35)),
 ⟨24, [], false, .write, .at 28 false, .call ⟨.value (.func 26), #[t 30, t 36], #[22, 3]⟩, some 37⟩,
 qu 25 28 false 38 (.unOp .not 4 (t 37)),
 q 26 39 (.pick (t 28) (.const (.bool true)) (t 38)),
 q 27 40 (.move (t 39)),
 qu 28 40 false 41 (.fieldAddr 26 (t 1) 0),
 qw 29 40 false 42 (.load 22 (t 41)),
 qu 30 40 false 43 (.fieldAddr 26 (t 1) 1),
 qw 31 40 false 44 (.load 23 (t 43)),
 qu 32 40 false 45 (.move (t 6)),
 qu 33 40 false 46 (.indexAddr 23 (t 44) (t 45)),
 qu 34 40 false 47 (.fieldAddr 44 (t 46) 1),
 qw 35 40 false 48 (.load 3 (t 47)),
 ⟨36, [], false, .write, .at 40 false, .call ⟨.value (.func 26), #[t 42, t 48], #[22, 3]⟩, some 49⟩,
 qu 37 40 false 50 (.unOp .not 4 (t 49)),
 q 38 51 (.pick (t 40) (.const (.bool true)) (t 50))])
 (.keep [1, 2, 3, 6, 7, 8, 9, 51] (.cond (t 51)
 (.exit 1)
 .skip)))
 (.keep [1, 2, 3, 6, 7, 8, 9] (.seq
 (.ops [ld 52 60 2,
 mv 53 6,
 ia 54 60 52 53,
 ⟨.yes, .store 4 (t 54) (.const (.bool true)), none⟩])
 (.keep [1, 2, 3, 6, 7, 8, 9] (.ops [ld 55 28 3,
 mv 56 6,
 y 57 (.buildSlice 28 1 #[(0, t 56)]),
 y 58 (.call ⟨.builtin .append, #[t 55, t 57], #[28, 28]⟩),
 ⟨.yes, .store 28 (t 3) (t 58), none⟩])))))))
 (.keep [1, 2, 3, 7, 8, 9] (.ops [y 59 (.binOp .add 3 (t 9) (cI 1) 3),
 mv 9 59])))))))))), []⟩
theorem is33 : IsFA P pol (planOf pol) 33 4 a33 := ⟨⟨_, _, Try.func33, rfl, rfl, rfl, by kernel_rfl⟩, by decide⟩
theorem ok33 : a33.c.ok = true := by kernel_rfl
noncomputable def sp33 : ISpec := ⟨[.dat tL, .bx 0 0, .bx 1 0, .bx 2 0], [.box [.dat (.list tn), .dat (.list ts), .dat (.list (.st (.prod tI (.st (.prod tI tI))))), dI, dI, dI, dI] true, .box [.sl 3] true, .box [.sl 4] true, .own .bool true, .own tI true], 3, [], [(1, .bx 0 0), (2, .bx 1 0), (3, .bx 2 0)], [.box [.dat (.list tn), .dat (.list ts), .dat (.list (.st (.prod tI (.st (.prod tI tI))))), dI, dI, dI, dI] true, .box [.sl 3] true, .box [.sl 4] true, .own .bool true, .own tI true], fun (x : List Int × TN × TS × TI × Int × Int × Int × Int × List Bool × List Int) => (F33 x.1 x.2.1 x.2.2.1 x.2.2.2.1 x.2.2.2.2.1 x.2.2.2.2.2.1 x.2.2.2.2.2.2.1 x.2.2.2.2.2.2.2.1 x.2.2.2.2.2.2.2.2.1 x.2.2.2.2.2.2.2.2.2 : Option (TN × TS × TI × Int × Int × Int × Int × List Bool × List Int))⟩
theorem r33 (x : List Int × TN × TS × TI × Int × Int × Int × Int × List Bool × List Int) : ifun2 (env [(26, sp26)] []) a33 sp33.ins sp33.cks sp33.outs sp33.anc sp33.couts x = F33 x.1 x.2.1 x.2.2.1 x.2.2.2.1 x.2.2.2.2.1 x.2.2.2.2.2.1 x.2.2.2.2.2.2.1 x.2.2.2.2.2.2.2.1 x.2.2.2.2.2.2.2.2.1 x.2.2.2.2.2.2.2.2.2 := by kernel_rfl
theorem s33 : ImOk pol P 33 sp33 := ifun_ok is33 rfl (tyOk [(26, sp26)] []) (kOk rfl rfl rfl (allC s26 allN) imN) ok33 (by kernel_rfl) (by kernel_rfl) (by kernel_rfl) rfl rfl (by kernel_rfl) (fun x => r33 x)
noncomputable def a11 : FA := ⟨135, (.seq
 (.ops [y 2 (.box 26 (t 0)),
 y 4 (.assign (.const (.slice none 0 0)))])
 (.seq
 (.ops [fa 18 26 2 1,
 ld 19 23 18,
 lenC 20 19 23,
 y 21 (.makeSlice 60 (t 20) (t 20)),
 y 5 (.alloc 60),
 ⟨.yes, .store 60 (t 5) (t 21), none⟩])
 (.keep [1, 2, 5] (.seq
 (.ops [y 6 (.alloc 28)])
 (.seq
 (.ops [y 22 (.makeFunc (.func 33) #[] #[t 2, t 5, t 6]),
 sg 7 22])
 (.seq
 (.ops [mv 23 7,
 mv 24 1,
 y 25 (.call ⟨.value (t 23), #[t 24], #[28]⟩)])
 (.seq
 (.block 0 (.loop ⟨[], [(2, .bx 0 0), (5, .bx 1 0), (6, .bx 2 0), (7, .fn 33 [] [.bx 0 0, .bx 1 0, .bx 2 0])], [.box [.dat (.list tn), .dat (.list ts), .dat (.list (.st (.prod tI (.st (.prod tI tI))))), dI, dI, dI, dI] true, .box [.sl 3] true, .box [.sl 4] true, .own .bool true, .own tI true]⟩ (.keep [2, 5, 6, 7] (.seq
 (.seq
 (.ops [ld 26 28 6,
 lenC 27 26 28,
 y 28 (.binOp .gtr 3 (t 27) (cI 0) 3)])
 (.cond (t 28)
 .skip
 (.exit 0)))
 (.keep [2, 5, 6, 7] (.block 1 (.seq
 (.ops [ld 29 28 6,
 ld 30 28 6,
 lenC 31 30 28,
 y 32 (.binOp .sub 3 (t 31) (cI 1) 3),
 ia 33 28 29 32,
 ld 34 3 33,
 sg 8 34])
 (.keep [2, 5, 6, 7, 8] (.seq
 (.ops [ld 35 28 6,
 ld 36 28 6,
 lenC 37 36 28,
 y 38 (.binOp .sub 3 (t 37) (cI 1) 3),
 y 39 (.slice 28 (t 35) none (some (t 38)) none),
 ⟨.yes, .store 28 (t 6) (t 39), none⟩])
 (.keep [2, 5, 6, 7, 8] (.seq
 (.seq
 (.ops [fa 40 26 2 1,
 ld 41 23 40,
 mv 42 8,
 ia 43 23 41 42,
 fa 44 44 43 2,
 ld 45 3 44,
 y 46 (.binOp .neq 3 (t 45) (cI 0) 3)])
 (.keep [2, 5, 6, 7, 8, 46] (.cond (t 46)
 (.exit 1)
 .skip)))
 (.keep [2, 5, 6, 7, 8] (.seq
 (.plan [q 0 47 (.fieldAddr 26 (t 2) 0),
 qn 1 48 (.load 22 (t 47)),
 q 2 49 (.fieldAddr 26 (t 2) 1),
 qn 3 50 (.load 23 (t 49)),
 q 4 51 (.move (t 8)),
 q 5 52 (.indexAddr 23 (t 50) (t 51)),
 q 6 53 (.fieldAddr 44 (t 52) 0),
 qn 7 54 (.load 3 (t 53)),
 q 8 55 (.indexAddr 22 (t 48) (t 54)),
 qn 9 56 (.load 55 (t 55)),
 q 10 57 (.fieldAddr 26 (t 2) 0),
 qn 11 58 (.load 22 (t 57)),
 q 12 59 (.fieldAddr 26 (t 2) 1),
 qn 13 60 (.load 23 (t 59)),
 q 14 61 (.move (t 8)),
 q 15 62 (.indexAddr 23 (t 60) (t 61)),
 q 16 63 (.fieldAddr 44 (t 62) 1),
 qn 17 64 (.load 3 (t 63)),
 q 18 65 (.indexAddr 22 (t 58) (t 64)),
 qn 19 66 (.load 55 (t 65)),
 ⟨20, [1, 3, 7, 9, 11, 13, 17, 19], false, .alloc, .yes, .alloc 55, some 9⟩,
 ⟨21, [1, 3, 7, 9, 11, 13, 17, 19], false, .alloc, .yes, .alloc 55, some 10⟩,
 ⟨22, [11, 13, 17, 19], false, .write, .yes, .store 55 (t 9) (t 56), none⟩,
 ⟨23, [], false, .write, .yes, .store 55 (t 10) (t 66), none⟩])
 (.lock 10 (.lock 9 (.keep [2, 5, 6, 7, 8, 9, 10] (.seq
 (.ops [ld 67 26 2,
 mv 68 8,
 y 69 (.call ⟨.value (.func 28), #[t 67, t 68], #[26, 3]⟩),
 sg 11 69])
 (.keep [2, 5, 6, 7, 9, 10, 11] (.seq
 (.ops [y 12 (.assign (cI 0))])
 (.block 2 (.loop ⟨[9, 10, 11], [(2, .bx 0 0), (5, .bx 1 0), (6, .bx 2 0), (7, .fn 33 [] [.bx 0 0, .bx 1 0, .bx 2 0]), (12, dI)], [.box [.dat (.list tn), .dat (.list ts), .dat (.list (.st (.prod tI (.st (.prod tI tI))))), dI, dI, dI, dI] true, .box [.sl 3] true, .box [.sl 4] true, .own .bool true, .own tI true]⟩ (.keep [2, 5, 6, 7, 9, 10, 11, 12] (.seq
 (.jn ⟨[9, 10, 11, 12], [(2, .bx 0 0), (5, .bx 1 0), (6, .bx 2 0), (7, .fn 33 [] [.bx 0 0, .bx 1 0, .bx 2 0]), (81, dB)], [.box [.dat (.list tn), .dat (.list ts), .dat (.list (.st (.prod tI (.st (.prod tI tI))))), dI, dI, dI, dI] true, .box [.sl 3] true, .box [.sl 4] true, .own .bool true, .own tI true]⟩
 (.ops [mv 70 12,
 fa 71 55 9 2,
 ld 72 28 71,
 lenC 73 72 28,
 y 74 (.binOp .lss 3 (t 70) (t 73) 3),
 mv 75 74,
 u 75 true 76 (.move (t 12)),
 u 75 true 77 (.fieldAddr 55 (t 10) 2),
 u 75 true 78 (.load 28 (t 77)),
 u 75 true 79 (.call ⟨.builtin .len, #[t 78], #[28]⟩),
 u 75 true 80 (.binOp .lss 3 (t 76) (t 79) 3),
 y 81 (.pick (t 75) (t 80) (.const (.bool false)))])
 (.keep [2, 5, 6, 7, 9, 10, 11, 12, 81] (.cond (t 81)
 .skip
 (.exit 2))))
 (.keep [2, 5, 6, 7, 9, 10, 11, 12] (.jn ⟨[9, 10, 11, 12], [(2, .bx 0 0), (5, .bx 1 0), (6, .bx 2 0), (7, .fn 33 [] [.bx 0 0, .bx 1 0, .bx 2 0])], [.box [.dat (.list tn), .dat (.list ts), .dat (.list (.st (.prod tI (.st (.prod tI tI))))), dI, dI, dI, dI] true, .box [.sl 3] true, .box [.sl 4] true, .own .bool true, .own tI true]⟩
 (.block 3 (.jn ⟨[9, 10, 11, 12], [(2, .bx 0 0), (5, .bx 1 0), (6, .bx 2 0), (7, .fn 33 [] [.bx 0 0, .bx 1 0, .bx 2 0]), (101, dB)], [.box [.dat (.list tn), .dat (.list ts), .dat (.list (.st (.prod tI (.st (.prod tI tI))))), dI, dI, dI, dI] true, .box [.sl 3] true, .box [.sl 4] true, .own .bool true, .own tI true]⟩
 (.plan [q 0 84 (.fieldAddr 26 (t 2) 0),
 qr 1 85 (.load 22 (t 84)),
 q 2 86 (.fieldAddr 55 (t 9) 2),
 qr 3 87 (.load 28 (t 86)),
 q 4 88 (.move (t 12)),
 q 5 89 (.indexAddr 28 (t 87) (t 88)),
 qr 6 90 (.load 3 (t 89)),
 ⟨7, [], false, .write, .yes, .call ⟨.value (.func 26), #[t 85, t 90], #[22, 3]⟩, some 91⟩,
 q 8 92 (.move (t 91)),
 qu 9 92 true 93 (.fieldAddr 26 (t 2) 0),
 qw 10 92 true 94 (.load 22 (t 93)),
 qu 11 92 true 95 (.fieldAddr 55 (t 10) 2),
 qw 12 92 true 96 (.load 28 (t 95)),
 qu 13 92 true 97 (.move (t 12)),
 qu 14 92 true 98 (.indexAddr 28 (t 96) (t 97)),
 qw 15 92 true 99 (.load 3 (t 98)),
 ⟨16, [], false, .write, .at 92 true, .call ⟨.value (.func 26), #[t 94, t 99], #[22, 3]⟩, some 100⟩,
 q 17 101 (.pick (t 92) (t 100) (.const (.bool false)))])
 (.keep [2, 5, 6, 7, 9, 10, 11, 12, 101] (.cond (t 101)
 (.seq
 (.plan [q 0 103 (.move (t 11)),
 q 1 104 (.fieldAddr 55 (t 9) 2),
 qr 2 105 (.load 28 (t 104)),
 q 3 106 (.move (t 12)),
 q 4 107 (.indexAddr 28 (t 105) (t 106)),
 qr 5 108 (.load 3 (t 107)),
 q 6 109 (.fieldAddr 55 (t 10) 2),
 qr 7 110 (.load 28 (t 109)),
 q 8 111 (.move (t 12)),
 q 9 112 (.indexAddr 28 (t 110) (t 111)),
 qr 10 113 (.load 3 (t 112)),
 ⟨11, [], false, .write, .yes, .call ⟨.value (.func 27), #[t 103, t 108, t 113], #[58, 3, 3]⟩, some 114⟩,
 q 12 102 (.move (t 114)),
 q 13 115 (.extract (t 102) 0),
 q 14 116 (.extract (t 102) 1),
 q 15 13 (.assign (t 115)),
 q 16 14 (.assign (t 116))])
 (.keep [2, 5, 6, 7, 9, 10, 11, 12, 13, 14] (.seq
 (.ops [mv 117 14])
 (.cond (t 117)
 (.ops [mv 118 7,
 mv 119 13,
 y 120 (.call ⟨.value (t 118), #[t 119], #[28]⟩)])
 .skip))))
 .skip))))
 (.keep [2, 5, 6, 7, 9, 10, 11, 12] (.ops [mv 82 12,
 y 83 (.binOp .add 3 (t 82) (cI 1) 3),
 sg 12 83])))))))))))))))))))))))))))
 (.keep [5] (.seq
 (.ops [y 15 (.assign (.const (.slice none 0 0)))])
 (.seq
 (.seq
 (.ops [ld 121 60 5,
 lenC 122 121 60,
 y 123 (.move (cI 0))])
 (.block 4 (.loop ⟨[122], [(15, .sl 0), (121, .sl 1), (123, dI)], [.own tI true, .own .bool true]⟩ (.keep [15, 121, 122, 123] (.seq
 (.ops [y 124 (.binOp .lss 3 (t 123) (t 122) 3)])
 (.seq
 (.cond (t 124)
 .skip
 (.exit 4))
 (.keep [15, 121, 122, 123] (.jn ⟨[122, 123], [(15, .sl 0), (121, .sl 1)], [.own tI true, .own .bool true]⟩
 (.block 5 (.seq
 (.ops [mv 125 123,
 ia 126 60 121 123,
 ld 127 4 126,
 sg 16 125,
 sg 17 127])
 (.keep [15, 16, 17, 121, 122, 123] (.seq
 (.ops [mv 128 17])
 (.cond (t 128)
 (.ops [mv 129 15,
 mv 130 16,
 y 131 (.buildSlice 28 1 #[(0, t 130)]),
 y 132 (.call ⟨.builtin .append, #[t 129, t 131], #[28, 28]⟩),
 sg 15 132])
 .skip)))))
 (.keep [15, 121, 122, 123] (.ops [y 133 (.binOp .add 3 (t 123) (cI 1) 3),
 mv 123 133]))))))))))
 (.keep [15] (.seq
 (.ops [mv 134 15,
 sg 4 134])
 .ret)))))))))))), [.tmp 4]⟩
theorem is11 : IsFA P pol (planOf pol) 11 2 a11 := ⟨⟨_, _, Try.func11, rfl, rfl, rfl, by kernel_rfl⟩, by decide⟩
theorem ok11 : a11.c.ok = true := by kernel_rfl
theorem r11 (x : denL [(.st (.prod (.list tn) (.prod (.list ts) (.prod (.list (.st (.prod tI (.st (.prod tI tI))))) (.prod tI (.prod tI (.prod tI tI))))))), tL]) : fun2 (env [(26, sp26), (27, sp27), (28, sp28)] [(33, sp33)]) a11 [(.st (.prod (.list tn) (.prod (.list ts) (.prod (.list (.st (.prod tI (.st (.prod tI tI))))) (.prod tI (.prod tI (.prod tI tI))))))), tL] [tL] x = F11 x.1 x.2 := by kernel_rfl
noncomputable def sp11 : FSp := ⟨[(.st (.prod (.list tn) (.prod (.list ts) (.prod (.list (.st (.prod tI (.st (.prod tI tI))))) (.prod tI (.prod tI (.prod tI tI))))))), tL], [tL], fun x => F11 x.1 x.2⟩
theorem s11 : SpOk pol P 11 sp11 := fun x r h => fun_ok is11 (fun _ => rfl) (tyOk [(26, sp26), (27, sp27), (28, sp28)] [(33, sp33)]) (kOk rfl rfl rfl (allC s26 (allC s27 (allC s28 allN))) (imC s33 imN)) ok11 rfl rfl ((r11 x).trans h)
noncomputable def a31 : FA := ⟨29, (.seq
 (.ops [y 2 (.assign (.const (.slice none 0 0)))])
 (.seq
 (.ops [mv 6 0,
 lenC 7 6 60,
 y 8 (.makeSlice 28 (t 7) (t 7)),
 sg 3 8])
 (.keep [0, 3] (.seq
 (.ops [y 4 (.assign (cI 0))])
 (.seq
 (.seq
 (.ops [mv 9 3,
 lenC 10 9 28,
 y 11 (.move (cI 0))])
 (.block 0 (.loop ⟨[0, 10], [(3, .sl 0), (4, dI), (11, dI)], [.own tI true]⟩ (.keep [0, 3, 4, 10, 11] (.seq
 (.ops [y 12 (.binOp .lss 3 (t 11) (t 10) 3)])
 (.seq
 (.cond (t 12)
 .skip
 (.exit 0))
 (.keep [0, 3, 4, 10, 11] (.jn ⟨[0, 10, 11], [(3, .sl 0), (4, dI)], [.own tI true]⟩
 (.block 1 (.seq
 (.ops [mv 13 11,
 sg 5 13])
 (.seq
 (.ops [mv 14 3,
 mv 15 5,
 ia 16 28 14 15,
 ⟨.yes, .store 3 (t 16) (cI (-1)), none⟩])
 (.keep [0, 3, 4, 5, 10, 11] (.seq
 (.ops [mv 17 0,
 mv 18 5,
 ia 19 60 17 18,
 ld 20 4 19])
 (.keep [0, 3, 4, 5, 10, 11, 20] (.cond (t 20)
 (.seq
 (.ops [mv 21 3,
 mv 22 5,
 mv 23 4,
 ia 24 28 21 22,
 ⟨.yes, .store 3 (t 24) (t 23), none⟩])
 (.keep [0, 3, 4, 10, 11] (.ops [mv 25 4,
 y 26 (.binOp .add 3 (t 25) (cI 1) 3),
 sg 4 26])))
 .skip)))))))
 (.keep [0, 3, 4, 10, 11] (.ops [y 27 (.binOp .add 3 (t 11) (cI 1) 3),
 mv 11 27]))))))))))
 (.keep [3] (.seq
 (.ops [mv 28 3,
 sg 2 28])
 .ret))))))), [.tmp 2]⟩
theorem is31 : IsFA P pol (planOf pol) 31 1 a31 := ⟨⟨_, _, Try.func31, rfl, rfl, rfl, by kernel_rfl⟩, by decide⟩
theorem ok31 : a31.c.ok = true := by kernel_rfl
theorem r31 (x : denL [(.list .bool)]) : fun2 (env [] []) a31 [(.list .bool)] [tL] x = F31 x := by kernel_rfl
noncomputable def sp31 : FSp := ⟨[(.list .bool)], [tL], fun x => F31 x⟩
theorem s31 : SpOk pol P 31 sp31 := fun x r h => fun_ok is31 (fun _ => rfl) (tyOk [] []) (kOk rfl rfl rfl allN imN) ok31 rfl rfl ((r31 x).trans h)
noncomputable def a46 : FA := ⟨34, (.seq
 (.ops [y 4 (.assign (.const (.slice none 0 0)))])
 (.seq
 (.ops [y 5 (.assign (.const (.slice none 0 0)))])
 (.seq
 (.seq
 (.ops [mv 8 0,
 lenC 9 8 28,
 y 10 (.move (cI 0))])
 (.block 0 (.loop ⟨[1, 8, 9], [(5, .sl 0), (10, dI)], [.own tI true]⟩ (.keep [1, 5, 8, 9, 10] (.seq
 (.ops [y 11 (.binOp .lss 3 (t 10) (t 9) 3)])
 (.seq
 (.cond (t 11)
 .skip
 (.exit 0))
 (.keep [1, 5, 8, 9, 10] (.jn ⟨[1, 8, 9, 10], [(5, .sl 0)], [.own tI true]⟩
 (.block 1 (.seq
 (.ops [ia 12 28 8 10,
 ld 13 3 12,
 sg 7 13])
 (.jn ⟨[1, 7, 8, 9, 10], [(5, .sl 0), (21, dB)], [.own tI true]⟩
 (.ops [mv 14 7,
 y 15 (.binOp .geq 3 (t 14) (cI 0) 3),
 mv 16 15,
 u 16 true 17 (.move (t 7)),
 u 16 true 18 (.move (t 1)),
 u 16 true 19 (.call ⟨.builtin .len, #[t 18], #[28]⟩),
 u 16 true 20 (.binOp .lss 3 (t 17) (t 19) 3),
 y 21 (.pick (t 16) (t 20) (.const (.bool false)))])
 (.keep [1, 5, 7, 8, 9, 10, 21] (.cond (t 21)
 (.ops [mv 22 5,
 mv 23 1,
 mv 24 7,
 ia 25 28 23 24,
 ld 26 3 25,
 y 27 (.buildSlice 28 1 #[(0, t 26)]),
 y 28 (.call ⟨.builtin .append, #[t 22, t 27], #[28, 28]⟩),
 sg 5 28])
 (.ops [mv 29 5,
 y 30 (.buildSlice 28 1 #[(0, cI (-1))]),
 y 31 (.call ⟨.builtin .append, #[t 29, t 30], #[28, 28]⟩),
 sg 5 31]))))))
 (.keep [1, 5, 8, 9, 10] (.ops [y 32 (.binOp .add 3 (t 10) (cI 1) 3),
 mv 10 32]))))))))))
 (.keep [5] (.seq
 (.ops [mv 33 5,
 sg 4 33])
 .ret))))), [.tmp 4]⟩
theorem is46 : IsFA P pol (planOf pol) 46 2 a46 := ⟨⟨_, _, Try.func46, rfl, rfl, rfl, by kernel_rfl⟩, by decide⟩
theorem ok46 : a46.c.ok = true := by kernel_rfl
theorem r46 (x : denL [tL, tL]) : fun2 (env [] []) a46 [tL, tL] [tL] x = F46 x.1 x.2 := by kernel_rfl
noncomputable def sp46 : FSp := ⟨[tL, tL], [tL], fun x => F46 x.1 x.2⟩
theorem s46 : SpOk pol P 46 sp46 := fun x r h => fun_ok is46 (fun _ => rfl) (tyOk [] []) (kOk rfl rfl rfl allN imN) ok46 rfl rfl ((r46 x).trans h)
noncomputable def a32 : FA := ⟨80, (.seq
 (.ops [y 4 (.box 26 (t 0)),
 y 8 (.assign (.const (.slice none 0 0))),
 y 9 (.assign (.const (.slice none 0 0)))])
 (.lock 4 (.seq
 (.ops [y 10 (.assign (.const (.slice none 0 0)))])
 (.seq
 (.ops [y 11 (.assign (.const (.slice none 0 0)))])
 (.seq
 (.seq
 (.ops [fa 17 26 4 0,
 ld 18 22 17,
 lenC 19 18 22,
 y 20 (.move (cI 0))])
 (.keep [1, 2, 3, 4, 10, 11, 18, 19, 20] (.block 0 (.loop ⟨[1, 2, 3, 4, 11, 18, 19], [(10, .sl 0), (20, dI)], [.own tn true]⟩ (.keep [1, 2, 3, 4, 10, 11, 18, 19, 20] (.seq
 (.ops [y 21 (.binOp .lss 3 (t 20) (t 19) 3)])
 (.seq
 (.cond (t 21)
 .skip
 (.exit 0))
 (.keep [1, 2, 3, 4, 10, 11, 18, 19, 20] (.jn ⟨[1, 2, 3, 4, 11, 18, 19, 20], [(10, .sl 0)], [.own tn true]⟩
 (.block 1 (.seq
 (.ops [mv 22 20,
 ia 23 22 18 20,
 ld 24 55 23,
 y 13 (.alloc 55),
 sg 12 22,
 ⟨.yes, .store 55 (t 13) (t 24), none⟩])
 (.lock 13 (.keep [1, 2, 3, 4, 10, 11, 12, 13, 18, 19, 20] (.seq
 (.ops [mv 25 2,
 mv 26 12,
 ia 27 60 25 26,
 ld 28 4 27])
 (.keep [1, 2, 3, 4, 10, 11, 13, 18, 19, 20, 28] (.cond (t 28)
 (.plan [q 0 29 (.move (t 10)),
 q 1 30 (.fieldAddr 55 (t 13) 0),
 qn 2 31 (.load 3 (t 30)),
 q 3 32 (.fieldAddr 55 (t 13) 1),
 qn 4 33 (.load 2 (t 32)),
 q 5 34 (.fieldAddr 55 (t 13) 2),
 qr 6 35 (.load 28 (t 34)),
 q 7 36 (.move (t 3)),
 ⟨8, [2, 4], false, .write, .yes, .call ⟨.value (.func 46), #[t 35, t 36], #[28, 28]⟩, some 37⟩,
 q 9 38 (.build 55 #[(0, t 31), (1, t 33), (2, t 37)]),
 ⟨10, [], false, .alloc, .yes, .buildSlice 22 1 #[(0, t 38)], some 39⟩,
 ⟨11, [], false, .write, .yes, .call ⟨.builtin .append, #[t 29, t 39], #[22, 22]⟩, some 40⟩,
 q 12 10 (.assign (t 40))])
 .skip)))))))
 (.keep [1, 2, 3, 4, 10, 11, 18, 19, 20] (.ops [y 41 (.binOp .add 3 (t 20) (cI 1) 3),
 mv 20 41])))))))))))
 (.keep [1, 3, 4, 10, 11] (.seq
 (.seq
 (.ops [mv 42 1,
 lenC 43 42 28,
 y 44 (.move (cI 0))])
 (.block 2 (.loop ⟨[3, 4, 42, 43], [(10, .sl 0), (11, .sl 1), (44, dI)], [.own tn true, .own ts true]⟩ (.keep [3, 4, 10, 11, 42, 43, 44] (.seq
 (.ops [y 45 (.binOp .lss 3 (t 44) (t 43) 3)])
 (.seq
 (.cond (t 45)
 .skip
 (.exit 2))
 (.keep [3, 4, 10, 11, 42, 43, 44] (.seq
 (.block 3 (.seq
 (.ops [ia 46 28 42 44,
 ld 47 3 46,
 sg 15 47])
 (.seq
 (.ops [fa 48 26 4 1,
 ld 49 23 48,
 mv 50 15,
 ia 51 23 49 50,
 ld 52 44 51,
 y 16 (.alloc 44),
 ⟨.yes, .store 44 (t 16) (t 52), none⟩])
 (.lock 16 (.keep [3, 4, 10, 11, 16, 42, 43, 44] (.plan [q 0 53 (.move (t 11)),
 q 1 54 (.move (t 3)),
 q 2 55 (.fieldAddr 44 (t 16) 0),
 qn 3 56 (.load 3 (t 55)),
 q 4 57 (.indexAddr 28 (t 54) (t 56)),
 qn 5 58 (.load 3 (t 57)),
 q 6 59 (.move (t 3)),
 q 7 60 (.fieldAddr 44 (t 16) 1),
 qn 8 61 (.load 3 (t 60)),
 q 9 62 (.indexAddr 28 (t 59) (t 61)),
 qn 10 63 (.load 3 (t 62)),
 q 11 64 (.fieldAddr 44 (t 16) 2),
 qn 12 65 (.load 3 (t 64)),
 q 13 66 (.fieldAddr 44 (t 16) 3),
 qn 14 67 (.load 28 (t 66)),
 q 15 68 (.move (t 3)),
 ⟨17, [3, 5, 8, 10, 12, 14], true, .alloc, .yes, .buildSlice 42 0 #[], some 70⟩,
 q 18 71 (.fieldAddr 44 (t 16) 4),
 ⟨19, [17], true, .read, .yes, .load 42 (t 71), some 72⟩,
 ⟨16, [3, 5, 8, 10, 12, 17, 19], false, .write, .yes, .call ⟨.value (.func 46), #[t 67, t 68], #[28, 28]⟩, some 69⟩,
 ⟨20, [3, 5, 8, 10, 12], false, .write, .yes, .call ⟨.builtin .append, #[t 70, t 72], #[42, 42]⟩, some 73⟩,
 q 21 74 (.build 44 #[(0, t 58), (1, t 63), (2, t 65), (3, t 69), (4, t 73)]),
 ⟨22, [], false, .alloc, .yes, .buildSlice 23 1 #[(0, t 74)], some 75⟩,
 ⟨23, [], false, .write, .yes, .call ⟨.builtin .append, #[t 53, t 75], #[23, 23]⟩, some 76⟩,
 q 24 11 (.assign (t 76))]))))))
 (.keep [3, 4, 10, 11, 42, 43, 44] (.ops [y 77 (.binOp .add 3 (t 44) (cI 1) 3),
 mv 44 77]))))))))))
 (.keep [10, 11] (.seq
 (.ops [mv 78 10,
 mv 79 11,
 sg 8 78,
 sg 9 79])
 .ret))))))))), [.tmp 8, .tmp 9]⟩
theorem is32 : IsFA P pol (planOf pol) 32 4 a32 := ⟨⟨_, _, Try.func32, rfl, rfl, rfl, by kernel_rfl⟩, by decide⟩
theorem ok32 : a32.c.ok = true := by kernel_rfl
theorem r32 (x : denL [(.st (.prod (.list tn) (.prod (.list ts) (.prod (.list (.st (.prod tI (.st (.prod tI tI))))) (.prod tI (.prod tI (.prod tI tI))))))), tL, (.list .bool), tL]) : fun2 (env [(46, sp46)] []) a32 [(.st (.prod (.list tn) (.prod (.list ts) (.prod (.list (.st (.prod tI (.st (.prod tI tI))))) (.prod tI (.prod tI (.prod tI tI))))))), tL, (.list .bool), tL] [(.list tn), (.list ts)] x = F32 x.1 x.2.1 x.2.2.1 x.2.2.2 := by kernel_rfl
noncomputable def sp32 : FSp := ⟨[(.st (.prod (.list tn) (.prod (.list ts) (.prod (.list (.st (.prod tI (.st (.prod tI tI))))) (.prod tI (.prod tI (.prod tI tI))))))), tL, (.list .bool), tL], [(.list tn), (.list ts)], fun x => F32 x.1 x.2.1 x.2.2.1 x.2.2.2⟩
theorem s32 : SpOk pol P 32 sp32 := fun x r h => fun_ok is32 (fun _ => rfl) (tyOk [(46, sp46)] []) (kOk rfl rfl rfl (allC s46 allN) imN) ok32 rfl rfl ((r32 x).trans h)
noncomputable def a29 : FA := ⟨44, (.seq
 (.ops [mv 8 2,
 y 9 (.buildSlice 28 1 #[(0, t 8)]),
 sg 6 9])
 (.block 0 (.loop ⟨[0], [(1, .sl 0), (6, .sl 1)], [.own .bool true, .own tI true]⟩ (.keep [0, 1, 6] (.seq
 (.seq
 (.ops [mv 10 6,
 lenC 11 10 28,
 y 12 (.binOp .gtr 3 (t 11) (cI 0) 3)])
 (.cond (t 12)
 .skip
 (.exit 0)))
 (.keep [0, 1, 6] (.block 1 (.seq
 (.ops [mv 13 6,
 mv 14 6,
 lenC 15 14 28,
 y 16 (.binOp .sub 3 (t 15) (cI 1) 3),
 ia 17 28 13 16,
 ld 18 3 17,
 sg 7 18])
 (.keep [0, 1, 6, 7] (.seq
 (.ops [mv 19 6,
 mv 20 6,
 lenC 21 20 28,
 y 22 (.binOp .sub 3 (t 21) (cI 1) 3),
 y 23 (.slice 28 (t 19) none (some (t 22)) none),
 sg 6 23])
 (.keep [0, 1, 6, 7] (.seq
 (.jn ⟨[0, 7], [(1, .sl 0), (6, .sl 1), (33, dB)], [.own .bool true, .own tI true]⟩
 (.ops [mv 24 0,
 mv 25 7,
 y 26 (.call ⟨.value (.func 26), #[t 24, t 25], #[22, 3]⟩),
 y 27 (.unOp .not 4 (t 26)),
 mv 28 27,
 u 28 false 29 (.move (t 1)),
 u 28 false 30 (.move (t 7)),
 u 28 false 31 (.indexAddr 60 (t 29) (t 30)),
 u 28 false 32 (.load 4 (t 31)),
 y 33 (.pick (t 28) (.const (.bool true)) (t 32))])
 (.keep [0, 1, 6, 7, 33] (.cond (t 33)
 (.exit 1)
 .skip)))
 (.keep [0, 1, 6, 7] (.seq
 (.ops [mv 34 1,
 mv 35 7,
 ia 36 60 34 35,
 ⟨.yes, .store 4 (t 36) (.const (.bool true)), none⟩])
 (.keep [0, 1, 6, 7] (.ops [mv 37 6,
 mv 38 0,
 mv 39 7,
 ia 40 22 38 39,
 fa 41 55 40 2,
 ld 42 28 41,
 y 43 (.call ⟨.builtin .append, #[t 37, t 42], #[28, 28]⟩),
 sg 6 43])))))))))))))))), []⟩
theorem is29 : IsFA P pol (planOf pol) 29 3 a29 := ⟨⟨_, _, Try.func29, rfl, rfl, rfl, by kernel_rfl⟩, by decide⟩
theorem ok29 : a29.c.ok = true := by kernel_rfl
noncomputable def sp29 : ISpec := ⟨[.dat (.list tn), .sl 0, dI], [.own .bool true], 1, [], [(1, .sl 0)], [.own .bool true], fun (x : TN × Int × List Bool) => (F29 x.1 x.2.1 x.2.2 : Option (List Bool))⟩
theorem r29 (x : TN × Int × List Bool) : ifun2 (env [(26, sp26)] []) a29 sp29.ins sp29.cks sp29.outs sp29.anc sp29.couts x = F29 x.1 x.2.1 x.2.2 := by kernel_rfl
theorem s29 : ImOk pol P 29 sp29 := ifun_ok is29 rfl (tyOk [(26, sp26)] []) (kOk rfl rfl rfl (allC s26 allN) imN) ok29 (by kernel_rfl) (by kernel_rfl) (by kernel_rfl) rfl rfl (by kernel_rfl) (fun x => r29 x)
noncomputable def a30 : FA := ⟨48, (.seq
 (.ops [y 3 (.box 26 (t 0))])
 (.lock 3 (.seq
 (.ops [mv 11 1,
 lenC 12 11 28,
 y 13 (.move (cI 0))])
 (.block 0 (.loop ⟨[3, 11, 12], [(2, .sl 0), (13, dI)], [.own .bool true]⟩ (.keep [2, 3, 11, 12, 13] (.seq
 (.ops [y 14 (.binOp .lss 3 (t 13) (t 12) 3)])
 (.seq
 (.cond (t 14)
 .skip
 (.exit 0))
 (.keep [2, 3, 11, 12, 13] (.seq
 (.block 1 (.seq
 (.ops [ia 15 28 11 13,
 ld 16 3 15,
 sg 7 16])
 (.seq
 (.ops [fa 17 26 3 1,
 ld 18 23 17,
 mv 19 7,
 ia 20 23 18 19,
 ld 21 44 20,
 y 8 (.alloc 44),
 ⟨.yes, .store 44 (t 8) (t 21), none⟩])
 (.lock 8 (.keep [2, 3, 8, 11, 12, 13] (.seq
 (.ops [fa 22 26 3 0,
 ld 23 22 22,
 mv 24 2,
 fa 25 44 8 0,
 ld 26 3 25,
 y 27 (.call ⟨.value (.func 29), #[t 23, t 24, t 26], #[22, 60, 3]⟩)])
 (.keep [2, 3, 8, 11, 12, 13] (.seq
 (.ops [fa 28 26 3 0,
 ld 29 22 28,
 mv 30 2,
 fa 31 44 8 1,
 ld 32 3 31,
 y 33 (.call ⟨.value (.func 29), #[t 29, t 30, t 32], #[22, 60, 3]⟩)])
 (.keep [2, 3, 8, 11, 12, 13] (.seq
 (.ops [fa 34 44 8 3,
 ld 35 28 34,
 lenC 36 35 28,
 y 37 (.move (cI 0))])
 (.keep [2, 3, 11, 12, 13, 35, 36, 37] (.block 2 (.loop ⟨[3, 11, 12, 13, 35, 36], [(2, .sl 0), (37, dI)], [.own .bool true]⟩ (.keep [2, 3, 11, 12, 13, 35, 36, 37] (.seq
 (.ops [y 38 (.binOp .lss 3 (t 37) (t 36) 3)])
 (.seq
 (.cond (t 38)
 .skip
 (.exit 2))
 (.keep [2, 3, 11, 12, 13, 35, 36, 37] (.seq
 (.block 3 (.seq
 (.ops [ia 39 28 35 37,
 ld 40 3 39,
 sg 10 40])
 (.ops [fa 41 26 3 0,
 ld 42 22 41,
 mv 43 2,
 mv 44 10,
 y 45 (.call ⟨.value (.func 29), #[t 42, t 43, t 44], #[22, 60, 3]⟩)])))
 (.keep [2, 3, 11, 12, 13, 35, 36, 37] (.ops [y 46 (.binOp .add 3 (t 37) (cI 1) 3),
 mv 37 46]))))))))))))))))))))
 (.keep [2, 3, 11, 12, 13] (.ops [y 47 (.binOp .add 3 (t 13) (cI 1) 3),
 mv 13 47])))))))))))), []⟩
theorem is30 : IsFA P pol (planOf pol) 30 3 a30 := ⟨⟨_, _, Try.func30, rfl, rfl, rfl, by kernel_rfl⟩, by decide⟩
theorem ok30 : a30.c.ok = true := by kernel_rfl
noncomputable def sp30 : ISpec := ⟨[.agg [.dat (.list tn), .dat (.list ts), .dat (.list (.st (.prod tI (.st (.prod tI tI))))), dI, dI, dI, dI], .dat tL, .sl 0], [.own .bool true], 1, [], [(2, .sl 0)], [.own .bool true], fun (x : TN × TS × TI × Int × Int × Int × Int × List Int × List Bool) => (F30 x.1 x.2.1 x.2.2.1 x.2.2.2.1 x.2.2.2.2.1 x.2.2.2.2.2.1 x.2.2.2.2.2.2.1 x.2.2.2.2.2.2.2.1 x.2.2.2.2.2.2.2.2 : Option (List Bool))⟩
theorem r30 (x : TN × TS × TI × Int × Int × Int × Int × List Int × List Bool) : ifun2 (env [] [(29, sp29)]) a30 sp30.ins sp30.cks sp30.outs sp30.anc sp30.couts x = F30 x.1 x.2.1 x.2.2.1 x.2.2.2.1 x.2.2.2.2.1 x.2.2.2.2.2.1 x.2.2.2.2.2.2.1 x.2.2.2.2.2.2.2.1 x.2.2.2.2.2.2.2.2 := by kernel_rfl
theorem s30 : ImOk pol P 30 sp30 := ifun_ok is30 rfl (tyOk [] [(29, sp29)]) (kOk rfl rfl rfl allN (imC s29 imN)) ok30 (by kernel_rfl) (by kernel_rfl) (by kernel_rfl) rfl rfl (by kernel_rfl) (fun x => r30 x)
noncomputable def a9 : FA := ⟨70, (.seq
 (.ops [y 3 (.box 26 (t 0)),
 y 6 (.alloc 32),
 y 7 (.assign (.const (.bool false)))])
 (.lock 3 (.seq
 (.ops [ld 16 26 3,
 mv 17 1,
 mv 18 2,
 fa 19 26 3 1,
 ld 20 23 19,
 lenC 21 20 23,
 y 22 (.call ⟨.value (.func 8), #[t 16, t 17, t 18, t 21], #[26, 3, 3, 3]⟩),
 mv 15 22,
 y 23 (.extract (t 15) 0),
 y 24 (.extract (t 15) 1),
 sg 8 23,
 sg 9 24])
 (.keep [1, 2, 3, 6, 8, 9] (.seq
 (.seq
 (.ops [mv 25 9,
 y 26 (.unOp .not 4 (t 25))])
 (.cond (t 26)
 (.seq
 (.ops [y 27 (.build 32 #[]),
 ⟨.yes, .store 32 (t 6) (t 27), none⟩,
 y 7 (.assign (.const (.bool false)))])
 .ret)
 .skip))
 (.keep [1, 2, 3, 6, 8] (.seq
 (.ops [ld 28 26 3,
 mv 29 8,
 y 30 (.call ⟨.value (.func 11), #[t 28, t 29], #[26, 28]⟩),
 sg 10 30])
 (.keep [1, 2, 3, 6, 10] (.seq
 (.ops [fa 31 26 3 0,
 ld 32 22 31,
 lenC 33 32 22,
 y 34 (.makeSlice 60 (t 33) (t 33)),
 sg 11 34])
 (.keep [1, 2, 3, 6, 10, 11] (.seq
 (.ops [fa 35 26 3 0,
 ld 36 22 35,
 mv 37 11,
 mv 38 1,
 y 39 (.call ⟨.value (.func 29), #[t 36, t 37, t 38], #[22, 60, 3]⟩)])
 (.keep [1, 2, 3, 6, 10, 11] (.seq
 (.ops [fa 40 26 3 0,
 ld 41 22 40,
 mv 42 11,
 mv 43 2,
 y 44 (.call ⟨.value (.func 29), #[t 41, t 42, t 43], #[22, 60, 3]⟩)])
 (.keep [1, 2, 3, 6, 10, 11] (.seq
 (.ops [ld 45 26 3,
 mv 46 10,
 mv 47 11,
 y 48 (.call ⟨.value (.func 30), #[t 45, t 46, t 47], #[26, 28, 60]⟩)])
 (.keep [1, 2, 3, 6, 10, 11] (.seq
 (.ops [mv 49 11,
 y 50 (.call ⟨.value (.func 31), #[t 49], #[60]⟩),
 sg 12 50])
 (.seq
 (.ops [ld 52 26 3,
 mv 53 10,
 mv 54 11,
 mv 55 12,
 y 56 (.call ⟨.value (.func 32), #[t 52, t 53, t 54, t 55], #[26, 28, 60, 28]⟩),
 mv 51 56,
 y 57 (.extract (t 51) 0),
 y 58 (.extract (t 51) 1),
 sg 13 57,
 sg 14 58])
 (.keep [1, 2, 6, 12, 13, 14] (.seq
 (.plan [q 0 59 (.move (t 13)),
 q 1 60 (.move (t 14)),
 q 2 61 (.move (t 12)),
 q 3 62 (.move (t 1)),
 q 4 63 (.indexAddr 28 (t 61) (t 62)),
 qr 5 64 (.load 3 (t 63)),
 q 6 65 (.move (t 12)),
 q 7 66 (.move (t 2)),
 q 8 67 (.indexAddr 28 (t 65) (t 66)),
 qr 9 68 (.load 3 (t 67)),
 q 10 69 (.build 32 #[(0, t 59), (1, t 60), (2, t 64), (3, t 68)]),
 ⟨11, [], false, .write, .yes, .store 32 (t 6) (t 69), none⟩,
 q 12 7 (.assign (.const (.bool true)))])
 .ret)))))))))))))))))))), [.cell 6 32, .tmp 7]⟩
theorem is9 : IsFA P pol (planOf pol) 9 3 a9 := ⟨⟨_, _, Try.func9, rfl, rfl, rfl, by kernel_rfl⟩, by decide⟩
theorem ok9 : a9.c.ok = true := by kernel_rfl
theorem r9 (x : denL [(.st (.prod (.list tn) (.prod (.list ts) (.prod (.list (.st (.prod tI (.st (.prod tI tI))))) (.prod tI (.prod tI (.prod tI tI))))))), tI, tI]) : fun2 (env [(8, sp8), (11, sp11), (31, sp31), (32, sp32)] [(29, sp29), (30, sp30)]) a9 [(.st (.prod (.list tn) (.prod (.list ts) (.prod (.list (.st (.prod tI (.st (.prod tI tI))))) (.prod tI (.prod tI (.prod tI tI))))))), tI, tI] [(.st (.prod (.list tn) (.prod (.list ts) (.prod tI tI)))), .bool] x = F9 x.1 x.2.1 x.2.2 := by kernel_rfl
noncomputable def sp9 : FSp := ⟨[(.st (.prod (.list tn) (.prod (.list ts) (.prod (.list (.st (.prod tI (.st (.prod tI tI))))) (.prod tI (.prod tI (.prod tI tI))))))), tI, tI], [(.st (.prod (.list tn) (.prod (.list ts) (.prod tI tI)))), .bool], fun x => F9 x.1 x.2.1 x.2.2⟩
theorem s9 : SpOk pol P 9 sp9 := fun x r h => fun_ok is9 (fun _ => rfl) (tyOk [(8, sp8), (11, sp11), (31, sp31), (32, sp32)] [(29, sp29), (30, sp30)]) (kOk rfl rfl rfl (allC s8 (allC s11 (allC s31 (allC s32 allN)))) (imC s29 (imC s30 imN))) ok9 rfl rfl ((r9 x).trans h)
noncomputable def a34 : FA := ⟨26, (.seq
 (.ops [y 4 (.assign (cI 0))])
 (.seq
 (.block 0 (.loop ⟨[], [(0, .sl 0), (1, dI)], [.own tI true]⟩ (.keep [0, 1] (.seq
 (.seq
 (.ops [mv 5 0,
 mv 6 1,
 ia 7 67 5 6,
 ld 8 3 7,
 mv 9 1,
 y 10 (.binOp .neq 3 (t 8) (t 9) 3)])
 (.keep [0, 1, 10] (.cond (t 10)
 .skip
 (.exit 0))))
 (.keep [0, 1] (.block 1 (.seq
 (.ops [mv 11 0,
 mv 12 1,
 mv 13 0,
 mv 14 0,
 mv 15 1,
 ia 16 67 14 15,
 ld 17 3 16,
 ia 18 67 13 17,
 ld 19 3 18,
 ia 20 67 11 12,
 ⟨.yes, .store 3 (t 20) (t 19), none⟩])
 (.keep [0, 1] (.ops [mv 21 0,
 mv 22 1,
 ia 23 67 21 22,
 ld 24 3 23,
 sg 1 24])))))))))
 (.keep [1, 0] (.seq
 (.ops [mv 25 1,
 sg 4 25])
 .ret)))), [.tmp 4]⟩
theorem is34 : IsFA P pol (planOf pol) 34 2 a34 := ⟨⟨_, _, Try.func34, rfl, rfl, rfl, by kernel_rfl⟩, by decide⟩
theorem ok34 : a34.c.ok = true := by kernel_rfl
noncomputable def sp34 : ISpec := ⟨[.sl 0, dI], [.own tI true], 1, [dI], [(0, .sl 0)], [.own tI true], fun (x : Int × List Int) => (F34 x.1 x.2 : Option (Int × List Int))⟩
theorem r34 (x : Int × List Int) : ifun2 (env [] []) a34 sp34.ins sp34.cks sp34.outs sp34.anc sp34.couts x = F34 x.1 x.2 := by kernel_rfl
theorem s34 : ImOk pol P 34 sp34 := ifun_ok is34 rfl (tyOk [] []) (kOk rfl rfl rfl allN imN) ok34 (by kernel_rfl) (by kernel_rfl) (by kernel_rfl) rfl rfl (by kernel_rfl) (fun x => r34 x)
noncomputable def a12 : FA := ⟨159, (.seq
 (.ops [y 1 (.box 32 (t 0)),
 y 2 (.assign (.const (.bool false)))])
 (.lock 1 (.seq
 (.ops [fa 10 32 1 0,
 ld 11 22 10,
 lenC 12 11 22,
 y 13 (.makeSlice 67 (t 12) (t 12)),
 sg 3 13])
 (.keep [1, 3] (.seq
 (.seq
 (.ops [mv 14 3,
 lenC 15 14 67,
 y 16 (.move (cI 0))])
 (.block 0 (.loop ⟨[1, 15], [(3, .sl 0), (16, dI)], [.own tI true]⟩ (.keep [1, 3, 15, 16] (.seq
 (.ops [y 17 (.binOp .lss 3 (t 16) (t 15) 3)])
 (.seq
 (.cond (t 17)
 .skip
 (.exit 0))
 (.keep [1, 3, 15, 16] (.seq
 (.block 1 (.seq
 (.ops [mv 18 16,
 sg 4 18])
 (.ops [mv 19 3,
 mv 20 4,
 mv 21 4,
 ia 22 67 19 20,
 ⟨.yes, .store 3 (t 22) (t 21), none⟩])))
 (.keep [1, 3, 15, 16] (.ops [y 23 (.binOp .add 3 (t 16) (cI 1) 3),
 mv 16 23]))))))))))
 (.keep [1, 3] (.seq
 (.seq
 (.ops [fa 24 32 1 1,
 ld 25 23 24,
 lenC 26 25 23,
 y 27 (.move (cI 0))])
 (.keep [1, 3, 25, 26, 27] (.block 2 (.loop ⟨[1, 25, 26], [(3, .sl 0), (27, dI)], [.own tI true]⟩ (.keep [1, 3, 25, 26, 27] (.seq
 (.ops [y 28 (.binOp .lss 3 (t 27) (t 26) 3)])
 (.seq
 (.cond (t 28)
 .skip
 (.exit 2))
 (.keep [1, 3, 25, 26, 27] (.seq
 (.block 3 (.seq
 (.ops [ia 29 23 25 27,
 ld 30 44 29,
 y 6 (.alloc 44),
 ⟨.yes, .store 44 (t 6) (t 30), none⟩])
 (.lock 6 (.keep [1, 3, 6, 25, 26, 27] (.seq
 (.jn ⟨[1, 6, 25, 26, 27], [(3, .sl 0), (44, dB)], [.own tI true]⟩
 (.ops [fa 31 32 1 0,
 ld 32 22 31,
 fa 33 44 6 0,
 ld 34 3 33,
 y 35 (.call ⟨.value (.func 26), #[t 32, t 34], #[22, 3]⟩),
 y 36 (.unOp .not 4 (t 35)),
 mv 37 36,
 u 37 false 38 (.fieldAddr 32 (t 1) 0),
 u 37 false 39 (.load 22 (t 38)),
 u 37 false 40 (.fieldAddr 44 (t 6) 1),
 u 37 false 41 (.load 3 (t 40)),
 u 37 false 42 (.call ⟨.value (.func 26), #[t 39, t 41], #[22, 3]⟩),
 u 37 false 43 (.unOp .not 4 (t 42)),
 y 44 (.pick (t 37) (.const (.bool true)) (t 43))])
 (.keep [1, 3, 6, 25, 26, 27, 44] (.cond (t 44)
 (.seq
 (.ops [y 2 (.assign (.const (.bool false)))])
 .ret)
 .skip)))
 (.keep [1, 3, 6, 25, 26, 27] (.jn ⟨[1, 6, 25, 26, 27], [(3, .sl 0)], [.own tI true]⟩
 (.seq
 (.ops [fa 45 44 6 2,
 ld 46 3 45,
 y 47 (.binOp .eql 3 (t 46) (cI 0) 3)])
 (.cond (t 47)
 (.seq
 (.plan [q 0 48 (.fieldAddr 32 (t 1) 0),
 qn 1 49 (.load 22 (t 48)),
 q 2 50 (.fieldAddr 44 (t 6) 0),
 qn 3 51 (.load 3 (t 50)),
 q 4 52 (.indexAddr 22 (t 49) (t 51)),
 qn 5 53 (.load 55 (t 52)),
 q 6 54 (.fieldAddr 32 (t 1) 0),
 qn 7 55 (.load 22 (t 54)),
 q 8 56 (.fieldAddr 44 (t 6) 1),
 qn 9 57 (.load 3 (t 56)),
 q 10 58 (.indexAddr 22 (t 55) (t 57)),
 qn 11 59 (.load 55 (t 58)),
 ⟨12, [1, 3, 5, 7, 9, 11], false, .alloc, .yes, .alloc 55, some 7⟩,
 ⟨13, [1, 3, 5, 7, 9, 11], false, .alloc, .yes, .alloc 55, some 8⟩,
 ⟨14, [7, 9, 11], false, .write, .yes, .store 55 (t 7) (t 53), none⟩,
 ⟨15, [], false, .write, .yes, .store 55 (t 8) (t 59), none⟩])
 (.lock 8 (.lock 7 (.keep [1, 3, 6, 7, 8, 25, 26, 27] (.seq
 (.jn ⟨[1, 6, 7, 8, 25, 26, 27], [(3, .sl 0), (80, dB)], [.own tI true]⟩
 (.ops [fa 60 55 7 0,
 ld 61 3 60,
 fa 62 55 8 0,
 ld 63 3 62,
 y 64 (.binOp .neq 3 (t 61) (t 63) 3),
 mv 65 64,
 u 65 false 66 (.fieldAddr 55 (t 7) 1),
 u 65 false 67 (.load 2 (t 66)),
 u 65 false 68 (.fieldAddr 55 (t 8) 1),
 u 65 false 69 (.load 2 (t 68)),
 u 65 false 70 (.binOp .neq 2 (t 67) (t 69) 2),
 y 71 (.pick (t 65) (.const (.bool true)) (t 70)),
 mv 72 71,
 u 72 false 73 (.fieldAddr 55 (t 7) 2),
 u 72 false 74 (.load 28 (t 73)),
 u 72 false 75 (.call ⟨.builtin .len, #[t 74], #[28]⟩),
 u 72 false 76 (.fieldAddr 55 (t 8) 2),
 u 72 false 77 (.load 28 (t 76)),
 u 72 false 78 (.call ⟨.builtin .len, #[t 77], #[28]⟩),
 u 72 false 79 (.binOp .neq 3 (t 75) (t 78) 3),
 y 80 (.pick (t 72) (.const (.bool true)) (t 79))])
 (.keep [1, 3, 6, 7, 8, 25, 26, 27, 80] (.cond (t 80)
 (.seq
 (.ops [y 2 (.assign (.const (.bool false)))])
 .ret)
 .skip)))
 (.keep [1, 3, 6, 7, 8, 25, 26, 27] (.seq
 (.ops [fa 81 55 7 2,
 ld 82 28 81,
 lenC 83 82 28,
 y 84 (.move (cI 0))])
 (.keep [1, 3, 6, 7, 8, 25, 26, 27, 83, 84] (.block 4 (.loop ⟨[1, 6, 7, 8, 25, 26, 27, 83], [(3, .sl 0), (84, dI)], [.own tI true]⟩ (.keep [1, 3, 6, 7, 8, 25, 26, 27, 83, 84] (.seq
 (.ops [y 85 (.binOp .lss 3 (t 84) (t 83) 3)])
 (.seq
 (.cond (t 85)
 .skip
 (.exit 4))
 (.keep [1, 3, 6, 7, 8, 25, 26, 27, 83, 84] (.seq
 (.block 5 (.seq
 (.ops [mv 86 84,
 sg 9 86])
 (.jn ⟨[1, 6, 7, 8, 25, 26, 27, 83, 84], [(3, .sl 0), (123, dB)], [.own tI true]⟩
 (.plan [q 0 87 (.fieldAddr 32 (t 1) 0),
 qr 1 88 (.load 22 (t 87)),
 q 2 89 (.fieldAddr 55 (t 7) 2),
 qr 3 90 (.load 28 (t 89)),
 q 4 91 (.move (t 9)),
 q 5 92 (.indexAddr 28 (t 90) (t 91)),
 qr 6 93 (.load 3 (t 92)),
 ⟨7, [], false, .write, .yes, .call ⟨.value (.func 26), #[t 88, t 93], #[22, 3]⟩, some 94⟩,
 q 8 95 (.unOp .not 4 (t 94)),
 q 9 96 (.move (t 95)),
 qu 10 96 false 97 (.fieldAddr 32 (t 1) 0),
 qw 11 96 false 98 (.load 22 (t 97)),
 qu 12 96 false 99 (.fieldAddr 55 (t 8) 2),
 qw 13 96 false 100 (.load 28 (t 99)),
 qu 14 96 false 101 (.move (t 9)),
 qu 15 96 false 102 (.indexAddr 28 (t 100) (t 101)),
 qw 16 96 false 103 (.load 3 (t 102)),
 ⟨17, [], false, .write, .at 96 false, .call ⟨.value (.func 26), #[t 98, t 103], #[22, 3]⟩, some 104⟩,
 qu 18 96 false 105 (.unOp .not 4 (t 104)),
 q 19 106 (.pick (t 96) (.const (.bool true)) (t 105)),
 q 20 107 (.move (t 106)),
 qu 21 107 false 108 (.move (t 3)),
 qu 22 107 false 109 (.fieldAddr 55 (t 7) 2),
 qw 23 107 false 110 (.load 28 (t 109)),
 qu 24 107 false 111 (.move (t 9)),
 qu 25 107 false 112 (.indexAddr 28 (t 110) (t 111)),
 qw 26 107 false 113 (.load 3 (t 112)),
 qu 28 107 false 115 (.move (t 3)),
 qu 29 107 false 116 (.fieldAddr 55 (t 8) 2),
 ⟨30, [], true, .read, .at 107 false, .load 28 (t 116), some 117⟩,
 qu 31 107 false 118 (.move (t 9)),
 qu 32 107 false 119 (.indexAddr 28 (t 117) (t 118)),
 ⟨33, [], true, .read, .at 107 false, .load 3 (t 119), some 120⟩,
 ⟨27, [30, 33], false, .write, .at 107 false, .call ⟨.value (.func 34), #[t 108, t 113], #[67, 3]⟩, some 114⟩,
 ⟨34, [], false, .write, .at 107 false, .call ⟨.value (.func 34), #[t 115, t 120], #[67, 3]⟩, some 121⟩,
 qu 35 107 false 122 (.binOp .neq 3 (t 114) (t 121) 3),
 q 36 123 (.pick (t 107) (.const (.bool true)) (t 122))])
 (.keep [1, 3, 6, 7, 8, 25, 26, 27, 83, 84, 123] (.cond (t 123)
 (.seq
 (.ops [y 2 (.assign (.const (.bool false)))])
 .ret)
 .skip)))))
 (.keep [1, 3, 6, 7, 8, 25, 26, 27, 83, 84] (.ops [y 124 (.binOp .add 3 (t 84) (cI 1) 3),
 mv 84 124])))))))))))))))))
 .skip))
 (.keep [1, 3, 6, 25, 26, 27] (.plan [q 0 125 (.move (t 3)),
 q 1 126 (.move (t 3)),
 q 2 127 (.fieldAddr 44 (t 6) 0),
 qr 3 128 (.load 3 (t 127)),
 q 5 130 (.move (t 3)),
 q 6 131 (.fieldAddr 44 (t 6) 1),
 qn 7 132 (.load 3 (t 131)),
 ⟨4, [7], false, .write, .yes, .call ⟨.value (.func 34), #[t 126, t 128], #[67, 3]⟩, some 129⟩,
 ⟨8, [], false, .write, .yes, .call ⟨.value (.func 34), #[t 130, t 132], #[67, 3]⟩, some 133⟩,
 q 9 134 (.indexAddr 67 (t 125) (t 129)),
 ⟨10, [], false, .write, .yes, .store 3 (t 134) (t 133), none⟩])))))))))
 (.keep [1, 3, 25, 26, 27] (.ops [y 135 (.binOp .add 3 (t 27) (cI 1) 3),
 mv 27 135])))))))))))
 (.keep [1, 3] (.jn ⟨[], [(2, dB)], []⟩
 (.plan [q 0 136 (.fieldAddr 32 (t 1) 0),
 qr 1 137 (.load 22 (t 136)),
 q 2 138 (.fieldAddr 32 (t 1) 2),
 qr 3 139 (.load 3 (t 138)),
 ⟨4, [], false, .write, .yes, .call ⟨.value (.func 26), #[t 137, t 139], #[22, 3]⟩, some 140⟩,
 q 5 141 (.move (t 140)),
 qu 6 141 true 142 (.fieldAddr 32 (t 1) 0),
 qw 7 141 true 143 (.load 22 (t 142)),
 qu 8 141 true 144 (.fieldAddr 32 (t 1) 3),
 qw 9 141 true 145 (.load 3 (t 144)),
 ⟨10, [], false, .write, .at 141 true, .call ⟨.value (.func 26), #[t 143, t 145], #[22, 3]⟩, some 146⟩,
 q 11 147 (.pick (t 141) (t 146) (.const (.bool false))),
 q 12 148 (.move (t 147)),
 qu 13 148 true 149 (.move (t 3)),
 qu 14 148 true 150 (.fieldAddr 32 (t 1) 2),
 qw 15 148 true 151 (.load 3 (t 150)),
 qu 17 148 true 153 (.move (t 3)),
 qu 18 148 true 154 (.fieldAddr 32 (t 1) 3),
 ⟨19, [], true, .read, .at 148 true, .load 3 (t 154), some 155⟩,
 ⟨16, [19], false, .write, .at 148 true, .call ⟨.value (.func 34), #[t 149, t 151], #[67, 3]⟩, some 152⟩,
 ⟨20, [], false, .write, .at 148 true, .call ⟨.value (.func 34), #[t 153, t 155], #[67, 3]⟩, some 156⟩,
 qu 21 148 true 157 (.binOp .eql 3 (t 152) (t 156) 3),
 q 22 158 (.pick (t 148) (t 157) (.const (.bool false))),
 q 23 2 (.assign (t 158))])
 .ret))))))))), [.tmp 2]⟩
theorem is12 : IsFA P pol (planOf pol) 12 1 a12 := ⟨⟨_, _, Try.func12, rfl, rfl, rfl, by kernel_rfl⟩, by decide⟩
theorem ok12 : a12.c.ok = true := by kernel_rfl
theorem r12 (x : denL [(.st (.prod (.list tn) (.prod (.list ts) (.prod tI tI))))]) : fun2 (env [(26, sp26)] [(34, sp34)]) a12 [(.st (.prod (.list tn) (.prod (.list ts) (.prod tI tI))))] [.bool] x = F12 x := by kernel_rfl
noncomputable def sp12 : FSp := ⟨[(.st (.prod (.list tn) (.prod (.list ts) (.prod tI tI))))], [.bool], fun x => F12 x⟩
theorem s12 : SpOk pol P 12 sp12 := fun x r h => fun_ok is12 (fun _ => rfl) (tyOk [(26, sp26)] [(34, sp34)]) (kOk rfl rfl rfl (allC s26 allN) (imC s34 imN)) ok12 rfl rfl ((r12 x).trans h)
noncomputable def a15 : FA := ⟨14, (.seq
 (.ops [y 4 (.assign (cI 0))])
 (.seq
 (.ops [mv 5 0,
 mv 6 1,
 y 7 (.binOp .rem 3 (t 5) (t 6) 3),
 sg 0 7])
 (.keep [0, 1] (.jn ⟨[], [(0, dI)], []⟩
 (.seq
 (.ops [mv 8 0,
 y 9 (.binOp .lss 3 (t 8) (cI 0) 3)])
 (.cond (t 9)
 (.ops [mv 10 0,
 mv 11 1,
 y 12 (.binOp .add 3 (t 10) (t 11) 3),
 sg 0 12])
 .skip))
 (.keep [0] (.seq
 (.ops [mv 13 0,
 sg 4 13])
 .ret)))))), [.tmp 4]⟩
theorem is15 : IsFA P pol (planOf pol) 15 2 a15 := ⟨⟨_, _, Try.func15, rfl, rfl, rfl, by kernel_rfl⟩, by decide⟩
theorem ok15 : a15.c.ok = true := by kernel_rfl
theorem r15 (x : denL [tI, tI]) : fun2 (env [] []) a15 [tI, tI] [tI] x = F15 x.1 x.2 := by kernel_rfl
noncomputable def sp15 : FSp := ⟨[tI, tI], [tI], fun x => F15 x.1 x.2⟩
theorem s15 : SpOk pol P 15 sp15 := fun x r h => fun_ok is15 (fun _ => rfl) (tyOk [] []) (kOk rfl rfl rfl allN imN) ok15 rfl rfl ((r15 x).trans h)
noncomputable def a49 : FA := ⟨25, (.seq
 (.ops [y 4 (.assign (cI 0))])
 (.seq
 (.ops [y 7 (.buildSlice 42 10 #[(0, cI 0), (1, cI 1), (2, cI (-1)), (3, cI 2), (4, cI (-9223372036854775808)), (5, cI 9223372036854775807), (6, cI 4294967296), (7, cI (-2147483648)), (8, cI 63), (9, cI 64)]),
 sg 5 7])
 (.seq
 (.ops [mv 8 0,
 y 9 (.call ⟨.value (.func 15), #[t 8, cI 24], #[3, 3]⟩),
 sg 6 9])
 (.seq
 (.block 0 (.seq
 (.ops [mv 11 6,
 y 12 (.binOp .lss 3 (t 11) (cI 10) 3),
 sg 10 12])
 (.cond (t 10)
 (.seq
 (.ops [mv 13 5,
 mv 14 6,
 ia 15 42 13 14,
 ld 16 2 15,
 sg 4 16])
 .ret)
 (.seq
 (.ops [mv 18 6,
 y 19 (.binOp .lss 3 (t 18) (cI 22) 3),
 sg 17 19])
 (.cond (t 17)
 (.seq
 (.ops [mv 20 0,
 y 21 (.binOp .quo 3 (t 20) (cI 24) 3),
 y 22 (.call ⟨.value (.func 15), #[t 21, cI 17], #[3, 3]⟩),
 y 23 (.binOp .sub 3 (t 22) (cI 6) 3),
 sg 4 23])
 .ret)
 .skip)))))
 (.keep [1] (.seq
 (.ops [mv 24 1,
 sg 4 24])
 .ret)))))), [.tmp 4]⟩
theorem is49 : IsFA P pol (planOf pol) 49 2 a49 := ⟨⟨_, _, Try.func49, rfl, rfl, rfl, by kernel_rfl⟩, by decide⟩
theorem ok49 : a49.c.ok = true := by kernel_rfl
theorem r49 (x : denL [tI, tI]) : fun2 (env [(15, sp15)] []) a49 [tI, tI] [tI] x = F49 x.1 x.2 := by kernel_rfl
noncomputable def sp49 : FSp := ⟨[tI, tI], [tI], fun x => F49 x.1 x.2⟩
theorem s49 : SpOk pol P 49 sp49 := fun x r h => fun_ok is49 (fun _ => rfl) (tyOk [(15, sp15)] []) (kOk rfl rfl rfl (allC s15 allN) imN) ok49 rfl rfl ((r49 x).trans h)
noncomputable def a50 : FA := ⟨67, (.seq
 (.ops [y 2 (.assign (cI 0)),
 y 3 (.assign (.const (.bool false)))])
 (.seq
 (.block 0 (.jn ⟨[0], [(4, dB)], []⟩
 (.ops [mv 5 0,
 y 6 (.binOp .eql 3 (t 5) (cI 1) 3),
 mv 7 6,
 u 7 false 8 (.move (t 0)),
 u 7 false 9 (.binOp .eql 3 (t 8) (cI 2) 3),
 y 10 (.pick (t 7) (.const (.bool true)) (t 9)),
 mv 11 10,
 u 11 false 12 (.move (t 0)),
 u 11 false 13 (.binOp .eql 3 (t 12) (cI 3) 3),
 y 14 (.pick (t 11) (.const (.bool true)) (t 13)),
 mv 15 14,
 u 15 false 16 (.move (t 0)),
 u 15 false 17 (.binOp .eql 3 (t 16) (cI 26) 3),
 y 18 (.pick (t 15) (.const (.bool true)) (t 17)),
 sg 4 18])
 (.keep [0, 4] (.cond (t 4)
 (.seq
 (.ops [y 2 (.assign (cI 0)),
 y 3 (.assign (.const (.bool true)))])
 .ret)
 (.jn ⟨[0], [(19, dB)], []⟩
 (.ops [mv 20 0,
 y 21 (.binOp .eql 3 (t 20) (cI 20) 3),
 mv 22 21,
 u 22 false 23 (.move (t 0)),
 u 22 false 24 (.binOp .eql 3 (t 23) (cI 21) 3),
 y 25 (.pick (t 22) (.const (.bool true)) (t 24)),
 mv 26 25,
 u 26 false 27 (.move (t 0)),
 u 26 false 28 (.binOp .eql 3 (t 27) (cI 24) 3),
 y 29 (.pick (t 26) (.const (.bool true)) (t 28)),
 mv 30 29,
 u 30 false 31 (.move (t 0)),
 u 30 false 32 (.binOp .eql 3 (t 31) (cI 25) 3),
 y 33 (.pick (t 30) (.const (.bool true)) (t 32)),
 sg 19 33])
 (.keep [0, 19] (.cond (t 19)
 (.seq
 (.ops [y 2 (.assign (cI 1)),
 y 3 (.assign (.const (.bool true)))])
 .ret)
 (.jn ⟨[0], [(34, dB)], []⟩
 (.ops [mv 35 0,
 y 36 (.binOp .geq 3 (t 35) (cI 4) 3),
 mv 37 36,
 u 37 true 38 (.move (t 0)),
 u 37 true 39 (.binOp .leq 3 (t 38) (cI 19) 3),
 y 40 (.pick (t 37) (t 39) (.const (.bool false))),
 mv 41 40,
 u 41 false 42 (.move (t 0)),
 u 41 false 43 (.binOp .eql 3 (t 42) (cI 23) 3),
 y 44 (.pick (t 41) (.const (.bool true)) (t 43)),
 mv 45 44,
 u 45 false 46 (.move (t 0)),
 u 45 false 47 (.binOp .eql 3 (t 46) (cI 27) 3),
 y 48 (.pick (t 45) (.const (.bool true)) (t 47)),
 mv 49 48,
 u 49 false 50 (.move (t 0)),
 u 49 false 51 (.binOp .eql 3 (t 50) (cI 29) 3),
 y 52 (.pick (t 49) (.const (.bool true)) (t 51)),
 sg 34 52])
 (.keep [0, 34] (.cond (t 34)
 (.seq
 (.ops [y 2 (.assign (cI 2)),
 y 3 (.assign (.const (.bool true)))])
 .ret)
 (.jn ⟨[0], [(53, dB)], []⟩
 (.ops [mv 54 0,
 y 55 (.binOp .eql 3 (t 54) (cI 22) 3),
 mv 56 55,
 u 56 false 57 (.move (t 0)),
 u 56 false 58 (.binOp .eql 3 (t 57) (cI 28) 3),
 y 59 (.pick (t 56) (.const (.bool true)) (t 58)),
 sg 53 59])
 (.keep [0, 53] (.cond (t 53)
 (.seq
 (.ops [y 2 (.assign (cI 3)),
 y 3 (.assign (.const (.bool true)))])
 .ret)
 (.jn ⟨[], [(60, dB)], []⟩
 (.ops [mv 61 0,
 y 62 (.binOp .eql 3 (t 61) (cI 30) 3),
 mv 63 62,
 u 63 false 64 (.move (t 0)),
 u 63 false 65 (.binOp .eql 3 (t 64) (cI 31) 3),
 y 66 (.pick (t 63) (.const (.bool true)) (t 65)),
 sg 60 66])
 (.keep [60] (.cond (t 60)
 (.seq
 (.ops [y 2 (.assign (cI (-1))),
 y 3 (.assign (.const (.bool true)))])
 .ret)
 .skip))))))))))))))))
 (.keep [] (.seq
 (.ops [y 2 (.assign (cI 0)),
 y 3 (.assign (.const (.bool false)))])
 .ret)))), [.tmp 2, .tmp 3]⟩
theorem is50 : IsFA P pol (planOf pol) 50 1 a50 := ⟨⟨_, _, Try.func50, rfl, rfl, rfl, by kernel_rfl⟩, by decide⟩
theorem ok50 : a50.c.ok = true := by kernel_rfl
theorem r50 (x : denL [tI]) : fun2 (env [] []) a50 [tI] [tI, .bool] x = F50 x := by kernel_rfl
noncomputable def sp50 : FSp := ⟨[tI], [tI, .bool], fun x => F50 x⟩
theorem s50 : SpOk pol P 50 sp50 := fun x r h => fun_ok is50 (fun _ => rfl) (tyOk [] []) (kOk rfl rfl rfl allN imN) ok50 rfl rfl ((r50 x).trans h)
noncomputable def a65 : FA := ⟨19, (.seq
 (.ops [y 2 (.assign (cI 0))])
 (.seq
 (.seq
 (.ops [mv 3 0])
 (.block 0 (.seq
 (.ops [y 5 (.binOp .eql 3 (t 3) (cI 2) 3),
 sg 4 5])
 (.cond (t 4)
 (.seq
 (.ops [y 2 (.assign (cI 5))])
 .ret)
 (.seq
 (.ops [y 7 (.binOp .eql 3 (t 3) (cI 3) 3),
 sg 6 7])
 (.cond (t 6)
 (.seq
 (.ops [y 2 (.assign (cI 255))])
 .ret)
 (.jn ⟨[3], [(8, dB)], []⟩
 (.seq
 (.ops [y 9 (.binOp .eql 3 (t 3) (cI 23) 3),
 sg 8 9])
 (.cond (t 8)
 .skip
 (.ops [y 10 (.binOp .eql 3 (t 3) (cI 28) 3),
 sg 8 10])))
 (.keep [3, 8] (.cond (t 8)
 (.seq
 (.ops [y 2 (.assign (cI 3))])
 .ret)
 (.seq
 (.ops [y 12 (.binOp .eql 3 (t 3) (cI 27) 3),
 sg 11 12])
 (.cond (t 11)
 (.seq
 (.ops [y 2 (.assign (cI 1000016))])
 .ret)
 (.seq
 (.ops [y 14 (.binOp .eql 3 (t 3) (cI 30) 3),
 sg 13 14])
 (.cond (t 13)
 (.seq
 (.ops [y 2 (.assign (cI 7))])
 .ret)
 (.seq
 (.ops [y 16 (.binOp .eql 3 (t 3) (cI 31) 3),
 sg 15 16])
 (.cond (t 15)
 (.seq
 (.ops [y 2 (.assign (cI 15))])
 .ret)
 (.seq
 (.ops [y 18 (.binOp .eql 3 (t 3) (cI 25) 3),
 sg 17 18])
 (.cond (t 17)
 (.seq
 (.ops [y 2 (.assign (cI 15))])
 .ret)
 .skip)))))))))))))))))
 (.keep [] (.seq
 (.ops [y 2 (.assign (cI (-1)))])
 .ret)))), [.tmp 2]⟩
theorem is65 : IsFA P pol (planOf pol) 65 1 a65 := ⟨⟨_, _, Try.func65, rfl, rfl, rfl, by kernel_rfl⟩, by decide⟩
theorem ok65 : a65.c.ok = true := by kernel_rfl
theorem r65 (x : denL [tI]) : fun2 (env [] []) a65 [tI] [tI] x = F65 x := by kernel_rfl
noncomputable def sp65 : FSp := ⟨[tI], [tI], fun x => F65 x⟩
theorem s65 : SpOk pol P 65 sp65 := fun x r h => fun_ok is65 (fun _ => rfl) (tyOk [] []) (kOk rfl rfl rfl allN imN) ok65 rfl rfl ((r65 x).trans h)
noncomputable def a62 : FA := ⟨29, (.seq
 (.ops [y 4 (.assign (.const (.bool false)))])
 (.seq
 (.seq
 (.ops [mv 6 0,
 y 7 (.binOp .eql 3 (t 6) (cI 1) 3)])
 (.cond (t 7)
 (.seq
 (.ops [y 4 (.assign (.const (.bool true)))])
 .ret)
 .skip))
 (.keep [0, 1] (.seq
 (.ops [mv 8 0,
 y 9 (.call ⟨.value (.func 65), #[t 8], #[3]⟩),
 sg 5 9])
 (.seq
 (.seq
 (.ops [mv 10 5,
 y 11 (.binOp .lss 2 (t 10) (cI 0) 2)])
 (.cond (t 11)
 (.seq
 (.ops [mv 12 1,
 y 13 (.binOp .eql 2 (t 12) (cI 0) 2),
 sg 4 13])
 .ret)
 .skip))
 (.keep [0, 1, 5] (.jn ⟨[], [(4, dB)], []⟩
 (.ops [mv 14 1,
 y 15 (.binOp .geq 2 (t 14) (cI 0) 2),
 mv 16 15,
 u 16 true 17 (.move (t 1)),
 u 16 true 18 (.move (t 5)),
 u 16 true 19 (.binOp .leq 2 (t 17) (t 18) 2),
 y 20 (.pick (t 16) (t 19) (.const (.bool false))),
 mv 21 20,
 u 21 true 22 (.move (t 0)),
 u 21 true 23 (.binOp .neq 3 (t 22) (cI 27) 3),
 u 21 true 24 (.move (t 23)),
 u 24 false 25 (.move (t 1)),
 u 24 false 26 (.binOp .gtr 2 (t 25) (cI 0) 2),
 u 21 true 27 (.pick (t 24) (.const (.bool true)) (t 26)),
 y 28 (.pick (t 21) (t 27) (.const (.bool false))),
 sg 4 28])
 .ret))))))), [.tmp 4]⟩
theorem is62 : IsFA P pol (planOf pol) 62 2 a62 := ⟨⟨_, _, Try.func62, rfl, rfl, rfl, by kernel_rfl⟩, by decide⟩
theorem ok62 : a62.c.ok = true := by kernel_rfl
theorem r62 (x : denL [tI, tI]) : fun2 (env [(65, sp65)] []) a62 [tI, tI] [.bool] x = F62 x.1 x.2 := by kernel_rfl
noncomputable def sp62 : FSp := ⟨[tI, tI], [.bool], fun x => F62 x.1 x.2⟩
theorem s62 : SpOk pol P 62 sp62 := fun x r h => fun_ok is62 (fun _ => rfl) (tyOk [(65, sp65)] []) (kOk rfl rfl rfl (allC s65 allN) imN) ok62 rfl rfl ((r62 x).trans h)
noncomputable def a63 : FA := ⟨7, (.seq
 (.ops [y 4 (.assign (cI 0))])
 (.seq
 (.seq
 (.ops [mv 5 0])
 (.cond (t 5)
 (.seq
 (.ops [mv 6 1,
 sg 4 6])
 .ret)
 .skip))
 (.keep [] (.seq
 (.ops [y 4 (.assign (cI 0))])
 .ret)))), [.tmp 4]⟩
theorem is63 : IsFA P pol (planOf pol) 63 2 a63 := ⟨⟨_, _, Try.func63, rfl, rfl, rfl, by kernel_rfl⟩, by decide⟩
theorem ok63 : a63.c.ok = true := by kernel_rfl
theorem r63 (x : denL [.bool, tI]) : fun2 (env [] []) a63 [.bool, tI] [tI] x = F63 x.1 x.2 := by kernel_rfl
noncomputable def sp63 : FSp := ⟨[.bool, tI], [tI], fun x => F63 x.1 x.2⟩
theorem s63 : SpOk pol P 63 sp63 := fun x r h => fun_ok is63 (fun _ => rfl) (tyOk [] []) (kOk rfl rfl rfl allN imN) ok63 rfl rfl ((r63 x).trans h)
noncomputable def a64 : FA := ⟨15, (.seq
 (.ops [y 2 (.assign (.const (.bool false)))])
 (.seq
 (.seq
 (.ops [y 3 (.assign (cI 0))])
 (.block 0 (.loop ⟨[0], [(3, dI)], []⟩ (.keep [0, 3] (.seq
 (.seq
 (.ops [mv 4 3,
 mv 5 0,
 lenC 6 5 28,
 y 7 (.binOp .lss 3 (t 4) (t 6) 3)])
 (.keep [0, 3, 7] (.cond (t 7)
 .skip
 (.exit 0))))
 (.keep [0, 3] (.seq
 (.block 1 (.seq
 (.ops [mv 10 0,
 mv 11 3,
 ia 12 28 10 11,
 ld 13 3 12,
 y 14 (.binOp .neq 3 (t 13) (cI 1) 3)])
 (.keep [0, 3, 14] (.cond (t 14)
 (.seq
 (.ops [y 2 (.assign (.const (.bool false)))])
 .ret)
 .skip))))
 (.keep [0, 3] (.ops [mv 8 3,
 y 9 (.binOp .add 3 (t 8) (cI 1) 3),
 sg 3 9])))))))))
 (.keep [] (.seq
 (.ops [y 2 (.assign (.const (.bool true)))])
 .ret)))), [.tmp 2]⟩
theorem is64 : IsFA P pol (planOf pol) 64 1 a64 := ⟨⟨_, _, Try.func64, rfl, rfl, rfl, by kernel_rfl⟩, by decide⟩
theorem ok64 : a64.c.ok = true := by kernel_rfl
theorem r64 (x : denL [tL]) : fun2 (env [] []) a64 [tL] [.bool] x = F64 x := by kernel_rfl
noncomputable def sp64 : FSp := ⟨[tL], [.bool], fun x => F64 x⟩
theorem s64 : SpOk pol P 64 sp64 := fun x r h => fun_ok is64 (fun _ => rfl) (tyOk [] []) (kOk rfl rfl rfl allN imN) ok64 rfl rfl ((r64 x).trans h)
noncomputable def a61 : FA := ⟨221, (.seq
 (.ops [y 4 (.box 55 (t 1)),
 y 6 (.assign (cI 0))])
 (.lock 4 (.seq
 (.ops [fa 11 55 4 0,
 ld 12 3 11,
 y 13 (.call ⟨.value (.func 50), #[t 12], #[3]⟩),
 mv 10 13,
 y 14 (.extract (t 10) 0),
 y 15 (.extract (t 10) 1),
 sg 7 14,
 sg 8 15])
 (.keep [0, 2, 4, 7, 8] (.seq
 (.jn ⟨[0, 2, 4], [(36, dB)], []⟩
 (.ops [mv 16 8,
 y 17 (.unOp .not 4 (t 16)),
 mv 18 17,
 u 18 false 19 (.move (t 7)),
 u 18 false 20 (.binOp .geq 3 (t 19) (cI 0) 3),
 u 18 false 21 (.move (t 20)),
 u 21 true 22 (.fieldAddr 55 (t 4) 2),
 u 21 true 23 (.load 28 (t 22)),
 u 21 true 24 (.call ⟨.builtin .len, #[t 23], #[28]⟩),
 u 21 true 25 (.move (t 7)),
 u 21 true 26 (.binOp .neq 3 (t 24) (t 25) 3),
 u 18 false 27 (.pick (t 21) (t 26) (.const (.bool false))),
 y 28 (.pick (t 18) (.const (.bool true)) (t 27)),
 mv 29 28,
 u 29 false 30 (.fieldAddr 55 (t 4) 0),
 u 29 false 31 (.load 3 (t 30)),
 u 29 false 32 (.fieldAddr 55 (t 4) 1),
 u 29 false 33 (.load 2 (t 32)),
 u 29 false 34 (.call ⟨.value (.func 62), #[t 31, t 33], #[3, 2]⟩),
 u 29 false 35 (.unOp .not 4 (t 34)),
 y 36 (.pick (t 29) (.const (.bool true)) (t 35))])
 (.keep [0, 2, 4, 36] (.cond (t 36)
 (.seq
 (.ops [y 6 (.assign (cI 0))])
 .ret)
 .skip)))
 (.keep [0, 2, 4] (.seq
 (.seq
 (.ops [fa 37 55 4 0,
 ld 38 3 37])
 (.block 0 (.seq
 (.ops [y 40 (.binOp .eql 3 (t 38) (cI 3) 3),
 sg 39 40])
 (.cond (t 39)
 (.seq
 (.seq
 (.ops [fa 41 55 4 1,
 ld 42 2 41,
 y 43 (.binOp .rem 2 (t 42) (cI 16) 2),
 y 44 (.binOp .eql 2 (t 43) (cI 0) 2)])
 (.keep [44] (.cond (t 44)
 (.seq
 (.ops [y 6 (.assign (cI 2))])
 .ret)
 .skip)))
 (.keep [] (.seq
 (.ops [y 6 (.assign (cI 1))])
 .ret)))
 (.seq
 (.ops [y 46 (.binOp .eql 3 (t 38) (cI 26) 3),
 sg 45 46])
 (.cond (t 45)
 (.seq
 (.ops [y 6 (.assign (cI 2))])
 .ret)
 (.seq
 (.ops [y 48 (.binOp .eql 3 (t 38) (cI 22) 3),
 sg 47 48])
 (.cond (t 47)
 (.seq
 (.jn ⟨[2], [(67, dB)], []⟩
 (.plan [q 0 49 (.move (t 2)),
 q 1 50 (.indexAddr 28 (t 49) (cI 0)),
 qr 2 51 (.load 3 (t 50)),
 q 3 52 (.binOp .neq 3 (t 51) (cI 1) 3),
 q 4 53 (.move (t 52)),
 qu 5 53 false 54 (.move (t 2)),
 qu 6 53 false 55 (.indexAddr 28 (t 54) (cI 1)),
 qw 7 53 false 56 (.load 3 (t 55)),
 qu 8 53 false 57 (.move (t 2)),
 qu 9 53 false 58 (.indexAddr 28 (t 57) (cI 2)),
 qw 10 53 false 59 (.load 3 (t 58)),
 qu 11 53 false 60 (.binOp .neq 3 (t 56) (t 59) 3),
 q 12 61 (.pick (t 53) (.const (.bool true)) (t 60)),
 q 13 62 (.move (t 61)),
 qu 14 62 false 63 (.move (t 2)),
 qu 15 62 false 64 (.indexAddr 28 (t 63) (cI 1)),
 qw 16 62 false 65 (.load 3 (t 64)),
 qu 17 62 false 66 (.binOp .eql 3 (t 65) (cI 3) 3),
 q 18 67 (.pick (t 62) (.const (.bool true)) (t 66))])
 (.keep [2, 67] (.cond (t 67)
 (.seq
 (.ops [y 6 (.assign (cI 0))])
 .ret)
 .skip)))
 (.keep [2] (.seq
 (.ops [mv 68 2,
 y 69 (.indexAddr 28 (t 68) (cI 1)),
 ld 70 3 69,
 sg 6 70])
 .ret)))
 (.seq
 (.ops [y 72 (.binOp .eql 3 (t 38) (cI 23) 3),
 sg 71 72])
 (.cond (t 71)
 (.jn ⟨[], [(6, dI)], []⟩
 (.ops [mv 73 2,
 y 74 (.indexAddr 28 (t 73) (cI 0)),
 ld 75 3 74,
 y 76 (.binOp .eql 3 (t 75) (cI 2) 3),
 mv 77 76,
 u 77 true 78 (.move (t 2)),
 u 77 true 79 (.indexAddr 28 (t 78) (cI 1)),
 u 77 true 80 (.load 3 (t 79)),
 u 77 true 81 (.binOp .eql 3 (t 80) (cI 1) 3),
 y 82 (.pick (t 77) (t 81) (.const (.bool false))),
 y 83 (.call ⟨.value (.func 63), #[t 82, cI 1], #[4, 3]⟩),
 sg 6 83])
 .ret)
 (.seq
 (.ops [y 85 (.binOp .eql 3 (t 38) (cI 24) 3),
 sg 84 85])
 (.cond (t 84)
 (.seq
 (.ops [mv 86 2,
 y 87 (.indexAddr 28 (t 86) (cI 0)),
 ld 88 3 87,
 y 89 (.binOp .eql 3 (t 88) (cI 2) 3),
 y 90 (.call ⟨.value (.func 63), #[t 89, cI 1], #[4, 3]⟩),
 sg 6 90])
 .ret)
 (.seq
 (.ops [y 92 (.binOp .eql 3 (t 38) (cI 25) 3),
 sg 91 92])
 (.cond (t 91)
 (.seq
 (.jn ⟨[4], [(111, dB)], []⟩
 (.plan [q 0 93 (.move (t 2)),
 q 1 94 (.indexAddr 28 (t 93) (cI 0)),
 qr 2 95 (.load 3 (t 94)),
 q 3 96 (.binOp .neq 3 (t 95) (cI 3) 3),
 q 4 97 (.move (t 96)),
 qu 5 97 false 98 (.fieldAddr 55 (t 4) 1),
 qw 6 97 false 99 (.load 2 (t 98)),
 qu 7 97 false 100 (.move (t 0)),
 qu 8 97 false 101 (.fieldAddr 55 (t 4) 2),
 qw 9 97 false 102 (.load 28 (t 101)),
 qu 10 97 false 103 (.indexAddr 28 (t 102) (cI 0)),
 qw 11 97 false 104 (.load 3 (t 103)),
 qu 12 97 false 105 (.indexAddr 22 (t 100) (t 104)),
 qu 13 97 false 106 (.fieldAddr 55 (t 105) 2),
 qw 14 97 false 107 (.load 28 (t 106)),
 qw 15 97 false 108 (.call ⟨.builtin .len, #[t 107], #[28]⟩),
 qu 16 97 false 109 (.binOp .quo 3 (t 108) (cI 2) 3),
 qu 17 97 false 110 (.binOp .geq 2 (t 99) (t 109) 2),
 q 18 111 (.pick (t 97) (.const (.bool true)) (t 110))])
 (.keep [4, 111] (.cond (t 111)
 (.seq
 (.ops [y 6 (.assign (cI 0))])
 .ret)
 .skip)))
 (.keep [4] (.seq
 (.ops [fa 112 55 4 1,
 ld 113 2 112,
 y 114 (.binOp .eql 2 (t 113) (cI 0) 2),
 y 115 (.call ⟨.value (.func 63), #[t 114, cI 1], #[4, 3]⟩),
 y 116 (.binOp .add 3 (t 115) (cI 1) 3),
 sg 6 116])
 .ret)))
 (.jn ⟨[2, 38], [(117, dB)], []⟩
 (.seq
 (.ops [y 118 (.binOp .eql 3 (t 38) (cI 27) 3),
 sg 117 118])
 (.cond (t 117)
 .skip
 (.ops [y 119 (.binOp .eql 3 (t 38) (cI 29) 3),
 sg 117 119])))
 (.keep [2, 38, 117] (.cond (t 117)
 (.jn ⟨[], [(6, dI)], []⟩
 (.ops [mv 120 2,
 y 121 (.indexAddr 28 (t 120) (cI 0)),
 ld 122 3 121,
 y 123 (.binOp .eql 3 (t 122) (cI 2) 3),
 mv 124 123,
 u 124 true 125 (.move (t 2)),
 u 124 true 126 (.indexAddr 28 (t 125) (cI 1)),
 u 124 true 127 (.load 3 (t 126)),
 u 124 true 128 (.binOp .eql 3 (t 127) (cI 1) 3),
 y 129 (.pick (t 124) (t 128) (.const (.bool false))),
 y 130 (.call ⟨.value (.func 63), #[t 129, cI 2], #[4, 3]⟩),
 sg 6 130])
 .ret)
 (.seq
 (.ops [y 132 (.binOp .eql 3 (t 38) (cI 28) 3),
 sg 131 132])
 (.cond (t 131)
 (.jn ⟨[], [(6, dI)], []⟩
 (.ops [mv 133 2,
 y 134 (.indexAddr 28 (t 133) (cI 0)),
 ld 135 3 134,
 y 136 (.binOp .eql 3 (t 135) (cI 2) 3),
 mv 137 136,
 u 137 true 138 (.move (t 2)),
 u 137 true 139 (.indexAddr 28 (t 138) (cI 1)),
 u 137 true 140 (.load 3 (t 139)),
 u 137 true 141 (.binOp .eql 3 (t 140) (cI 1) 3),
 y 142 (.pick (t 137) (t 141) (.const (.bool false))),
 mv 143 142,
 u 143 true 144 (.move (t 2)),
 u 143 true 145 (.indexAddr 28 (t 144) (cI 2)),
 u 143 true 146 (.load 3 (t 145)),
 u 143 true 147 (.binOp .eql 3 (t 146) (cI 1) 3),
 y 148 (.pick (t 143) (t 147) (.const (.bool false))),
 y 149 (.call ⟨.value (.func 63), #[t 148, cI 2], #[4, 3]⟩),
 sg 6 149])
 .ret)
 (.seq
 (.ops [y 151 (.binOp .eql 3 (t 38) (cI 30) 3),
 sg 150 151])
 (.cond (t 150)
 (.jn ⟨[], [(6, dI)], []⟩
 (.ops [mv 152 2,
 lenC 153 152 28,
 y 154 (.binOp .geq 3 (t 153) (cI 1) 3),
 mv 155 154,
 u 155 true 156 (.move (t 2)),
 u 155 true 157 (.call ⟨.builtin .len, #[t 156], #[28]⟩),
 u 155 true 158 (.binOp .leq 3 (t 157) (cI 7) 3),
 y 159 (.pick (t 155) (t 158) (.const (.bool false))),
 mv 160 159,
 u 160 true 161 (.move (t 2)),
 u 160 true 162 (.indexAddr 28 (t 161) (cI 0)),
 u 160 true 163 (.load 3 (t 162)),
 u 160 true 164 (.binOp .eql 3 (t 163) (cI 2) 3),
 y 165 (.pick (t 160) (t 164) (.const (.bool false))),
 mv 166 165,
 u 166 true 167 (.move (t 2)),
 u 166 true 168 (.slice 28 (t 167) (some (cI 1)) none none),
 u 166 true 169 (.call ⟨.value (.func 64), #[t 168], #[28]⟩),
 y 170 (.pick (t 166) (t 169) (.const (.bool false))),
 y 171 (.call ⟨.value (.func 63), #[t 170, cI 2], #[4, 3]⟩),
 sg 6 171])
 .ret)
 (.seq
 (.ops [y 173 (.binOp .eql 3 (t 38) (cI 31) 3),
 sg 172 173])
 (.cond (t 172)
 (.seq
 (.ops [mv 174 2,
 lenC 175 174 28,
 y 176 (.binOp .quo 3 (t 175) (cI 2) 3),
 sg 9 176])
 (.keep [2, 9] (.jn ⟨[], [(6, dI)], []⟩
 (.ops [mv 177 2,
 lenC 178 177 28,
 y 179 (.binOp .rem 3 (t 178) (cI 2) 3),
 y 180 (.binOp .eql 3 (t 179) (cI 1) 3),
 mv 181 180,
 u 181 true 182 (.move (t 9)),
 u 181 true 183 (.binOp .geq 3 (t 182) (cI 1) 3),
 y 184 (.pick (t 181) (t 183) (.const (.bool false))),
 mv 185 184,
 u 185 true 186 (.move (t 9)),
 u 185 true 187 (.binOp .leq 3 (t 186) (cI 16) 3),
 y 188 (.pick (t 185) (t 187) (.const (.bool false))),
 mv 189 188,
 u 189 true 190 (.move (t 2)),
 u 189 true 191 (.indexAddr 28 (t 190) (cI 0)),
 u 189 true 192 (.load 3 (t 191)),
 u 189 true 193 (.binOp .eql 3 (t 192) (cI 2) 3),
 y 194 (.pick (t 189) (t 193) (.const (.bool false))),
 mv 195 194,
 u 195 true 196 (.move (t 2)),
 u 195 true 197 (.move (t 9)),
 u 195 true 198 (.binOp .add 3 (t 197) (cI 1) 3),
 u 195 true 199 (.slice 28 (t 196) (some (cI 1)) (some (t 198)) none),
 u 195 true 200 (.call ⟨.value (.func 64), #[t 199], #[28]⟩),
 y 201 (.pick (t 195) (t 200) (.const (.bool false))),
 mv 202 201,
 u 202 true 203 (.move (t 2)),
 u 202 true 204 (.move (t 9)),
 u 202 true 205 (.binOp .add 3 (t 204) (cI 1) 3),
 u 202 true 206 (.indexAddr 28 (t 203) (t 205)),
 u 202 true 207 (.load 3 (t 206)),
 u 202 true 208 (.binOp .eql 3 (t 207) (cI 2) 3),
 y 209 (.pick (t 202) (t 208) (.const (.bool false))),
 mv 210 209,
 u 210 true 211 (.move (t 2)),
 u 210 true 212 (.move (t 9)),
 u 210 true 213 (.binOp .add 3 (t 212) (cI 2) 3),
 u 210 true 214 (.slice 28 (t 211) (some (t 213)) none none),
 u 210 true 215 (.call ⟨.value (.func 64), #[t 214], #[28]⟩),
 y 216 (.pick (t 210) (t 215) (.const (.bool false))),
 y 217 (.call ⟨.value (.func 63), #[t 216, cI 3], #[4, 3]⟩),
 sg 6 217])
 .ret)))
 .skip)))))))))))))))))))))))
 (.keep [2] (.seq
 (.ops [mv 218 2,
 y 219 (.call ⟨.value (.func 64), #[t 218], #[28]⟩),
 y 220 (.call ⟨.value (.func 63), #[t 219, cI 1], #[4, 3]⟩),
 sg 6 220])
 .ret))))))))), [.tmp 6]⟩
theorem is61 : IsFA P pol (planOf pol) 61 3 a61 := ⟨⟨_, _, Try.func61, rfl, rfl, rfl, by kernel_rfl⟩, by decide⟩
theorem ok61 : a61.c.ok = true := by kernel_rfl
theorem r61 (x : denL [(.list tn), tn, tL]) : fun2 (env [(50, sp50), (62, sp62), (63, sp63), (64, sp64)] []) a61 [(.list tn), tn, tL] [tI] x = F61 x.1 x.2.1 x.2.2 := by kernel_rfl
noncomputable def sp61 : FSp := ⟨[(.list tn), tn, tL], [tI], fun x => F61 x.1 x.2.1 x.2.2⟩
theorem s61 : SpOk pol P 61 sp61 := fun x r h => fun_ok is61 (fun _ => rfl) (tyOk [(50, sp50), (62, sp62), (63, sp63), (64, sp64)] []) (kOk rfl rfl rfl (allC s50 (allC s62 (allC s63 (allC s64 allN)))) imN) ok61 rfl rfl ((r61 x).trans h)
noncomputable def a59 : FA := ⟨69, (.seq
 (.ops [y 2 (.assign (.const (.slice none 0 0)))])
 (.seq
 (.ops [y 3 (.assign (.const (.slice none 0 0)))])
 (.seq
 (.seq
 (.ops [y 4 (.assign (cI 0))])
 (.block 0 (.loop ⟨[0], [(3, .sl 0), (4, dI)], [.own tI true]⟩ (.keep [0, 3, 4] (.seq
 (.seq
 (.ops [mv 9 4,
 mv 10 0,
 lenC 11 10 22,
 y 12 (.binOp .lss 3 (t 9) (t 11) 3)])
 (.keep [0, 3, 4, 12] (.cond (t 12)
 .skip
 (.exit 0))))
 (.keep [0, 3, 4] (.jn ⟨[0, 4], [(3, .sl 0)], [.own tI true]⟩
 (.block 1 (.seq
 (.ops [y 5 (.assign (.const (.slice none 0 0)))])
 (.seq
 (.ops [y 6 (.assign (.const (.bool true)))])
 (.jn ⟨[0, 4], [(3, .sl 0), (5, .sl 1), (6, dB)], [.own tI true, .own tI true]⟩
 (.seq
 (.ops [y 7 (.assign (cI 0))])
 (.block 2 (.loop ⟨[0, 4], [(3, .sl 0), (5, .sl 1), (6, dB), (7, dI)], [.own tI true, .own tI true]⟩ (.keep [0, 3, 4, 5, 6, 7] (.seq
 (.seq
 (.ops [mv 15 7,
 mv 16 0,
 mv 17 4,
 ia 18 22 16 17,
 fa 19 55 18 2,
 ld 20 28 19,
 lenC 21 20 28,
 y 22 (.binOp .lss 3 (t 15) (t 21) 3)])
 (.keep [0, 3, 4, 5, 6, 7, 22] (.cond (t 22)
 .skip
 (.exit 2))))
 (.keep [0, 3, 4, 5, 6, 7] (.seq
 (.block 3 (.seq
 (.ops [mv 25 0,
 mv 26 4,
 ia 27 22 25 26,
 fa 28 55 27 2,
 ld 29 28 28,
 mv 30 7,
 ia 31 28 29 30,
 ld 32 3 31,
 sg 8 32])
 (.keep [0, 3, 4, 5, 6, 7, 8] (.seq
 (.jn ⟨[0, 4, 6, 7, 8], [(3, .sl 0), (5, .sl 1), (46, dB)], [.own tI true, .own tI true]⟩
 (.ops [mv 33 8,
 y 34 (.binOp .lss 3 (t 33) (cI 0) 3),
 mv 35 34,
 u 35 false 36 (.move (t 8)),
 u 35 false 37 (.move (t 4)),
 u 35 false 38 (.binOp .geq 3 (t 36) (t 37) 3),
 y 39 (.pick (t 35) (.const (.bool true)) (t 38)),
 mv 40 39,
 u 40 false 41 (.move (t 3)),
 u 40 false 42 (.move (t 8)),
 u 40 false 43 (.indexAddr 28 (t 41) (t 42)),
 u 40 false 44 (.load 3 (t 43)),
 u 40 false 45 (.binOp .eql 3 (t 44) (cI 0) 3),
 y 46 (.pick (t 40) (.const (.bool true)) (t 45))])
 (.keep [0, 3, 4, 5, 6, 7, 8, 46] (.cond (t 46)
 (.seq
 (.ops [y 6 (.assign (.const (.bool false)))])
 (.exit 2))
 .skip)))
 (.keep [0, 3, 4, 5, 6, 7, 8] (.ops [mv 47 5,
 mv 48 3,
 mv 49 8,
 ia 50 28 48 49,
 ld 51 3 50,
 y 52 (.buildSlice 28 1 #[(0, t 51)]),
 y 53 (.call ⟨.builtin .append, #[t 47, t 52], #[28, 28]⟩),
 sg 5 53]))))))
 (.keep [0, 3, 4, 5, 6, 7] (.ops [mv 23 7,
 y 24 (.binOp .add 3 (t 23) (cI 1) 3),
 sg 7 24])))))))))
 (.keep [0, 3, 4, 5, 6] (.seq
 (.ops [mv 54 6])
 (.cond (t 54)
 (.ops [mv 55 3,
 mv 56 0,
 mv 57 0,
 mv 58 4,
 ia 59 22 57 58,
 ld 60 55 59,
 mv 61 5,
 y 62 (.call ⟨.value (.func 61), #[t 56, t 60, t 61], #[22, 55, 28]⟩),
 y 63 (.buildSlice 28 1 #[(0, t 62)]),
 y 64 (.call ⟨.builtin .append, #[t 55, t 63], #[28, 28]⟩),
 sg 3 64])
 (.ops [mv 65 3,
 y 66 (.buildSlice 28 1 #[(0, cI 0)]),
 y 67 (.call ⟨.builtin .append, #[t 65, t 66], #[28, 28]⟩),
 sg 3 67]))))))))
 (.keep [0, 3, 4] (.ops [mv 13 4,
 y 14 (.binOp .add 3 (t 13) (cI 1) 3),
 sg 4 14])))))))))
 (.keep [3] (.seq
 (.ops [mv 68 3,
 sg 2 68])
 .ret))))), [.tmp 2]⟩
theorem is59 : IsFA P pol (planOf pol) 59 1 a59 := ⟨⟨_, _, Try.func59, rfl, rfl, rfl, by kernel_rfl⟩, by decide⟩
theorem ok59 : a59.c.ok = true := by kernel_rfl
theorem r59 (x : denL [(.list tn)]) : fun2 (env [(61, sp61)] []) a59 [(.list tn)] [tL] x = F59 x := by kernel_rfl
noncomputable def sp59 : FSp := ⟨[(.list tn)], [tL], fun x => F59 x⟩
theorem s59 : SpOk pol P 59 sp59 := fun x r h => fun_ok is59 (fun _ => rfl) (tyOk [(61, sp61)] []) (kOk rfl rfl rfl (allC s61 allN) imN) ok59 rfl rfl ((r59 x).trans h)
noncomputable def a51 : FA := ⟨39, (.seq
 (.ops [y 6 (.assign (cI 0))])
 (.seq
 (.ops [mv 10 0,
 y 11 (.call ⟨.value (.func 59), #[t 10], #[22]⟩),
 sg 7 11])
 (.seq
 (.ops [y 8 (.assign (.const (.slice none 0 0)))])
 (.seq
 (.seq
 (.ops [y 9 (.assign (cI 0))])
 (.block 0 (.loop ⟨[0, 1, 2, 7], [(8, .sl 0), (9, dI)], [.own tI true]⟩ (.keep [0, 1, 2, 7, 8, 9] (.seq
 (.seq
 (.ops [mv 12 9,
 mv 13 0,
 lenC 14 13 22,
 y 15 (.binOp .lss 3 (t 12) (t 14) 3)])
 (.keep [0, 1, 2, 7, 8, 9, 15] (.cond (t 15)
 .skip
 (.exit 0))))
 (.keep [0, 1, 2, 7, 8, 9] (.jn ⟨[0, 1, 2, 7, 9], [(8, .sl 0)], [.own tI true]⟩
 (.block 1 (.seq
 (.ops [mv 18 7,
 mv 19 9,
 ia 20 28 18 19,
 ld 21 3 20,
 mv 22 1,
 y 23 (.binOp .eql 3 (t 21) (t 22) 3)])
 (.keep [0, 1, 2, 7, 8, 9, 23] (.cond (t 23)
 (.ops [mv 24 8,
 mv 25 9,
 y 26 (.buildSlice 28 1 #[(0, t 25)]),
 y 27 (.call ⟨.builtin .append, #[t 24, t 26], #[28, 28]⟩),
 sg 8 27])
 .skip))))
 (.keep [0, 1, 2, 7, 8, 9] (.ops [mv 16 9,
 y 17 (.binOp .add 3 (t 16) (cI 1) 3),
 sg 9 17])))))))))
 (.keep [2, 8] (.seq
 (.ops [mv 28 8,
 mv 29 8,
 lenC 30 29 28,
 y 31 (.binOp .sub 3 (t 30) (cI 1) 3),
 mv 32 2,
 mv 33 8,
 lenC 34 33 28,
 y 35 (.call ⟨.value (.func 15), #[t 32, t 34], #[3, 3]⟩),
 y 36 (.binOp .sub 3 (t 31) (t 35) 3),
 ia 37 28 28 36,
 ld 38 3 37,
 sg 6 38])
 .ret)))))), [.tmp 6]⟩
theorem is51 : IsFA P pol (planOf pol) 51 3 a51 := ⟨⟨_, _, Try.func51, rfl, rfl, rfl, by kernel_rfl⟩, by decide⟩
theorem ok51 : a51.c.ok = true := by kernel_rfl
theorem r51 (x : denL [(.list tn), tI, tI]) : fun2 (env [(15, sp15), (59, sp59)] []) a51 [(.list tn), tI, tI] [tI] x = F51 x.1 x.2.1 x.2.2 := by kernel_rfl
noncomputable def sp51 : FSp := ⟨[(.list tn), tI, tI], [tI], fun x => F51 x.1 x.2.1 x.2.2⟩
theorem s51 : SpOk pol P 51 sp51 := fun x r h => fun_ok is51 (fun _ => rfl) (tyOk [(15, sp15), (59, sp59)] []) (kOk rfl rfl rfl (allC s15 (allC s59 allN)) imN) ok51 rfl rfl ((r51 x).trans h)
noncomputable def a60 : FA := ⟨13, (.seq
 (.ops [y 2 (.assign (cI 0))])
 (.seq
 (.jn ⟨[], [(12, dB)], []⟩
 (.ops [mv 3 0,
 y 4 (.binOp .eql 3 (t 3) (cI 27) 3),
 mv 5 4,
 u 5 false 6 (.move (t 0)),
 u 5 false 7 (.binOp .eql 3 (t 6) (cI 28) 3),
 y 8 (.pick (t 5) (.const (.bool true)) (t 7)),
 mv 9 8,
 u 9 false 10 (.move (t 0)),
 u 9 false 11 (.binOp .eql 3 (t 10) (cI 29) 3),
 y 12 (.pick (t 9) (.const (.bool true)) (t 11))])
 (.keep [12] (.cond (t 12)
 (.seq
 (.ops [y 2 (.assign (cI 2))])
 .ret)
 .skip)))
 (.keep [] (.seq
 (.ops [y 2 (.assign (cI 1))])
 .ret)))), [.tmp 2]⟩
theorem is60 : IsFA P pol (planOf pol) 60 1 a60 := ⟨⟨_, _, Try.func60, rfl, rfl, rfl, by kernel_rfl⟩, by decide⟩
theorem ok60 : a60.c.ok = true := by kernel_rfl
theorem r60 (x : denL [tI]) : fun2 (env [] []) a60 [tI] [tI] x = F60 x := by kernel_rfl
noncomputable def sp60 : FSp := ⟨[tI], [tI], fun x => F60 x⟩
theorem s60 : SpOk pol P 60 sp60 := fun x r h => fun_ok is60 (fun _ => rfl) (tyOk [] []) (kOk rfl rfl rfl allN imN) ok60 rfl rfl ((r60 x).trans h)
noncomputable def a52 : FA := ⟨20, (.seq
 (.ops [y 4 (.assign (cI 0))])
 (.seq
 (.jn ⟨[], [(19, dB)], []⟩
 (.ops [mv 5 1,
 y 6 (.binOp .eql 3 (t 5) (cI 0) 3),
 mv 7 6,
 u 7 true 8 (.move (t 0)),
 u 7 true 9 (.call ⟨.value (.func 60), #[t 8], #[3]⟩),
 u 7 true 10 (.binOp .eql 3 (t 9) (cI 2) 3),
 u 7 true 11 (.move (t 10)),
 u 11 false 12 (.move (t 0)),
 u 11 false 13 (.binOp .eql 3 (t 12) (cI 23) 3),
 u 7 true 14 (.pick (t 11) (.const (.bool true)) (t 13)),
 u 7 true 15 (.move (t 14)),
 u 15 false 16 (.move (t 0)),
 u 15 false 17 (.binOp .eql 3 (t 16) (cI 24) 3),
 u 7 true 18 (.pick (t 15) (.const (.bool true)) (t 17)),
 y 19 (.pick (t 7) (t 18) (.const (.bool false)))])
 (.keep [19] (.cond (t 19)
 (.seq
 (.ops [y 4 (.assign (cI 2))])
 .ret)
 .skip)))
 (.keep [] (.seq
 (.ops [y 4 (.assign (cI 1))])
 .ret)))), [.tmp 4]⟩
theorem is52 : IsFA P pol (planOf pol) 52 2 a52 := ⟨⟨_, _, Try.func52, rfl, rfl, rfl, by kernel_rfl⟩, by decide⟩
theorem ok52 : a52.c.ok = true := by kernel_rfl
theorem r52 (x : denL [tI, tI]) : fun2 (env [(60, sp60)] []) a52 [tI, tI] [tI] x = F52 x.1 x.2 := by kernel_rfl
noncomputable def sp52 : FSp := ⟨[tI, tI], [tI], fun x => F52 x.1 x.2⟩
theorem s52 : SpOk pol P 52 sp52 := fun x r h => fun_ok is52 (fun _ => rfl) (tyOk [(60, sp60)] []) (kOk rfl rfl rfl (allC s60 allN) imN) ok52 rfl rfl ((r52 x).trans h)
noncomputable def a48 : FA := ⟨45, (.seq
 (.ops [y 2 (.box 55 (t 0)),
 y 3 (.box 55 (t 1)),
 y 4 (.assign (.const (.bool false)))])
 (.lock 3 (.lock 2 (.seq
 (.jn ⟨[2, 3], [(26, dB)], []⟩
 (.ops [fa 6 55 2 0,
 ld 7 3 6,
 fa 8 55 3 0,
 ld 9 3 8,
 y 10 (.binOp .neq 3 (t 7) (t 9) 3),
 mv 11 10,
 u 11 false 12 (.fieldAddr 55 (t 2) 1),
 u 11 false 13 (.load 2 (t 12)),
 u 11 false 14 (.fieldAddr 55 (t 3) 1),
 u 11 false 15 (.load 2 (t 14)),
 u 11 false 16 (.binOp .neq 2 (t 13) (t 15) 2),
 y 17 (.pick (t 11) (.const (.bool true)) (t 16)),
 mv 18 17,
 u 18 false 19 (.fieldAddr 55 (t 2) 2),
 u 18 false 20 (.load 28 (t 19)),
 u 18 false 21 (.call ⟨.builtin .len, #[t 20], #[28]⟩),
 u 18 false 22 (.fieldAddr 55 (t 3) 2),
 u 18 false 23 (.load 28 (t 22)),
 u 18 false 24 (.call ⟨.builtin .len, #[t 23], #[28]⟩),
 u 18 false 25 (.binOp .neq 3 (t 21) (t 24) 3),
 y 26 (.pick (t 18) (.const (.bool true)) (t 25))])
 (.keep [2, 3, 26] (.cond (t 26)
 (.seq
 (.ops [y 4 (.assign (.const (.bool false)))])
 .ret)
 .skip)))
 (.keep [2, 3] (.seq
 (.seq
 (.ops [y 5 (.assign (cI 0))])
 (.block 0 (.loop ⟨[2, 3], [(5, dI)], []⟩ (.keep [2, 3, 5] (.seq
 (.seq
 (.ops [mv 27 5,
 fa 28 55 2 2,
 ld 29 28 28,
 lenC 30 29 28,
 y 31 (.binOp .lss 3 (t 27) (t 30) 3)])
 (.keep [2, 3, 5, 31] (.cond (t 31)
 .skip
 (.exit 0))))
 (.keep [2, 3, 5] (.seq
 (.block 1 (.seq
 (.plan [q 0 34 (.fieldAddr 55 (t 2) 2),
 qr 1 35 (.load 28 (t 34)),
 q 2 36 (.move (t 5)),
 q 3 37 (.indexAddr 28 (t 35) (t 36)),
 qr 4 38 (.load 3 (t 37)),
 q 5 39 (.fieldAddr 55 (t 3) 2),
 qr 6 40 (.load 28 (t 39)),
 q 7 41 (.move (t 5)),
 q 8 42 (.indexAddr 28 (t 40) (t 41)),
 qr 9 43 (.load 3 (t 42)),
 q 10 44 (.binOp .neq 3 (t 38) (t 43) 3)])
 (.keep [2, 3, 5, 44] (.cond (t 44)
 (.seq
 (.ops [y 4 (.assign (.const (.bool false)))])
 .ret)
 .skip))))
 (.keep [2, 3, 5] (.ops [mv 32 5,
 y 33 (.binOp .add 3 (t 32) (cI 1) 3),
 sg 5 33])))))))))
 (.keep [] (.seq
 (.ops [y 4 (.assign (.const (.bool true)))])
 .ret)))))))), [.tmp 4]⟩
theorem is48 : IsFA P pol (planOf pol) 48 2 a48 := ⟨⟨_, _, Try.func48, rfl, rfl, rfl, by kernel_rfl⟩, by decide⟩
theorem ok48 : a48.c.ok = true := by kernel_rfl
theorem r48 (x : denL [tn, tn]) : fun2 (env [] []) a48 [tn, tn] [.bool] x = F48 x.1 x.2 := by kernel_rfl
noncomputable def sp48 : FSp := ⟨[tn, tn], [.bool], fun x => F48 x.1 x.2⟩
theorem s48 : SpOk pol P 48 sp48 := fun x r h => fun_ok is48 (fun _ => rfl) (tyOk [] []) (kOk rfl rfl rfl allN imN) ok48 rfl rfl ((r48 x).trans h)
noncomputable def a54 : FA := ⟨18, (.seq
 (.ops [y 3 (.box 55 (t 1)),
 y 4 (.assign (.const (.bool false)))])
 (.lock 3 (.seq
 (.seq
 (.ops [y 5 (.assign (cI 0))])
 (.block 0 (.loop ⟨[0, 3], [(5, dI)], []⟩ (.keep [0, 3, 5] (.seq
 (.seq
 (.ops [mv 6 5,
 mv 7 0,
 lenC 8 7 22,
 y 9 (.binOp .lss 3 (t 6) (t 8) 3)])
 (.keep [0, 3, 5, 9] (.cond (t 9)
 .skip
 (.exit 0))))
 (.keep [0, 3, 5] (.seq
 (.block 1 (.seq
 (.plan [q 0 12 (.move (t 0)),
 q 1 13 (.move (t 5)),
 q 2 14 (.indexAddr 22 (t 12) (t 13)),
 qr 3 15 (.load 55 (t 14)),
 qr 4 16 (.load 55 (t 3)),
 ⟨5, [], false, .write, .yes, .call ⟨.value (.func 48), #[t 15, t 16], #[55, 55]⟩, some 17⟩])
 (.keep [0, 3, 5, 17] (.cond (t 17)
 (.seq
 (.ops [y 4 (.assign (.const (.bool true)))])
 .ret)
 .skip))))
 (.keep [0, 3, 5] (.ops [mv 10 5,
 y 11 (.binOp .add 3 (t 10) (cI 1) 3),
 sg 5 11])))))))))
 (.keep [] (.seq
 (.ops [y 4 (.assign (.const (.bool false)))])
 .ret))))), [.tmp 4]⟩
theorem is54 : IsFA P pol (planOf pol) 54 2 a54 := ⟨⟨_, _, Try.func54, rfl, rfl, rfl, by kernel_rfl⟩, by decide⟩
theorem ok54 : a54.c.ok = true := by kernel_rfl
theorem r54 (x : denL [(.list tn), tn]) : fun2 (env [(48, sp48)] []) a54 [(.list tn), tn] [.bool] x = F54 x.1 x.2 := by kernel_rfl
noncomputable def sp54 : FSp := ⟨[(.list tn), tn], [.bool], fun x => F54 x.1 x.2⟩
theorem s54 : SpOk pol P 54 sp54 := fun x r h => fun_ok is54 (fun _ => rfl) (tyOk [(48, sp48)] []) (kOk rfl rfl rfl (allC s48 allN) imN) ok54 rfl rfl ((r54 x).trans h)
noncomputable def a53 : FA := ⟨25, (.seq
 (.ops [y 2 (.assign (cI 0))])
 (.seq
 (.seq
 (.ops [mv 4 0,
 y 5 (.nilCheck (t 4)),
 fa 6 87 5 0,
 ld 7 28 6,
 lenC 8 7 28,
 y 9 (.binOp .eql 3 (t 8) (cI 0) 3)])
 (.keep [0, 9] (.cond (t 9)
 (.seq
 (.ops [y 2 (.assign (cI 0))])
 .ret)
 .skip)))
 (.keep [0] (.seq
 (.ops [mv 10 0,
 y 11 (.nilCheck (t 10)),
 fa 12 87 11 0,
 ld 13 28 12,
 y 14 (.indexAddr 28 (t 13) (cI 0)),
 ld 15 3 14,
 sg 3 15])
 (.keep [0, 3] (.seq
 (.ops [mv 16 0,
 mv 17 0,
 y 18 (.nilCheck (t 17)),
 fa 19 87 18 0,
 ld 20 28 19,
 y 21 (.slice 28 (t 20) (some (cI 1)) none none),
 y 22 (.nilCheck (t 16)),
 fa 23 87 22 0,
 ⟨.yes, .store 28 (t 23) (t 21), none⟩])
 (.keep [3, 0] (.seq
 (.ops [mv 24 3,
 sg 2 24])
 .ret)))))))), [.tmp 2]⟩
theorem is53 : IsFA P pol (planOf pol) 53 1 a53 := ⟨⟨_, _, Try.func53, rfl, rfl, rfl, by kernel_rfl⟩, by decide⟩
theorem ok53 : a53.c.ok = true := by kernel_rfl
noncomputable def sp53 : ISpec := ⟨[.bx 0 0], [.box [.sl 1, dI] true, .own tI false], 1, [dI], [(0, .bx 0 0)], [.box [.sl 1, dI] true, .own tI false], fun (x : Int × List Int) => (F53 x.1 x.2 : Option (Int × Int × List Int))⟩
theorem r53 (x : Int × List Int) : ifun2 (env [] []) a53 sp53.ins sp53.cks sp53.outs sp53.anc sp53.couts x = F53 x.1 x.2 := by kernel_rfl
theorem s53 : ImOk pol P 53 sp53 := ifun_ok is53 rfl (tyOk [] []) (kOk rfl rfl rfl allN imN) ok53 (by kernel_rfl) (by kernel_rfl) (by kernel_rfl) rfl rfl (by kernel_rfl) (fun x => r53 x)
noncomputable def a35 : FA := ⟨147, (.seq
 (.ops [y 4 (.assign (.const (.slice none 0 0)))])
 (.seq
 (.ops [y 12 (.build 55 #[(0, cI 2)]),
 y 13 (.build 55 #[(0, cI 2), (1, cI 1)]),
 y 14 (.build 55 #[(0, cI 26)]),
 y 15 (.buildSlice 22 3 #[(0, t 12), (1, t 13), (2, t 14)]),
 sg 5 15])
 (.keep [0, 1, 5] (.seq
 (.seq
 (.ops [y 6 (.assign (cI 0))])
 (.block 0 (.loop ⟨[0, 1], [(5, .sl 0), (6, dI)], [.own tn true]⟩ (.keep [0, 1, 5, 6] (.seq
 (.jn ⟨[0, 1, 6], [(5, .sl 0), (23, dB)], [.own tn true]⟩
 (.ops [mv 16 6,
 mv 17 0,
 lenC 18 17 28,
 y 19 (.binOp .lss 3 (t 16) (t 18) 3),
 mv 20 19,
 u 20 true 21 (.move (t 6)),
 u 20 true 22 (.binOp .lss 3 (t 21) (cI 14) 3),
 y 23 (.pick (t 20) (t 22) (.const (.bool false)))])
 (.keep [0, 1, 5, 6, 23] (.cond (t 23)
 .skip
 (.exit 0))))
 (.keep [0, 1, 5, 6] (.jn ⟨[0, 1, 6], [(5, .sl 0)], [.own tn true]⟩
 (.block 1 (.seq
 (.plan [q 0 26 (.move (t 0)),
 q 1 27 (.move (t 6)),
 q 2 28 (.indexAddr 28 (t 26) (t 27)),
 qr 3 29 (.load 3 (t 28)),
 q 4 30 (.binOp .quo 3 (t 29) (cI 7) 3),
 q 5 31 (.move (t 0)),
 q 6 32 (.move (t 6)),
 q 7 33 (.indexAddr 28 (t 31) (t 32)),
 qr 8 34 (.load 3 (t 33)),
 q 9 35 (.binOp .quo 3 (t 34) (cI 101) 3),
 q 10 36 (.move (t 0)),
 q 11 37 (.move (t 6)),
 q 12 38 (.indexAddr 28 (t 36) (t 37)),
 qr 13 39 (.load 3 (t 38)),
 q 14 40 (.binOp .quo 3 (t 39) (cI 1009) 3),
 ⟨15, [], false, .alloc, .yes, .buildSlice 28 3 #[(0, t 30), (1, t 35), (2, t 40)], some 41⟩,
 q 16 42 (.build 87 #[(0, t 41)]),
 ⟨17, [], false, .alloc, .yes, .box 87 (t 42), some 43⟩,
 q 18 7 (.assign (t 43))])
 (.keep [0, 1, 5, 6, 7] (.seq
 (.ops [mv 44 0,
 mv 45 6,
 ia 46 28 44 45,
 ld 47 3 46,
 y 48 (.call ⟨.value (.func 15), #[t 47, cI 19], #[3, 3]⟩),
 y 49 (.binOp .add 3 (cI 4) (t 48) 3),
 y 50 (.build 55 #[(0, t 49)]),
 y 8 (.alloc 55),
 ⟨.yes, .store 55 (t 8) (t 50), none⟩])
 (.keep [0, 1, 5, 6, 7, 8] (.jn ⟨[0, 1, 6], [(5, .sl 0), (7, .bx 1 0), (8, .bx 2 0)], [.own tn true, .box [.sl 3, dI] true, .box [dI, dI, .nils] true, .own tI true]⟩
 (.jn ⟨[0, 1, 6], [(5, .sl 0), (7, .bx 1 0), (8, .bx 2 0), (60, dB)], [.own tn true, .box [.sl 3, dI] true, .box [dI, dI, .nils] true, .own tI true]⟩
 (.ops [mv 51 1,
 y 52 (.unOp .not 4 (t 51)),
 mv 53 52,
 u 53 true 54 (.move (t 0)),
 u 53 true 55 (.move (t 6)),
 u 53 true 56 (.indexAddr 28 (t 54) (t 55)),
 u 53 true 57 (.load 3 (t 56)),
 u 53 true 58 (.call ⟨.value (.func 15), #[t 57, cI 9], #[3, 3]⟩),
 u 53 true 59 (.binOp .gtr 3 (t 58) (cI 5) 3),
 y 60 (.pick (t 53) (t 59) (.const (.bool false)))])
 (.keep [0, 1, 5, 6, 7, 8, 60] (.cond (t 60)
 (.ops [y 61 (.buildSlice 28 5 #[(0, cI 23), (1, cI 27), (2, cI 28), (3, cI 29), (4, cI 24)]),
 mv 62 0,
 mv 63 6,
 ia 64 28 62 63,
 ld 65 3 64,
 y 66 (.binOp .quo 3 (t 65) (cI 9) 3),
 y 67 (.call ⟨.value (.func 15), #[t 66, cI 5], #[3, 3]⟩),
 ia 68 28 61 67,
 ld 69 3 68,
 fa 70 55 8 0,
 ⟨.yes, .store 3 (t 70) (t 69), none⟩])
 .skip)))
 (.keep [0, 1, 5, 6, 7, 8] (.jn ⟨[0, 1, 6], [(5, .sl 0), (7, .bx 1 0), (8, .bx 2 0)], [.own tn true, .box [.sl 3, dI] true, .box [dI, dI, .nils] true, .own tI true]⟩
 (.seq
 (.ops [mv 71 0,
 mv 72 6,
 ia 73 28 71 72,
 ld 74 3 73,
 y 75 (.call ⟨.value (.func 15), #[t 74, cI 11], #[3, 3]⟩),
 y 76 (.binOp .eql 3 (t 75) (cI 0) 3)])
 (.keep [0, 1, 5, 6, 7, 8, 76] (.cond (t 76)
 (.plan [q 0 77 (.move (t 0)),
 q 1 78 (.move (t 6)),
 q 2 79 (.indexAddr 28 (t 77) (t 78)),
 qr 3 80 (.load 3 (t 79)),
 q 4 81 (.binOp .quo 3 (t 80) (cI 11) 3),
 q 5 82 (.move (t 0)),
 q 6 83 (.move (t 6)),
 q 7 84 (.indexAddr 28 (t 82) (t 83)),
 qr 8 85 (.load 3 (t 84)),
 ⟨9, [], false, .write, .yes, .call ⟨.value (.func 49), #[t 81, t 85], #[3, 2]⟩, some 86⟩,
 q 10 87 (.build 55 #[(0, cI 1), (1, t 86)]),
 ⟨11, [], false, .write, .yes, .store 55 (t 8) (t 87), none⟩])
 .skip)))
 (.keep [0, 1, 5, 6, 7, 8] (.seq
 (.ops [fa 89 55 8 0,
 ld 90 3 89,
 y 91 (.call ⟨.value (.func 50), #[t 90], #[3]⟩),
 mv 88 91,
 y 92 (.extract (t 88) 0),
 y 93 (.extract (t 88) 1),
 sg 9 92,
 sg 10 93])
 (.keep [0, 1, 5, 6, 7, 8, 9] (.seq
 (.seq
 (.ops [y 11 (.assign (cI 0))])
 (.block 2 (.loop ⟨[0, 1, 6, 9], [(5, .sl 0), (7, .bx 1 0), (8, .bx 2 0), (11, dI)], [.own tn true, .box [.sl 3, dI] true, .box [dI, dI, .sl 4] true, .own tI false, .own tI true]⟩ (.keep [0, 1, 5, 6, 7, 8, 9, 11] (.seq
 (.seq
 (.ops [mv 94 11,
 mv 95 9,
 y 96 (.binOp .lss 3 (t 94) (t 95) 3)])
 (.cond (t 96)
 .skip
 (.exit 2)))
 (.keep [0, 1, 5, 6, 7, 8, 9, 11] (.seq
 (.block 3 (.plan [q 0 99 (.fieldAddr 55 (t 8) 2),
 qn 1 100 (.load 28 (t 99)),
 q 2 101 (.move (t 5)),
 q 3 102 (.fieldAddr 55 (t 8) 0),
 qr 4 103 (.load 3 (t 102)),
 q 5 104 (.move (t 11)),
 q 7 106 (.move (t 7)),
 ⟨6, [1], false, .write, .yes, .call ⟨.value (.func 52), #[t 103, t 104], #[3, 3]⟩, some 105⟩,
 ⟨8, [1], false, .write, .yes, .call ⟨.value (.func 53), #[t 106], #[85]⟩, some 107⟩,
 ⟨9, [1], false, .write, .yes, .call ⟨.value (.func 51), #[t 101, t 105, t 107], #[22, 3, 3]⟩, some 108⟩,
 ⟨10, [1], false, .alloc, .yes, .buildSlice 28 1 #[(0, t 108)], some 109⟩,
 ⟨11, [], false, .write, .yes, .call ⟨.builtin .append, #[t 100, t 109], #[28, 28]⟩, some 110⟩,
 q 12 111 (.fieldAddr 55 (t 8) 2),
 ⟨13, [], false, .write, .yes, .store 28 (t 111) (t 110), none⟩]))
 (.keep [0, 1, 5, 6, 7, 8, 9, 11] (.ops [mv 97 11,
 y 98 (.binOp .add 3 (t 97) (cI 1) 3),
 sg 11 98])))))))))
 (.keep [0, 1, 5, 6, 8] (.jn ⟨[0, 1, 6], [(5, .sl 0), (8, .bx 1 0)], [.own tn true, .box [dI, dI, .sl 2] true, .own tI true]⟩
 (.seq
 (.ops [fa 112 55 8 0,
 ld 113 3 112,
 y 114 (.binOp .eql 3 (t 113) (cI 27) 3)])
 (.cond (t 114)
 (.ops [mv 115 0,
 mv 116 6,
 ia 117 28 115 116,
 ld 118 3 117,
 y 119 (.binOp .quo 3 (t 118) (cI 5) 3),
 y 120 (.call ⟨.value (.func 15), #[t 119, cI 2], #[3, 3]⟩),
 y 121 (.binOp .add 2 (cI 1) (t 120) 2),
 fa 122 55 8 1,
 ⟨.yes, .store 2 (t 122) (t 121), none⟩])
 .skip))
 (.keep [0, 1, 5, 6, 8] (.jn ⟨[0, 1, 6], [(5, .sl 0), (8, .bx 1 0)], [.own tn true, .box [dI, dI, .sl 2] true, .own tI true]⟩
 (.jn ⟨[0, 1, 6], [(5, .sl 0), (8, .bx 1 0), (130, dB)], [.own tn true, .box [dI, dI, .sl 2] true, .own tI true]⟩
 (.ops [fa 123 55 8 0,
 ld 124 3 123,
 y 125 (.binOp .eql 3 (t 124) (cI 23) 3),
 mv 126 125,
 u 126 false 127 (.fieldAddr 55 (t 8) 0),
 u 126 false 128 (.load 3 (t 127)),
 u 126 false 129 (.binOp .eql 3 (t 128) (cI 28) 3),
 y 130 (.pick (t 126) (.const (.bool true)) (t 129))])
 (.keep [0, 1, 5, 6, 8, 130] (.cond (t 130)
 (.ops [mv 131 0,
 mv 132 6,
 ia 133 28 131 132,
 ld 134 3 133,
 y 135 (.binOp .quo 3 (t 134) (cI 5) 3),
 y 136 (.call ⟨.value (.func 15), #[t 135, cI 2], #[3, 3]⟩),
 fa 137 55 8 1,
 ⟨.yes, .store 2 (t 137) (t 136), none⟩])
 .skip)))
 (.keep [0, 1, 5, 6, 8] (.seq
 (.ops [mv 138 5,
 ld 139 55 8,
 y 140 (.call ⟨.value (.func 54), #[t 138, t 139], #[22, 55]⟩),
 y 141 (.unOp .not 4 (t 140))])
 (.keep [0, 1, 5, 6, 8, 141] (.cond (t 141)
 (.ops [mv 142 5,
 ld 143 55 8,
 y 144 (.buildSlice 22 1 #[(0, t 143)]),
 y 145 (.call ⟨.builtin .append, #[t 142, t 144], #[22, 22]⟩),
 sg 5 145])
 .skip))))))))))))))))))))
 (.keep [0, 1, 5, 6] (.ops [mv 24 6,
 y 25 (.binOp .add 3 (t 24) (cI 1) 3),
 sg 6 25])))))))))
 (.keep [5] (.seq
 (.ops [mv 146 5,
 sg 4 146])
 .ret)))))), [.tmp 4]⟩
theorem is35 : IsFA P pol (planOf pol) 35 2 a35 := ⟨⟨_, _, Try.func35, rfl, rfl, rfl, by kernel_rfl⟩, by decide⟩
theorem ok35 : a35.c.ok = true := by kernel_rfl
theorem r35 (x : denL [tL, .bool]) : fun2 (env [(15, sp15), (49, sp49), (50, sp50), (51, sp51), (52, sp52), (54, sp54)] [(53, sp53)]) a35 [tL, .bool] [(.list tn)] x = F35 x.1 x.2 := by kernel_rfl
noncomputable def sp35 : FSp := ⟨[tL, .bool], [(.list tn)], fun x => F35 x.1 x.2⟩
theorem s35 : SpOk pol P 35 sp35 := fun x r h => fun_ok is35 (fun _ => rfl) (tyOk [(15, sp15), (49, sp49), (50, sp50), (51, sp51), (52, sp52), (54, sp54)] [(53, sp53)]) (kOk rfl rfl rfl (allC s15 (allC s49 (allC s50 (allC s51 (allC s52 (allC s54 allN)))))) (imC s53 imN)) ok35 rfl rfl ((r35 x).trans h)
noncomputable def a36 : FA := ⟨111, (.seq
 (.ops [y 6 (.assign (.const (.slice none 0 0)))])
 (.seq
 (.ops [y 10 (.buildSlice 22 0 #[]),
 mv 11 0,
 y 12 (.call ⟨.builtin .append, #[t 10, t 11], #[22, 22]⟩),
 sg 7 12])
 (.keep [1, 2, 7] (.seq
 (.seq
 (.ops [mv 13 7,
 lenC 14 13 22,
 y 15 (.binOp .eql 3 (t 14) (cI 0) 3)])
 (.cond (t 15)
 (.seq
 (.ops [mv 16 7,
 sg 6 16])
 .ret)
 .skip))
 (.keep [1, 2, 7] (.seq
 (.ops [mv 17 2,
 mv 18 7,
 lenC 19 18 22,
 y 20 (.call ⟨.value (.func 15), #[t 17, t 19], #[3, 3]⟩),
 sg 8 20])
 (.keep [1, 2, 7, 8] (.seq
 (.ops [mv 21 7,
 mv 22 8,
 ia 23 22 21 22,
 ld 24 55 23,
 y 9 (.alloc 55),
 ⟨.yes, .store 55 (t 9) (t 24), none⟩])
 (.keep [1, 2, 7, 8, 9] (.seq
 (.ops [y 25 (.buildSlice 28 0 #[]),
 fa 26 55 9 2,
 ld 27 28 26,
 y 28 (.call ⟨.builtin .append, #[t 25, t 27], #[28, 28]⟩),
 fa 29 55 9 2,
 ⟨.yes, .store 28 (t 29) (t 28), none⟩])
 (.keep [1, 2, 7, 8, 9] (.jn ⟨[8], [(7, .sl 0), (9, .bx 1 0)], [.own tn true, .box [dI, dI, .sl 2] true, .own tI false]⟩
 (.seq
 (.ops [mv 30 1,
 y 31 (.call ⟨.value (.func 15), #[t 30, cI 10], #[3, 3]⟩)])
 (.block 0 (.seq
 (.ops [y 33 (.binOp .eql 3 (t 31) (cI 0) 3),
 sg 32 33])
 (.cond (t 32)
 (.ops [mv 34 1,
 y 35 (.binOp .quo 3 (t 34) (cI 10) 3),
 y 36 (.call ⟨.value (.func 15), #[t 35, cI 36], #[3, 3]⟩),
 y 37 (.binOp .sub 3 (t 36) (cI 1) 3),
 fa 38 55 9 0,
 ⟨.yes, .store 3 (t 38) (t 37), none⟩])
 (.seq
 (.ops [y 40 (.binOp .eql 3 (t 31) (cI 1) 3),
 sg 39 40])
 (.cond (t 39)
 (.ops [mv 41 1,
 y 42 (.binOp .quo 3 (t 41) (cI 10) 3),
 y 43 (.call ⟨.value (.func 15), #[t 42, cI 300], #[3, 3]⟩),
 y 44 (.binOp .sub 3 (t 43) (cI 3) 3),
 fa 45 55 9 1,
 ⟨.yes, .store 2 (t 45) (t 44), none⟩])
 (.seq
 (.ops [y 47 (.binOp .eql 3 (t 31) (cI 2) 3),
 sg 46 47])
 (.cond (t 46)
 (.plan [q 0 48 (.fieldAddr 55 (t 9) 2),
 qn 1 49 (.load 28 (t 48)),
 q 2 50 (.move (t 1)),
 q 3 51 (.binOp .quo 3 (t 50) (cI 10) 3),
 q 4 52 (.move (t 7)),
 qr 5 53 (.call ⟨.builtin .len, #[t 52], #[22]⟩),
 q 6 54 (.binOp .add 3 (t 53) (cI 2) 3),
 ⟨7, [1], false, .write, .yes, .call ⟨.value (.func 15), #[t 51, t 54], #[3, 3]⟩, some 55⟩,
 q 8 56 (.binOp .sub 3 (t 55) (cI 1) 3),
 ⟨9, [1], false, .alloc, .yes, .buildSlice 28 1 #[(0, t 56)], some 57⟩,
 ⟨10, [], false, .write, .yes, .call ⟨.builtin .append, #[t 49, t 57], #[28, 28]⟩, some 58⟩,
 q 11 59 (.fieldAddr 55 (t 9) 2),
 ⟨12, [], false, .write, .yes, .store 28 (t 59) (t 58), none⟩])
 (.seq
 (.ops [y 61 (.binOp .eql 3 (t 31) (cI 3) 3),
 sg 60 61])
 (.cond (t 60)
 (.seq
 (.ops [fa 62 55 9 2,
 ld 63 28 62,
 lenC 64 63 28,
 y 65 (.binOp .gtr 3 (t 64) (cI 0) 3)])
 (.keep [1, 2, 7, 8, 9, 65] (.cond (t 65)
 (.plan [q 0 66 (.fieldAddr 55 (t 9) 2),
 qn 1 67 (.load 28 (t 66)),
 q 2 68 (.move (t 1)),
 q 3 69 (.binOp .quo 3 (t 68) (cI 10) 3),
 q 4 70 (.fieldAddr 55 (t 9) 2),
 qr 5 71 (.load 28 (t 70)),
 qr 6 72 (.call ⟨.builtin .len, #[t 71], #[28]⟩),
 q 8 74 (.move (t 2)),
 q 9 75 (.binOp .quo 3 (t 74) (cI 3) 3),
 q 10 76 (.move (t 7)),
 qn 11 77 (.call ⟨.builtin .len, #[t 76], #[22]⟩),
 q 12 78 (.binOp .add 3 (t 77) (cI 2) 3),
 ⟨7, [1, 11], false, .write, .yes, .call ⟨.value (.func 15), #[t 69, t 72], #[3, 3]⟩, some 73⟩,
 ⟨13, [1], false, .write, .yes, .call ⟨.value (.func 15), #[t 75, t 78], #[3, 3]⟩, some 79⟩,
 q 14 80 (.binOp .sub 3 (t 79) (cI 1) 3),
 q 15 81 (.indexAddr 28 (t 67) (t 73)),
 ⟨16, [], false, .write, .yes, .store 3 (t 81) (t 80), none⟩])
 .skip)))
 (.seq
 (.ops [y 83 (.binOp .eql 3 (t 31) (cI 4) 3),
 sg 82 83])
 (.cond (t 82)
 (.seq
 (.ops [fa 84 55 9 2,
 ld 85 28 84,
 lenC 86 85 28,
 y 87 (.binOp .gtr 3 (t 86) (cI 0) 3)])
 (.keep [7, 8, 9, 87] (.cond (t 87)
 (.ops [fa 88 55 9 2,
 ld 89 28 88,
 y 90 (.slice 28 (t 89) (some (cI 1)) none none),
 fa 91 55 9 2,
 ⟨.yes, .store 28 (t 91) (t 90), none⟩])
 .skip)))
 (.seq
 (.ops [y 93 (.binOp .eql 3 (t 31) (cI 5) 3),
 sg 92 93])
 (.cond (t 92)
 (.ops [mv 94 7,
 ld 95 55 9,
 y 96 (.buildSlice 22 1 #[(0, t 95)]),
 y 97 (.call ⟨.builtin .append, #[t 94, t 96], #[22, 22]⟩),
 sg 7 97])
 (.seq
 (.ops [y 99 (.binOp .eql 3 (t 31) (cI 6) 3),
 sg 98 99])
 (.cond (t 98)
 (.seq
 (.ops [fa 100 55 9 0,
 ⟨.yes, .store 3 (t 100) (cI 3), none⟩])
 (.seq
 (.ops [mv 101 1,
 y 102 (.binOp .quo 3 (t 101) (cI 10) 3),
 y 103 (.call ⟨.value (.func 15), #[t 102, cI 40], #[3, 3]⟩),
 fa 104 55 9 1,
 ⟨.yes, .store 2 (t 104) (t 103), none⟩])
 (.keep [7, 8, 9] (.ops [fa 105 55 9 2,
 ⟨.yes, .store 28 (t 105) (.const (.slice none 0 0)), none⟩]))))
 .skip))))))))))))))))
 (.keep [7, 8, 9] (.seq
 (.ops [mv 106 7,
 mv 107 8,
 ld 108 55 9,
 ia 109 22 106 107,
 ⟨.yes, .store 55 (t 109) (t 108), none⟩])
 (.keep [7] (.seq
 (.ops [mv 110 7,
 sg 6 110])
 .ret)))))))))))))))), [.tmp 6]⟩
theorem is36 : IsFA P pol (planOf pol) 36 3 a36 := ⟨⟨_, _, Try.func36, rfl, rfl, rfl, by kernel_rfl⟩, by decide⟩
theorem ok36 : a36.c.ok = true := by kernel_rfl
theorem r36 (x : denL [(.list tn), tI, tI]) : fun2 (env [(15, sp15)] []) a36 [(.list tn), tI, tI] [(.list tn)] x = F36 x.1 x.2.1 x.2.2 := by kernel_rfl
noncomputable def sp36 : FSp := ⟨[(.list tn), tI, tI], [(.list tn)], fun x => F36 x.1 x.2.1 x.2.2⟩
theorem s36 : SpOk pol P 36 sp36 := fun x r h => fun_ok is36 (fun _ => rfl) (tyOk [(15, sp15)] []) (kOk rfl rfl rfl (allC s15 allN) imN) ok36 rfl rfl ((r36 x).trans h)
noncomputable def a38 : FA := ⟨49, (.seq
 (.ops [y 4 (.assign (cI 0))])
 (.seq
 (.seq
 (.ops [mv 7 0,
 lenC 8 7 22,
 y 9 (.binOp .sub 3 (t 8) (cI 1) 3),
 sg 5 9])
 (.keep [0, 1, 5] (.block 0 (.loop ⟨[0, 1], [(5, dI)], []⟩ (.keep [0, 1, 5] (.seq
 (.seq
 (.ops [mv 10 5,
 y 11 (.binOp .geq 3 (t 10) (cI 0) 3)])
 (.cond (t 11)
 .skip
 (.exit 0)))
 (.keep [0, 1, 5] (.seq
 (.block 1 (.jn ⟨[0, 1, 5], [(6, dB)], []⟩
 (.ops [mv 14 0,
 mv 15 5,
 ia 16 22 14 15,
 fa 17 55 16 0,
 ld 18 3 17,
 y 19 (.binOp .geq 3 (t 18) (cI 1) 3),
 mv 20 19,
 u 20 true 21 (.move (t 0)),
 u 20 true 22 (.move (t 5)),
 u 20 true 23 (.indexAddr 22 (t 21) (t 22)),
 u 20 true 24 (.fieldAddr 55 (t 23) 0),
 u 20 true 25 (.load 3 (t 24)),
 u 20 true 26 (.binOp .leq 3 (t 25) (cI 24) 3),
 y 27 (.pick (t 20) (t 26) (.const (.bool false))),
 mv 28 27,
 u 28 false 29 (.move (t 0)),
 u 28 false 30 (.move (t 5)),
 u 28 false 31 (.indexAddr 22 (t 29) (t 30)),
 u 28 false 32 (.fieldAddr 55 (t 31) 0),
 u 28 false 33 (.load 3 (t 32)),
 u 28 false 34 (.binOp .eql 3 (t 33) (cI 25) 3),
 u 28 false 35 (.move (t 34)),
 u 35 true 36 (.move (t 0)),
 u 35 true 37 (.move (t 5)),
 u 35 true 38 (.indexAddr 22 (t 36) (t 37)),
 u 35 true 39 (.fieldAddr 55 (t 38) 1),
 u 35 true 40 (.load 2 (t 39)),
 u 35 true 41 (.binOp .neq 2 (t 40) (cI 0) 2),
 u 28 false 42 (.pick (t 35) (t 41) (.const (.bool false))),
 y 43 (.pick (t 28) (.const (.bool true)) (t 42)),
 sg 6 43])
 (.keep [0, 1, 5, 6] (.seq
 (.ops [mv 44 6,
 mv 45 1,
 y 46 (.binOp .eql 3 (t 45) (cI 1) 3),
 y 47 (.binOp .eql 4 (t 44) (t 46) 4)])
 (.keep [0, 1, 5, 47] (.cond (t 47)
 (.seq
 (.ops [mv 48 5,
 sg 4 48])
 .ret)
 .skip))))))
 (.keep [0, 1, 5] (.ops [mv 12 5,
 y 13 (.binOp .sub 3 (t 12) (cI 1) 3),
 sg 5 13]))))))))))
 (.keep [] (.seq
 (.ops [y 4 (.assign (cI 0))])
 .ret)))), [.tmp 4]⟩
theorem is38 : IsFA P pol (planOf pol) 38 2 a38 := ⟨⟨_, _, Try.func38, rfl, rfl, rfl, by kernel_rfl⟩, by decide⟩
theorem ok38 : a38.c.ok = true := by kernel_rfl
theorem r38 (x : denL [(.list tn), tI]) : fun2 (env [] []) a38 [(.list tn), tI] [tI] x = F38 x.1 x.2 := by kernel_rfl
noncomputable def sp38 : FSp := ⟨[(.list tn), tI], [tI], fun x => F38 x.1 x.2⟩
theorem s38 : SpOk pol P 38 sp38 := fun x r h => fun_ok is38 (fun _ => rfl) (tyOk [] []) (kOk rfl rfl rfl allN imN) ok38 rfl rfl ((r38 x).trans h)
noncomputable def a37 : FA := ⟨24, (.seq
 (.ops [y 4 (.assign (cI 0))])
 (.seq
 (.ops [mv 6 0,
 y 7 (.nilCheck (t 6)),
 fa 8 73 7 0,
 ld 9 3 8,
 mv 10 1,
 y 11 (.call ⟨.value (.func 15), #[t 9, t 10], #[3, 3]⟩),
 sg 5 11])
 (.keep [0, 1, 5] (.seq
 (.ops [mv 12 0,
 mv 13 0,
 y 14 (.nilCheck (t 13)),
 fa 15 73 14 0,
 ld 16 3 15,
 mv 17 5,
 y 18 (.binOp .sub 3 (t 16) (t 17) 3),
 mv 19 1,
 y 20 (.binOp .quo 3 (t 18) (t 19) 3),
 y 21 (.nilCheck (t 12)),
 fa 22 73 21 0,
 ⟨.yes, .store 3 (t 22) (t 20), none⟩])
 (.keep [5, 0] (.seq
 (.ops [mv 23 5,
 sg 4 23])
 .ret)))))), [.tmp 4]⟩
theorem is37 : IsFA P pol (planOf pol) 37 2 a37 := ⟨⟨_, _, Try.func37, rfl, rfl, rfl, by kernel_rfl⟩, by decide⟩
theorem ok37 : a37.c.ok = true := by kernel_rfl
noncomputable def sp37 : ISpec := ⟨[.bx 0 0, dI], [.box [dI] true], 1, [dI], [(0, .bx 0 0)], [.box [dI] true], fun (x : Int × Int) => (F37 x.1 x.2 : Option (Int × Int))⟩
theorem r37 (x : Int × Int) : ifun2 (env [(15, sp15)] []) a37 sp37.ins sp37.cks sp37.outs sp37.anc sp37.couts x = F37 x.1 x.2 := by kernel_rfl
theorem s37 : ImOk pol P 37 sp37 := ifun_ok is37 rfl (tyOk [(15, sp15)] []) (kOk rfl rfl rfl (allC s15 allN) imN) ok37 (by kernel_rfl) (by kernel_rfl) (by kernel_rfl) rfl rfl (by kernel_rfl) (fun x => r37 x)
noncomputable def a13 : FA := ⟨102, (.seq
 (.ops [y 8 (.alloc 26)])
 (.seq
 (.ops [mv 15 0,
 y 16 (.call ⟨.value (.func 35), #[t 15, .const (.bool false)], #[28, 4]⟩),
 y 17 (.build 26 #[(0, t 16), (3, cI 0), (4, cI 2)]),
 y 9 (.alloc 26),
 ⟨.yes, .store 26 (t 9) (t 17), none⟩])
 (.keep [1, 2, 3, 8, 9] (.jn ⟨[1], [(8, .bx 0 0), (9, .bx 1 0)], [.box [.nils, .nils, .nils, dI, dI, dI, dI] true, .box [.dat (.list tn), .nils, .nils, dI, dI, dI, dI] true]⟩
 (.seq
 (.ops [mv 18 2,
 y 19 (.call ⟨.value (.func 15), #[t 18, cI 3], #[3, 3]⟩),
 y 20 (.binOp .eql 3 (t 19) (cI 1) 3)])
 (.cond (t 20)
 (.ops [fa 21 26 9 0,
 ld 22 22 21,
 mv 23 2,
 y 24 (.binOp .quo 3 (t 23) (cI 3) 3),
 mv 25 3,
 y 26 (.call ⟨.value (.func 36), #[t 22, t 24, t 25], #[22, 3, 3]⟩),
 fa 27 26 9 0,
 ⟨.yes, .store 22 (t 27) (t 26), none⟩])
 .skip))
 (.keep [1, 8, 9] (.seq
 (.ops [fa 28 26 9 0,
 ld 29 22 28,
 lenC 30 29 22,
 sg 10 30])
 (.keep [1, 8, 9, 10] (.seq
 (.seq
 (.ops [y 11 (.assign (cI 0))])
 (.block 0 (.loop ⟨[1, 10], [(8, .bx 0 0), (9, .bx 1 0), (11, dI)], [.box [.nils, .nils, .nils, dI, dI, dI, dI] true, .box [.dat (.list tn), .sl 2, .nils, dI, dI, dI, dI] true, .own ts true]⟩ (.keep [1, 8, 9, 10, 11] (.seq
 (.jn ⟨[1, 10, 11], [(8, .bx 0 0), (9, .bx 1 0), (38, dB)], [.box [.nils, .nils, .nils, dI, dI, dI, dI] true, .box [.dat (.list tn), .sl 2, .nils, dI, dI, dI, dI] true, .own ts true]⟩
 (.ops [mv 31 11,
 mv 32 1,
 lenC 33 32 28,
 y 34 (.binOp .lss 3 (t 31) (t 33) 3),
 mv 35 34,
 u 35 true 36 (.move (t 11)),
 u 35 true 37 (.binOp .lss 3 (t 36) (cI 16) 3),
 y 38 (.pick (t 35) (t 37) (.const (.bool false)))])
 (.keep [1, 8, 9, 10, 11, 38] (.cond (t 38)
 .skip
 (.exit 0))))
 (.keep [1, 8, 9, 10, 11] (.seq
 (.block 1 (.seq
 (.ops [mv 41 1,
 mv 42 11,
 ia 43 28 41 42,
 ld 44 3 43,
 y 45 (.build 73 #[(0, t 44)]),
 y 46 (.box 73 (t 45)),
 sg 12 46])
 (.keep [1, 8, 9, 10, 11, 12] (.seq
 (.plan [⟨0, [], true, .alloc, .yes, .buildSlice 28 5 #[(0, cI 0), (1, cI 1), (2, cI (-1)), (3, cI 2), (4, cI 1)], some 47⟩,
 q 1 48 (.move (t 12)),
 q 5 52 (.move (t 12)),
 q 6 53 (.move (t 10)),
 q 7 54 (.binOp .add 3 (t 53) (cI 1) 3),
 q 9 56 (.move (t 12)),
 q 10 57 (.move (t 10)),
 q 11 58 (.binOp .add 3 (t 57) (cI 1) 3),
 ⟨14, [], true, .alloc, .yes, .alloc 44, some 13⟩,
 ⟨2, [0, 14], false, .write, .yes, .call ⟨.value (.func 37), #[t 48, cI 5], #[71, 3]⟩, some 49⟩,
 q 3 50 (.indexAddr 28 (t 47) (t 49)),
 ⟨4, [14], true, .read, .yes, .load 3 (t 50), some 51⟩,
 ⟨8, [0, 14, 4], false, .write, .yes, .call ⟨.value (.func 37), #[t 52, t 54], #[71, 3]⟩, some 55⟩,
 ⟨12, [0, 14, 4], false, .write, .yes, .call ⟨.value (.func 37), #[t 56, t 58], #[71, 3]⟩, some 59⟩,
 q 13 60 (.build 44 #[(2, t 51), (0, t 55), (1, t 59)]),
 ⟨15, [], false, .write, .yes, .store 44 (t 13) (t 60), none⟩])
 (.keep [1, 8, 9, 10, 11, 12, 13] (.jn ⟨[1, 10, 11], [(8, .bx 0 0), (9, .bx 1 0), (12, .bx 2 0), (13, .bx 3 0)], [.box [.nils, .nils, .nils, dI, dI, dI, dI] true, .box [.dat (.list tn), .sl 4, .nils, dI, dI, dI, dI] true, .box [dI] true, .box [dI, dI, dI, .nils, .nils] true, .own ts true]⟩
 (.seq
 (.ops [fa 61 44 13 0,
 ld 62 3 61,
 mv 63 10,
 y 64 (.binOp .eql 3 (t 62) (t 63) 3)])
 (.keep [1, 8, 9, 10, 11, 12, 13, 64] (.cond (t 64)
 (.ops [mv 65 12,
 y 66 (.call ⟨.value (.func 37), #[t 65, cI 2], #[71, 3]⟩),
 mv 67 10,
 y 68 (.binOp .mul 3 (t 66) (t 67) 3),
 y 69 (.binOp .add 3 (cI (-1)) (t 68) 3),
 fa 70 44 13 0,
 ⟨.yes, .store 3 (t 70) (t 69), none⟩])
 .skip)))
 (.keep [1, 8, 9, 10, 11, 12, 13] (.seq
 (.seq
 (.ops [mv 71 12,
 y 72 (.call ⟨.value (.func 37), #[t 71, cI 3], #[71, 3]⟩),
 sg 14 72])
 (.block 2 (.loop ⟨[1, 10, 11], [(8, .bx 0 0), (9, .bx 1 0), (12, .bx 2 0), (13, .bx 3 0), (14, dI)], [.box [.nils, .nils, .nils, dI, dI, dI, dI] true, .box [.dat (.list tn), .sl 4, .nils, dI, dI, dI, dI] true, .box [dI] true, .box [dI, dI, dI, .sl 5, .nils] true, .own ts true, .own tI true]⟩ (.keep [1, 8, 9, 10, 11, 12, 13, 14] (.seq
 (.seq
 (.ops [mv 73 14,
 y 74 (.binOp .gtr 3 (t 73) (cI 0) 3)])
 (.cond (t 74)
 .skip
 (.exit 2)))
 (.keep [1, 8, 9, 10, 11, 12, 13, 14] (.seq
 (.block 3 (.plan [q 0 77 (.fieldAddr 44 (t 13) 3),
 qn 1 78 (.load 28 (t 77)),
 q 2 79 (.move (t 12)),
 q 3 80 (.move (t 10)),
 q 4 81 (.binOp .add 3 (t 80) (cI 2) 3),
 ⟨5, [1], false, .write, .yes, .call ⟨.value (.func 37), #[t 79, t 81], #[71, 3]⟩, some 82⟩,
 q 6 83 (.binOp .sub 3 (t 82) (cI 1) 3),
 ⟨7, [1], false, .alloc, .yes, .buildSlice 28 1 #[(0, t 83)], some 84⟩,
 ⟨8, [], false, .write, .yes, .call ⟨.builtin .append, #[t 78, t 84], #[28, 28]⟩, some 85⟩,
 q 9 86 (.fieldAddr 44 (t 13) 3),
 ⟨10, [], false, .write, .yes, .store 28 (t 86) (t 85), none⟩]))
 (.keep [1, 8, 9, 10, 11, 12, 13, 14] (.ops [mv 75 14,
 y 76 (.binOp .sub 3 (t 75) (cI 1) 3),
 sg 14 76])))))))))
 (.keep [1, 8, 9, 10, 11, 13] (.ops [fa 87 26 9 1,
 ld 88 23 87,
 ld 89 44 13,
 y 90 (.buildSlice 23 1 #[(0, t 89)]),
 y 91 (.call ⟨.builtin .append, #[t 88, t 90], #[23, 23]⟩),
 fa 92 26 9 1,
 ⟨.yes, .store 23 (t 92) (t 91), none⟩]))))))))))
 (.keep [1, 8, 9, 10, 11] (.ops [mv 39 11,
 y 40 (.binOp .add 3 (t 39) (cI 1) 3),
 sg 11 40])))))))))
 (.keep [8, 9] (.seq
 (.plan [q 0 93 (.fieldAddr 26 (t 9) 0),
 qr 1 94 (.load 22 (t 93)),
 q 3 96 (.fieldAddr 26 (t 9) 0),
 qn 4 97 (.load 22 (t 96)),
 ⟨2, [4], false, .write, .yes, .call ⟨.value (.func 38), #[t 94, cI 1], #[22, 3]⟩, some 95⟩,
 q 6 99 (.fieldAddr 26 (t 9) 3),
 ⟨5, [], false, .write, .yes, .call ⟨.value (.func 38), #[t 97, cI 2], #[22, 3]⟩, some 98⟩,
 ⟨7, [], false, .write, .yes, .store 3 (t 99) (t 95), none⟩,
 q 8 100 (.fieldAddr 26 (t 9) 4),
 ⟨9, [], false, .write, .yes, .store 3 (t 100) (t 98), none⟩])
 (.keep [8, 9] (.seq
 (.ops [ld 101 26 9,
 ⟨.yes, .store 26 (t 8) (t 101), none⟩])
 .ret)))))))))))), [.cell 8 26]⟩
theorem is13 : IsFA P pol (planOf pol) 13 4 a13 := ⟨⟨_, _, Try.func13, rfl, rfl, rfl, by kernel_rfl⟩, by decide⟩
theorem ok13 : a13.c.ok = true := by kernel_rfl
theorem r13 (x : denL [tL, tL, tI, tI]) : fun2 (env [(15, sp15), (35, sp35), (36, sp36), (38, sp38)] [(37, sp37)]) a13 [tL, tL, tI, tI] [(.st (.prod (.list tn) (.prod (.list ts) (.prod (.list (.st (.prod tI (.st (.prod tI tI))))) (.prod tI (.prod tI (.prod tI tI)))))))] x = F13 x.1 x.2.1 x.2.2.1 x.2.2.2 := by kernel_rfl
noncomputable def sp13 : FSp := ⟨[tL, tL, tI, tI], [(.st (.prod (.list tn) (.prod (.list ts) (.prod (.list (.st (.prod tI (.st (.prod tI tI))))) (.prod tI (.prod tI (.prod tI tI)))))))], fun x => F13 x.1 x.2.1 x.2.2.1 x.2.2.2⟩
theorem s13 : SpOk pol P 13 sp13 := fun x r h => fun_ok is13 (fun _ => rfl) (tyOk [(15, sp15), (35, sp35), (36, sp36), (38, sp38)] [(37, sp37)]) (kOk rfl rfl rfl (allC s15 (allC s35 (allC s36 (allC s38 allN)))) (imC s37 imN)) ok13 rfl rfl ((r13 x).trans h)
noncomputable def a39 : FA := ⟨13, (.seq
 (.ops [y 4 (.assign (.const (.bool false)))])
 (.jn ⟨[], [(4, dB)], []⟩
 (.ops [mv 5 1,
 y 6 (.binOp .geq 3 (t 5) (cI 0) 3),
 mv 7 6,
 u 7 true 8 (.move (t 1)),
 u 7 true 9 (.move (t 0)),
 u 7 true 10 (.call ⟨.builtin .len, #[t 9], #[22]⟩),
 u 7 true 11 (.binOp .lss 3 (t 8) (t 10) 3),
 y 12 (.pick (t 7) (t 11) (.const (.bool false))),
 sg 4 12])
 .ret)), [.tmp 4]⟩
theorem is39 : IsFA P pol (planOf pol) 39 2 a39 := ⟨⟨_, _, Try.func39, rfl, rfl, rfl, by kernel_rfl⟩, by decide⟩
theorem ok39 : a39.c.ok = true := by kernel_rfl
theorem r39 (x : denL [(.list tn), tI]) : fun2 (env [] []) a39 [(.list tn), tI] [.bool] x = F39 x.1 x.2 := by kernel_rfl
noncomputable def sp39 : FSp := ⟨[(.list tn), tI], [.bool], fun x => F39 x.1 x.2⟩
theorem s39 : SpOk pol P 39 sp39 := fun x r h => fun_ok is39 (fun _ => rfl) (tyOk [] []) (kOk rfl rfl rfl allN imN) ok39 rfl rfl ((r39 x).trans h)
noncomputable def a41 : FA := ⟨15, (.seq
 (.ops [y 3 (.box 44 (t 1)),
 y 4 (.assign (.const (.bool false)))])
 (.lock 3 (.jn ⟨[], [(4, dB)], []⟩
 (.ops [mv 5 0,
 fa 6 44 3 0,
 ld 7 3 6,
 y 8 (.call ⟨.value (.func 39), #[t 5, t 7], #[22, 3]⟩),
 mv 9 8,
 u 9 true 10 (.move (t 0)),
 u 9 true 11 (.fieldAddr 44 (t 3) 1),
 u 9 true 12 (.load 3 (t 11)),
 u 9 true 13 (.call ⟨.value (.func 39), #[t 10, t 12], #[22, 3]⟩),
 y 14 (.pick (t 9) (t 13) (.const (.bool false))),
 sg 4 14])
 .ret))), [.tmp 4]⟩
theorem is41 : IsFA P pol (planOf pol) 41 2 a41 := ⟨⟨_, _, Try.func41, rfl, rfl, rfl, by kernel_rfl⟩, by decide⟩
theorem ok41 : a41.c.ok = true := by kernel_rfl
theorem r41 (x : denL [(.list tn), ts]) : fun2 (env [(39, sp39)] []) a41 [(.list tn), ts] [.bool] x = F41 x.1 x.2 := by kernel_rfl
noncomputable def sp41 : FSp := ⟨[(.list tn), ts], [.bool], fun x => F41 x.1 x.2⟩
theorem s41 : SpOk pol P 41 sp41 := fun x r h => fun_ok is41 (fun _ => rfl) (tyOk [(39, sp39)] []) (kOk rfl rfl rfl (allC s39 allN) imN) ok41 rfl rfl ((r41 x).trans h)
noncomputable def a40 : FA := ⟨97, (.seq
 (.ops [y 3 (.box 26 (t 0)),
 y 6 (.assign (.const (.slice none 0 0)))])
 (.lock 3 (.seq
 (.ops [fa 13 26 3 0,
 ld 14 22 13,
 lenC 15 14 22,
 y 16 (.makeSlice 28 (t 15) (t 15)),
 sg 7 16])
 (.keep [1, 2, 3, 7] (.seq
 (.seq
 (.ops [y 8 (.assign (cI 0))])
 (.block 0 (.loop ⟨[1, 2, 3], [(7, .sl 0), (8, dI)], [.own tI true]⟩ (.keep [1, 2, 3, 7, 8] (.seq
 (.seq
 (.ops [mv 17 8,
 mv 18 7,
 lenC 19 18 28,
 y 20 (.binOp .lss 3 (t 17) (t 19) 3)])
 (.keep [1, 2, 3, 7, 8, 20] (.cond (t 20)
 .skip
 (.exit 0))))
 (.keep [1, 2, 3, 7, 8] (.seq
 (.block 1 (.ops [mv 23 7,
 mv 24 8,
 ia 25 28 23 24,
 ⟨.yes, .store 3 (t 25) (cI (-1)), none⟩]))
 (.keep [1, 2, 3, 7, 8] (.ops [mv 21 8,
 y 22 (.binOp .add 3 (t 21) (cI 1) 3),
 sg 8 22])))))))))
 (.keep [1, 2, 3, 7] (.seq
 (.ops [mv 26 7,
 mv 27 1,
 ia 28 28 26 27,
 ⟨.yes, .store 3 (t 28) (cI 0), none⟩])
 (.keep [2, 3, 7] (.seq
 (.seq
 (.ops [y 9 (.assign (cI 0)),
 y 10 (.assign (.const (.bool true)))])
 (.block 2 (.loop ⟨[2, 3], [(7, .sl 0), (9, dI), (10, dB)], [.own tI true]⟩ (.keep [2, 3, 7, 9, 10] (.seq
 (.seq
 (.ops [mv 29 10])
 (.cond (t 29)
 .skip
 (.exit 2)))
 (.keep [2, 3, 7, 9] (.seq
 (.block 3 (.seq
 (.ops [y 10 (.assign (.const (.bool false)))])
 (.seq
 (.ops [y 11 (.assign (cI 0))])
 (.block 4 (.loop ⟨[2, 3, 9], [(7, .sl 0), (10, dB), (11, dI)], [.own tI true]⟩ (.keep [2, 3, 7, 9, 10, 11] (.seq
 (.jn ⟨[2, 3, 9, 10, 11], [(7, .sl 0), (41, dB)], [.own tI true]⟩
 (.ops [mv 32 11,
 fa 33 26 3 1,
 ld 34 23 33,
 lenC 35 34 23,
 y 36 (.binOp .lss 3 (t 32) (t 35) 3),
 mv 37 36,
 u 37 true 38 (.move (t 11)),
 u 37 true 39 (.move (t 2)),
 u 37 true 40 (.binOp .lss 3 (t 38) (t 39) 3),
 y 41 (.pick (t 37) (t 40) (.const (.bool false)))])
 (.keep [2, 3, 7, 9, 10, 11, 41] (.cond (t 41)
 .skip
 (.exit 4))))
 (.keep [2, 3, 7, 9, 10, 11] (.jn ⟨[2, 3, 9, 11], [(7, .sl 0), (10, dB)], [.own tI true]⟩
 (.block 5 (.seq
 (.ops [fa 44 26 3 1,
 ld 45 23 44,
 mv 46 11,
 ia 47 23 45 46,
 ld 48 44 47,
 y 12 (.alloc 44),
 ⟨.yes, .store 44 (t 12) (t 48), none⟩])
 (.lock 12 (.keep [2, 3, 7, 9, 10, 11, 12] (.seq
 (.seq
 (.ops [fa 49 26 3 0,
 ld 50 22 49,
 ld 51 44 12,
 y 52 (.call ⟨.value (.func 41), #[t 50, t 51], #[22, 44]⟩),
 y 53 (.unOp .not 4 (t 52))])
 (.keep [2, 3, 7, 9, 10, 11, 12, 53] (.cond (t 53)
 (.exit 5)
 .skip)))
 (.keep [2, 3, 7, 9, 10, 11, 12] (.jn ⟨[2, 3, 9, 11, 12], [(7, .sl 0), (10, dB)], [.own tI true]⟩
 (.jn ⟨[2, 3, 9, 10, 11, 12], [(7, .sl 0), (68, dB)], [.own tI true]⟩
 (.ops [mv 54 7,
 fa 55 44 12 0,
 ld 56 3 55,
 ia 57 28 54 56,
 ld 58 3 57,
 mv 59 9,
 y 60 (.binOp .eql 3 (t 58) (t 59) 3),
 mv 61 60,
 u 61 true 62 (.move (t 7)),
 u 61 true 63 (.fieldAddr 44 (t 12) 1),
 u 61 true 64 (.load 3 (t 63)),
 u 61 true 65 (.indexAddr 28 (t 62) (t 64)),
 u 61 true 66 (.load 3 (t 65)),
 u 61 true 67 (.binOp .lss 3 (t 66) (cI 0) 3),
 y 68 (.pick (t 61) (t 67) (.const (.bool false)))])
 (.keep [2, 3, 7, 9, 10, 11, 12, 68] (.cond (t 68)
 (.ops [mv 69 7,
 fa 70 44 12 1,
 ld 71 3 70,
 mv 72 9,
 y 73 (.binOp .add 3 (t 72) (cI 1) 3),
 ia 74 28 69 71,
 ⟨.yes, .store 3 (t 74) (t 73), none⟩,
 y 10 (.assign (.const (.bool true)))])
 .skip)))
 (.keep [2, 3, 7, 9, 10, 11, 12] (.jn ⟨[2, 3, 9, 10, 11, 12], [(7, .sl 0), (89, dB)], [.own tI true]⟩
 (.ops [mv 75 7,
 fa 76 44 12 1,
 ld 77 3 76,
 ia 78 28 75 77,
 ld 79 3 78,
 mv 80 9,
 y 81 (.binOp .eql 3 (t 79) (t 80) 3),
 mv 82 81,
 u 82 true 83 (.move (t 7)),
 u 82 true 84 (.fieldAddr 44 (t 12) 0),
 u 82 true 85 (.load 3 (t 84)),
 u 82 true 86 (.indexAddr 28 (t 83) (t 85)),
 u 82 true 87 (.load 3 (t 86)),
 u 82 true 88 (.binOp .lss 3 (t 87) (cI 0) 3),
 y 89 (.pick (t 82) (t 88) (.const (.bool false)))])
 (.keep [2, 3, 7, 9, 10, 11, 12, 89] (.cond (t 89)
 (.ops [mv 90 7,
 fa 91 44 12 0,
 ld 92 3 91,
 mv 93 9,
 y 94 (.binOp .add 3 (t 93) (cI 1) 3),
 ia 95 28 90 92,
 ⟨.yes, .store 3 (t 95) (t 94), none⟩,
 y 10 (.assign (.const (.bool true)))])
 .skip)))))))))))
 (.keep [2, 3, 7, 9, 10, 11] (.ops [mv 42 11,
 y 43 (.binOp .add 3 (t 42) (cI 1) 3),
 sg 11 43])))))))))))
 (.keep [2, 3, 7, 9, 10] (.ops [mv 30 9,
 y 31 (.binOp .add 3 (t 30) (cI 1) 3),
 sg 9 31])))))))))
 (.keep [7] (.seq
 (.ops [mv 96 7,
 sg 6 96])
 .ret))))))))))), [.tmp 6]⟩
theorem is40 : IsFA P pol (planOf pol) 40 3 a40 := ⟨⟨_, _, Try.func40, rfl, rfl, rfl, by kernel_rfl⟩, by decide⟩
theorem ok40 : a40.c.ok = true := by kernel_rfl
theorem r40 (x : denL [(.st (.prod (.list tn) (.prod (.list ts) (.prod (.list (.st (.prod tI (.st (.prod tI tI))))) (.prod tI (.prod tI (.prod tI tI))))))), tI, tI]) : fun2 (env [(41, sp41)] []) a40 [(.st (.prod (.list tn) (.prod (.list ts) (.prod (.list (.st (.prod tI (.st (.prod tI tI))))) (.prod tI (.prod tI (.prod tI tI))))))), tI, tI] [tL] x = F40 x.1 x.2.1 x.2.2 := by kernel_rfl
noncomputable def sp40 : FSp := ⟨[(.st (.prod (.list tn) (.prod (.list ts) (.prod (.list (.st (.prod tI (.st (.prod tI tI))))) (.prod tI (.prod tI (.prod tI tI))))))), tI, tI], [tL], fun x => F40 x.1 x.2.1 x.2.2⟩
theorem s40 : SpOk pol P 40 sp40 := fun x r h => fun_ok is40 (fun _ => rfl) (tyOk [(41, sp41)] []) (kOk rfl rfl rfl (allC s41 allN) imN) ok40 rfl rfl ((r40 x).trans h)
noncomputable def a14 : FA := ⟨104, (.seq
 (.ops [y 4 (.box 26 (t 0)),
 y 8 (.assign (.const (.slice none 0 0))),
 y 9 (.assign (.const (.bool false)))])
 (.lock 4 (.seq
 (.jn ⟨[1, 2, 3, 4], [(26, dB)], []⟩
 (.ops [fa 15 26 4 0,
 ld 16 22 15,
 mv 17 1,
 y 18 (.call ⟨.value (.func 39), #[t 16, t 17], #[22, 3]⟩),
 y 19 (.unOp .not 4 (t 18)),
 mv 20 19,
 u 20 false 21 (.fieldAddr 26 (t 4) 0),
 u 20 false 22 (.load 22 (t 21)),
 u 20 false 23 (.move (t 2)),
 u 20 false 24 (.call ⟨.value (.func 39), #[t 22, t 23], #[22, 3]⟩),
 u 20 false 25 (.unOp .not 4 (t 24)),
 y 26 (.pick (t 20) (.const (.bool true)) (t 25))])
 (.keep [1, 2, 3, 4, 26] (.cond (t 26)
 (.seq
 (.ops [y 8 (.assign (.const (.slice none 0 0))),
 y 9 (.assign (.const (.bool false)))])
 .ret)
 .skip)))
 (.keep [1, 2, 3, 4] (.seq
 (.ops [ld 27 26 4,
 mv 28 2,
 mv 29 3,
 y 30 (.call ⟨.value (.func 40), #[t 27, t 28, t 29], #[26, 3, 3]⟩),
 sg 10 30])
 (.keep [1, 2, 4, 10] (.seq
 (.seq
 (.ops [mv 31 10,
 mv 32 1,
 ia 33 28 31 32,
 ld 34 3 33,
 y 35 (.binOp .lss 3 (t 34) (cI 0) 3)])
 (.keep [1, 2, 4, 10, 35] (.cond (t 35)
 (.seq
 (.ops [y 8 (.assign (.const (.slice none 0 0))),
 y 9 (.assign (.const (.bool false)))])
 .ret)
 .skip)))
 (.keep [1, 2, 4, 10] (.seq
 (.ops [y 11 (.assign (.const (.slice none 0 0)))])
 (.seq
 (.seq
 (.ops [mv 36 1,
 sg 12 36])
 (.block 0 (.loop ⟨[2, 4, 10], [(11, .sl 0), (12, dI)], [.own tI true]⟩ (.keep [2, 4, 10, 11, 12] (.seq
 (.seq
 (.ops [mv 37 12,
 mv 38 2,
 y 39 (.binOp .neq 3 (t 37) (t 38) 3)])
 (.cond (t 39)
 .skip
 (.exit 0)))
 (.keep [2, 4, 10, 11, 12] (.block 1 (.seq
 (.ops [y 13 (.assign (cI 0))])
 (.block 2 (.loop ⟨[2, 4, 10], [(11, .sl 0), (12, dI), (13, dI)], [.own tI true]⟩ (.keep [2, 4, 10, 11, 12, 13] (.seq
 (.seq
 (.ops [mv 40 13,
 fa 41 26 4 1,
 ld 42 23 41,
 lenC 43 42 23,
 y 44 (.binOp .lss 3 (t 40) (t 43) 3)])
 (.keep [2, 4, 10, 11, 12, 13, 44] (.cond (t 44)
 .skip
 (.exit 2))))
 (.keep [2, 4, 10, 11, 12, 13] (.jn ⟨[2, 4, 10, 13], [(11, .sl 0), (12, dI)], [.own tI true]⟩
 (.block 3 (.seq
 (.ops [fa 47 26 4 1,
 ld 48 23 47,
 mv 49 13,
 ia 50 23 48 49,
 ld 51 44 50,
 y 14 (.alloc 44),
 ⟨.yes, .store 44 (t 14) (t 51), none⟩])
 (.lock 14 (.keep [2, 4, 10, 11, 12, 13, 14] (.seq
 (.seq
 (.ops [fa 52 26 4 0,
 ld 53 22 52,
 ld 54 44 14,
 y 55 (.call ⟨.value (.func 41), #[t 53, t 54], #[22, 44]⟩),
 y 56 (.unOp .not 4 (t 55))])
 (.keep [2, 4, 10, 11, 12, 13, 14, 56] (.cond (t 56)
 (.exit 3)
 .skip)))
 (.keep [2, 4, 10, 11, 12, 13, 14] (.seq
 (.jn ⟨[2, 4, 10, 12, 13, 14], [(11, .sl 0), (73, dB)], [.own tI true]⟩
 (.plan [q 0 57 (.fieldAddr 44 (t 14) 0),
 qr 1 58 (.load 3 (t 57)),
 q 2 59 (.move (t 12)),
 q 3 60 (.binOp .eql 3 (t 58) (t 59) 3),
 q 4 61 (.move (t 60)),
 qu 5 61 true 62 (.move (t 10)),
 qu 6 61 true 63 (.fieldAddr 44 (t 14) 1),
 qw 7 61 true 64 (.load 3 (t 63)),
 qu 8 61 true 65 (.indexAddr 28 (t 62) (t 64)),
 qw 9 61 true 66 (.load 3 (t 65)),
 qu 10 61 true 67 (.move (t 10)),
 qu 11 61 true 68 (.move (t 12)),
 qu 12 61 true 69 (.indexAddr 28 (t 67) (t 68)),
 qw 13 61 true 70 (.load 3 (t 69)),
 qu 14 61 true 71 (.binOp .sub 3 (t 70) (cI 1) 3),
 qu 15 61 true 72 (.binOp .eql 3 (t 66) (t 71) 3),
 q 16 73 (.pick (t 61) (t 72) (.const (.bool false)))])
 (.keep [2, 4, 10, 11, 12, 13, 14, 73] (.cond (t 73)
 (.seq
 (.plan [q 0 74 (.move (t 11)),
 q 1 75 (.move (t 13)),
 ⟨2, [], true, .alloc, .yes, .buildSlice 28 1 #[(0, t 75)], some 76⟩,
 q 4 78 (.fieldAddr 44 (t 14) 1),
 ⟨5, [2], true, .read, .yes, .load 3 (t 78), some 79⟩,
 ⟨3, [5], false, .write, .yes, .call ⟨.builtin .append, #[t 74, t 76], #[28, 28]⟩, some 77⟩,
 q 6 11 (.assign (t 77)),
 q 7 12 (.assign (t 79))])
 (.exit 2))
 .skip)))
 (.keep [2, 4, 10, 11, 12, 13, 14] (.jn ⟨[2, 4, 10, 12, 13, 14], [(11, .sl 0), (96, dB)], [.own tI true]⟩
 (.plan [q 0 80 (.fieldAddr 44 (t 14) 1),
 qr 1 81 (.load 3 (t 80)),
 q 2 82 (.move (t 12)),
 q 3 83 (.binOp .eql 3 (t 81) (t 82) 3),
 q 4 84 (.move (t 83)),
 qu 5 84 true 85 (.move (t 10)),
 qu 6 84 true 86 (.fieldAddr 44 (t 14) 0),
 qw 7 84 true 87 (.load 3 (t 86)),
 qu 8 84 true 88 (.indexAddr 28 (t 85) (t 87)),
 qw 9 84 true 89 (.load 3 (t 88)),
 qu 10 84 true 90 (.move (t 10)),
 qu 11 84 true 91 (.move (t 12)),
 qu 12 84 true 92 (.indexAddr 28 (t 90) (t 91)),
 qw 13 84 true 93 (.load 3 (t 92)),
 qu 14 84 true 94 (.binOp .sub 3 (t 93) (cI 1) 3),
 qu 15 84 true 95 (.binOp .eql 3 (t 89) (t 94) 3),
 q 16 96 (.pick (t 84) (t 95) (.const (.bool false)))])
 (.keep [2, 4, 10, 11, 12, 13, 14, 96] (.cond (t 96)
 (.seq
 (.plan [q 0 97 (.move (t 11)),
 q 1 98 (.move (t 13)),
 ⟨2, [], true, .alloc, .yes, .buildSlice 28 1 #[(0, t 98)], some 99⟩,
 q 4 101 (.fieldAddr 44 (t 14) 0),
 ⟨5, [2], true, .read, .yes, .load 3 (t 101), some 102⟩,
 ⟨3, [5], false, .write, .yes, .call ⟨.builtin .append, #[t 97, t 99], #[28, 28]⟩, some 100⟩,
 q 6 11 (.assign (t 100)),
 q 7 12 (.assign (t 102))])
 (.exit 2))
 .skip)))))))))))
 (.keep [2, 4, 10, 11, 12, 13] (.ops [mv 45 13,
 y 46 (.binOp .add 3 (t 45) (cI 1) 3),
 sg 13 46]))))))))))))))))
 (.keep [11] (.seq
 (.ops [mv 103 11,
 sg 8 103,
 y 9 (.assign (.const (.bool true)))])
 .ret)))))))))))), [.tmp 8, .tmp 9]⟩
theorem is14 : IsFA P pol (planOf pol) 14 4 a14 := ⟨⟨_, _, Try.func14, rfl, rfl, rfl, by kernel_rfl⟩, by decide⟩
theorem ok14 : a14.c.ok = true := by kernel_rfl
theorem r14 (x : denL [(.st (.prod (.list tn) (.prod (.list ts) (.prod (.list (.st (.prod tI (.st (.prod tI tI))))) (.prod tI (.prod tI (.prod tI tI))))))), tI, tI, tI]) : fun2 (env [(39, sp39), (40, sp40), (41, sp41)] []) a14 [(.st (.prod (.list tn) (.prod (.list ts) (.prod (.list (.st (.prod tI (.st (.prod tI tI))))) (.prod tI (.prod tI (.prod tI tI))))))), tI, tI, tI] [tL, .bool] x = F14 x.1 x.2.1 x.2.2.1 x.2.2.2 := by kernel_rfl
noncomputable def sp14 : FSp := ⟨[(.st (.prod (.list tn) (.prod (.list ts) (.prod (.list (.st (.prod tI (.st (.prod tI tI))))) (.prod tI (.prod tI (.prod tI tI))))))), tI, tI, tI], [tL, .bool], fun x => F14 x.1 x.2.1 x.2.2.1 x.2.2.2⟩
theorem s14 : SpOk pol P 14 sp14 := fun x r h => fun_ok is14 (fun _ => rfl) (tyOk [(39, sp39), (40, sp40), (41, sp41)] []) (kOk rfl rfl rfl (allC s39 (allC s40 (allC s41 allN))) imN) ok14 rfl rfl ((r14 x).trans h)
noncomputable def a16 : FA := ⟨153, (.seq
 (.ops [y 2 (.box 26 (t 0)),
 y 4 (.assign (.const (.slice none 0 0)))])
 (.lock 2 (.seq
 (.ops [fa 17 26 2 1,
 ld 18 23 17,
 lenC 19 18 23,
 y 20 (.makeSlice 60 (t 19) (t 19)),
 sg 5 20])
 (.keep [1, 2, 5] (.seq
 (.seq
 (.ops [y 6 (.assign (cI 0))])
 (.block 0 (.loop ⟨[1, 2], [(5, .sl 0), (6, dI)], [.own .bool true]⟩ (.keep [1, 2, 5, 6] (.seq
 (.seq
 (.ops [mv 21 6,
 mv 22 1,
 lenC 23 22 28,
 y 24 (.binOp .lss 3 (t 21) (t 23) 3)])
 (.keep [1, 2, 5, 6, 24] (.cond (t 24)
 .skip
 (.exit 0))))
 (.keep [1, 2, 5, 6] (.jn ⟨[1, 2, 6], [(5, .sl 0)], [.own .bool true]⟩
 (.block 1 (.jn ⟨[1, 2, 6], [(5, .sl 0), (40, dB)], [.own .bool true]⟩
 (.ops [mv 27 1,
 mv 28 6,
 ia 29 28 27 28,
 ld 30 3 29,
 y 31 (.binOp .geq 3 (t 30) (cI 0) 3),
 mv 32 31,
 u 32 true 33 (.move (t 1)),
 u 32 true 34 (.move (t 6)),
 u 32 true 35 (.indexAddr 28 (t 33) (t 34)),
 u 32 true 36 (.load 3 (t 35)),
 u 32 true 37 (.move (t 5)),
 u 32 true 38 (.call ⟨.builtin .len, #[t 37], #[60]⟩),
 u 32 true 39 (.binOp .lss 3 (t 36) (t 38) 3),
 y 40 (.pick (t 32) (t 39) (.const (.bool false)))])
 (.keep [1, 2, 5, 6, 40] (.cond (t 40)
 (.ops [mv 41 5,
 mv 42 1,
 mv 43 6,
 ia 44 28 42 43,
 ld 45 3 44,
 ia 46 60 41 45,
 ⟨.yes, .store 4 (t 46) (.const (.bool true)), none⟩])
 .skip))))
 (.keep [1, 2, 5, 6] (.ops [mv 25 6,
 y 26 (.binOp .add 3 (t 25) (cI 1) 3),
 sg 6 26])))))))))
 (.keep [2, 5] (.seq
 (.seq
 (.ops [mv 47 5,
 lenC 48 47 60,
 y 49 (.binOp .sub 3 (t 48) (cI 1) 3),
 sg 7 49])
 (.keep [2, 5, 7] (.block 2 (.loop ⟨[2], [(5, .sl 0), (7, dI)], [.own .bool true]⟩ (.keep [2, 5, 7] (.seq
 (.seq
 (.ops [mv 50 7,
 y 51 (.binOp .geq 3 (t 50) (cI 0) 3)])
 (.cond (t 51)
 .skip
 (.exit 2)))
 (.keep [2, 5, 7] (.jn ⟨[2, 7], [(5, .sl 0)], [.own .bool true]⟩
 (.block 3 (.seq
 (.ops [fa 54 26 2 1,
 ld 55 23 54,
 mv 56 7,
 ia 57 23 55 56,
 ld 58 44 57,
 y 8 (.alloc 44),
 ⟨.yes, .store 44 (t 8) (t 58), none⟩])
 (.lock 8 (.keep [2, 5, 7, 8] (.seq
 (.jn ⟨[2, 7, 8], [(5, .sl 0), (75, dB)], [.own .bool true]⟩
 (.ops [mv 59 5,
 mv 60 7,
 ia 61 60 59 60,
 ld 62 4 61,
 y 63 (.unOp .not 4 (t 62)),
 mv 64 63,
 u 64 false 65 (.fieldAddr 44 (t 8) 2),
 u 64 false 66 (.load 3 (t 65)),
 u 64 false 67 (.binOp .neq 3 (t 66) (cI 0) 3),
 y 68 (.pick (t 64) (.const (.bool true)) (t 67)),
 mv 69 68,
 u 69 false 70 (.fieldAddr 26 (t 2) 0),
 u 69 false 71 (.load 22 (t 70)),
 u 69 false 72 (.load 44 (t 8)),
 u 69 false 73 (.call ⟨.value (.func 41), #[t 71, t 72], #[22, 44]⟩),
 u 69 false 74 (.unOp .not 4 (t 73)),
 y 75 (.pick (t 69) (.const (.bool true)) (t 74))])
 (.keep [2, 5, 7, 8, 75] (.cond (t 75)
 (.exit 3)
 .skip)))
 (.keep [2, 5, 7, 8] (.seq
 (.plan [q 0 76 (.fieldAddr 26 (t 2) 0),
 qr 1 77 (.load 22 (t 76)),
 q 2 78 (.fieldAddr 44 (t 8) 0),
 qr 3 79 (.load 3 (t 78)),
 q 4 80 (.indexAddr 22 (t 77) (t 79)),
 q 5 81 (.fieldAddr 55 (t 80) 2),
 qr 6 82 (.load 28 (t 81)),
 q 7 83 (.fieldAddr 26 (t 2) 0),
 qr 8 84 (.load 22 (t 83)),
 q 9 85 (.fieldAddr 44 (t 8) 1),
 qr 10 86 (.load 3 (t 85)),
 q 11 87 (.indexAddr 22 (t 84) (t 86)),
 q 12 88 (.fieldAddr 55 (t 87) 2),
 qr 13 89 (.load 28 (t 88)),
 q 14 9 (.assign (t 82)),
 q 15 10 (.assign (t 89))])
 (.keep [2, 5, 7, 9, 10] (.seq
 (.ops [y 11 (.assign (cI 0))])
 (.block 4 (.loop ⟨[2, 7, 9, 10], [(5, .sl 0), (11, dI)], [.own .bool true]⟩ (.keep [2, 5, 7, 9, 10, 11] (.seq
 (.jn ⟨[2, 7, 9, 10, 11], [(5, .sl 0), (99, dB)], [.own .bool true]⟩
 (.ops [mv 90 11,
 mv 91 9,
 lenC 92 91 28,
 y 93 (.binOp .lss 3 (t 90) (t 92) 3),
 mv 94 93,
 u 94 true 95 (.move (t 11)),
 u 94 true 96 (.move (t 10)),
 u 94 true 97 (.call ⟨.builtin .len, #[t 96], #[28]⟩),
 u 94 true 98 (.binOp .lss 3 (t 95) (t 97) 3),
 y 99 (.pick (t 94) (t 98) (.const (.bool false)))])
 (.keep [2, 5, 7, 9, 10, 11, 99] (.cond (t 99)
 .skip
 (.exit 4))))
 (.keep [2, 5, 7, 9, 10, 11] (.seq
 (.block 5 (.seq
 (.plan [qr 0 103 (.load 26 (t 2)),
 q 1 104 (.move (t 9)),
 q 2 105 (.move (t 11)),
 q 3 106 (.indexAddr 28 (t 104) (t 105)),
 qr 4 107 (.load 3 (t 106)),
 q 5 108 (.move (t 10)),
 q 6 109 (.move (t 11)),
 q 7 110 (.indexAddr 28 (t 108) (t 109)),
 qr 8 111 (.load 3 (t 110)),
 q 9 112 (.move (t 7)),
 ⟨10, [], false, .write, .yes, .call ⟨.value (.func 14), #[t 103, t 107, t 111, t 112], #[26, 3, 3, 3]⟩, some 113⟩,
 q 11 102 (.move (t 113)),
 q 12 114 (.extract (t 102) 0),
 q 13 115 (.extract (t 102) 1),
 q 14 12 (.assign (t 114)),
 q 15 13 (.assign (t 115))])
 (.keep [2, 5, 7, 9, 10, 11, 12] (.seq
 (.ops [y 14 (.assign (cI 0))])
 (.block 6 (.loop ⟨[2, 7, 9, 10, 11, 12], [(5, .sl 0), (14, dI)], [.own .bool true]⟩ (.keep [2, 5, 7, 9, 10, 11, 12, 14] (.seq
 (.seq
 (.ops [mv 116 14,
 mv 117 12,
 lenC 118 117 28,
 y 119 (.binOp .lss 3 (t 116) (t 118) 3)])
 (.keep [2, 5, 7, 9, 10, 11, 12, 14, 119] (.cond (t 119)
 .skip
 (.exit 6))))
 (.keep [2, 5, 7, 9, 10, 11, 12, 14] (.seq
 (.block 7 (.ops [mv 122 5,
 mv 123 12,
 mv 124 14,
 ia 125 28 123 124,
 ld 126 3 125,
 ia 127 60 122 126,
 ⟨.yes, .store 4 (t 127) (.const (.bool true)), none⟩]))
 (.keep [2, 5, 7, 9, 10, 11, 12, 14] (.ops [mv 120 14,
 y 121 (.binOp .add 3 (t 120) (cI 1) 3),
 sg 14 121]))))))))))))
 (.keep [2, 5, 7, 9, 10, 11] (.ops [mv 100 11,
 y 101 (.binOp .add 3 (t 100) (cI 1) 3),
 sg 11 101])))))))))))))))))
 (.keep [2, 5, 7] (.ops [mv 52 7,
 y 53 (.binOp .sub 3 (t 52) (cI 1) 3),
 sg 7 53]))))))))))
 (.keep [2, 5] (.seq
 (.ops [y 15 (.assign (.const (.slice none 0 0)))])
 (.seq
 (.seq
 (.ops [y 16 (.assign (cI 0))])
 (.block 8 (.loop ⟨[2], [(5, .sl 0), (15, .sl 1), (16, dI)], [.own .bool true, .own tI true]⟩ (.keep [2, 5, 15, 16] (.seq
 (.seq
 (.ops [mv 128 16,
 mv 129 5,
 lenC 130 129 60,
 y 131 (.binOp .lss 3 (t 128) (t 130) 3)])
 (.keep [2, 5, 15, 16, 131] (.cond (t 131)
 .skip
 (.exit 8))))
 (.keep [2, 5, 15, 16] (.jn ⟨[2, 16], [(5, .sl 0), (15, .sl 1)], [.own .bool true, .own tI true]⟩
 (.block 9 (.jn ⟨[2, 16], [(5, .sl 0), (15, .sl 1), (147, dB)], [.own .bool true, .own tI true]⟩
 (.plan [q 0 134 (.move (t 5)),
 q 1 135 (.move (t 16)),
 q 2 136 (.indexAddr 60 (t 134) (t 135)),
 qr 3 137 (.load 4 (t 136)),
 q 4 138 (.move (t 137)),
 qu 5 138 true 139 (.fieldAddr 26 (t 2) 0),
 qw 6 138 true 140 (.load 22 (t 139)),
 qu 7 138 true 141 (.fieldAddr 26 (t 2) 1),
 qw 8 138 true 142 (.load 23 (t 141)),
 qu 9 138 true 143 (.move (t 16)),
 qu 10 138 true 144 (.indexAddr 23 (t 142) (t 143)),
 qw 11 138 true 145 (.load 44 (t 144)),
 ⟨12, [], false, .write, .at 138 true, .call ⟨.value (.func 41), #[t 140, t 145], #[22, 44]⟩, some 146⟩,
 q 13 147 (.pick (t 138) (t 146) (.const (.bool false)))])
 (.keep [2, 5, 15, 16, 147] (.cond (t 147)
 (.ops [mv 148 15,
 mv 149 16,
 y 150 (.buildSlice 28 1 #[(0, t 149)]),
 y 151 (.call ⟨.builtin .append, #[t 148, t 150], #[28, 28]⟩),
 sg 15 151])
 .skip))))
 (.keep [2, 5, 15, 16] (.ops [mv 132 16,
 y 133 (.binOp .add 3 (t 132) (cI 1) 3),
 sg 16 133])))))))))
 (.keep [15] (.seq
 (.ops [mv 152 15,
 sg 4 152])
 .ret)))))))))))), [.tmp 4]⟩
theorem is16 : IsFA P pol (planOf pol) 16 2 a16 := ⟨⟨_, _, Try.func16, rfl, rfl, rfl, by kernel_rfl⟩, by decide⟩
theorem ok16 : a16.c.ok = true := by kernel_rfl
theorem r16 (x : denL [(.st (.prod (.list tn) (.prod (.list ts) (.prod (.list (.st (.prod tI (.st (.prod tI tI))))) (.prod tI (.prod tI (.prod tI tI))))))), tL]) : fun2 (env [(14, sp14), (41, sp41)] []) a16 [(.st (.prod (.list tn) (.prod (.list ts) (.prod (.list (.st (.prod tI (.st (.prod tI tI))))) (.prod tI (.prod tI (.prod tI tI))))))), tL] [tL] x = F16 x.1 x.2 := by kernel_rfl
noncomputable def sp16 : FSp := ⟨[(.st (.prod (.list tn) (.prod (.list ts) (.prod (.list (.st (.prod tI (.st (.prod tI tI))))) (.prod tI (.prod tI (.prod tI tI))))))), tL], [tL], fun x => F16 x.1 x.2⟩
theorem s16 : SpOk pol P 16 sp16 := fun x r h => fun_ok is16 (fun _ => rfl) (tyOk [(14, sp14), (41, sp41)] []) (kOk rfl rfl rfl (allC s14 (allC s41 allN)) imN) ok16 rfl rfl ((r16 x).trans h)
noncomputable def a47 : FA := ⟨40, (.seq
 (.ops [y 4 (.assign (.const (.slice none 0 0)))])
 (.seq
 (.ops [y 5 (.assign (.const (.slice none 0 0)))])
 (.seq
 (.seq
 (.ops [y 6 (.assign (cI 0))])
 (.block 0 (.loop ⟨[0, 1], [(5, .sl 0), (6, dI)], [.own tI true]⟩ (.keep [0, 1, 5, 6] (.seq
 (.seq
 (.ops [mv 8 6,
 mv 9 0,
 lenC 10 9 28,
 y 11 (.binOp .lss 3 (t 8) (t 10) 3)])
 (.keep [0, 1, 5, 6, 11] (.cond (t 11)
 .skip
 (.exit 0))))
 (.keep [0, 1, 5, 6] (.seq
 (.block 1 (.seq
 (.ops [y 7 (.assign (cI (-1)))])
 (.jn ⟨[0, 1, 6], [(5, .sl 0), (7, dI)], [.own tI true]⟩
 (.jn ⟨[0, 1, 6, 7], [(5, .sl 0), (27, dB)], [.own tI true]⟩
 (.ops [mv 14 0,
 mv 15 6,
 ia 16 28 14 15,
 ld 17 3 16,
 y 18 (.binOp .geq 3 (t 17) (cI 0) 3),
 mv 19 18,
 u 19 true 20 (.move (t 0)),
 u 19 true 21 (.move (t 6)),
 u 19 true 22 (.indexAddr 28 (t 20) (t 21)),
 u 19 true 23 (.load 3 (t 22)),
 u 19 true 24 (.move (t 1)),
 u 19 true 25 (.call ⟨.builtin .len, #[t 24], #[28]⟩),
 u 19 true 26 (.binOp .lss 3 (t 23) (t 25) 3),
 y 27 (.pick (t 19) (t 26) (.const (.bool false)))])
 (.keep [0, 1, 5, 6, 7, 27] (.cond (t 27)
 (.ops [mv 28 1,
 mv 29 0,
 mv 30 6,
 ia 31 28 29 30,
 ld 32 3 31,
 ia 33 28 28 32,
 ld 34 3 33,
 sg 7 34])
 .skip)))
 (.keep [0, 1, 5, 6, 7] (.ops [mv 35 5,
 mv 36 7,
 y 37 (.buildSlice 28 1 #[(0, t 36)]),
 y 38 (.call ⟨.builtin .append, #[t 35, t 37], #[28, 28]⟩),
 sg 5 38])))))
 (.keep [0, 1, 5, 6] (.ops [mv 12 6,
 y 13 (.binOp .add 3 (t 12) (cI 1) 3),
 sg 6 13])))))))))
 (.keep [5] (.seq
 (.ops [mv 39 5,
 sg 4 39])
 .ret))))), [.tmp 4]⟩
theorem is47 : IsFA P pol (planOf pol) 47 2 a47 := ⟨⟨_, _, Try.func47, rfl, rfl, rfl, by kernel_rfl⟩, by decide⟩
theorem ok47 : a47.c.ok = true := by kernel_rfl
theorem r47 (x : denL [tL, tL]) : fun2 (env [] []) a47 [tL, tL] [tL] x = F47 x.1 x.2 := by kernel_rfl
noncomputable def sp47 : FSp := ⟨[tL, tL], [tL], fun x => F47 x.1 x.2⟩
theorem s47 : SpOk pol P 47 sp47 := fun x r h => fun_ok is47 (fun _ => rfl) (tyOk [] []) (kOk rfl rfl rfl allN imN) ok47 rfl rfl ((r47 x).trans h)
noncomputable def a55 : FA := ⟨52, (.seq
 (.ops [y 4 (.assign (.const (.bool true)))])
 (.block 0 (.loop ⟨[0], [(1, .sl 0), (4, dB)], [.own .bool true]⟩ (.keep [0, 1, 4] (.seq
 (.seq
 (.ops [mv 8 4])
 (.cond (t 8)
 .skip
 (.exit 0)))
 (.keep [0, 1] (.block 1 (.seq
 (.ops [y 4 (.assign (.const (.bool false)))])
 (.seq
 (.ops [y 5 (.assign (cI 0))])
 (.block 2 (.loop ⟨[0], [(1, .sl 0), (4, dB), (5, dI)], [.own .bool true]⟩ (.keep [0, 1, 4, 5] (.seq
 (.seq
 (.ops [mv 9 5,
 mv 10 0,
 lenC 11 10 22,
 y 12 (.binOp .lss 3 (t 9) (t 11) 3)])
 (.keep [0, 1, 4, 5, 12] (.cond (t 12)
 .skip
 (.exit 2))))
 (.keep [0, 1, 4, 5] (.seq
 (.block 3 (.seq
 (.ops [y 6 (.assign (cI 0))])
 (.block 4 (.loop ⟨[0, 5], [(1, .sl 0), (4, dB), (6, dI)], [.own .bool true]⟩ (.keep [0, 1, 4, 5, 6] (.seq
 (.jn ⟨[0, 4, 5, 6], [(1, .sl 0), (28, dB)], [.own .bool true]⟩
 (.ops [mv 15 6,
 mv 16 0,
 mv 17 5,
 ia 18 22 16 17,
 fa 19 55 18 2,
 ld 20 28 19,
 lenC 21 20 28,
 y 22 (.binOp .lss 3 (t 15) (t 21) 3),
 mv 23 22,
 u 23 true 24 (.move (t 1)),
 u 23 true 25 (.move (t 5)),
 u 23 true 26 (.indexAddr 60 (t 24) (t 25)),
 u 23 true 27 (.load 4 (t 26)),
 y 28 (.pick (t 23) (t 27) (.const (.bool false)))])
 (.keep [0, 1, 4, 5, 6, 28] (.cond (t 28)
 .skip
 (.exit 4))))
 (.keep [0, 1, 4, 5, 6] (.jn ⟨[0, 5, 6], [(1, .sl 0), (4, dB)], [.own .bool true]⟩
 (.block 5 (.seq
 (.ops [mv 31 0,
 mv 32 5,
 ia 33 22 31 32,
 fa 34 55 33 2,
 ld 35 28 34,
 mv 36 6,
 ia 37 28 35 36,
 ld 38 3 37,
 sg 7 38])
 (.keep [0, 1, 4, 5, 6, 7] (.jn ⟨[0, 4, 5, 6, 7], [(1, .sl 0), (48, dB)], [.own .bool true]⟩
 (.ops [mv 39 0,
 mv 40 7,
 y 41 (.call ⟨.value (.func 39), #[t 39, t 40], #[22, 3]⟩),
 mv 42 41,
 u 42 true 43 (.move (t 1)),
 u 42 true 44 (.move (t 7)),
 u 42 true 45 (.indexAddr 60 (t 43) (t 44)),
 u 42 true 46 (.load 4 (t 45)),
 u 42 true 47 (.unOp .not 4 (t 46)),
 y 48 (.pick (t 42) (t 47) (.const (.bool false)))])
 (.keep [0, 1, 4, 5, 6, 7, 48] (.cond (t 48)
 (.ops [mv 49 1,
 mv 50 7,
 ia 51 60 49 50,
 ⟨.yes, .store 4 (t 51) (.const (.bool true)), none⟩,
 y 4 (.assign (.const (.bool true)))])
 .skip))))))
 (.keep [0, 1, 4, 5, 6] (.ops [mv 29 6,
 y 30 (.binOp .add 3 (t 29) (cI 1) 3),
 sg 6 30]))))))))))
 (.keep [0, 1, 4, 5] (.ops [mv 13 5,
 y 14 (.binOp .add 3 (t 13) (cI 1) 3),
 sg 5 14]))))))))))))))))), []⟩
theorem is55 : IsFA P pol (planOf pol) 55 2 a55 := ⟨⟨_, _, Try.func55, rfl, rfl, rfl, by kernel_rfl⟩, by decide⟩
theorem ok55 : a55.c.ok = true := by kernel_rfl
noncomputable def sp55 : ISpec := ⟨[.dat (.list tn), .sl 0], [.own .bool true], 1, [], [(1, .sl 0)], [.own .bool true], fun (x : TN × List Bool) => (F55 x.1 x.2 : Option (List Bool))⟩
theorem r55 (x : TN × List Bool) : ifun2 (env [(39, sp39)] []) a55 sp55.ins sp55.cks sp55.outs sp55.anc sp55.couts x = F55 x.1 x.2 := by kernel_rfl
theorem s55 : ImOk pol P 55 sp55 := ifun_ok is55 rfl (tyOk [(39, sp39)] []) (kOk rfl rfl rfl (allC s39 allN) imN) ok55 (by kernel_rfl) (by kernel_rfl) (by kernel_rfl) rfl rfl (by kernel_rfl) (fun x => r55 x)
noncomputable def a42 : FA := ⟨159, (.seq
 (.ops [y 3 (.box 26 (t 0)),
 y 6 (.assign (.const (.slice none 0 0))),
 y 7 (.assign (.const (.slice none 0 0))),
 y 8 (.assign (.const (.slice none 0 0)))])
 (.lock 3 (.keep [1, 2, 3] (.seq
 (.seq
 (.ops [y 9 (.assign (cI 0))])
 (.block 0 (.loop ⟨[2, 3], [(1, .sl 0), (9, dI)], [.own .bool true]⟩ (.keep [1, 2, 3, 9] (.seq
 (.seq
 (.ops [mv 21 9,
 mv 22 2,
 lenC 23 22 28,
 y 24 (.binOp .lss 3 (t 21) (t 23) 3)])
 (.keep [1, 2, 3, 9, 24] (.cond (t 24)
 .skip
 (.exit 0))))
 (.keep [1, 2, 3, 9] (.seq
 (.block 1 (.seq
 (.plan [q 0 27 (.fieldAddr 26 (t 3) 1),
 qn 1 28 (.load 23 (t 27)),
 q 2 29 (.move (t 2)),
 q 3 30 (.move (t 9)),
 q 4 31 (.indexAddr 28 (t 29) (t 30)),
 qn 5 32 (.load 3 (t 31)),
 q 6 33 (.indexAddr 23 (t 28) (t 32)),
 qn 7 34 (.load 44 (t 33)),
 ⟨8, [1, 5, 7], false, .alloc, .yes, .alloc 44, some 10⟩,
 ⟨9, [], false, .write, .yes, .store 44 (t 10) (t 34), none⟩])
 (.lock 10 (.keep [1, 2, 3, 9, 10] (.seq
 (.plan [q 0 35 (.move (t 1)),
 q 1 36 (.fieldAddr 44 (t 10) 0),
 qr 2 37 (.load 3 (t 36)),
 q 3 38 (.move (t 1)),
 q 4 39 (.fieldAddr 44 (t 10) 1),
 qn 5 40 (.load 3 (t 39)),
 q 6 41 (.indexAddr 60 (t 35) (t 37)),
 ⟨7, [5], false, .write, .yes, .store 4 (t 41) (.const (.bool true)), none⟩,
 q 8 42 (.indexAddr 60 (t 38) (t 40)),
 ⟨9, [], false, .write, .yes, .store 4 (t 42) (.const (.bool true)), none⟩])
 (.keep [1, 2, 3, 9, 10] (.seq
 (.ops [y 11 (.assign (cI 0))])
 (.block 2 (.loop ⟨[2, 3, 9, 10], [(1, .sl 0), (11, dI)], [.own .bool true]⟩ (.keep [1, 2, 3, 9, 10, 11] (.seq
 (.seq
 (.ops [mv 43 11,
 fa 44 44 10 3,
 ld 45 28 44,
 lenC 46 45 28,
 y 47 (.binOp .lss 3 (t 43) (t 46) 3)])
 (.keep [1, 2, 3, 9, 10, 11, 47] (.cond (t 47)
 .skip
 (.exit 2))))
 (.keep [1, 2, 3, 9, 10, 11] (.jn ⟨[2, 3, 9, 10, 11], [(1, .sl 0)], [.own .bool true]⟩
 (.block 3 (.seq
 (.plan [q 0 50 (.fieldAddr 26 (t 3) 0),
 qr 1 51 (.load 22 (t 50)),
 q 2 52 (.fieldAddr 44 (t 10) 3),
 qr 3 53 (.load 28 (t 52)),
 q 4 54 (.move (t 11)),
 q 5 55 (.indexAddr 28 (t 53) (t 54)),
 qr 6 56 (.load 3 (t 55)),
 ⟨7, [], false, .write, .yes, .call ⟨.value (.func 39), #[t 51, t 56], #[22, 3]⟩, some 57⟩])
 (.keep [1, 2, 3, 9, 10, 11, 57] (.cond (t 57)
 (.ops [mv 58 1,
 fa 59 44 10 3,
 ld 60 28 59,
 mv 61 11,
 ia 62 28 60 61,
 ld 63 3 62,
 ia 64 60 58 63,
 ⟨.yes, .store 4 (t 64) (.const (.bool true)), none⟩])
 .skip))))
 (.keep [1, 2, 3, 9, 10, 11] (.ops [mv 48 11,
 y 49 (.binOp .add 3 (t 48) (cI 1) 3),
 sg 11 49])))))))))))))))
 (.keep [1, 2, 3, 9] (.ops [mv 25 9,
 y 26 (.binOp .add 3 (t 25) (cI 1) 3),
 sg 9 26])))))))))
 (.keep [1, 2, 3] (.seq
 (.ops [fa 65 26 3 0,
 ld 66 22 65,
 mv 67 1,
 y 68 (.call ⟨.value (.func 55), #[t 66, t 67], #[22, 60]⟩)])
 (.keep [1, 2, 3] (.seq
 (.ops [fa 69 26 3 0,
 ld 70 22 69,
 lenC 71 70 22,
 y 72 (.makeSlice 28 (t 71) (t 71)),
 sg 12 72])
 (.keep [1, 2, 3, 12] (.seq
 (.ops [y 13 (.assign (cI 0))])
 (.seq
 (.seq
 (.ops [y 14 (.assign (cI 0))])
 (.block 4 (.loop ⟨[2, 3], [(1, .sl 0), (12, .sl 1), (13, dI), (14, dI)], [.own .bool true, .own tI true]⟩ (.keep [1, 2, 3, 12, 13, 14] (.seq
 (.seq
 (.ops [mv 73 14,
 mv 74 12,
 lenC 75 74 28,
 y 76 (.binOp .lss 3 (t 73) (t 75) 3)])
 (.keep [1, 2, 3, 12, 13, 14, 76] (.cond (t 76)
 .skip
 (.exit 4))))
 (.keep [1, 2, 3, 12, 13, 14] (.jn ⟨[2, 3, 14], [(1, .sl 0), (12, .sl 1), (13, dI)], [.own .bool true, .own tI true]⟩
 (.block 5 (.seq
 (.ops [mv 79 12,
 mv 80 14,
 ia 81 28 79 80,
 ⟨.yes, .store 3 (t 81) (cI (-1)), none⟩])
 (.keep [1, 2, 3, 12, 13, 14] (.seq
 (.ops [mv 82 1,
 mv 83 14,
 ia 84 60 82 83,
 ld 85 4 84])
 (.keep [1, 2, 3, 12, 13, 14, 85] (.cond (t 85)
 (.seq
 (.ops [mv 86 12,
 mv 87 14,
 mv 88 13,
 ia 89 28 86 87,
 ⟨.yes, .store 3 (t 89) (t 88), none⟩])
 (.keep [1, 2, 3, 12, 13, 14] (.ops [mv 90 13,
 y 91 (.binOp .add 3 (t 90) (cI 1) 3),
 sg 13 91])))
 .skip))))))
 (.keep [1, 2, 3, 12, 13, 14] (.ops [mv 77 14,
 y 78 (.binOp .add 3 (t 77) (cI 1) 3),
 sg 14 78])))))))))
 (.keep [1, 2, 3, 12] (.seq
 (.ops [y 15 (.assign (.const (.slice none 0 0)))])
 (.seq
 (.seq
 (.ops [y 16 (.assign (cI 0))])
 (.block 6 (.loop ⟨[2, 3], [(1, .sl 0), (12, .sl 1), (15, .sl 2), (16, dI)], [.own .bool true, .own tI false, .own tn true]⟩ (.keep [1, 2, 3, 12, 15, 16] (.seq
 (.seq
 (.ops [mv 92 16,
 mv 93 12,
 lenC 94 93 28,
 y 95 (.binOp .lss 3 (t 92) (t 94) 3)])
 (.keep [1, 2, 3, 12, 15, 16, 95] (.cond (t 95)
 .skip
 (.exit 6))))
 (.keep [1, 2, 3, 12, 15, 16] (.jn ⟨[2, 3, 16], [(1, .sl 0), (12, .sl 1), (15, .sl 2)], [.own .bool true, .own tI false, .own tn true]⟩
 (.block 7 (.seq
 (.ops [mv 98 1,
 mv 99 16,
 ia 100 60 98 99,
 ld 101 4 100])
 (.keep [1, 2, 3, 12, 15, 16, 101] (.cond (t 101)
 (.seq
 (.ops [fa 102 26 3 0,
 ld 103 22 102,
 mv 104 16,
 ia 105 22 103 104,
 ld 106 55 105,
 y 17 (.alloc 55),
 ⟨.yes, .store 55 (t 17) (t 106), none⟩])
 (.lock 17 (.keep [1, 2, 3, 12, 15, 16, 17] (.plan [q 0 107 (.move (t 15)),
 q 1 108 (.fieldAddr 55 (t 17) 0),
 qn 2 109 (.load 3 (t 108)),
 q 3 110 (.fieldAddr 55 (t 17) 1),
 qn 4 111 (.load 2 (t 110)),
 q 5 112 (.fieldAddr 55 (t 17) 2),
 qr 6 113 (.load 28 (t 112)),
 q 7 114 (.move (t 12)),
 ⟨8, [2, 4], false, .write, .yes, .call ⟨.value (.func 47), #[t 113, t 114], #[28, 28]⟩, some 115⟩,
 q 9 116 (.build 55 #[(0, t 109), (1, t 111), (2, t 115)]),
 ⟨10, [], false, .alloc, .yes, .buildSlice 22 1 #[(0, t 116)], some 117⟩,
 ⟨11, [], false, .write, .yes, .call ⟨.builtin .append, #[t 107, t 117], #[22, 22]⟩, some 118⟩,
 q 12 15 (.assign (t 118))]))))
 .skip))))
 (.keep [1, 2, 3, 12, 15, 16] (.ops [mv 96 16,
 y 97 (.binOp .add 3 (t 96) (cI 1) 3),
 sg 16 97])))))))))
 (.keep [2, 3, 12, 15, 1] (.seq
 (.ops [y 18 (.assign (.const (.slice none 0 0)))])
 (.seq
 (.seq
 (.ops [y 19 (.assign (cI 0))])
 (.block 8 (.loop ⟨[2, 3], [(1, .sl 0), (12, .sl 1), (15, .sl 2), (18, .sl 3), (19, dI)], [.own .bool true, .own tI false, .own tn true, .own ts true]⟩ (.keep [2, 3, 12, 15, 18, 19, 1] (.seq
 (.seq
 (.ops [mv 119 19,
 mv 120 2,
 lenC 121 120 28,
 y 122 (.binOp .lss 3 (t 119) (t 121) 3)])
 (.keep [2, 3, 12, 15, 18, 19, 122, 1] (.cond (t 122)
 .skip
 (.exit 8))))
 (.keep [2, 3, 12, 15, 18, 19, 1] (.seq
 (.block 9 (.seq
 (.plan [q 0 125 (.fieldAddr 26 (t 3) 1),
 qn 1 126 (.load 23 (t 125)),
 q 2 127 (.move (t 2)),
 q 3 128 (.move (t 19)),
 q 4 129 (.indexAddr 28 (t 127) (t 128)),
 qn 5 130 (.load 3 (t 129)),
 q 6 131 (.indexAddr 23 (t 126) (t 130)),
 qn 7 132 (.load 44 (t 131)),
 ⟨8, [1, 5, 7], false, .alloc, .yes, .alloc 44, some 20⟩,
 ⟨9, [], false, .write, .yes, .store 44 (t 20) (t 132), none⟩])
 (.lock 20 (.keep [2, 3, 12, 15, 18, 19, 20, 1] (.plan [q 0 133 (.move (t 18)),
 q 1 134 (.move (t 12)),
 q 2 135 (.fieldAddr 44 (t 20) 0),
 qn 3 136 (.load 3 (t 135)),
 q 4 137 (.indexAddr 28 (t 134) (t 136)),
 qn 5 138 (.load 3 (t 137)),
 q 6 139 (.move (t 12)),
 q 7 140 (.fieldAddr 44 (t 20) 1),
 qn 8 141 (.load 3 (t 140)),
 q 9 142 (.indexAddr 28 (t 139) (t 141)),
 qn 10 143 (.load 3 (t 142)),
 q 11 144 (.fieldAddr 44 (t 20) 2),
 qn 12 145 (.load 3 (t 144)),
 q 13 146 (.fieldAddr 44 (t 20) 3),
 qr 14 147 (.load 28 (t 146)),
 q 15 148 (.move (t 12)),
 q 17 150 (.fieldAddr 44 (t 20) 4),
 qn 18 151 (.load 42 (t 150)),
 ⟨16, [3, 5, 8, 10, 12, 18], false, .write, .yes, .call ⟨.value (.func 47), #[t 147, t 148], #[28, 28]⟩, some 149⟩,
 ⟨19, [3, 5, 8, 10, 12], false, .write, .yes, .call ⟨.builtin .append, #[.const (.slice none 0 0), t 151], #[42, 42]⟩, some 152⟩,
 q 20 153 (.build 44 #[(0, t 138), (1, t 143), (2, t 145), (3, t 149), (4, t 152)]),
 ⟨21, [], false, .alloc, .yes, .buildSlice 23 1 #[(0, t 153)], some 154⟩,
 ⟨22, [], false, .write, .yes, .call ⟨.builtin .append, #[t 133, t 154], #[23, 23]⟩, some 155⟩,
 q 23 18 (.assign (t 155))])))))
 (.keep [2, 3, 12, 15, 18, 19, 1] (.ops [mv 123 19,
 y 124 (.binOp .add 3 (t 123) (cI 1) 3),
 sg 19 124])))))))))
 (.keep [12, 15, 18, 1] (.seq
 (.ops [mv 156 15,
 mv 157 18,
 mv 158 12,
 sg 6 156,
 sg 7 157,
 sg 8 158])
 .ret))))))))))))))))))), [.tmp 6, .tmp 7, .tmp 8]⟩
theorem is42 : IsFA P pol (planOf pol) 42 3 a42 := ⟨⟨_, _, Try.func42, rfl, rfl, rfl, by kernel_rfl⟩, by decide⟩
theorem ok42 : a42.c.ok = true := by kernel_rfl
noncomputable def sp42 : ISpec := ⟨[.agg [.dat (.list tn), .dat (.list ts), .dat (.list (.st (.prod tI (.st (.prod tI tI))))), dI, dI, dI, dI], .sl 0, .dat tL], [.own .bool true], 1, [.sl 1, .sl 2, .sl 3], [(1, .sl 0)], [.own .bool true, .own tn true, .own ts true, .own tI false], fun (x : TN × TS × TI × Int × Int × Int × Int × List Int × List Bool) => (F42 x.1 x.2.1 x.2.2.1 x.2.2.2.1 x.2.2.2.2.1 x.2.2.2.2.2.1 x.2.2.2.2.2.2.1 x.2.2.2.2.2.2.2.1 x.2.2.2.2.2.2.2.2 : Option (List Bool × TN × TS × List Int))⟩
theorem r42 (x : TN × TS × TI × Int × Int × Int × Int × List Int × List Bool) : ifun2 (env [(39, sp39), (47, sp47)] [(55, sp55)]) a42 sp42.ins sp42.cks sp42.outs sp42.anc sp42.couts x = F42 x.1 x.2.1 x.2.2.1 x.2.2.2.1 x.2.2.2.2.1 x.2.2.2.2.2.1 x.2.2.2.2.2.2.1 x.2.2.2.2.2.2.2.1 x.2.2.2.2.2.2.2.2 := by kernel_rfl
theorem s42 : ImOk pol P 42 sp42 := ifun_ok is42 rfl (tyOk [(39, sp39), (47, sp47)] [(55, sp55)]) (kOk rfl rfl rfl (allC s39 (allC s47 allN)) (imC s55 imN)) ok42 (by kernel_rfl) (by kernel_rfl) (by kernel_rfl) rfl rfl (by kernel_rfl) (fun x => r42 x)
noncomputable def a17 : FA := ⟨58, (.seq
 (.ops [y 3 (.box 26 (t 0)),
 y 6 (.alloc 32),
 y 7 (.assign (.const (.bool false)))])
 (.lock 3 (.seq
 (.ops [ld 15 26 3,
 mv 16 1,
 mv 17 2,
 fa 18 26 3 1,
 ld 19 23 18,
 lenC 20 19 23,
 y 21 (.call ⟨.value (.func 14), #[t 15, t 16, t 17, t 20], #[26, 3, 3, 3]⟩),
 mv 14 21,
 y 22 (.extract (t 14) 0),
 y 23 (.extract (t 14) 1),
 sg 8 22,
 sg 9 23])
 (.keep [1, 2, 3, 6, 8, 9] (.seq
 (.seq
 (.ops [mv 24 9,
 y 25 (.unOp .not 4 (t 24))])
 (.cond (t 25)
 (.seq
 (.ops [y 26 (.build 32 #[]),
 ⟨.yes, .store 32 (t 6) (t 26), none⟩,
 y 7 (.assign (.const (.bool false)))])
 .ret)
 .skip))
 (.keep [1, 2, 3, 6, 8] (.seq
 (.ops [fa 27 26 3 0,
 ld 28 22 27,
 lenC 29 28 22,
 y 30 (.makeSlice 60 (t 29) (t 29)),
 sg 10 30])
 (.keep [1, 2, 3, 6, 8, 10] (.seq
 (.ops [mv 31 10,
 mv 32 1,
 mv 33 10,
 mv 34 2,
 ia 35 60 31 32,
 ⟨.yes, .store 4 (t 35) (.const (.bool true)), none⟩,
 ia 36 60 33 34,
 ⟨.yes, .store 4 (t 36) (.const (.bool true)), none⟩])
 (.keep [1, 2, 3, 6, 8, 10] (.seq
 (.plan [qn 0 38 (.load 26 (t 3)),
 q 1 39 (.move (t 10)),
 qr 2 40 (.load 26 (t 3)),
 q 3 41 (.move (t 8)),
 ⟨4, [0], false, .write, .yes, .call ⟨.value (.func 16), #[t 40, t 41], #[26, 28]⟩, some 42⟩,
 ⟨5, [], false, .write, .yes, .call ⟨.value (.func 42), #[t 38, t 39, t 42], #[26, 60, 28]⟩, some 43⟩,
 q 6 37 (.move (t 43)),
 q 7 44 (.extract (t 37) 0),
 q 8 45 (.extract (t 37) 1),
 q 9 46 (.extract (t 37) 2),
 q 10 11 (.assign (t 44)),
 q 11 12 (.assign (t 45)),
 q 12 13 (.assign (t 46))])
 (.keep [1, 2, 6, 11, 12, 13] (.seq
 (.plan [q 0 47 (.move (t 11)),
 q 1 48 (.move (t 12)),
 q 2 49 (.move (t 13)),
 q 3 50 (.move (t 1)),
 q 4 51 (.indexAddr 28 (t 49) (t 50)),
 qr 5 52 (.load 3 (t 51)),
 q 6 53 (.move (t 13)),
 q 7 54 (.move (t 2)),
 q 8 55 (.indexAddr 28 (t 53) (t 54)),
 qr 9 56 (.load 3 (t 55)),
 q 10 57 (.build 32 #[(0, t 47), (1, t 48), (2, t 52), (3, t 56)]),
 ⟨11, [], false, .write, .yes, .store 32 (t 6) (t 57), none⟩,
 q 12 7 (.assign (.const (.bool true)))])
 .ret))))))))))))), [.cell 6 32, .tmp 7]⟩
theorem is17 : IsFA P pol (planOf pol) 17 3 a17 := ⟨⟨_, _, Try.func17, rfl, rfl, rfl, by kernel_rfl⟩, by decide⟩
theorem ok17 : a17.c.ok = true := by kernel_rfl
theorem r17 (x : denL [(.st (.prod (.list tn) (.prod (.list ts) (.prod (.list (.st (.prod tI (.st (.prod tI tI))))) (.prod tI (.prod tI (.prod tI tI))))))), tI, tI]) : fun2 (env [(14, sp14), (16, sp16)] [(42, sp42)]) a17 [(.st (.prod (.list tn) (.prod (.list ts) (.prod (.list (.st (.prod tI (.st (.prod tI tI))))) (.prod tI (.prod tI (.prod tI tI))))))), tI, tI] [(.st (.prod (.list tn) (.prod (.list ts) (.prod tI tI)))), .bool] x = F17 x.1 x.2.1 x.2.2 := by kernel_rfl
noncomputable def sp17 : FSp := ⟨[(.st (.prod (.list tn) (.prod (.list ts) (.prod (.list (.st (.prod tI (.st (.prod tI tI))))) (.prod tI (.prod tI (.prod tI tI))))))), tI, tI], [(.st (.prod (.list tn) (.prod (.list ts) (.prod tI tI)))), .bool], fun x => F17 x.1 x.2.1 x.2.2⟩
theorem s17 : SpOk pol P 17 sp17 := fun x r h => fun_ok is17 (fun _ => rfl) (tyOk [(14, sp14), (16, sp16)] [(42, sp42)]) (kOk rfl rfl rfl (allC s14 (allC s16 allN)) (imC s42 imN)) ok17 rfl rfl ((r17 x).trans h)
noncomputable def a24 : FA := ⟨27, (.seq
 (.ops [y 4 (.assign (.const (.bool false)))])
 (.seq
 (.seq
 (.ops [mv 6 0,
 lenC 7 6 22,
 mv 8 1,
 lenC 9 8 22,
 y 10 (.binOp .neq 3 (t 7) (t 9) 3)])
 (.keep [0, 1, 10] (.cond (t 10)
 (.seq
 (.ops [y 4 (.assign (.const (.bool false)))])
 .ret)
 .skip)))
 (.keep [0, 1] (.seq
 (.seq
 (.ops [y 5 (.assign (cI 0))])
 (.block 0 (.loop ⟨[0, 1], [(5, dI)], []⟩ (.keep [0, 1, 5] (.seq
 (.seq
 (.ops [mv 11 5,
 mv 12 0,
 lenC 13 12 22,
 y 14 (.binOp .lss 3 (t 11) (t 13) 3)])
 (.keep [0, 1, 5, 14] (.cond (t 14)
 .skip
 (.exit 0))))
 (.keep [0, 1, 5] (.seq
 (.block 1 (.seq
 (.plan [q 0 17 (.move (t 0)),
 q 1 18 (.move (t 5)),
 q 2 19 (.indexAddr 22 (t 17) (t 18)),
 qr 3 20 (.load 55 (t 19)),
 q 4 21 (.move (t 1)),
 q 5 22 (.move (t 5)),
 q 6 23 (.indexAddr 22 (t 21) (t 22)),
 qr 7 24 (.load 55 (t 23)),
 ⟨8, [], false, .write, .yes, .call ⟨.value (.func 48), #[t 20, t 24], #[55, 55]⟩, some 25⟩,
 q 9 26 (.unOp .not 4 (t 25))])
 (.keep [0, 1, 5, 26] (.cond (t 26)
 (.seq
 (.ops [y 4 (.assign (.const (.bool false)))])
 .ret)
 .skip))))
 (.keep [0, 1, 5] (.ops [mv 15 5,
 y 16 (.binOp .add 3 (t 15) (cI 1) 3),
 sg 5 16])))))))))
 (.keep [] (.seq
 (.ops [y 4 (.assign (.const (.bool true)))])
 .ret)))))), [.tmp 4]⟩
theorem is24 : IsFA P pol (planOf pol) 24 2 a24 := ⟨⟨_, _, Try.func24, rfl, rfl, rfl, by kernel_rfl⟩, by decide⟩
theorem ok24 : a24.c.ok = true := by kernel_rfl
theorem r24 (x : denL [(.list tn), (.list tn)]) : fun2 (env [(48, sp48)] []) a24 [(.list tn), (.list tn)] [.bool] x = F24 x.1 x.2 := by kernel_rfl
noncomputable def sp24 : FSp := ⟨[(.list tn), (.list tn)], [.bool], fun x => F24 x.1 x.2⟩
theorem s24 : SpOk pol P 24 sp24 := fun x r h => fun_ok is24 (fun _ => rfl) (tyOk [(48, sp48)] []) (kOk rfl rfl rfl (allC s48 allN) imN) ok24 rfl rfl ((r24 x).trans h)
noncomputable def a10 : FA := ⟨26, (.seq
 (.ops [y 4 (.assign (.const (.bool false)))])
 (.seq
 (.seq
 (.ops [mv 6 0,
 lenC 7 6 28,
 mv 8 1,
 lenC 9 8 28,
 y 10 (.binOp .neq 3 (t 7) (t 9) 3)])
 (.keep [0, 1, 10] (.cond (t 10)
 (.seq
 (.ops [y 4 (.assign (.const (.bool false)))])
 .ret)
 .skip)))
 (.keep [0, 1] (.seq
 (.seq
 (.ops [y 5 (.assign (cI 0))])
 (.block 0 (.loop ⟨[0, 1], [(5, dI)], []⟩ (.keep [0, 1, 5] (.seq
 (.seq
 (.ops [mv 11 5,
 mv 12 0,
 lenC 13 12 28,
 y 14 (.binOp .lss 3 (t 11) (t 13) 3)])
 (.keep [0, 1, 5, 14] (.cond (t 14)
 .skip
 (.exit 0))))
 (.keep [0, 1, 5] (.seq
 (.block 1 (.seq
 (.plan [q 0 17 (.move (t 0)),
 q 1 18 (.move (t 5)),
 q 2 19 (.indexAddr 28 (t 17) (t 18)),
 qr 3 20 (.load 3 (t 19)),
 q 4 21 (.move (t 1)),
 q 5 22 (.move (t 5)),
 q 6 23 (.indexAddr 28 (t 21) (t 22)),
 qr 7 24 (.load 3 (t 23)),
 q 8 25 (.binOp .neq 3 (t 20) (t 24) 3)])
 (.keep [0, 1, 5, 25] (.cond (t 25)
 (.seq
 (.ops [y 4 (.assign (.const (.bool false)))])
 .ret)
 .skip))))
 (.keep [0, 1, 5] (.ops [mv 15 5,
 y 16 (.binOp .add 3 (t 15) (cI 1) 3),
 sg 5 16])))))))))
 (.keep [] (.seq
 (.ops [y 4 (.assign (.const (.bool true)))])
 .ret)))))), [.tmp 4]⟩
theorem is10 : IsFA P pol (planOf pol) 10 2 a10 := ⟨⟨_, _, Try.func10, rfl, rfl, rfl, by kernel_rfl⟩, by decide⟩
theorem ok10 : a10.c.ok = true := by kernel_rfl
theorem r10 (x : denL [tL, tL]) : fun2 (env [] []) a10 [tL, tL] [.bool] x = F10 x.1 x.2 := by kernel_rfl
noncomputable def sp10 : FSp := ⟨[tL, tL], [.bool], fun x => F10 x.1 x.2⟩
theorem s10 : SpOk pol P 10 sp10 := fun x r h => fun_ok is10 (fun _ => rfl) (tyOk [] []) (kOk rfl rfl rfl allN imN) ok10 rfl rfl ((r10 x).trans h)
noncomputable def a25 : FA := ⟨82, (.seq
 (.ops [y 4 (.assign (.const (.bool false)))])
 (.seq
 (.seq
 (.ops [mv 9 0,
 lenC 10 9 23,
 mv 11 1,
 lenC 12 11 23,
 y 13 (.binOp .neq 3 (t 10) (t 12) 3)])
 (.keep [0, 1, 13] (.cond (t 13)
 (.seq
 (.ops [y 4 (.assign (.const (.bool false)))])
 .ret)
 .skip)))
 (.keep [0, 1] (.seq
 (.seq
 (.ops [y 5 (.assign (cI 0))])
 (.block 0 (.loop ⟨[0, 1], [(5, dI)], []⟩ (.keep [0, 1, 5] (.seq
 (.seq
 (.ops [mv 14 5,
 mv 15 0,
 lenC 16 15 23,
 y 17 (.binOp .lss 3 (t 14) (t 16) 3)])
 (.keep [0, 1, 5, 17] (.cond (t 17)
 .skip
 (.exit 0))))
 (.keep [0, 1, 5] (.seq
 (.block 1 (.seq
 (.plan [q 0 20 (.move (t 0)),
 q 1 21 (.move (t 5)),
 q 2 22 (.indexAddr 23 (t 20) (t 21)),
 qn 3 23 (.load 44 (t 22)),
 q 4 24 (.move (t 1)),
 q 5 25 (.move (t 5)),
 q 6 26 (.indexAddr 23 (t 24) (t 25)),
 qn 7 27 (.load 44 (t 26)),
 ⟨8, [3, 7], false, .alloc, .yes, .alloc 44, some 6⟩,
 ⟨9, [3, 7], false, .alloc, .yes, .alloc 44, some 7⟩,
 ⟨10, [7], false, .write, .yes, .store 44 (t 6) (t 23), none⟩,
 ⟨11, [], false, .write, .yes, .store 44 (t 7) (t 27), none⟩])
 (.lock 7 (.lock 6 (.keep [0, 1, 5, 6, 7] (.seq
 (.jn ⟨[0, 1, 5, 6, 7], [(63, dB)], []⟩
 (.ops [fa 28 44 6 0,
 ld 29 3 28,
 fa 30 44 7 0,
 ld 31 3 30,
 y 32 (.binOp .neq 3 (t 29) (t 31) 3),
 mv 33 32,
 u 33 false 34 (.fieldAddr 44 (t 6) 1),
 u 33 false 35 (.load 3 (t 34)),
 u 33 false 36 (.fieldAddr 44 (t 7) 1),
 u 33 false 37 (.load 3 (t 36)),
 u 33 false 38 (.binOp .neq 3 (t 35) (t 37) 3),
 y 39 (.pick (t 33) (.const (.bool true)) (t 38)),
 mv 40 39,
 u 40 false 41 (.fieldAddr 44 (t 6) 2),
 u 40 false 42 (.load 3 (t 41)),
 u 40 false 43 (.fieldAddr 44 (t 7) 2),
 u 40 false 44 (.load 3 (t 43)),
 u 40 false 45 (.binOp .neq 3 (t 42) (t 44) 3),
 y 46 (.pick (t 40) (.const (.bool true)) (t 45)),
 mv 47 46,
 u 47 false 48 (.fieldAddr 44 (t 6) 3),
 u 47 false 49 (.load 28 (t 48)),
 u 47 false 50 (.fieldAddr 44 (t 7) 3),
 u 47 false 51 (.load 28 (t 50)),
 u 47 false 52 (.call ⟨.value (.func 10), #[t 49, t 51], #[28, 28]⟩),
 u 47 false 53 (.unOp .not 4 (t 52)),
 y 54 (.pick (t 47) (.const (.bool true)) (t 53)),
 mv 55 54,
 u 55 false 56 (.fieldAddr 44 (t 6) 4),
 u 55 false 57 (.load 42 (t 56)),
 u 55 false 58 (.call ⟨.builtin .len, #[t 57], #[42]⟩),
 u 55 false 59 (.fieldAddr 44 (t 7) 4),
 u 55 false 60 (.load 42 (t 59)),
 u 55 false 61 (.call ⟨.builtin .len, #[t 60], #[42]⟩),
 u 55 false 62 (.binOp .neq 3 (t 58) (t 61) 3),
 y 63 (.pick (t 55) (.const (.bool true)) (t 62))])
 (.keep [0, 1, 5, 6, 7, 63] (.cond (t 63)
 (.seq
 (.ops [y 4 (.assign (.const (.bool false)))])
 .ret)
 .skip)))
 (.keep [0, 1, 5, 6, 7] (.seq
 (.ops [y 8 (.assign (cI 0))])
 (.block 2 (.loop ⟨[0, 1, 5, 6, 7], [(8, dI)], []⟩ (.keep [0, 1, 5, 6, 7, 8] (.seq
 (.seq
 (.ops [mv 64 8,
 fa 65 44 6 4,
 ld 66 42 65,
 lenC 67 66 42,
 y 68 (.binOp .lss 3 (t 64) (t 67) 3)])
 (.keep [0, 1, 5, 6, 7, 8, 68] (.cond (t 68)
 .skip
 (.exit 2))))
 (.keep [0, 1, 5, 6, 7, 8] (.seq
 (.block 3 (.seq
 (.plan [q 0 71 (.fieldAddr 44 (t 6) 4),
 qr 1 72 (.load 42 (t 71)),
 q 2 73 (.move (t 8)),
 q 3 74 (.indexAddr 42 (t 72) (t 73)),
 qr 4 75 (.load 2 (t 74)),
 q 5 76 (.fieldAddr 44 (t 7) 4),
 qr 6 77 (.load 42 (t 76)),
 q 7 78 (.move (t 8)),
 q 8 79 (.indexAddr 42 (t 77) (t 78)),
 qr 9 80 (.load 2 (t 79)),
 q 10 81 (.binOp .neq 2 (t 75) (t 80) 2)])
 (.keep [0, 1, 5, 6, 7, 8, 81] (.cond (t 81)
 (.seq
 (.ops [y 4 (.assign (.const (.bool false)))])
 .ret)
 .skip))))
 (.keep [0, 1, 5, 6, 7, 8] (.ops [mv 69 8,
 y 70 (.binOp .add 3 (t 69) (cI 1) 3),
 sg 8 70]))))))))))))))))
 (.keep [0, 1, 5] (.ops [mv 18 5,
 y 19 (.binOp .add 3 (t 18) (cI 1) 3),
 sg 5 19])))))))))
 (.keep [] (.seq
 (.ops [y 4 (.assign (.const (.bool true)))])
 .ret)))))), [.tmp 4]⟩
theorem is25 : IsFA P pol (planOf pol) 25 2 a25 := ⟨⟨_, _, Try.func25, rfl, rfl, rfl, by kernel_rfl⟩, by decide⟩
theorem ok25 : a25.c.ok = true := by kernel_rfl
theorem r25 (x : denL [(.list ts), (.list ts)]) : fun2 (env [(10, sp10)] []) a25 [(.list ts), (.list ts)] [.bool] x = F25 x.1 x.2 := by kernel_rfl
noncomputable def sp25 : FSp := ⟨[(.list ts), (.list ts)], [.bool], fun x => F25 x.1 x.2⟩
theorem s25 : SpOk pol P 25 sp25 := fun x r h => fun_ok is25 (fun _ => rfl) (tyOk [(10, sp10)] []) (kOk rfl rfl rfl (allC s10 allN) imN) ok25 rfl rfl ((r25 x).trans h)
noncomputable def a18 : FA := ⟨31, (.seq
 (.ops [y 2 (.box 32 (t 0)),
 y 3 (.box 32 (t 1)),
 y 4 (.assign (.const (.bool false)))])
 (.lock 3 (.lock 2 (.jn ⟨[], [(4, dB)], []⟩
 (.ops [fa 5 32 2 2,
 ld 6 3 5,
 fa 7 32 3 2,
 ld 8 3 7,
 y 9 (.binOp .eql 3 (t 6) (t 8) 3),
 mv 10 9,
 u 10 true 11 (.fieldAddr 32 (t 2) 3),
 u 10 true 12 (.load 3 (t 11)),
 u 10 true 13 (.fieldAddr 32 (t 3) 3),
 u 10 true 14 (.load 3 (t 13)),
 u 10 true 15 (.binOp .eql 3 (t 12) (t 14) 3),
 y 16 (.pick (t 10) (t 15) (.const (.bool false))),
 mv 17 16,
 u 17 true 18 (.fieldAddr 32 (t 2) 0),
 u 17 true 19 (.load 22 (t 18)),
 u 17 true 20 (.fieldAddr 32 (t 3) 0),
 u 17 true 21 (.load 22 (t 20)),
 u 17 true 22 (.call ⟨.value (.func 24), #[t 19, t 21], #[22, 22]⟩),
 y 23 (.pick (t 17) (t 22) (.const (.bool false))),
 mv 24 23,
 u 24 true 25 (.fieldAddr 32 (t 2) 1),
 u 24 true 26 (.load 23 (t 25)),
 u 24 true 27 (.fieldAddr 32 (t 3) 1),
 u 24 true 28 (.load 23 (t 27)),
 u 24 true 29 (.call ⟨.value (.func 25), #[t 26, t 28], #[23, 23]⟩),
 y 30 (.pick (t 24) (t 29) (.const (.bool false))),
 sg 4 30])
 .ret)))), [.tmp 4]⟩
theorem is18 : IsFA P pol (planOf pol) 18 2 a18 := ⟨⟨_, _, Try.func18, rfl, rfl, rfl, by kernel_rfl⟩, by decide⟩
theorem ok18 : a18.c.ok = true := by kernel_rfl
theorem r18 (x : denL [(.st (.prod (.list tn) (.prod (.list ts) (.prod tI tI)))), (.st (.prod (.list tn) (.prod (.list ts) (.prod tI tI))))]) : fun2 (env [(24, sp24), (25, sp25)] []) a18 [(.st (.prod (.list tn) (.prod (.list ts) (.prod tI tI)))), (.st (.prod (.list tn) (.prod (.list ts) (.prod tI tI))))] [.bool] x = F18 x.1 x.2 := by kernel_rfl
noncomputable def sp18 : FSp := ⟨[(.st (.prod (.list tn) (.prod (.list ts) (.prod tI tI)))), (.st (.prod (.list tn) (.prod (.list ts) (.prod tI tI))))], [.bool], fun x => F18 x.1 x.2⟩
theorem s18 : SpOk pol P 18 sp18 := fun x r h => fun_ok is18 (fun _ => rfl) (tyOk [(24, sp24), (25, sp25)] []) (kOk rfl rfl rfl (allC s24 (allC s25 allN)) imN) ok18 rfl rfl ((r18 x).trans h)
noncomputable def a57 : FA := ⟨85, (.seq
 (.ops [y 8 (.assign (.const (.bool false)))])
 (.seq
 (.plan [q 0 12 (.move (t 0)),
 q 1 13 (.move (t 2)),
 q 2 14 (.indexAddr 22 (t 12) (t 13)),
 qn 3 15 (.load 55 (t 14)),
 q 4 16 (.move (t 0)),
 q 5 17 (.move (t 3)),
 q 6 18 (.indexAddr 22 (t 16) (t 17)),
 qn 7 19 (.load 55 (t 18)),
 ⟨8, [3, 7], false, .alloc, .yes, .alloc 55, some 9⟩,
 ⟨9, [3, 7], false, .alloc, .yes, .alloc 55, some 10⟩,
 ⟨10, [7], false, .write, .yes, .store 55 (t 9) (t 15), none⟩,
 ⟨11, [], false, .write, .yes, .store 55 (t 10) (t 19), none⟩])
 (.lock 10 (.lock 9 (.keep [0, 1, 9, 10] (.seq
 (.jn ⟨[0, 1, 9, 10], [(40, dB)], []⟩
 (.ops [fa 20 55 9 0,
 ld 21 3 20,
 fa 22 55 10 0,
 ld 23 3 22,
 y 24 (.binOp .neq 3 (t 21) (t 23) 3),
 mv 25 24,
 u 25 false 26 (.fieldAddr 55 (t 9) 1),
 u 25 false 27 (.load 2 (t 26)),
 u 25 false 28 (.fieldAddr 55 (t 10) 1),
 u 25 false 29 (.load 2 (t 28)),
 u 25 false 30 (.binOp .neq 2 (t 27) (t 29) 2),
 y 31 (.pick (t 25) (.const (.bool true)) (t 30)),
 mv 32 31,
 u 32 false 33 (.fieldAddr 55 (t 9) 2),
 u 32 false 34 (.load 28 (t 33)),
 u 32 false 35 (.call ⟨.builtin .len, #[t 34], #[28]⟩),
 u 32 false 36 (.fieldAddr 55 (t 10) 2),
 u 32 false 37 (.load 28 (t 36)),
 u 32 false 38 (.call ⟨.builtin .len, #[t 37], #[28]⟩),
 u 32 false 39 (.binOp .neq 3 (t 35) (t 38) 3),
 y 40 (.pick (t 32) (.const (.bool true)) (t 39))])
 (.keep [0, 1, 9, 10, 40] (.cond (t 40)
 (.seq
 (.ops [y 8 (.assign (.const (.bool false)))])
 .ret)
 .skip)))
 (.keep [0, 1, 9, 10] (.seq
 (.seq
 (.ops [y 11 (.assign (cI 0))])
 (.block 0 (.loop ⟨[0, 1, 9, 10], [(11, dI)], []⟩ (.keep [0, 1, 9, 10, 11] (.seq
 (.seq
 (.ops [mv 41 11,
 fa 42 55 9 2,
 ld 43 28 42,
 lenC 44 43 28,
 y 45 (.binOp .lss 3 (t 41) (t 44) 3)])
 (.keep [0, 1, 9, 10, 11, 45] (.cond (t 45)
 .skip
 (.exit 0))))
 (.keep [0, 1, 9, 10, 11] (.seq
 (.block 1 (.jn ⟨[0, 1, 9, 10, 11], [(84, dB)], []⟩
 (.plan [q 0 48 (.move (t 0)),
 q 1 49 (.fieldAddr 55 (t 9) 2),
 qr 2 50 (.load 28 (t 49)),
 q 3 51 (.move (t 11)),
 q 4 52 (.indexAddr 28 (t 50) (t 51)),
 qr 5 53 (.load 3 (t 52)),
 ⟨6, [], false, .write, .yes, .call ⟨.value (.func 39), #[t 48, t 53], #[22, 3]⟩, some 54⟩,
 q 7 55 (.unOp .not 4 (t 54)),
 q 8 56 (.move (t 55)),
 qu 9 56 false 57 (.move (t 0)),
 qu 10 56 false 58 (.fieldAddr 55 (t 10) 2),
 qw 11 56 false 59 (.load 28 (t 58)),
 qu 12 56 false 60 (.move (t 11)),
 qu 13 56 false 61 (.indexAddr 28 (t 59) (t 60)),
 qw 14 56 false 62 (.load 3 (t 61)),
 ⟨15, [], false, .write, .at 56 false, .call ⟨.value (.func 39), #[t 57, t 62], #[22, 3]⟩, some 63⟩,
 qu 16 56 false 64 (.unOp .not 4 (t 63)),
 q 17 65 (.pick (t 56) (.const (.bool true)) (t 64)),
 q 18 66 (.move (t 65)),
 qu 19 66 false 67 (.move (t 1)),
 qu 20 66 false 68 (.fieldAddr 55 (t 9) 2),
 qw 21 66 false 69 (.load 28 (t 68)),
 qu 22 66 false 70 (.move (t 11)),
 qu 23 66 false 71 (.indexAddr 28 (t 69) (t 70)),
 qw 24 66 false 72 (.load 3 (t 71)),
 qu 25 66 false 73 (.indexAddr 28 (t 67) (t 72)),
 qw 26 66 false 74 (.load 3 (t 73)),
 qu 27 66 false 75 (.move (t 1)),
 qu 28 66 false 76 (.fieldAddr 55 (t 10) 2),
 qw 29 66 false 77 (.load 28 (t 76)),
 qu 30 66 false 78 (.move (t 11)),
 qu 31 66 false 79 (.indexAddr 28 (t 77) (t 78)),
 qw 32 66 false 80 (.load 3 (t 79)),
 qu 33 66 false 81 (.indexAddr 28 (t 75) (t 80)),
 qw 34 66 false 82 (.load 3 (t 81)),
 qu 35 66 false 83 (.binOp .neq 3 (t 74) (t 82) 3),
 q 36 84 (.pick (t 66) (.const (.bool true)) (t 83))])
 (.keep [0, 1, 9, 10, 11, 84] (.cond (t 84)
 (.seq
 (.ops [y 8 (.assign (.const (.bool false)))])
 .ret)
 .skip))))
 (.keep [0, 1, 9, 10, 11] (.ops [mv 46 11,
 y 47 (.binOp .add 3 (t 46) (cI 1) 3),
 sg 11 47])))))))))
 (.keep [] (.seq
 (.ops [y 8 (.assign (.const (.bool true)))])
 .ret)))))))))), [.tmp 8]⟩
theorem is57 : IsFA P pol (planOf pol) 57 4 a57 := ⟨⟨_, _, Try.func57, rfl, rfl, rfl, by kernel_rfl⟩, by decide⟩
theorem ok57 : a57.c.ok = true := by kernel_rfl
theorem r57 (x : denL [(.list tn), tL, tI, tI]) : fun2 (env [(39, sp39)] []) a57 [(.list tn), tL, tI, tI] [.bool] x = F57 x.1 x.2.1 x.2.2.1 x.2.2.2 := by kernel_rfl
noncomputable def sp57 : FSp := ⟨[(.list tn), tL, tI, tI], [.bool], fun x => F57 x.1 x.2.1 x.2.2.1 x.2.2.2⟩
theorem s57 : SpOk pol P 57 sp57 := fun x r h => fun_ok is57 (fun _ => rfl) (tyOk [(39, sp39)] []) (kOk rfl rfl rfl (allC s39 allN) imN) ok57 rfl rfl ((r57 x).trans h)
noncomputable def a56 : FA := ⟨17, (.seq
 (.ops [y 2 (.assign (.const (.slice none 0 0)))])
 (.seq
 (.ops [mv 5 0,
 y 6 (.makeSlice 28 (t 5) (t 5)),
 sg 3 6])
 (.seq
 (.seq
 (.ops [y 4 (.assign (cI 0))])
 (.block 0 (.loop ⟨[0], [(3, .sl 0), (4, dI)], [.own tI true]⟩ (.keep [0, 3, 4] (.seq
 (.seq
 (.ops [mv 7 4,
 mv 8 0,
 y 9 (.binOp .lss 3 (t 7) (t 8) 3)])
 (.cond (t 9)
 .skip
 (.exit 0)))
 (.keep [0, 3, 4] (.seq
 (.block 1 (.ops [mv 12 3,
 mv 13 4,
 mv 14 4,
 ia 15 28 12 13,
 ⟨.yes, .store 3 (t 15) (t 14), none⟩]))
 (.keep [0, 3, 4] (.ops [mv 10 4,
 y 11 (.binOp .add 3 (t 10) (cI 1) 3),
 sg 4 11])))))))))
 (.keep [3] (.seq
 (.ops [mv 16 3,
 sg 2 16])
 .ret))))), [.tmp 2]⟩
theorem is56 : IsFA P pol (planOf pol) 56 1 a56 := ⟨⟨_, _, Try.func56, rfl, rfl, rfl, by kernel_rfl⟩, by decide⟩
theorem ok56 : a56.c.ok = true := by kernel_rfl
noncomputable def sp56 : ISpec := ⟨[dI], [], 0, [.sl 0], [], [.own tI true], fun (x : Int) => (F56 x : Option (List Int))⟩
theorem r56 (x : Int) : ifun2 (env [] []) a56 sp56.ins sp56.cks sp56.outs sp56.anc sp56.couts x = F56 x := by kernel_rfl
theorem s56 : ImOk pol P 56 sp56 := ifun_ok is56 rfl (tyOk [] []) (kOk rfl rfl rfl allN imN) ok56 (by kernel_rfl) (by kernel_rfl) (by kernel_rfl) rfl rfl (by kernel_rfl) (fun x => r56 x)
noncomputable def a58 : FA := ⟨33, (.seq
 (.plan [q 0 9 (.move (t 0)),
 q 1 10 (.move (t 1)),
 q 2 11 (.indexAddr 28 (t 9) (t 10)),
 qr 3 12 (.load 3 (t 11)),
 q 4 13 (.move (t 0)),
 q 5 14 (.move (t 2)),
 q 6 15 (.indexAddr 28 (t 13) (t 14)),
 qr 7 16 (.load 3 (t 15)),
 q 8 6 (.assign (t 12)),
 q 9 7 (.assign (t 16))])
 (.keep [0, 6, 7] (.seq
 (.ops [y 8 (.assign (cI 0))])
 (.block 0 (.loop ⟨[6, 7], [(0, .sl 0), (8, dI)], [.own tI true]⟩ (.keep [0, 6, 7, 8] (.seq
 (.seq
 (.ops [mv 17 8,
 mv 18 0,
 lenC 19 18 28,
 y 20 (.binOp .lss 3 (t 17) (t 19) 3)])
 (.keep [0, 6, 7, 8, 20] (.cond (t 20)
 .skip
 (.exit 0))))
 (.keep [0, 6, 7, 8] (.jn ⟨[6, 7, 8], [(0, .sl 0)], [.own tI true]⟩
 (.block 1 (.seq
 (.ops [mv 23 0,
 mv 24 8,
 ia 25 28 23 24,
 ld 26 3 25,
 mv 27 7,
 y 28 (.binOp .eql 3 (t 26) (t 27) 3)])
 (.keep [0, 6, 7, 8, 28] (.cond (t 28)
 (.ops [mv 29 0,
 mv 30 8,
 mv 31 6,
 ia 32 28 29 30,
 ⟨.yes, .store 3 (t 32) (t 31), none⟩])
 .skip))))
 (.keep [0, 6, 7, 8] (.ops [mv 21 8,
 y 22 (.binOp .add 3 (t 21) (cI 1) 3),
 sg 8 22]))))))))))), []⟩
theorem is58 : IsFA P pol (planOf pol) 58 3 a58 := ⟨⟨_, _, Try.func58, rfl, rfl, rfl, by kernel_rfl⟩, by decide⟩
theorem ok58 : a58.c.ok = true := by kernel_rfl
noncomputable def sp58 : ISpec := ⟨[.sl 0, dI, dI], [.own tI true], 1, [], [(0, .sl 0)], [.own tI true], fun (x : Int × Int × List Int) => (F58 x.1 x.2.1 x.2.2 : Option (List Int))⟩
theorem r58 (x : Int × Int × List Int) : ifun2 (env [] []) a58 sp58.ins sp58.cks sp58.outs sp58.anc sp58.couts x = F58 x.1 x.2.1 x.2.2 := by kernel_rfl
theorem s58 : ImOk pol P 58 sp58 := ifun_ok is58 rfl (tyOk [] []) (kOk rfl rfl rfl allN imN) ok58 (by kernel_rfl) (by kernel_rfl) (by kernel_rfl) rfl rfl (by kernel_rfl) (fun x => r58 x)
noncomputable def a43 : FA := ⟨48, (.seq
 (.ops [y 4 (.assign (.const (.slice none 0 0))),
 y 5 (.assign (.const (.bool false)))])
 (.seq
 (.ops [mv 9 0,
 lenC 10 9 22,
 y 11 (.call ⟨.value (.func 56), #[t 10], #[3]⟩),
 sg 6 11])
 (.keep [0, 1, 6] (.seq
 (.seq
 (.ops [y 7 (.assign (cI 0))])
 (.block 0 (.loop ⟨[0, 1], [(6, .sl 0), (7, dI)], [.own tI true]⟩ (.keep [0, 1, 6, 7] (.seq
 (.seq
 (.ops [mv 12 7,
 mv 13 1,
 lenC 14 13 23,
 y 15 (.binOp .lss 3 (t 12) (t 14) 3)])
 (.keep [0, 1, 6, 7, 15] (.cond (t 15)
 .skip
 (.exit 0))))
 (.keep [0, 1, 6, 7] (.seq
 (.block 1 (.seq
 (.ops [mv 18 1,
 mv 19 7,
 ia 20 23 18 19,
 ld 21 44 20,
 y 8 (.alloc 44),
 ⟨.yes, .store 44 (t 8) (t 21), none⟩])
 (.lock 8 (.keep [0, 1, 6, 7, 8] (.seq
 (.jn ⟨[0, 1, 7, 8], [(6, .sl 0), (40, dB)], [.own tI true]⟩
 (.ops [mv 22 0,
 ld 23 44 8,
 y 24 (.call ⟨.value (.func 41), #[t 22, t 23], #[22, 44]⟩),
 y 25 (.unOp .not 4 (t 24)),
 mv 26 25,
 u 26 false 27 (.fieldAddr 44 (t 8) 2),
 u 26 false 28 (.load 3 (t 27)),
 u 26 false 29 (.binOp .eql 3 (t 28) (cI 0) 3),
 u 26 false 30 (.move (t 29)),
 u 30 true 31 (.move (t 0)),
 u 30 true 32 (.move (t 6)),
 u 30 true 33 (.fieldAddr 44 (t 8) 0),
 u 30 true 34 (.load 3 (t 33)),
 u 30 true 35 (.fieldAddr 44 (t 8) 1),
 u 30 true 36 (.load 3 (t 35)),
 u 30 true 37 (.call ⟨.value (.func 57), #[t 31, t 32, t 34, t 36], #[22, 28, 3, 3]⟩),
 u 30 true 38 (.unOp .not 4 (t 37)),
 u 26 false 39 (.pick (t 30) (t 38) (.const (.bool false))),
 y 40 (.pick (t 26) (.const (.bool true)) (t 39))])
 (.keep [0, 1, 6, 7, 8, 40] (.cond (t 40)
 (.seq
 (.ops [y 4 (.assign (.const (.slice none 0 0))),
 y 5 (.assign (.const (.bool false)))])
 .ret)
 .skip)))
 (.keep [0, 1, 6, 7, 8] (.ops [mv 41 6,
 fa 42 44 8 0,
 ld 43 3 42,
 fa 44 44 8 1,
 ld 45 3 44,
 y 46 (.call ⟨.value (.func 58), #[t 41, t 43, t 45], #[28, 3, 3]⟩)])))))))
 (.keep [0, 1, 6, 7] (.ops [mv 16 7,
 y 17 (.binOp .add 3 (t 16) (cI 1) 3),
 sg 7 17])))))))))
 (.keep [6] (.seq
 (.ops [mv 47 6,
 sg 4 47,
 y 5 (.assign (.const (.bool true)))])
 .ret)))))), [.tmp 4, .tmp 5]⟩
theorem is43 : IsFA P pol (planOf pol) 43 2 a43 := ⟨⟨_, _, Try.func43, rfl, rfl, rfl, by kernel_rfl⟩, by decide⟩
theorem ok43 : a43.c.ok = true := by kernel_rfl
theorem r43 (x : denL [(.list tn), (.list ts)]) : fun2 (env [(41, sp41), (57, sp57)] [(56, sp56), (58, sp58)]) a43 [(.list tn), (.list ts)] [tL, .bool] x = F43 x.1 x.2 := by kernel_rfl
noncomputable def sp43 : FSp := ⟨[(.list tn), (.list ts)], [tL, .bool], fun x => F43 x.1 x.2⟩
theorem s43 : SpOk pol P 43 sp43 := fun x r h => fun_ok is43 (fun _ => rfl) (tyOk [(41, sp41), (57, sp57)] [(56, sp56), (58, sp58)]) (kOk rfl rfl rfl (allC s41 (allC s57 allN)) (imC s56 (imC s58 imN))) ok43 rfl rfl ((r43 x).trans h)
noncomputable def a19 : FA := ⟨41, (.seq
 (.ops [y 1 (.box 32 (t 0)),
 y 2 (.assign (.const (.bool false)))])
 (.lock 1 (.seq
 (.ops [fa 6 32 1 0,
 ld 7 22 6,
 fa 8 32 1 1,
 ld 9 23 8,
 y 10 (.call ⟨.value (.func 43), #[t 7, t 9], #[22, 23]⟩),
 mv 5 10,
 y 11 (.extract (t 5) 0),
 y 12 (.extract (t 5) 1),
 sg 3 11,
 sg 4 12])
 (.keep [1, 3, 4] (.jn ⟨[], [(2, dB)], []⟩
 (.plan [q 0 13 (.move (t 4)),
 q 1 14 (.move (t 13)),
 qu 2 14 true 15 (.fieldAddr 32 (t 1) 0),
 qw 3 14 true 16 (.load 22 (t 15)),
 qu 4 14 true 17 (.fieldAddr 32 (t 1) 2),
 qw 5 14 true 18 (.load 3 (t 17)),
 ⟨6, [], false, .write, .at 14 true, .call ⟨.value (.func 39), #[t 16, t 18], #[22, 3]⟩, some 19⟩,
 q 7 20 (.pick (t 14) (t 19) (.const (.bool false))),
 q 8 21 (.move (t 20)),
 qu 9 21 true 22 (.fieldAddr 32 (t 1) 0),
 qw 10 21 true 23 (.load 22 (t 22)),
 qu 11 21 true 24 (.fieldAddr 32 (t 1) 3),
 qw 12 21 true 25 (.load 3 (t 24)),
 ⟨13, [], false, .write, .at 21 true, .call ⟨.value (.func 39), #[t 23, t 25], #[22, 3]⟩, some 26⟩,
 q 14 27 (.pick (t 21) (t 26) (.const (.bool false))),
 q 15 28 (.move (t 27)),
 qu 16 28 true 29 (.move (t 3)),
 qu 17 28 true 30 (.fieldAddr 32 (t 1) 2),
 qw 18 28 true 31 (.load 3 (t 30)),
 qu 19 28 true 32 (.indexAddr 28 (t 29) (t 31)),
 qw 20 28 true 33 (.load 3 (t 32)),
 qu 21 28 true 34 (.move (t 3)),
 qu 22 28 true 35 (.fieldAddr 32 (t 1) 3),
 qw 23 28 true 36 (.load 3 (t 35)),
 qu 24 28 true 37 (.indexAddr 28 (t 34) (t 36)),
 qw 25 28 true 38 (.load 3 (t 37)),
 qu 26 28 true 39 (.binOp .eql 3 (t 33) (t 38) 3),
 q 27 40 (.pick (t 28) (t 39) (.const (.bool false))),
 q 28 2 (.assign (t 40))])
 .ret))))), [.tmp 2]⟩
theorem is19 : IsFA P pol (planOf pol) 19 1 a19 := ⟨⟨_, _, Try.func19, rfl, rfl, rfl, by kernel_rfl⟩, by decide⟩
theorem ok19 : a19.c.ok = true := by kernel_rfl
theorem r19 (x : denL [(.st (.prod (.list tn) (.prod (.list ts) (.prod tI tI))))]) : fun2 (env [(39, sp39), (43, sp43)] []) a19 [(.st (.prod (.list tn) (.prod (.list ts) (.prod tI tI))))] [.bool] x = F19 x := by kernel_rfl
noncomputable def sp19 : FSp := ⟨[(.st (.prod (.list tn) (.prod (.list ts) (.prod tI tI))))], [.bool], fun x => F19 x⟩
theorem s19 : SpOk pol P 19 sp19 := fun x r h => fun_ok is19 (fun _ => rfl) (tyOk [(39, sp39), (43, sp43)] []) (kOk rfl rfl rfl (allC s39 (allC s43 allN)) imN) ok19 rfl rfl ((r19 x).trans h)
noncomputable def a44 : FA := ⟨57, (.seq
 (.ops [y 1 (.box 32 (t 0)),
 y 2 (.alloc 32)])
 (.lock 1 (.seq
 (.ops [fa 8 32 1 2,
 ld 9 3 8,
 fa 10 32 1 3,
 ld 11 3 10,
 y 12 (.build 32 #[(2, t 9), (3, t 11)]),
 y 3 (.alloc 32),
 ⟨.yes, .store 32 (t 3) (t 12), none⟩])
 (.keep [1, 2, 3] (.seq
 (.seq
 (.ops [fa 13 32 1 0,
 ld 14 22 13,
 lenC 15 14 22,
 y 16 (.move (cI 0))])
 (.keep [1, 2, 3, 14, 15, 16] (.block 0 (.loop ⟨[1, 14, 15], [(2, .bx 0 0), (3, .bx 1 0), (16, dI)], [.box [.nils, .nils, dI, dI] true, .box [.sl 2, .nils, dI, dI] true, .own tn true]⟩ (.keep [1, 2, 3, 14, 15, 16] (.seq
 (.ops [y 17 (.binOp .lss 3 (t 16) (t 15) 3)])
 (.seq
 (.cond (t 17)
 .skip
 (.exit 0))
 (.keep [1, 2, 3, 14, 15, 16] (.seq
 (.block 1 (.seq
 (.ops [ia 18 22 14 16,
 ld 19 55 18,
 y 5 (.alloc 55),
 ⟨.yes, .store 55 (t 5) (t 19), none⟩])
 (.keep [1, 2, 3, 5, 14, 15, 16] (.seq
 (.ops [y 20 (.buildSlice 28 0 #[]),
 fa 21 55 5 2,
 ld 22 28 21,
 y 23 (.call ⟨.builtin .append, #[t 20, t 22], #[28, 28]⟩),
 fa 24 55 5 2,
 ⟨.yes, .store 28 (t 24) (t 23), none⟩])
 (.keep [1, 2, 3, 5, 14, 15, 16] (.ops [fa 25 32 3 0,
 ld 26 22 25,
 ld 27 55 5,
 y 28 (.buildSlice 22 1 #[(0, t 27)]),
 y 29 (.call ⟨.builtin .append, #[t 26, t 28], #[22, 22]⟩),
 fa 30 32 3 0,
 ⟨.yes, .store 22 (t 30) (t 29), none⟩]))))))
 (.keep [1, 2, 3, 14, 15, 16] (.ops [y 31 (.binOp .add 3 (t 16) (cI 1) 3),
 mv 16 31])))))))))))
 (.keep [1, 2, 3] (.seq
 (.seq
 (.ops [fa 32 32 1 1,
 ld 33 23 32,
 lenC 34 33 23,
 y 35 (.move (cI 0))])
 (.keep [2, 3, 33, 34, 35] (.block 2 (.loop ⟨[33, 34], [(2, .bx 0 0), (3, .bx 1 0), (35, dI)], [.box [.nils, .nils, dI, dI] true, .box [.sl 2, .sl 3, dI, dI] true, .own tn true, .own ts true]⟩ (.keep [2, 3, 33, 34, 35] (.seq
 (.ops [y 36 (.binOp .lss 3 (t 35) (t 34) 3)])
 (.seq
 (.cond (t 36)
 .skip
 (.exit 2))
 (.keep [2, 3, 33, 34, 35] (.seq
 (.block 3 (.seq
 (.ops [ia 37 23 33 35,
 ld 38 44 37,
 y 7 (.alloc 44),
 ⟨.yes, .store 44 (t 7) (t 38), none⟩])
 (.keep [2, 3, 7, 33, 34, 35] (.seq
 (.ops [y 39 (.buildSlice 28 0 #[]),
 fa 40 44 7 3,
 ld 41 28 40,
 y 42 (.call ⟨.builtin .append, #[t 39, t 41], #[28, 28]⟩),
 fa 43 44 7 3,
 ⟨.yes, .store 28 (t 43) (t 42), none⟩])
 (.keep [2, 3, 7, 33, 34, 35] (.seq
 (.ops [y 44 (.buildSlice 42 0 #[]),
 fa 45 44 7 4,
 ld 46 42 45,
 y 47 (.call ⟨.builtin .append, #[t 44, t 46], #[42, 42]⟩),
 fa 48 44 7 4,
 ⟨.yes, .store 42 (t 48) (t 47), none⟩])
 (.keep [2, 3, 7, 33, 34, 35] (.ops [fa 49 32 3 1,
 ld 50 23 49,
 ld 51 44 7,
 y 52 (.buildSlice 23 1 #[(0, t 51)]),
 y 53 (.call ⟨.builtin .append, #[t 50, t 52], #[23, 23]⟩),
 fa 54 32 3 1,
 ⟨.yes, .store 23 (t 54) (t 53), none⟩]))))))))
 (.keep [2, 3, 33, 34, 35] (.ops [y 55 (.binOp .add 3 (t 35) (cI 1) 3),
 mv 35 55])))))))))))
 (.keep [2, 3] (.seq
 (.ops [ld 56 32 3,
 ⟨.yes, .store 32 (t 2) (t 56), none⟩])
 .ret))))))))), [.cell 2 32]⟩
theorem is44 : IsFA P pol (planOf pol) 44 1 a44 := ⟨⟨_, _, Try.func44, rfl, rfl, rfl, by kernel_rfl⟩, by decide⟩
theorem ok44 : a44.c.ok = true := by kernel_rfl
theorem r44 (x : denL [(.st (.prod (.list tn) (.prod (.list ts) (.prod tI tI))))]) : fun2 (env [] []) a44 [(.st (.prod (.list tn) (.prod (.list ts) (.prod tI tI))))] [(.st (.prod (.list tn) (.prod (.list ts) (.prod tI tI))))] x = F44 x := by kernel_rfl
noncomputable def sp44 : FSp := ⟨[(.st (.prod (.list tn) (.prod (.list ts) (.prod tI tI))))], [(.st (.prod (.list tn) (.prod (.list ts) (.prod tI tI))))], fun x => F44 x⟩
theorem s44 : SpOk pol P 44 sp44 := fun x r h => fun_ok is44 (fun _ => rfl) (tyOk [] []) (kOk rfl rfl rfl allN imN) ok44 rfl rfl ((r44 x).trans h)
noncomputable def a20 : FA := ⟨38, (.seq
 (.ops [y 1 (.box 32 (t 0)),
 y 2 (.alloc 32)])
 (.lock 1 (.seq
 (.ops [ld 6 32 1,
 y 7 (.call ⟨.value (.func 44), #[t 6], #[32]⟩),
 y 3 (.alloc 32),
 ⟨.yes, .store 32 (t 3) (t 7), none⟩])
 (.keep [2, 3] (.seq
 (.seq
 (.ops [ld 8 32 3,
 y 9 (.call ⟨.value (.func 12), #[t 8], #[32]⟩),
 y 10 (.unOp .not 4 (t 9))])
 (.cond (t 10)
 (.seq
 (.ops [ld 11 32 3,
 ⟨.yes, .store 32 (t 2) (t 11), none⟩])
 .ret)
 .skip))
 (.keep [2, 3] (.seq
 (.seq
 (.ops [fa 12 32 3 1,
 ld 13 23 12,
 lenC 14 13 23,
 y 15 (.binOp .sub 3 (t 14) (cI 1) 3),
 sg 4 15])
 (.keep [2, 3, 4] (.block 0 (.loop ⟨[], [(2, .bx 0 0), (3, .bx 1 0), (4, dI)], [.box [.nils, .nils, dI, dI] true, .box [.dat (.list tn), .sl 2, dI, dI] true, .own ts false]⟩ (.keep [2, 3, 4] (.seq
 (.seq
 (.ops [mv 16 4,
 y 17 (.binOp .geq 3 (t 16) (cI 0) 3)])
 (.cond (t 17)
 .skip
 (.exit 0)))
 (.keep [2, 3, 4] (.jn ⟨[4], [(2, .bx 0 0), (3, .bx 1 0)], [.box [.nils, .nils, dI, dI] true, .box [.dat (.list tn), .sl 2, dI, dI] true, .own ts false]⟩
 (.block 1 (.seq
 (.ops [ld 20 32 3,
 y 5 (.alloc 32),
 ⟨.yes, .store 32 (t 5) (t 20), none⟩])
 (.seq
 (.plan [⟨0, [], true, .alloc, .yes, .buildSlice 23 0 #[], some 21⟩,
 q 1 22 (.fieldAddr 32 (t 3) 1),
 ⟨2, [0], false, .read, .yes, .load 23 (t 22), some 23⟩,
 q 3 24 (.move (t 4)),
 q 4 25 (.slice 23 (t 23) none (some (t 24)) none),
 q 6 27 (.fieldAddr 32 (t 3) 1),
 ⟨7, [0], true, .read, .yes, .load 23 (t 27), some 28⟩,
 q 8 29 (.move (t 4)),
 q 9 30 (.binOp .add 3 (t 29) (cI 1) 3),
 q 10 31 (.slice 23 (t 28) (some (t 30)) none none),
 ⟨5, [7], false, .write, .yes, .call ⟨.builtin .append, #[t 21, t 25], #[23, 23]⟩, some 26⟩,
 ⟨11, [], false, .write, .yes, .call ⟨.builtin .append, #[t 26, t 31], #[23, 23]⟩, some 32⟩,
 q 12 33 (.fieldAddr 32 (t 5) 1),
 ⟨13, [], false, .write, .yes, .store 23 (t 33) (t 32), none⟩])
 (.keep [2, 3, 4, 5] (.seq
 (.ops [ld 34 32 5,
 y 35 (.call ⟨.value (.func 12), #[t 34], #[32]⟩)])
 (.cond (t 35)
 (.ops [ld 36 32 5,
 ⟨.yes, .store 32 (t 3) (t 36), none⟩])
 .skip))))))
 (.keep [2, 3, 4] (.ops [mv 18 4,
 y 19 (.binOp .sub 3 (t 18) (cI 1) 3),
 sg 4 19]))))))))))
 (.keep [2, 3] (.seq
 (.ops [ld 37 32 3,
 ⟨.yes, .store 32 (t 2) (t 37), none⟩])
 .ret))))))))), [.cell 2 32]⟩
theorem is20 : IsFA P pol (planOf pol) 20 1 a20 := ⟨⟨_, _, Try.func20, rfl, rfl, rfl, by kernel_rfl⟩, by decide⟩
theorem ok20 : a20.c.ok = true := by kernel_rfl
theorem r20 (x : denL [(.st (.prod (.list tn) (.prod (.list ts) (.prod tI tI))))]) : fun2 (env [(12, sp12), (44, sp44)] []) a20 [(.st (.prod (.list tn) (.prod (.list ts) (.prod tI tI))))] [(.st (.prod (.list tn) (.prod (.list ts) (.prod tI tI))))] x = F20 x := by kernel_rfl
noncomputable def sp20 : FSp := ⟨[(.st (.prod (.list tn) (.prod (.list ts) (.prod tI tI))))], [(.st (.prod (.list tn) (.prod (.list ts) (.prod tI tI))))], fun x => F20 x⟩
theorem s20 : SpOk pol P 20 sp20 := fun x r h => fun_ok is20 (fun _ => rfl) (tyOk [(12, sp12), (44, sp44)] []) (kOk rfl rfl rfl (allC s12 (allC s44 allN)) imN) ok20 rfl rfl ((r20 x).trans h)
noncomputable def a45 : FA := ⟨69, (.seq
 (.ops [y 1 (.box 32 (t 0)),
 y 2 (.alloc 32)])
 (.lock 1 (.seq
 (.ops [fa 8 32 1 2,
 ld 9 3 8,
 fa 10 32 1 3,
 ld 11 3 10,
 y 12 (.build 32 #[(2, t 9), (3, t 11)]),
 y 3 (.alloc 32),
 ⟨.yes, .store 32 (t 3) (t 12), none⟩])
 (.keep [1, 2, 3] (.seq
 (.seq
 (.ops [y 4 (.assign (cI 0))])
 (.block 0 (.loop ⟨[1], [(2, .bx 0 0), (3, .bx 1 0), (4, dI)], [.box [.nils, .nils, dI, dI] true, .box [.sl 2, .nils, dI, dI] true, .own tn true]⟩ (.keep [1, 2, 3, 4] (.seq
 (.seq
 (.ops [mv 13 4,
 fa 14 32 1 0,
 ld 15 22 14,
 lenC 16 15 22,
 y 17 (.binOp .lss 3 (t 13) (t 16) 3)])
 (.keep [1, 2, 3, 4, 17] (.cond (t 17)
 .skip
 (.exit 0))))
 (.keep [1, 2, 3, 4] (.seq
 (.block 1 (.seq
 (.ops [fa 20 32 1 0,
 ld 21 22 20,
 mv 22 4,
 ia 23 22 21 22,
 ld 24 55 23,
 y 5 (.alloc 55),
 ⟨.yes, .store 55 (t 5) (t 24), none⟩])
 (.lock 5 (.keep [1, 2, 3, 4, 5] (.plan [q 0 25 (.fieldAddr 32 (t 3) 0),
 qn 1 26 (.load 22 (t 25)),
 q 2 27 (.fieldAddr 55 (t 5) 0),
 qn 3 28 (.load 3 (t 27)),
 q 4 29 (.fieldAddr 55 (t 5) 1),
 qn 5 30 (.load 2 (t 29)),
 q 6 31 (.fieldAddr 55 (t 5) 2),
 qr 7 32 (.load 28 (t 31)),
 ⟨8, [1, 3, 5], false, .write, .yes, .call ⟨.builtin .append, #[.const (.slice none 0 0), t 32], #[28, 28]⟩, some 33⟩,
 q 9 34 (.build 55 #[(0, t 28), (1, t 30), (2, t 33)]),
 ⟨10, [1], false, .alloc, .yes, .buildSlice 22 1 #[(0, t 34)], some 35⟩,
 ⟨11, [], false, .write, .yes, .call ⟨.builtin .append, #[t 26, t 35], #[22, 22]⟩, some 36⟩,
 q 12 37 (.fieldAddr 32 (t 3) 0),
 ⟨13, [], false, .write, .yes, .store 22 (t 37) (t 36), none⟩])))))
 (.keep [1, 2, 3, 4] (.ops [mv 18 4,
 y 19 (.binOp .add 3 (t 18) (cI 1) 3),
 sg 4 19])))))))))
 (.keep [1, 2, 3] (.seq
 (.seq
 (.ops [y 6 (.assign (cI 0))])
 (.block 2 (.loop ⟨[1], [(2, .bx 0 0), (3, .bx 1 0), (6, dI)], [.box [.nils, .nils, dI, dI] true, .box [.sl 2, .sl 3, dI, dI] true, .own tn true, .own ts true]⟩ (.keep [1, 2, 3, 6] (.seq
 (.seq
 (.ops [mv 38 6,
 fa 39 32 1 1,
 ld 40 23 39,
 lenC 41 40 23,
 y 42 (.binOp .lss 3 (t 38) (t 41) 3)])
 (.keep [1, 2, 3, 6, 42] (.cond (t 42)
 .skip
 (.exit 2))))
 (.keep [1, 2, 3, 6] (.seq
 (.block 3 (.seq
 (.ops [fa 45 32 1 1,
 ld 46 23 45,
 mv 47 6,
 ia 48 23 46 47,
 ld 49 44 48,
 y 7 (.alloc 44),
 ⟨.yes, .store 44 (t 7) (t 49), none⟩])
 (.lock 7 (.keep [1, 2, 3, 6, 7] (.plan [q 0 50 (.fieldAddr 32 (t 3) 1),
 qn 1 51 (.load 23 (t 50)),
 q 2 52 (.fieldAddr 44 (t 7) 0),
 qn 3 53 (.load 3 (t 52)),
 q 4 54 (.fieldAddr 44 (t 7) 1),
 qn 5 55 (.load 3 (t 54)),
 q 6 56 (.fieldAddr 44 (t 7) 2),
 qn 7 57 (.load 3 (t 56)),
 q 8 58 (.fieldAddr 44 (t 7) 3),
 qr 9 59 (.load 28 (t 58)),
 q 11 61 (.fieldAddr 44 (t 7) 4),
 qn 12 62 (.load 42 (t 61)),
 ⟨10, [1, 3, 5, 7, 12], false, .write, .yes, .call ⟨.builtin .append, #[.const (.slice none 0 0), t 59], #[28, 28]⟩, some 60⟩,
 ⟨13, [1, 3, 5, 7], false, .write, .yes, .call ⟨.builtin .append, #[.const (.slice none 0 0), t 62], #[42, 42]⟩, some 63⟩,
 q 14 64 (.build 44 #[(0, t 53), (1, t 55), (2, t 57), (3, t 60), (4, t 63)]),
 ⟨15, [1], false, .alloc, .yes, .buildSlice 23 1 #[(0, t 64)], some 65⟩,
 ⟨16, [], false, .write, .yes, .call ⟨.builtin .append, #[t 51, t 65], #[23, 23]⟩, some 66⟩,
 q 17 67 (.fieldAddr 32 (t 3) 1),
 ⟨18, [], false, .write, .yes, .store 23 (t 67) (t 66), none⟩])))))
 (.keep [1, 2, 3, 6] (.ops [mv 43 6,
 y 44 (.binOp .add 3 (t 43) (cI 1) 3),
 sg 6 44])))))))))
 (.keep [2, 3] (.seq
 (.ops [ld 68 32 3,
 ⟨.yes, .store 32 (t 2) (t 68), none⟩])
 .ret))))))))), [.cell 2 32]⟩
theorem is45 : IsFA P pol (planOf pol) 45 1 a45 := ⟨⟨_, _, Try.func45, rfl, rfl, rfl, by kernel_rfl⟩, by decide⟩
theorem ok45 : a45.c.ok = true := by kernel_rfl
theorem r45 (x : denL [(.st (.prod (.list tn) (.prod (.list ts) (.prod tI tI))))]) : fun2 (env [] []) a45 [(.st (.prod (.list tn) (.prod (.list ts) (.prod tI tI))))] [(.st (.prod (.list tn) (.prod (.list ts) (.prod tI tI))))] x = F45 x := by kernel_rfl
noncomputable def sp45 : FSp := ⟨[(.st (.prod (.list tn) (.prod (.list ts) (.prod tI tI))))], [(.st (.prod (.list tn) (.prod (.list ts) (.prod tI tI))))], fun x => F45 x⟩
theorem s45 : SpOk pol P 45 sp45 := fun x r h => fun_ok is45 (fun _ => rfl) (tyOk [] []) (kOk rfl rfl rfl allN imN) ok45 rfl rfl ((r45 x).trans h)
noncomputable def a21 : FA := ⟨37, (.seq
 (.ops [y 1 (.box 32 (t 0)),
 y 2 (.alloc 32)])
 (.lock 1 (.seq
 (.ops [ld 6 32 1,
 y 7 (.call ⟨.value (.func 45), #[t 6], #[32]⟩),
 y 3 (.alloc 32),
 ⟨.yes, .store 32 (t 3) (t 7), none⟩])
 (.keep [1, 2, 3] (.seq
 (.seq
 (.ops [ld 8 32 1,
 y 9 (.call ⟨.value (.func 19), #[t 8], #[32]⟩),
 y 10 (.unOp .not 4 (t 9))])
 (.cond (t 10)
 (.seq
 (.ops [ld 11 32 3,
 ⟨.yes, .store 32 (t 2) (t 11), none⟩])
 .ret)
 .skip))
 (.keep [2, 3] (.seq
 (.seq
 (.ops [fa 12 32 3 1,
 ld 13 23 12,
 lenC 14 13 23,
 y 15 (.binOp .sub 3 (t 14) (cI 1) 3),
 sg 4 15])
 (.keep [2, 3, 4] (.block 0 (.loop ⟨[], [(2, .bx 0 0), (3, .bx 1 0), (4, dI)], [.box [.nils, .nils, dI, dI] true, .box [.dat (.list tn), .sl 2, dI, dI] true, .own ts false]⟩ (.keep [2, 3, 4] (.seq
 (.seq
 (.ops [mv 16 4,
 y 17 (.binOp .geq 3 (t 16) (cI 0) 3)])
 (.cond (t 17)
 .skip
 (.exit 0)))
 (.keep [2, 3, 4] (.jn ⟨[4], [(2, .bx 0 0), (3, .bx 1 0)], [.box [.nils, .nils, dI, dI] true, .box [.dat (.list tn), .sl 2, dI, dI] true, .own ts false]⟩
 (.block 1 (.seq
 (.ops [ld 20 32 3,
 y 5 (.alloc 32),
 ⟨.yes, .store 32 (t 5) (t 20), none⟩])
 (.seq
 (.plan [q 0 21 (.fieldAddr 32 (t 3) 1),
 qr 1 22 (.load 23 (t 21)),
 q 2 23 (.move (t 4)),
 q 3 24 (.slice 23 (t 22) none (some (t 23)) none),
 q 5 26 (.fieldAddr 32 (t 3) 1),
 qn 6 27 (.load 23 (t 26)),
 q 7 28 (.move (t 4)),
 q 8 29 (.binOp .add 3 (t 28) (cI 1) 3),
 q 9 30 (.slice 23 (t 27) (some (t 29)) none none),
 ⟨4, [6], false, .write, .yes, .call ⟨.builtin .append, #[.const (.slice none 0 0), t 24], #[23, 23]⟩, some 25⟩,
 ⟨10, [], false, .write, .yes, .call ⟨.builtin .append, #[t 25, t 30], #[23, 23]⟩, some 31⟩,
 q 11 32 (.fieldAddr 32 (t 5) 1),
 ⟨12, [], false, .write, .yes, .store 23 (t 32) (t 31), none⟩])
 (.keep [2, 3, 4, 5] (.seq
 (.ops [ld 33 32 5,
 y 34 (.call ⟨.value (.func 19), #[t 33], #[32]⟩)])
 (.cond (t 34)
 (.ops [ld 35 32 5,
 ⟨.yes, .store 32 (t 3) (t 35), none⟩])
 .skip))))))
 (.keep [2, 3, 4] (.ops [mv 18 4,
 y 19 (.binOp .sub 3 (t 18) (cI 1) 3),
 sg 4 19]))))))))))
 (.keep [2, 3] (.seq
 (.ops [ld 36 32 3,
 ⟨.yes, .store 32 (t 2) (t 36), none⟩])
 .ret))))))))), [.cell 2 32]⟩
theorem is21 : IsFA P pol (planOf pol) 21 1 a21 := ⟨⟨_, _, Try.func21, rfl, rfl, rfl, by kernel_rfl⟩, by decide⟩
theorem ok21 : a21.c.ok = true := by kernel_rfl
theorem r21 (x : denL [(.st (.prod (.list tn) (.prod (.list ts) (.prod tI tI))))]) : fun2 (env [(19, sp19), (45, sp45)] []) a21 [(.st (.prod (.list tn) (.prod (.list ts) (.prod tI tI))))] [(.st (.prod (.list tn) (.prod (.list ts) (.prod tI tI))))] x = F21 x := by kernel_rfl
noncomputable def sp21 : FSp := ⟨[(.st (.prod (.list tn) (.prod (.list ts) (.prod tI tI))))], [(.st (.prod (.list tn) (.prod (.list ts) (.prod tI tI))))], fun x => F21 x⟩
theorem s21 : SpOk pol P 21 sp21 := fun x r h => fun_ok is21 (fun _ => rfl) (tyOk [(19, sp19), (45, sp45)] []) (kOk rfl rfl rfl (allC s19 (allC s45 allN)) imN) ok21 rfl rfl ((r21 x).trans h)
noncomputable def a22 : FA := ⟨146, (.seq
 (.ops [y 3 (.box 26 (t 0)),
 y 6 (.alloc 26),
 y 7 (.assign (.const (.slice none 0 0))),
 y 8 (.assign (.const (.bool false)))])
 (.lock 3 (.keep [1, 2, 3, 6] (.seq
 (.ops [fa 23 26 3 0,
 ld 24 22 23,
 lenC 25 24 22,
 y 26 (.makeSlice 60 (t 25) (t 25)),
 sg 9 26])
 (.keep [1, 2, 3, 6, 9] (.seq
 (.ops [y 10 (.assign (.const (.slice none 0 0)))])
 (.seq
 (.seq
 (.ops [mv 27 2,
 lenC 28 27 47,
 y 29 (.move (cI 0))])
 (.block 0 (.loop ⟨[1, 2, 3, 27, 28], [(6, .bx 0 0), (9, .sl 1), (10, .sl 2), (29, dI)], [.box [.nils, .nils, .nils, dI, dI, dI, dI] true, .own .bool true, .own tI true]⟩ (.keep [1, 2, 3, 6, 9, 10, 27, 28, 29] (.seq
 (.ops [y 30 (.binOp .lss 3 (t 29) (t 28) 3)])
 (.seq
 (.cond (t 30)
 .skip
 (.exit 0))
 (.keep [1, 2, 3, 6, 9, 10, 27, 28, 29] (.seq
 (.block 1 (.seq
 (.ops [ia 31 47 27 29,
 ld 32 46 31,
 y 12 (.alloc 46),
 ⟨.yes, .store 46 (t 12) (t 32), none⟩])
 (.keep [1, 2, 3, 6, 9, 10, 12, 27, 28, 29] (.seq
 (.ops [ld 34 26 3,
 y 35 (.indexAddr 46 (t 12) (cI 0)),
 ld 36 3 35,
 y 37 (.indexAddr 46 (t 12) (cI 1)),
 ld 38 3 37,
 fa 39 26 3 1,
 ld 40 23 39,
 lenC 41 40 23,
 y 42 (.call ⟨.value (.func 8), #[t 34, t 36, t 38, t 41], #[26, 3, 3, 3]⟩),
 mv 33 42,
 y 43 (.extract (t 33) 0),
 y 44 (.extract (t 33) 1),
 sg 13 43,
 sg 14 44])
 (.keep [1, 2, 3, 6, 9, 10, 12, 13, 14, 27, 28, 29] (.seq
 (.seq
 (.ops [mv 45 14,
 y 46 (.unOp .not 4 (t 45))])
 (.cond (t 46)
 (.seq
 (.ops [y 47 (.build 26 #[]),
 ⟨.yes, .store 26 (t 6) (t 47), none⟩,
 y 7 (.assign (.const (.slice none 0 0))),
 y 8 (.assign (.const (.bool false)))])
 .ret)
 .skip))
 (.keep [1, 2, 3, 6, 9, 10, 12, 13, 27, 28, 29] (.seq
 (.ops [mv 48 10,
 mv 49 13,
 y 50 (.call ⟨.builtin .append, #[t 48, t 49], #[28, 28]⟩),
 sg 10 50])
 (.keep [1, 2, 3, 6, 9, 10, 12, 27, 28, 29] (.seq
 (.ops [fa 51 26 3 0,
 ld 52 22 51,
 mv 53 9,
 y 54 (.indexAddr 46 (t 12) (cI 0)),
 ld 55 3 54,
 y 56 (.call ⟨.value (.func 29), #[t 52, t 53, t 55], #[22, 60, 3]⟩)])
 (.keep [1, 2, 3, 6, 9, 10, 12, 27, 28, 29] (.ops [fa 57 26 3 0,
 ld 58 22 57,
 mv 59 9,
 y 60 (.indexAddr 46 (t 12) (cI 1)),
 ld 61 3 60,
 y 62 (.call ⟨.value (.func 29), #[t 58, t 59, t 61], #[22, 60, 3]⟩)]))))))))))))
 (.keep [1, 2, 3, 6, 9, 10, 27, 28, 29] (.ops [y 63 (.binOp .add 3 (t 29) (cI 1) 3),
 mv 29 63]))))))))))
 (.keep [1, 2, 3, 6, 9, 10] (.seq
 (.ops [ld 64 26 3,
 mv 65 10,
 y 66 (.call ⟨.value (.func 11), #[t 64, t 65], #[26, 28]⟩),
 sg 15 66])
 (.keep [1, 2, 3, 6, 9, 15] (.seq
 (.ops [ld 67 26 3,
 mv 68 15,
 mv 69 9,
 y 70 (.call ⟨.value (.func 30), #[t 67, t 68, t 69], #[26, 28, 60]⟩)])
 (.keep [1, 2, 3, 6, 9, 15] (.seq
 (.seq
 (.ops [y 16 (.assign (cI 0))])
 (.block 2 (.loop ⟨[1, 2, 3, 15], [(6, .bx 0 0), (9, .sl 1), (16, dI)], [.box [.nils, .nils, .nils, dI, dI, dI, dI] true, .own .bool true]⟩ (.keep [1, 2, 3, 6, 9, 15, 16] (.seq
 (.jn ⟨[1, 2, 3, 15, 16], [(6, .bx 0 0), (9, .sl 1), (79, dB)], [.box [.nils, .nils, .nils, dI, dI, dI, dI] true, .own .bool true]⟩
 (.ops [mv 71 16,
 mv 72 1,
 y 73 (.binOp .lss 3 (t 71) (t 72) 3),
 mv 74 73,
 u 74 true 75 (.move (t 16)),
 u 74 true 76 (.move (t 9)),
 u 74 true 77 (.call ⟨.builtin .len, #[t 76], #[60]⟩),
 u 74 true 78 (.binOp .lss 3 (t 75) (t 77) 3),
 y 79 (.pick (t 74) (t 78) (.const (.bool false)))])
 (.keep [1, 2, 3, 6, 9, 15, 16, 79] (.cond (t 79)
 .skip
 (.exit 2))))
 (.keep [1, 2, 3, 6, 9, 15, 16] (.seq
 (.block 3 (.ops [fa 82 26 3 0,
 ld 83 22 82,
 mv 84 9,
 mv 85 16,
 y 86 (.call ⟨.value (.func 29), #[t 83, t 84, t 85], #[22, 60, 3]⟩)]))
 (.keep [1, 2, 3, 6, 9, 15, 16] (.ops [mv 80 16,
 y 81 (.binOp .add 3 (t 80) (cI 1) 3),
 sg 16 81])))))))))
 (.keep [2, 3, 6, 9, 15] (.seq
 (.ops [mv 87 9,
 y 88 (.call ⟨.value (.func 31), #[t 87], #[60]⟩),
 sg 17 88])
 (.seq
 (.plan [q 0 89 (.fieldAddr 26 (t 3) 5),
 qn 1 90 (.load 3 (t 89)),
 q 2 91 (.fieldAddr 26 (t 3) 6),
 qn 3 92 (.load 3 (t 91)),
 ⟨4, [1, 3], true, .alloc, .yes, .buildSlice 24 0 #[], some 93⟩,
 q 5 94 (.fieldAddr 26 (t 3) 2),
 ⟨6, [4], true, .read, .yes, .load 24 (t 94), some 95⟩,
 ⟨9, [1, 3, 6], true, .alloc, .yes, .alloc 26, some 18⟩,
 ⟨7, [1, 3, 9], false, .write, .yes, .call ⟨.builtin .append, #[t 93, t 95], #[24, 24]⟩, some 96⟩,
 q 8 97 (.build 26 #[(5, t 90), (6, t 92), (2, t 96)]),
 ⟨10, [], false, .write, .yes, .store 26 (t 18) (t 97), none⟩])
 (.keep [2, 3, 6, 9, 15, 17, 18] (.seq
 (.ops [ld 99 26 3,
 mv 100 15,
 mv 101 9,
 mv 102 17,
 y 103 (.call ⟨.value (.func 32), #[t 99, t 100, t 101, t 102], #[26, 28, 60, 28]⟩),
 mv 98 103,
 y 104 (.extract (t 98) 0),
 y 105 (.extract (t 98) 1),
 fa 106 26 18 0,
 ⟨.yes, .store 22 (t 106) (t 104), none⟩,
 fa 107 26 18 1,
 ⟨.yes, .store 23 (t 107) (t 105), none⟩])
 (.keep [2, 3, 6, 17, 18] (.seq
 (.ops [fa 108 26 3 3,
 ld 109 3 108,
 fa 110 26 3 4,
 ld 111 3 110,
 y 112 (.buildSlice 28 2 #[(0, t 109), (1, t 111)]),
 mv 113 17,
 y 114 (.call ⟨.value (.func 46), #[t 112, t 113], #[28, 28]⟩),
 sg 19 114])
 (.keep [2, 6, 17, 18, 19] (.seq
 (.plan [q 0 115 (.move (t 19)),
 q 1 116 (.indexAddr 28 (t 115) (cI 0)),
 qr 2 117 (.load 3 (t 116)),
 q 3 118 (.move (t 19)),
 q 4 119 (.indexAddr 28 (t 118) (cI 1)),
 qn 5 120 (.load 3 (t 119)),
 q 6 121 (.fieldAddr 26 (t 18) 3),
 ⟨7, [5], false, .write, .yes, .store 3 (t 121) (t 117), none⟩,
 q 8 122 (.fieldAddr 26 (t 18) 4),
 ⟨9, [], false, .write, .yes, .store 3 (t 122) (t 120), none⟩])
 (.keep [2, 6, 17, 18] (.seq
 (.ops [y 20 (.assign (.const (.slice none 0 0)))])
 (.seq
 (.seq
 (.ops [mv 123 2,
 lenC 124 123 47,
 y 125 (.move (cI 0))])
 (.block 4 (.loop ⟨[17, 123, 124], [(6, .bx 0 0), (18, .bx 1 0), (20, .sl 2), (125, dI)], [.box [.nils, .nils, .nils, dI, dI, dI, dI] true, .box [.dat (.list tn), .dat (.list ts), .sl 3, dI, dI, dI, dI] true, .own (.st (.prod tI tI)) true, .own (.st (.prod tI (.st (.prod tI tI)))) true]⟩ (.keep [6, 17, 18, 20, 123, 124, 125] (.seq
 (.ops [y 126 (.binOp .lss 3 (t 125) (t 124) 3)])
 (.seq
 (.cond (t 126)
 .skip
 (.exit 4))
 (.keep [6, 17, 18, 20, 123, 124, 125] (.seq
 (.block 5 (.seq
 (.ops [ia 127 47 123 125,
 ld 128 46 127,
 y 22 (.alloc 46),
 ⟨.yes, .store 46 (t 22) (t 128), none⟩])
 (.keep [6, 17, 18, 20, 22, 123, 124, 125] (.plan [q 0 129 (.move (t 20)),
 q 1 130 (.move (t 17)),
 q 2 131 (.indexAddr 46 (t 22) (cI 0)),
 qr 3 132 (.load 3 (t 131)),
 q 4 133 (.indexAddr 28 (t 130) (t 132)),
 qr 5 134 (.load 3 (t 133)),
 q 6 135 (.move (t 17)),
 q 7 136 (.indexAddr 46 (t 22) (cI 1)),
 qr 8 137 (.load 3 (t 136)),
 q 9 138 (.indexAddr 28 (t 135) (t 137)),
 qr 10 139 (.load 3 (t 138)),
 q 11 140 (.build 46 #[(0, t 134), (1, t 139)]),
 ⟨12, [], false, .alloc, .yes, .buildSlice 47 1 #[(0, t 140)], some 141⟩,
 ⟨13, [], false, .write, .yes, .call ⟨.builtin .append, #[t 129, t 141], #[47, 47]⟩, some 142⟩,
 q 14 20 (.assign (t 142))]))))
 (.keep [6, 17, 18, 20, 123, 124, 125] (.ops [y 143 (.binOp .add 3 (t 125) (cI 1) 3),
 mv 125 143]))))))))))
 (.keep [6, 18, 20] (.seq
 (.ops [ld 144 26 18,
 mv 145 20,
 ⟨.yes, .store 26 (t 6) (t 144), none⟩,
 sg 7 145,
 y 8 (.assign (.const (.bool true)))])
 .ret))))))))))))))))))))))))))), [.cell 6 26, .tmp 7, .tmp 8]⟩
theorem is22 : IsFA P pol (planOf pol) 22 3 a22 := ⟨⟨_, _, Try.func22, rfl, rfl, rfl, by kernel_rfl⟩, by decide⟩
theorem ok22 : a22.c.ok = true := by kernel_rfl
theorem r22 (x : denL [(.st (.prod (.list tn) (.prod (.list ts) (.prod (.list (.st (.prod tI (.st (.prod tI tI))))) (.prod tI (.prod tI (.prod tI tI))))))), tI, (.list (.st (.prod tI tI)))]) : fun2 (env [(8, sp8), (11, sp11), (31, sp31), (32, sp32), (46, sp46)] [(29, sp29), (30, sp30)]) a22 [(.st (.prod (.list tn) (.prod (.list ts) (.prod (.list (.st (.prod tI (.st (.prod tI tI))))) (.prod tI (.prod tI (.prod tI tI))))))), tI, (.list (.st (.prod tI tI)))] [(.st (.prod (.list tn) (.prod (.list ts) (.prod (.list (.st (.prod tI (.st (.prod tI tI))))) (.prod tI (.prod tI (.prod tI tI))))))), (.list (.st (.prod tI tI))), .bool] x = F22 x.1 x.2.1 x.2.2 := by kernel_rfl
noncomputable def sp22 : FSp := ⟨[(.st (.prod (.list tn) (.prod (.list ts) (.prod (.list (.st (.prod tI (.st (.prod tI tI))))) (.prod tI (.prod tI (.prod tI tI))))))), tI, (.list (.st (.prod tI tI)))], [(.st (.prod (.list tn) (.prod (.list ts) (.prod (.list (.st (.prod tI (.st (.prod tI tI))))) (.prod tI (.prod tI (.prod tI tI))))))), (.list (.st (.prod tI tI))), .bool], fun x => F22 x.1 x.2.1 x.2.2⟩
theorem s22 : SpOk pol P 22 sp22 := fun x r h => fun_ok is22 (fun _ => rfl) (tyOk [(8, sp8), (11, sp11), (31, sp31), (32, sp32), (46, sp46)] [(29, sp29), (30, sp30)]) (kOk rfl rfl rfl (allC s8 (allC s11 (allC s31 (allC s32 (allC s46 allN))))) (imC s29 (imC s30 imN))) ok22 rfl rfl ((r22 x).trans h)
noncomputable def a23 : FA := ⟨145, (.seq
 (.ops [y 3 (.box 26 (t 0)),
 y 6 (.alloc 26),
 y 7 (.assign (.const (.slice none 0 0))),
 y 8 (.assign (.const (.bool false)))])
 (.lock 3 (.keep [1, 2, 3, 6] (.seq
 (.ops [fa 19 26 3 0,
 ld 20 22 19,
 lenC 21 20 22,
 y 22 (.makeSlice 60 (t 21) (t 21)),
 sg 9 22])
 (.keep [1, 2, 3, 6, 9] (.seq
 (.seq
 (.ops [y 10 (.assign (cI 0))])
 (.block 0 (.loop ⟨[1, 2, 3], [(6, .bx 0 0), (9, .sl 1), (10, dI)], [.box [.nils, .nils, .nils, dI, dI, dI, dI] true, .own .bool true]⟩ (.keep [1, 2, 3, 6, 9, 10] (.seq
 (.jn ⟨[1, 2, 3, 10], [(6, .bx 0 0), (9, .sl 1), (31, dB)], [.box [.nils, .nils, .nils, dI, dI, dI, dI] true, .own .bool true]⟩
 (.ops [mv 23 10,
 mv 24 1,
 y 25 (.binOp .lss 3 (t 23) (t 24) 3),
 mv 26 25,
 u 26 true 27 (.move (t 10)),
 u 26 true 28 (.move (t 9)),
 u 26 true 29 (.call ⟨.builtin .len, #[t 28], #[60]⟩),
 u 26 true 30 (.binOp .lss 3 (t 27) (t 29) 3),
 y 31 (.pick (t 26) (t 30) (.const (.bool false)))])
 (.keep [1, 2, 3, 6, 9, 10, 31] (.cond (t 31)
 .skip
 (.exit 0))))
 (.keep [1, 2, 3, 6, 9, 10] (.seq
 (.block 1 (.ops [mv 34 9,
 mv 35 10,
 ia 36 60 34 35,
 ⟨.yes, .store 4 (t 36) (.const (.bool true)), none⟩]))
 (.keep [1, 2, 3, 6, 9, 10] (.ops [mv 32 10,
 y 33 (.binOp .add 3 (t 32) (cI 1) 3),
 sg 10 33])))))))))
 (.keep [2, 3, 6, 9] (.seq
 (.ops [y 11 (.assign (.const (.slice none 0 0)))])
 (.seq
 (.seq
 (.ops [y 12 (.assign (cI 0))])
 (.block 2 (.loop ⟨[2, 3], [(6, .bx 0 0), (9, .sl 1), (11, .sl 2), (12, dI)], [.box [.nils, .nils, .nils, dI, dI, dI, dI] true, .own .bool true, .own tI true]⟩ (.keep [2, 3, 6, 9, 11, 12] (.seq
 (.seq
 (.ops [mv 37 12,
 mv 38 2,
 lenC 39 38 47,
 y 40 (.binOp .lss 3 (t 37) (t 39) 3)])
 (.keep [2, 3, 6, 9, 11, 12, 40] (.cond (t 40)
 .skip
 (.exit 2))))
 (.keep [2, 3, 6, 9, 11, 12] (.seq
 (.block 3 (.seq
 (.plan [qr 0 44 (.load 26 (t 3)),
 q 1 45 (.move (t 2)),
 q 2 46 (.move (t 12)),
 q 3 47 (.indexAddr 47 (t 45) (t 46)),
 q 4 48 (.indexAddr 46 (t 47) (cI 0)),
 qr 5 49 (.load 3 (t 48)),
 q 6 50 (.move (t 2)),
 q 7 51 (.move (t 12)),
 q 8 52 (.indexAddr 47 (t 50) (t 51)),
 q 9 53 (.indexAddr 46 (t 52) (cI 1)),
 qr 10 54 (.load 3 (t 53)),
 q 11 55 (.fieldAddr 26 (t 3) 1),
 qr 12 56 (.load 23 (t 55)),
 qr 13 57 (.call ⟨.builtin .len, #[t 56], #[23]⟩),
 ⟨14, [], false, .write, .yes, .call ⟨.value (.func 14), #[t 44, t 49, t 54, t 57], #[26, 3, 3, 3]⟩, some 58⟩,
 q 15 43 (.move (t 58)),
 q 16 59 (.extract (t 43) 0),
 q 17 60 (.extract (t 43) 1),
 q 18 13 (.assign (t 59)),
 q 19 14 (.assign (t 60))])
 (.keep [2, 3, 6, 9, 11, 12, 13, 14] (.seq
 (.seq
 (.ops [mv 61 14,
 y 62 (.unOp .not 4 (t 61))])
 (.cond (t 62)
 (.seq
 (.ops [y 63 (.build 26 #[]),
 ⟨.yes, .store 26 (t 6) (t 63), none⟩,
 y 7 (.assign (.const (.slice none 0 0))),
 y 8 (.assign (.const (.bool false)))])
 .ret)
 .skip))
 (.keep [2, 3, 6, 9, 11, 12, 13] (.seq
 (.plan [q 0 64 (.move (t 9)),
 q 1 65 (.move (t 2)),
 q 2 66 (.move (t 12)),
 q 3 67 (.indexAddr 47 (t 65) (t 66)),
 q 4 68 (.indexAddr 46 (t 67) (cI 0)),
 qr 5 69 (.load 3 (t 68)),
 q 6 70 (.move (t 9)),
 q 7 71 (.move (t 2)),
 q 8 72 (.move (t 12)),
 q 9 73 (.indexAddr 47 (t 71) (t 72)),
 q 10 74 (.indexAddr 46 (t 73) (cI 1)),
 qr 11 75 (.load 3 (t 74)),
 q 12 76 (.indexAddr 60 (t 64) (t 69)),
 ⟨13, [], false, .write, .yes, .store 4 (t 76) (.const (.bool true)), none⟩,
 q 14 77 (.indexAddr 60 (t 70) (t 75)),
 ⟨15, [], false, .write, .yes, .store 4 (t 77) (.const (.bool true)), none⟩])
 (.keep [2, 3, 6, 9, 11, 12, 13] (.ops [mv 78 11,
 mv 79 13,
 y 80 (.call ⟨.builtin .append, #[t 78, t 79], #[28, 28]⟩),
 sg 11 80]))))))))
 (.keep [2, 3, 6, 9, 11, 12] (.ops [mv 41 12,
 y 42 (.binOp .add 3 (t 41) (cI 1) 3),
 sg 12 42])))))))))
 (.keep [2, 3, 6, 9, 11] (.seq
 (.plan [q 0 81 (.fieldAddr 26 (t 3) 2),
 qn 1 82 (.load 24 (t 81)),
 q 3 84 (.fieldAddr 26 (t 3) 5),
 qn 4 85 (.load 3 (t 84)),
 q 5 86 (.fieldAddr 26 (t 3) 6),
 qn 6 87 (.load 3 (t 86)),
 ⟨8, [1, 4, 6], true, .alloc, .yes, .alloc 26, some 15⟩,
 ⟨2, [4, 6, 8], false, .write, .yes, .call ⟨.builtin .append, #[.const (.slice none 0 0), t 82], #[24, 24]⟩, some 83⟩,
 q 7 88 (.build 26 #[(2, t 83), (5, t 85), (6, t 87)]),
 ⟨9, [], false, .write, .yes, .store 26 (t 15) (t 88), none⟩])
 (.keep [2, 3, 6, 9, 11, 15] (.seq
 (.ops [y 16 (.assign (.const (.slice none 0 0)))])
 (.seq
 (.plan [qn 0 90 (.load 26 (t 3)),
 q 1 91 (.move (t 9)),
 qr 2 92 (.load 26 (t 3)),
 q 3 93 (.move (t 11)),
 ⟨4, [0], false, .write, .yes, .call ⟨.value (.func 16), #[t 92, t 93], #[26, 28]⟩, some 94⟩,
 ⟨5, [], false, .write, .yes, .call ⟨.value (.func 42), #[t 90, t 91, t 94], #[26, 60, 28]⟩, some 95⟩,
 q 6 89 (.move (t 95)),
 q 7 96 (.extract (t 89) 0),
 q 8 97 (.extract (t 89) 1),
 q 9 98 (.extract (t 89) 2),
 q 10 99 (.fieldAddr 26 (t 15) 0),
 ⟨11, [], false, .write, .yes, .store 22 (t 99) (t 96), none⟩,
 q 12 100 (.fieldAddr 26 (t 15) 1),
 ⟨13, [], false, .write, .yes, .store 23 (t 100) (t 97), none⟩,
 q 14 16 (.assign (t 98))])
 (.keep [2, 3, 6, 15, 16] (.seq
 (.plan [q 0 101 (.fieldAddr 26 (t 3) 3),
 qn 1 102 (.load 3 (t 101)),
 ⟨2, [], true, .alloc, .yes, .buildSlice 28 1 #[(0, t 102)], some 103⟩,
 q 3 104 (.move (t 16)),
 q 7 108 (.fieldAddr 26 (t 3) 4),
 ⟨8, [2], true, .read, .yes, .load 3 (t 108), some 109⟩,
 ⟨9, [1], true, .alloc, .yes, .buildSlice 28 1 #[(0, t 109)], some 110⟩,
 q 10 111 (.move (t 16)),
 ⟨4, [8, 9], false, .write, .yes, .call ⟨.value (.func 47), #[t 103, t 104], #[28, 28]⟩, some 105⟩,
 q 5 106 (.indexAddr 28 (t 105) (cI 0)),
 ⟨6, [9], true, .read, .yes, .load 3 (t 106), some 107⟩,
 q 14 115 (.fieldAddr 26 (t 15) 3),
 ⟨11, [6], false, .write, .yes, .call ⟨.value (.func 47), #[t 110, t 111], #[28, 28]⟩, some 112⟩,
 q 12 113 (.indexAddr 28 (t 112) (cI 0)),
 qn 13 114 (.load 3 (t 113)),
 ⟨15, [13], false, .write, .yes, .store 3 (t 115) (t 107), none⟩,
 q 16 116 (.fieldAddr 26 (t 15) 4),
 ⟨17, [], false, .write, .yes, .store 3 (t 116) (t 114), none⟩])
 (.keep [2, 6, 15, 16] (.seq
 (.ops [y 17 (.assign (.const (.slice none 0 0)))])
 (.seq
 (.seq
 (.ops [y 18 (.assign (cI 0))])
 (.block 4 (.loop ⟨[2], [(6, .bx 0 0), (15, .bx 1 0), (16, .sl 2), (17, .sl 3), (18, dI)], [.box [.nils, .nils, .nils, dI, dI, dI, dI] true, .box [.sl 4, .sl 5, .sl 6, dI, dI, dI, dI] true, .own tI false, .own (.st (.prod tI tI)) true, .own tn true, .own ts true, .own (.st (.prod tI (.st (.prod tI tI)))) true]⟩ (.keep [2, 6, 15, 16, 17, 18] (.seq
 (.seq
 (.ops [mv 117 18,
 mv 118 2,
 lenC 119 118 47,
 y 120 (.binOp .lss 3 (t 117) (t 119) 3)])
 (.keep [2, 6, 15, 16, 17, 18, 120] (.cond (t 120)
 .skip
 (.exit 4))))
 (.keep [2, 6, 15, 16, 17, 18] (.seq
 (.block 5 (.plan [q 0 123 (.move (t 17)),
 q 1 124 (.move (t 16)),
 q 2 125 (.move (t 2)),
 q 3 126 (.move (t 18)),
 q 4 127 (.indexAddr 47 (t 125) (t 126)),
 q 5 128 (.indexAddr 46 (t 127) (cI 0)),
 qr 6 129 (.load 3 (t 128)),
 q 7 130 (.indexAddr 28 (t 124) (t 129)),
 qr 8 131 (.load 3 (t 130)),
 q 9 132 (.move (t 16)),
 q 10 133 (.move (t 2)),
 q 11 134 (.move (t 18)),
 q 12 135 (.indexAddr 47 (t 133) (t 134)),
 q 13 136 (.indexAddr 46 (t 135) (cI 1)),
 qr 14 137 (.load 3 (t 136)),
 q 15 138 (.indexAddr 28 (t 132) (t 137)),
 qr 16 139 (.load 3 (t 138)),
 q 17 140 (.build 46 #[(0, t 131), (1, t 139)]),
 ⟨18, [], false, .alloc, .yes, .buildSlice 47 1 #[(0, t 140)], some 141⟩,
 ⟨19, [], false, .write, .yes, .call ⟨.builtin .append, #[t 123, t 141], #[47, 47]⟩, some 142⟩,
 q 20 17 (.assign (t 142))]))
 (.keep [2, 6, 15, 16, 17, 18] (.ops [mv 121 18,
 y 122 (.binOp .add 3 (t 121) (cI 1) 3),
 sg 18 122])))))))))
 (.keep [6, 15, 17] (.seq
 (.ops [ld 143 26 15,
 mv 144 17,
 ⟨.yes, .store 26 (t 6) (t 143), none⟩,
 sg 7 144,
 y 8 (.assign (.const (.bool true)))])
 .ret))))))))))))))))))))), [.cell 6 26, .tmp 7, .tmp 8]⟩
theorem is23 : IsFA P pol (planOf pol) 23 3 a23 := ⟨⟨_, _, Try.func23, rfl, rfl, rfl, by kernel_rfl⟩, by decide⟩
theorem ok23 : a23.c.ok = true := by kernel_rfl
theorem r23 (x : denL [(.st (.prod (.list tn) (.prod (.list ts) (.prod (.list (.st (.prod tI (.st (.prod tI tI))))) (.prod tI (.prod tI (.prod tI tI))))))), tI, (.list (.st (.prod tI tI)))]) : fun2 (env [(14, sp14), (16, sp16), (47, sp47)] [(42, sp42)]) a23 [(.st (.prod (.list tn) (.prod (.list ts) (.prod (.list (.st (.prod tI (.st (.prod tI tI))))) (.prod tI (.prod tI (.prod tI tI))))))), tI, (.list (.st (.prod tI tI)))] [(.st (.prod (.list tn) (.prod (.list ts) (.prod (.list (.st (.prod tI (.st (.prod tI tI))))) (.prod tI (.prod tI (.prod tI tI))))))), (.list (.st (.prod tI tI))), .bool] x = F23 x.1 x.2.1 x.2.2 := by kernel_rfl
noncomputable def sp23 : FSp := ⟨[(.st (.prod (.list tn) (.prod (.list ts) (.prod (.list (.st (.prod tI (.st (.prod tI tI))))) (.prod tI (.prod tI (.prod tI tI))))))), tI, (.list (.st (.prod tI tI)))], [(.st (.prod (.list tn) (.prod (.list ts) (.prod (.list (.st (.prod tI (.st (.prod tI tI))))) (.prod tI (.prod tI (.prod tI tI))))))), (.list (.st (.prod tI tI))), .bool], fun x => F23 x.1 x.2.1 x.2.2⟩
theorem s23 : SpOk pol P 23 sp23 := fun x r h => fun_ok is23 (fun _ => rfl) (tyOk [(14, sp14), (16, sp16), (47, sp47)] [(42, sp42)]) (kOk rfl rfl rfl (allC s14 (allC s16 (allC s47 allN))) (imC s42 imN)) ok23 rfl rfl ((r23 x).trans h)
noncomputable def a6 : FA := ⟨189, (.seq
 (.ops [y 14 (.assign (.const (.bool false)))])
 (.seq
 (.ops [mv 31 0,
 mv 32 1,
 mv 33 2,
 mv 34 3,
 y 35 (.call ⟨.value (.func 13), #[t 31, t 32, t 33, t 34], #[28, 28, 3, 3]⟩),
 y 15 (.alloc 26),
 ⟨.yes, .store 26 (t 15) (t 35), none⟩])
 (.lock 15 (.keep [4, 5, 6, 15] (.seq
 (.ops [fa 36 26 15 0,
 ld 37 22 36,
 lenC 38 37 22,
 sg 16 38])
 (.keep [4, 5, 6, 15, 16] (.seq
 (.seq
 (.plan [q 0 39 (.move (t 4)),
 q 1 40 (.move (t 5)),
 q 2 41 (.build 46 #[(0, t 39), (1, t 40)]),
 q 3 42 (.move (t 4)),
 q 4 43 (.move (t 16)),
 q 6 45 (.move (t 5)),
 q 7 46 (.move (t 16)),
 q 10 49 (.fieldAddr 26 (t 15) 3),
 qn 11 50 (.load 3 (t 49)),
 q 12 51 (.move (t 4)),
 q 13 52 (.move (t 16)),
 q 18 57 (.move (cI 0)),
 ⟨5, [11], false, .write, .yes, .call ⟨.value (.func 15), #[t 42, t 43], #[3, 3]⟩, some 44⟩,
 ⟨8, [11], false, .write, .yes, .call ⟨.value (.func 15), #[t 45, t 46], #[3, 3]⟩, some 47⟩,
 q 9 48 (.build 46 #[(0, t 44), (1, t 47)]),
 ⟨14, [11], false, .write, .yes, .call ⟨.value (.func 15), #[t 51, t 52], #[3, 3]⟩, some 53⟩,
 q 15 54 (.build 46 #[(0, t 50), (1, t 53)]),
 ⟨16, [], false, .alloc, .yes, .buildSlice 47 3 #[(0, t 41), (1, t 48), (2, t 54)], some 55⟩,
 qr 17 56 (.call ⟨.builtin .len, #[t 55], #[47]⟩)])
 (.keep [6, 15, 16, 55, 56, 57] (.block 0 (.loop ⟨[6, 15, 16, 56], [(55, .sl 0), (57, dI)], [.own (.st (.prod tI tI)) true]⟩ (.keep [6, 15, 16, 55, 56, 57] (.seq
 (.ops [y 58 (.binOp .lss 3 (t 57) (t 56) 3)])
 (.seq
 (.cond (t 58)
 .skip
 (.exit 0))
 (.keep [6, 15, 16, 55, 56, 57] (.seq
 (.block 1 (.seq
 (.ops [ia 59 47 55 57,
 ld 60 46 59,
 y 18 (.alloc 46),
 ⟨.yes, .store 46 (t 18) (t 60), none⟩])
 (.keep [6, 15, 16, 18, 55, 56, 57] (.seq
 (.ops [ld 62 26 15,
 y 63 (.indexAddr 46 (t 18) (cI 0)),
 ld 64 3 63,
 y 65 (.indexAddr 46 (t 18) (cI 1)),
 ld 66 3 65,
 y 67 (.call ⟨.value (.func 9), #[t 62, t 64, t 66], #[26, 3, 3]⟩),
 mv 61 67,
 y 68 (.extract (t 61) 0),
 y 69 (.extract (t 61) 1),
 y 19 (.alloc 32),
 ⟨.yes, .store 32 (t 19) (t 68), none⟩,
 sg 20 69])
 (.lock 19 (.keep [6, 15, 16, 18, 19, 20, 55, 56, 57] (.seq
 (.ops [ld 71 26 15,
 y 72 (.indexAddr 46 (t 18) (cI 0)),
 ld 73 3 72,
 y 74 (.indexAddr 46 (t 18) (cI 1)),
 ld 75 3 74,
 y 76 (.call ⟨.value (.func 17), #[t 71, t 73, t 75], #[26, 3, 3]⟩),
 mv 70 76,
 y 77 (.extract (t 70) 0),
 y 78 (.extract (t 70) 1),
 y 21 (.alloc 32),
 ⟨.yes, .store 32 (t 21) (t 77), none⟩,
 sg 22 78])
 (.lock 21 (.keep [6, 15, 16, 18, 19, 20, 21, 22, 55, 56, 57] (.seq
 (.jn ⟨[6, 15, 16, 56, 57], [(18, .bx 0 0), (55, .sl 1), (102, dB)], [.box [dI, dI] true, .own (.st (.prod tI tI)) true]⟩
 (.plan [q 0 79 (.move (t 20)),
 q 1 80 (.move (t 22)),
 q 2 81 (.binOp .neq 4 (t 79) (t 80) 4),
 q 3 82 (.move (t 81)),
 qw 4 82 false 83 (.load 32 (t 19)),
 qw 5 82 false 84 (.load 32 (t 21)),
 ⟨6, [], false, .write, .at 82 false, .call ⟨.value (.func 18), #[t 83, t 84], #[32, 32]⟩, some 85⟩,
 qu 7 82 false 86 (.unOp .not 4 (t 85)),
 q 8 87 (.pick (t 82) (.const (.bool true)) (t 86)),
 q 9 88 (.move (t 87)),
 qw 10 88 false 89 (.load 32 (t 21)),
 ⟨12, [], true, .read, .at 88 false, .load 32 (t 21), some 91⟩,
 ⟨11, [12], false, .write, .at 88 false, .call ⟨.value (.func 12), #[t 89], #[32]⟩, some 90⟩,
 ⟨13, [], false, .write, .at 88 false, .call ⟨.value (.func 19), #[t 91], #[32]⟩, some 92⟩,
 qu 14 88 false 93 (.binOp .neq 4 (t 90) (t 92) 4),
 q 15 94 (.pick (t 88) (.const (.bool true)) (t 93)),
 q 16 95 (.move (t 94)),
 qw 17 95 false 96 (.load 32 (t 21)),
 ⟨19, [], true, .read, .at 95 false, .load 32 (t 21), some 98⟩,
 ⟨18, [19], false, .write, .at 95 false, .call ⟨.value (.func 20), #[t 96], #[32]⟩, some 97⟩,
 ⟨20, [], false, .write, .at 95 false, .call ⟨.value (.func 21), #[t 98], #[32]⟩, some 99⟩,
 ⟨21, [], false, .write, .at 95 false, .call ⟨.value (.func 18), #[t 97, t 99], #[32, 32]⟩, some 100⟩,
 qu 22 95 false 101 (.unOp .not 4 (t 100)),
 q 23 102 (.pick (t 95) (.const (.bool true)) (t 101))])
 (.keep [6, 15, 16, 18, 55, 56, 57, 102] (.cond (t 102)
 (.seq
 (.ops [y 14 (.assign (.const (.bool false)))])
 .ret)
 .skip)))
 (.keep [6, 15, 16, 18, 55, 56, 57] (.seq
 (.ops [ld 103 46 18,
 fa 104 26 15 4,
 ld 105 3 104,
 fa 106 26 15 4,
 ld 107 3 106,
 y 108 (.build 46 #[(0, t 105), (1, t 107)]),
 y 109 (.buildSlice 47 2 #[(0, t 103), (1, t 108)]),
 sg 23 109])
 (.keep [6, 15, 16, 23, 55, 56, 57] (.seq
 (.plan [qn 0 111 (.load 26 (t 15)),
 q 1 112 (.move (t 6)),
 q 2 113 (.move (t 16)),
 q 3 114 (.binOp .add 3 (t 113) (cI 2) 3),
 q 5 116 (.move (t 23)),
 ⟨11, [0], true, .alloc, .yes, .alloc 26, some 24⟩,
 ⟨4, [0, 11], false, .write, .yes, .call ⟨.value (.func 15), #[t 112, t 114], #[3, 3]⟩, some 115⟩,
 ⟨6, [11], false, .write, .yes, .call ⟨.value (.func 22), #[t 111, t 115, t 116], #[26, 3, 47]⟩, some 117⟩,
 q 7 110 (.move (t 117)),
 q 8 118 (.extract (t 110) 0),
 q 9 119 (.extract (t 110) 1),
 q 10 120 (.extract (t 110) 2),
 ⟨12, [], false, .write, .yes, .store 26 (t 24) (t 118), none⟩,
 q 13 25 (.assign (t 119)),
 q 14 26 (.assign (t 120))])
 (.lock 24 (.keep [6, 15, 16, 23, 24, 25, 26, 55, 56, 57] (.seq
 (.plan [qn 0 122 (.load 26 (t 15)),
 q 1 123 (.move (t 6)),
 q 2 124 (.move (t 16)),
 q 3 125 (.binOp .add 3 (t 124) (cI 2) 3),
 q 5 127 (.move (t 23)),
 ⟨11, [0], true, .alloc, .yes, .alloc 26, some 27⟩,
 ⟨4, [0, 11], false, .write, .yes, .call ⟨.value (.func 15), #[t 123, t 125], #[3, 3]⟩, some 126⟩,
 ⟨6, [11], false, .write, .yes, .call ⟨.value (.func 23), #[t 122, t 126, t 127], #[26, 3, 47]⟩, some 128⟩,
 q 7 121 (.move (t 128)),
 q 8 129 (.extract (t 121) 0),
 q 9 130 (.extract (t 121) 1),
 q 10 131 (.extract (t 121) 2),
 ⟨12, [], false, .write, .yes, .store 26 (t 27) (t 129), none⟩,
 q 13 28 (.assign (t 130)),
 q 14 29 (.assign (t 131))])
 (.lock 27 (.keep [6, 15, 16, 24, 25, 26, 27, 28, 29, 55, 56, 57] (.seq
 (.jn ⟨[6, 15, 16, 25, 28, 56, 57], [(55, .sl 0), (171, dB)], [.own (.st (.prod tI tI)) true]⟩
 (.ops [mv 132 26,
 mv 133 29,
 y 134 (.binOp .neq 4 (t 132) (t 133) 4),
 mv 135 134,
 u 135 false 136 (.move (t 25)),
 u 135 false 137 (.call ⟨.builtin .len, #[t 136], #[47]⟩),
 u 135 false 138 (.move (t 28)),
 u 135 false 139 (.call ⟨.builtin .len, #[t 138], #[47]⟩),
 u 135 false 140 (.binOp .neq 3 (t 137) (t 139) 3),
 y 141 (.pick (t 135) (.const (.bool true)) (t 140)),
 mv 142 141,
 u 142 false 143 (.fieldAddr 26 (t 24) 3),
 u 142 false 144 (.load 3 (t 143)),
 u 142 false 145 (.fieldAddr 26 (t 27) 3),
 u 142 false 146 (.load 3 (t 145)),
 u 142 false 147 (.binOp .neq 3 (t 144) (t 146) 3),
 y 148 (.pick (t 142) (.const (.bool true)) (t 147)),
 mv 149 148,
 u 149 false 150 (.fieldAddr 26 (t 24) 4),
 u 149 false 151 (.load 3 (t 150)),
 u 149 false 152 (.fieldAddr 26 (t 27) 4),
 u 149 false 153 (.load 3 (t 152)),
 u 149 false 154 (.binOp .neq 3 (t 151) (t 153) 3),
 y 155 (.pick (t 149) (.const (.bool true)) (t 154)),
 mv 156 155,
 u 156 false 157 (.fieldAddr 26 (t 24) 0),
 u 156 false 158 (.load 22 (t 157)),
 u 156 false 159 (.fieldAddr 26 (t 27) 0),
 u 156 false 160 (.load 22 (t 159)),
 u 156 false 161 (.call ⟨.value (.func 24), #[t 158, t 160], #[22, 22]⟩),
 u 156 false 162 (.unOp .not 4 (t 161)),
 y 163 (.pick (t 156) (.const (.bool true)) (t 162)),
 mv 164 163,
 u 164 false 165 (.fieldAddr 26 (t 24) 1),
 u 164 false 166 (.load 23 (t 165)),
 u 164 false 167 (.fieldAddr 26 (t 27) 1),
 u 164 false 168 (.load 23 (t 167)),
 u 164 false 169 (.call ⟨.value (.func 25), #[t 166, t 168], #[23, 23]⟩),
 u 164 false 170 (.unOp .not 4 (t 169)),
 y 171 (.pick (t 164) (.const (.bool true)) (t 170))])
 (.keep [6, 15, 16, 25, 28, 55, 56, 57, 171] (.cond (t 171)
 (.seq
 (.ops [y 14 (.assign (.const (.bool false)))])
 .ret)
 .skip)))
 (.keep [6, 15, 16, 25, 28, 55, 56, 57] (.seq
 (.ops [y 30 (.assign (cI 0))])
 (.block 2 (.loop ⟨[6, 15, 16, 25, 28, 56, 57], [(30, dI), (55, .sl 0)], [.own (.st (.prod tI tI)) true]⟩ (.keep [6, 15, 16, 25, 28, 30, 55, 56, 57] (.seq
 (.seq
 (.ops [mv 172 30,
 mv 173 25,
 lenC 174 173 47,
 y 175 (.binOp .lss 3 (t 172) (t 174) 3)])
 (.keep [6, 15, 16, 25, 28, 30, 55, 56, 57, 175] (.cond (t 175)
 .skip
 (.exit 2))))
 (.keep [6, 15, 16, 25, 28, 30, 55, 56, 57] (.seq
 (.block 3 (.seq
 (.plan [q 0 178 (.move (t 25)),
 q 1 179 (.move (t 30)),
 q 2 180 (.indexAddr 47 (t 178) (t 179)),
 qr 3 181 (.load 46 (t 180)),
 q 4 182 (.move (t 28)),
 q 5 183 (.move (t 30)),
 q 6 184 (.indexAddr 47 (t 182) (t 183)),
 qr 7 185 (.load 46 (t 184)),
 q 8 186 (.binOp .neq 46 (t 181) (t 185) 46)])
 (.keep [6, 15, 16, 25, 28, 30, 55, 56, 57, 186] (.cond (t 186)
 (.seq
 (.ops [y 14 (.assign (.const (.bool false)))])
 .ret)
 .skip))))
 (.keep [6, 15, 16, 25, 28, 30, 55, 56, 57] (.ops [mv 176 30,
 y 177 (.binOp .add 3 (t 176) (cI 1) 3),
 sg 30 177]))))))))))))))))))))))))))))))
 (.keep [6, 15, 16, 55, 56, 57] (.ops [y 187 (.binOp .add 3 (t 57) (cI 1) 3),
 mv 57 187])))))))))))
 (.keep [] (.seq
 (.ops [y 188 (.call ⟨.value (.func 3), #[], #[]⟩),
 sg 14 188])
 .ret))))))))), [.tmp 14]⟩
theorem is6 : IsFA P pol (planOf pol) 6 7 a6 := ⟨⟨_, _, Try.func6, rfl, rfl, rfl, by kernel_rfl⟩, by decide⟩
theorem ok6 : a6.c.ok = true := by kernel_rfl
theorem r6 (x : denL [tL, tL, tI, tI, tI, tI, tI]) : fun2 (env [(3, sp3), (9, sp9), (12, sp12), (13, sp13), (15, sp15), (17, sp17), (18, sp18), (19, sp19), (20, sp20), (21, sp21), (22, sp22), (23, sp23), (24, sp24), (25, sp25)] []) a6 [tL, tL, tI, tI, tI, tI, tI] [.bool] x = F6 x.1 x.2.1 x.2.2.1 x.2.2.2.1 x.2.2.2.2.1 x.2.2.2.2.2.1 x.2.2.2.2.2.2 := by kernel_rfl
noncomputable def sp6 : FSp := ⟨[tL, tL, tI, tI, tI, tI, tI], [.bool], fun x => F6 x.1 x.2.1 x.2.2.1 x.2.2.2.1 x.2.2.2.2.1 x.2.2.2.2.2.1 x.2.2.2.2.2.2⟩
theorem s6 : SpOk pol P 6 sp6 := fun x r h => fun_ok is6 (fun _ => rfl) (tyOk [(3, sp3), (9, sp9), (12, sp12), (13, sp13), (15, sp15), (17, sp17), (18, sp18), (19, sp19), (20, sp20), (21, sp21), (22, sp22), (23, sp23), (24, sp24), (25, sp25)] []) (kOk rfl rfl rfl (allC s3 (allC s9 (allC s12 (allC s13 (allC s15 (allC s17 (allC s18 (allC s19 (allC s20 (allC s21 (allC s22 (allC s23 (allC s24 (allC s25 allN)))))))))))))) imN) ok6 rfl rfl ((r6 x).trans h)
end Go.Proofs.Ytffkjnaocflmdaa
