/-
  The program's functions, annotated, and that they compute the plain functions. Printed by program.
-/
import Derived.Test.YtffkjnaocflmdaaSb
import Derived.Test.YtffkjnaocflmdaaFd
namespace Go.Proofs.Ytffkjnaocflmdaa
open Go.Eng Go.Dat
set_option linter.unusedVariables false
-- 26 fulling/explain.inRange
noncomputable def a26 : FA := ⟨13, (.seq
   (.ops [⟨.yes, .assign (.const (.bool false)), some 4⟩])
   (.jn ⟨[], [(4, .dat .bool)], []⟩
    (.ops [⟨.yes, .move (.tmp 1), some 5⟩,
      ⟨.yes, .binOp .geq 3 (.tmp 5) (.const (.int .i64 0)) 3, some 6⟩,
      ⟨.yes, .move (.tmp 6), some 7⟩,
      ⟨.at 7 true, .move (.tmp 1), some 8⟩,
      ⟨.at 7 true, .move (.tmp 0), some 9⟩,
      ⟨.at 7 true, .call ⟨.builtin .len, #[.tmp 9], #[22]⟩, some 10⟩,
      ⟨.at 7 true, .binOp .lss 3 (.tmp 8) (.tmp 10) 3, some 11⟩,
      ⟨.yes, .pick (.tmp 7) (.tmp 11) (.const (.bool false)), some 12⟩,
      ⟨.yes, .assign (.tmp 12), some 4⟩])
    .ret)), [.tmp 4]⟩
theorem is26 : IsFA P pol (planOf pol) 26 2 a26 := ⟨⟨_, _, Try.func26, rfl, rfl, rfl, by kernel_rfl⟩, by decide⟩
theorem ok26 : a26.c.ok = true := by kernel_rfl
theorem r26 (x : denL [(.list (.st (.prod (.int .i64) (.prod (.int .i64) (.list (.int .i64)))))), (.int .i64)]) : fun2 (env [] []) a26 [(.list (.st (.prod (.int .i64) (.prod (.int .i64) (.list (.int .i64)))))), (.int .i64)] [.bool] x = F26 x.1 x.2 := by kernel_rfl
noncomputable def sp26 : FSp := ⟨[(.list (.st (.prod (.int .i64) (.prod (.int .i64) (.list (.int .i64)))))), (.int .i64)], [.bool], fun x => F26 x.1 x.2⟩
theorem s26 : SpOk pol P 26 sp26 := fun x r h => fun_ok is26 (fun _ => rfl) (tyOk [] []) (kOk rfl rfl rfl allN imN) ok26 rfl rfl ((r26 x).trans h)
end Go.Proofs.Ytffkjnaocflmdaa
namespace Go.Proofs.Ytffkjnaocflmdaa
open Go.Eng Go.Dat
set_option linter.unusedVariables false
-- 27 fulling/explain.shortest
noncomputable def a27 : FA := ⟨113, (.seq
   (.ops [⟨.yes, .assign (.const (.slice none 0 0)), some 6⟩,
     ⟨.yes, .assign (.const (.bool false)), some 7⟩])
   (.seq
    (.ops [⟨.yes, .move (.tmp 0), some 17⟩,
      ⟨.yes, .call ⟨.builtin .len, #[.tmp 17], #[58]⟩, some 18⟩,
      ⟨.yes, .makeSlice 28 (.tmp 18) (.tmp 18), some 19⟩,
      ⟨.yes, .assign (.tmp 19), some 8⟩])
    (.keep [0, 1, 2, 8] (.seq
     (.seq
      (.ops [⟨.yes, .move (.tmp 8), some 20⟩,
        ⟨.yes, .call ⟨.builtin .len, #[.tmp 20], #[28]⟩, some 21⟩,
        ⟨.yes, .move (.const (.int .i64 0)), some 22⟩])
      (.block 0 (.loop ⟨[0, 1, 2, 21], [(8, .sl 0), (22, .dat (.int .i64))], [.own (.int .i64) true]⟩ (.keep [0, 1, 2, 8, 21, 22] (.seq
         (.ops [⟨.yes, .binOp .lss 3 (.tmp 22) (.tmp 21) 3, some 23⟩])
         (.seq
          (.cond (.tmp 23)
           .skip
           (.exit 0))
          (.keep [0, 1, 2, 8, 21, 22] (.seq
           (.block 1 (.seq
             (.ops [⟨.yes, .move (.tmp 22), some 24⟩,
               ⟨.yes, .assign (.tmp 24), some 9⟩])
             (.ops [⟨.yes, .move (.tmp 8), some 25⟩,
               ⟨.yes, .move (.tmp 9), some 26⟩,
               ⟨.yes, .indexAddr 28 (.tmp 25) (.tmp 26), some 27⟩,
               ⟨.yes, .store 3 (.tmp 27) (.const (.int .i64 (-1))), none⟩])))
           (.keep [0, 1, 2, 8, 21, 22] (.ops [⟨.yes, .binOp .add 3 (.tmp 22) (.const (.int .i64 1)) 3, some 28⟩,
             ⟨.yes, .move (.tmp 28), some 22⟩]))))))))))
     (.keep [0, 1, 2, 8] (.seq
      (.ops [⟨.yes, .move (.tmp 8), some 29⟩,
        ⟨.yes, .move (.tmp 2), some 30⟩,
        ⟨.yes, .indexAddr 28 (.tmp 29) (.tmp 30), some 31⟩,
        ⟨.yes, .store 3 (.tmp 31) (.const (.int .i64 0)), none⟩])
      (.keep [0, 1, 2, 8] (.seq
       (.ops [⟨.yes, .move (.tmp 2), some 32⟩,
         ⟨.yes, .buildSlice 28 1 #[(0, .tmp 32)], some 33⟩,
         ⟨.yes, .assign (.tmp 33), some 10⟩])
       (.seq
        (.seq
         (.ops [⟨.yes, .assign (.const (.int .i64 0)), some 11⟩])
         (.block 2 (.loop ⟨[0, 1, 2], [(8, .sl 0), (10, .sl 1), (11, .dat (.int .i64))], [.own (.int .i64) true, .own (.int .i64) true]⟩ (.keep [0, 1, 2, 8, 10, 11] (.seq
            (.seq
             (.ops [⟨.yes, .move (.tmp 11), some 34⟩,
               ⟨.yes, .move (.tmp 10), some 35⟩,
               ⟨.yes, .call ⟨.builtin .len, #[.tmp 35], #[28]⟩, some 36⟩,
               ⟨.yes, .binOp .lss 3 (.tmp 34) (.tmp 36) 3, some 37⟩])
             (.keep [0, 1, 2, 8, 10, 11, 37] (.cond (.tmp 37)
              .skip
              (.exit 2))))
            (.keep [0, 1, 2, 8, 10, 11] (.seq
             (.block 3 (.seq
               (.ops [⟨.yes, .move (.tmp 0), some 40⟩,
                 ⟨.yes, .move (.tmp 10), some 41⟩,
                 ⟨.yes, .move (.tmp 11), some 42⟩,
                 ⟨.yes, .indexAddr 28 (.tmp 41) (.tmp 42), some 43⟩,
                 ⟨.yes, .load 3 (.tmp 43), some 44⟩,
                 ⟨.yes, .indexAddr 58 (.tmp 40) (.tmp 44), some 45⟩,
                 ⟨.yes, .load 82 (.tmp 45), some 46⟩,
                 ⟨.yes, .call ⟨.builtin .len, #[.tmp 46], #[82]⟩, some 47⟩,
                 ⟨.yes, .move (.const (.int .i64 0)), some 48⟩])
               (.keep [0, 1, 2, 8, 10, 11, 46, 47, 48] (.block 4 (.loop ⟨[0, 1, 2, 11, 46, 47], [(8, .sl 0), (10, .sl 1), (48, .dat (.int .i64))], [.own (.int .i64) true, .own (.int .i64) true]⟩ (.keep [0, 1, 2, 8, 10, 11, 46, 47, 48] (.seq
                  (.ops [⟨.yes, .binOp .lss 3 (.tmp 48) (.tmp 47) 3, some 49⟩])
                  (.seq
                   (.cond (.tmp 49)
                    .skip
                    (.exit 4))
                   (.keep [0, 1, 2, 8, 10, 11, 46, 47, 48] (.jn ⟨[0, 1, 2, 11, 46, 47, 48], [(8, .sl 0), (10, .sl 1)], [.own (.int .i64) true, .own (.int .i64) true]⟩
                    (.block 5 (.seq
                      (.ops [⟨.yes, .indexAddr 82 (.tmp 46) (.tmp 48), some 50⟩,
                        ⟨.yes, .load 84 (.tmp 50), some 51⟩,
                        ⟨.yes, .alloc 84, some 13⟩,
                        ⟨.yes, .store 84 (.tmp 13) (.tmp 51), none⟩])
                      (.lock 13 (.keep [0, 1, 2, 8, 10, 11, 13, 46, 47, 48] (.seq
                       (.ops [⟨.yes, .move (.tmp 8), some 52⟩,
                         ⟨.yes, .fieldAddr 84 (.tmp 13) 0, some 53⟩,
                         ⟨.yes, .load 3 (.tmp 53), some 54⟩,
                         ⟨.yes, .indexAddr 28 (.tmp 52) (.tmp 54), some 55⟩,
                         ⟨.yes, .load 3 (.tmp 55), some 56⟩,
                         ⟨.yes, .binOp .lss 3 (.tmp 56) (.const (.int .i64 0)) 3, some 57⟩])
                       (.keep [0, 1, 2, 8, 10, 11, 13, 46, 47, 48, 57] (.cond (.tmp 57)
                        (.seq
                         (.plan [⟨0, [], false, .pure, .yes, .move (.tmp 8), some 58⟩,
                           ⟨1, [], false, .pure, .yes, .fieldAddr 84 (.tmp 13) 0, some 59⟩,
                           ⟨2, [], false, .read, .yes, .load 3 (.tmp 59), some 60⟩,
                           ⟨3, [], false, .pure, .yes, .move (.tmp 8), some 61⟩,
                           ⟨4, [], false, .pure, .yes, .move (.tmp 10), some 62⟩,
                           ⟨5, [], false, .pure, .yes, .move (.tmp 11), some 63⟩,
                           ⟨6, [], false, .pure, .yes, .indexAddr 28 (.tmp 62) (.tmp 63), some 64⟩,
                           ⟨7, [], false, .read, .yes, .load 3 (.tmp 64), some 65⟩,
                           ⟨8, [], false, .pure, .yes, .indexAddr 28 (.tmp 61) (.tmp 65), some 66⟩,
                           ⟨9, [], false, .read, .yes, .load 3 (.tmp 66), some 67⟩,
                           ⟨10, [], false, .pure, .yes, .binOp .add 3 (.tmp 67) (.const (.int .i64 1)) 3, some 68⟩,
                           ⟨11, [], false, .pure, .yes, .indexAddr 28 (.tmp 58) (.tmp 60), some 69⟩,
                           ⟨12, [], false, .write, .yes, .store 3 (.tmp 69) (.tmp 68), none⟩])
                         (.keep [0, 1, 2, 8, 10, 11, 13, 46, 47, 48] (.ops [⟨.yes, .move (.tmp 10), some 70⟩,
                           ⟨.yes, .fieldAddr 84 (.tmp 13) 0, some 71⟩,
                           ⟨.yes, .load 3 (.tmp 71), some 72⟩,
                           ⟨.yes, .buildSlice 28 1 #[(0, .tmp 72)], some 73⟩,
                           ⟨.yes, .call ⟨.builtin .append, #[.tmp 70, .tmp 73], #[28, 28]⟩, some 74⟩,
                           ⟨.yes, .assign (.tmp 74), some 10⟩])))
                        .skip)))))))
                    (.keep [0, 1, 2, 8, 10, 11, 46, 47, 48] (.ops [⟨.yes, .binOp .add 3 (.tmp 48) (.const (.int .i64 1)) 3, some 75⟩,
                      ⟨.yes, .move (.tmp 75), some 48⟩]))))))))))))
             (.keep [0, 1, 2, 8, 10, 11] (.ops [⟨.yes, .move (.tmp 11), some 38⟩,
               ⟨.yes, .binOp .add 3 (.tmp 38) (.const (.int .i64 1)) 3, some 39⟩,
               ⟨.yes, .assign (.tmp 39), some 11⟩])))))))))
        (.keep [0, 1, 2, 8] (.seq
         (.seq
          (.ops [⟨.yes, .move (.tmp 8), some 76⟩,
            ⟨.yes, .move (.tmp 1), some 77⟩,
            ⟨.yes, .indexAddr 28 (.tmp 76) (.tmp 77), some 78⟩,
            ⟨.yes, .load 3 (.tmp 78), some 79⟩,
            ⟨.yes, .binOp .lss 3 (.tmp 79) (.const (.int .i64 0)) 3, some 80⟩])
          (.keep [0, 1, 2, 8, 80] (.cond (.tmp 80)
           (.seq
            (.ops [⟨.yes, .assign (.const (.slice none 0 0)), some 6⟩,
              ⟨.yes, .assign (.const (.bool false)), some 7⟩])
            .ret)
           .skip)))
         (.keep [0, 1, 2, 8] (.seq
          (.ops [⟨.yes, .assign (.const (.slice none 0 0)), some 14⟩])
          (.seq
           (.block 6 (.loop ⟨[0, 2], [(1, .dat (.int .i64)), (8, .sl 0), (14, .sl 1)], [.own (.int .i64) true, .own (.int .i64) true]⟩ (.keep [0, 1, 2, 8, 14] (.seq
              (.seq
               (.ops [⟨.yes, .move (.tmp 1), some 81⟩,
                 ⟨.yes, .move (.tmp 2), some 82⟩,
                 ⟨.yes, .binOp .neq 3 (.tmp 81) (.tmp 82) 3, some 83⟩])
               (.cond (.tmp 83)
                .skip
                (.exit 6)))
              (.keep [0, 1, 2, 8, 14] (.block 7 (.seq
                (.ops [⟨.yes, .move (.tmp 0), some 84⟩,
                  ⟨.yes, .move (.tmp 1), some 85⟩,
                  ⟨.yes, .indexAddr 58 (.tmp 84) (.tmp 85), some 86⟩,
                  ⟨.yes, .load 82 (.tmp 86), some 87⟩,
                  ⟨.yes, .call ⟨.builtin .len, #[.tmp 87], #[82]⟩, some 88⟩,
                  ⟨.yes, .move (.const (.int .i64 0)), some 89⟩])
                (.keep [0, 1, 2, 8, 14, 87, 88, 89] (.block 8 (.loop ⟨[0, 2, 87, 88], [(1, .dat (.int .i64)), (8, .sl 0), (14, .sl 1), (89, .dat (.int .i64))], [.own (.int .i64) true, .own (.int .i64) true]⟩ (.keep [0, 1, 2, 8, 14, 87, 88, 89] (.seq
                   (.ops [⟨.yes, .binOp .lss 3 (.tmp 89) (.tmp 88) 3, some 90⟩])
                   (.seq
                    (.cond (.tmp 90)
                     .skip
                     (.exit 8))
                    (.keep [0, 1, 2, 8, 14, 87, 88, 89] (.seq
                     (.block 9 (.seq
                       (.ops [⟨.yes, .indexAddr 82 (.tmp 87) (.tmp 89), some 91⟩,
                         ⟨.yes, .load 84 (.tmp 91), some 92⟩,
                         ⟨.yes, .alloc 84, some 16⟩,
                         ⟨.yes, .store 84 (.tmp 16) (.tmp 92), none⟩])
                       (.lock 16 (.keep [0, 1, 2, 8, 14, 16, 87, 88, 89] (.seq
                        (.plan [⟨0, [], false, .pure, .yes, .move (.tmp 8), some 93⟩,
                          ⟨1, [], false, .pure, .yes, .fieldAddr 84 (.tmp 16) 0, some 94⟩,
                          ⟨2, [], false, .read, .yes, .load 3 (.tmp 94), some 95⟩,
                          ⟨3, [], false, .pure, .yes, .indexAddr 28 (.tmp 93) (.tmp 95), some 96⟩,
                          ⟨4, [], false, .read, .yes, .load 3 (.tmp 96), some 97⟩,
                          ⟨5, [], false, .pure, .yes, .move (.tmp 8), some 98⟩,
                          ⟨6, [], false, .pure, .yes, .move (.tmp 1), some 99⟩,
                          ⟨7, [], false, .pure, .yes, .indexAddr 28 (.tmp 98) (.tmp 99), some 100⟩,
                          ⟨8, [], false, .read, .yes, .load 3 (.tmp 100), some 101⟩,
                          ⟨9, [], false, .pure, .yes, .binOp .sub 3 (.tmp 101) (.const (.int .i64 1)) 3, some 102⟩,
                          ⟨10, [], false, .pure, .yes, .binOp .eql 3 (.tmp 97) (.tmp 102) 3, some 103⟩])
                        (.keep [0, 1, 2, 8, 14, 16, 87, 88, 89, 103] (.cond (.tmp 103)
                         (.seq
                          (.ops [⟨.yes, .move (.tmp 14), some 104⟩,
                            ⟨.yes, .fieldAddr 84 (.tmp 16) 1, some 105⟩,
                            ⟨.yes, .load 3 (.tmp 105), some 106⟩,
                            ⟨.yes, .buildSlice 28 1 #[(0, .tmp 106)], some 107⟩,
                            ⟨.yes, .call ⟨.builtin .append, #[.tmp 104, .tmp 107], #[28, 28]⟩, some 108⟩,
                            ⟨.yes, .assign (.tmp 108), some 14⟩])
                          (.keep [0, 2, 8, 14, 16] (.seq
                           (.ops [⟨.yes, .fieldAddr 84 (.tmp 16) 0, some 109⟩,
                             ⟨.yes, .load 3 (.tmp 109), some 110⟩,
                             ⟨.yes, .assign (.tmp 110), some 1⟩])
                           (.exit 8))))
                         .skip)))))))
                     (.keep [0, 1, 2, 8, 14, 87, 88, 89] (.ops [⟨.yes, .binOp .add 3 (.tmp 89) (.const (.int .i64 1)) 3, some 111⟩,
                       ⟨.yes, .move (.tmp 111), some 89⟩])))))))))))))))))
           (.keep [14] (.seq
            (.ops [⟨.yes, .move (.tmp 14), some 112⟩,
              ⟨.yes, .assign (.tmp 112), some 6⟩,
              ⟨.yes, .assign (.const (.bool true)), some 7⟩])
            .ret)))))))))))))))), [.tmp 6, .tmp 7]⟩
theorem is27 : IsFA P pol (planOf pol) 27 3 a27 := ⟨⟨_, _, Try.func27, rfl, rfl, rfl, by kernel_rfl⟩, by decide⟩
theorem ok27 : a27.c.ok = true := by kernel_rfl
theorem r27 (x : denL [(.list (.list (.st (.prod (.int .i64) (.int .i64))))), (.int .i64), (.int .i64)]) : fun2 (env [] []) a27 [(.list (.list (.st (.prod (.int .i64) (.int .i64))))), (.int .i64), (.int .i64)] [(.list (.int .i64)), .bool] x = F27 x.1 x.2.1 x.2.2 := by kernel_rfl
noncomputable def sp27 : FSp := ⟨[(.list (.list (.st (.prod (.int .i64) (.int .i64))))), (.int .i64), (.int .i64)], [(.list (.int .i64)), .bool], fun x => F27 x.1 x.2.1 x.2.2⟩
theorem s27 : SpOk pol P 27 sp27 := fun x r h => fun_ok is27 (fun _ => rfl) (tyOk [] []) (kOk rfl rfl rfl allN imN) ok27 rfl rfl ((r27 x).trans h)
end Go.Proofs.Ytffkjnaocflmdaa
namespace Go.Proofs.Ytffkjnaocflmdaa
open Go.Eng Go.Dat
set_option linter.unusedVariables false
-- 28 fulling/explain.edges
noncomputable def a28 : FA := ⟨69, (.seq
   (.ops [⟨.yes, .box 26 (.tmp 0), some 2⟩,
     ⟨.yes, .assign (.const (.slice none 0 0)), some 4⟩])
   (.lock 2 (.seq
    (.ops [⟨.yes, .fieldAddr 26 (.tmp 2) 0, some 8⟩,
      ⟨.yes, .load 22 (.tmp 8), some 9⟩,
      ⟨.yes, .call ⟨.builtin .len, #[.tmp 9], #[22]⟩, some 10⟩,
      ⟨.yes, .makeSlice 58 (.tmp 10) (.tmp 10), some 11⟩,
      ⟨.yes, .assign (.tmp 11), some 5⟩])
    (.keep [1, 2, 5] (.jn ⟨[], [(5, .sl 0)], [.own2 (.st (.prod (.int .i64) (.int .i64)))]⟩
     (.seq
      (.ops [⟨.yes, .fieldAddr 26 (.tmp 2) 1, some 12⟩,
        ⟨.yes, .load 23 (.tmp 12), some 13⟩,
        ⟨.yes, .call ⟨.builtin .len, #[.tmp 13], #[23]⟩, some 14⟩,
        ⟨.yes, .move (.const (.int .i64 0)), some 15⟩])
      (.keep [1, 2, 5, 13, 14, 15] (.block 0 (.loop ⟨[1, 2, 13, 14], [(5, .sl 0), (15, .dat (.int .i64))], [.own2 (.st (.prod (.int .i64) (.int .i64)))]⟩ (.keep [1, 2, 5, 13, 14, 15] (.seq
         (.ops [⟨.yes, .binOp .lss 3 (.tmp 15) (.tmp 14) 3, some 16⟩])
         (.seq
          (.cond (.tmp 16)
           .skip
           (.exit 0))
          (.keep [1, 2, 5, 13, 14, 15] (.jn ⟨[1, 2, 13, 14, 15], [(5, .sl 0)], [.own2 (.st (.prod (.int .i64) (.int .i64)))]⟩
           (.block 1 (.seq
             (.ops [⟨.yes, .move (.tmp 15), some 17⟩,
               ⟨.yes, .indexAddr 23 (.tmp 13) (.tmp 15), some 18⟩,
               ⟨.yes, .load 44 (.tmp 18), some 19⟩,
               ⟨.yes, .alloc 44, some 7⟩,
               ⟨.yes, .assign (.tmp 17), some 6⟩,
               ⟨.yes, .store 44 (.tmp 7) (.tmp 19), none⟩])
             (.lock 7 (.keep [1, 2, 5, 6, 7, 13, 14, 15] (.seq
              (.seq
               (.ops [⟨.yes, .move (.tmp 6), some 20⟩,
                 ⟨.yes, .move (.tmp 1), some 21⟩,
                 ⟨.yes, .binOp .geq 3 (.tmp 20) (.tmp 21) 3, some 22⟩])
               (.cond (.tmp 22)
                (.exit 0)
                .skip))
              (.keep [1, 2, 5, 6, 7, 13, 14, 15] (.seq
               (.jn ⟨[1, 2, 6, 7, 13, 14, 15], [(5, .sl 0), (36, .dat .bool)], [.own2 (.st (.prod (.int .i64) (.int .i64)))]⟩
                (.ops [⟨.yes, .fieldAddr 26 (.tmp 2) 0, some 23⟩,
                  ⟨.yes, .load 22 (.tmp 23), some 24⟩,
                  ⟨.yes, .fieldAddr 44 (.tmp 7) 0, some 25⟩,
                  ⟨.yes, .load 3 (.tmp 25), some 26⟩,
                  ⟨.yes, .call ⟨.value (.func 26), #[.tmp 24, .tmp 26], #[22, 3]⟩, some 27⟩,
                  ⟨.yes, .unOp .not 4 (.tmp 27), some 28⟩,
                  ⟨.yes, .move (.tmp 28), some 29⟩,
                  ⟨.at 29 false, .fieldAddr 26 (.tmp 2) 0, some 30⟩,
                  ⟨.at 29 false, .load 22 (.tmp 30), some 31⟩,
                  ⟨.at 29 false, .fieldAddr 44 (.tmp 7) 1, some 32⟩,
                  ⟨.at 29 false, .load 3 (.tmp 32), some 33⟩,
                  ⟨.at 29 false, .call ⟨.value (.func 26), #[.tmp 31, .tmp 33], #[22, 3]⟩, some 34⟩,
                  ⟨.at 29 false, .unOp .not 4 (.tmp 34), some 35⟩,
                  ⟨.yes, .pick (.tmp 29) (.const (.bool true)) (.tmp 35), some 36⟩])
                (.keep [1, 2, 5, 6, 7, 13, 14, 15, 36] (.cond (.tmp 36)
                 (.exit 1)
                 .skip)))
               (.keep [1, 2, 5, 6, 7, 13, 14, 15] (.seq
                (.plan [⟨0, [], false, .pure, .yes, .move (.tmp 5), some 37⟩,
                  ⟨1, [], false, .pure, .yes, .fieldAddr 44 (.tmp 7) 0, some 38⟩,
                  ⟨2, [], true, .read, .yes, .load 3 (.tmp 38), some 39⟩,
                  ⟨3, [], false, .pure, .yes, .move (.tmp 5), some 40⟩,
                  ⟨4, [], false, .pure, .yes, .fieldAddr 44 (.tmp 7) 0, some 41⟩,
                  ⟨5, [], true, .read, .yes, .load 3 (.tmp 41), some 42⟩,
                  ⟨6, [], false, .pure, .yes, .indexAddr 58 (.tmp 40) (.tmp 42), some 43⟩,
                  ⟨7, [], true, .read, .yes, .load 82 (.tmp 43), some 44⟩,
                  ⟨8, [], false, .pure, .yes, .fieldAddr 44 (.tmp 7) 1, some 45⟩,
                  ⟨9, [], false, .read, .yes, .load 3 (.tmp 45), some 46⟩,
                  ⟨10, [], false, .pure, .yes, .move (.tmp 6), some 47⟩,
                  ⟨11, [], false, .pure, .yes, .build 84 #[(0, .tmp 46), (1, .tmp 47)], some 48⟩,
                  ⟨12, [2, 5, 7], false, .alloc, .yes, .buildSlice 82 1 #[(0, .tmp 48)], some 49⟩,
                  ⟨13, [2], false, .write, .yes, .call ⟨.builtin .append, #[.tmp 44, .tmp 49], #[82, 82]⟩, some 50⟩,
                  ⟨14, [], false, .pure, .yes, .indexAddr 58 (.tmp 37) (.tmp 39), some 51⟩,
                  ⟨15, [], false, .write, .yes, .store 82 (.tmp 51) (.tmp 50), none⟩])
                (.keep [1, 2, 5, 6, 7, 13, 14, 15] (.plan [⟨0, [], false, .pure, .yes, .move (.tmp 5), some 52⟩,
                  ⟨1, [], false, .pure, .yes, .fieldAddr 44 (.tmp 7) 1, some 53⟩,
                  ⟨2, [], true, .read, .yes, .load 3 (.tmp 53), some 54⟩,
                  ⟨3, [], false, .pure, .yes, .move (.tmp 5), some 55⟩,
                  ⟨4, [], false, .pure, .yes, .fieldAddr 44 (.tmp 7) 1, some 56⟩,
                  ⟨5, [], true, .read, .yes, .load 3 (.tmp 56), some 57⟩,
                  ⟨6, [], false, .pure, .yes, .indexAddr 58 (.tmp 55) (.tmp 57), some 58⟩,
                  ⟨7, [], true, .read, .yes, .load 82 (.tmp 58), some 59⟩,
                  ⟨8, [], false, .pure, .yes, .fieldAddr 44 (.tmp 7) 0, some 60⟩,
                  ⟨9, [], false, .read, .yes, .load 3 (.tmp 60), some 61⟩,
                  ⟨10, [], false, .pure, .yes, .move (.tmp 6), some 62⟩,
                  ⟨11, [], false, .pure, .yes, .build 84 #[(0, .tmp 61), (1, .tmp 62)], some 63⟩,
                  ⟨12, [2, 5, 7], false, .alloc, .yes, .buildSlice 82 1 #[(0, .tmp 63)], some 64⟩,
                  ⟨13, [2], false, .write, .yes, .call ⟨.builtin .append, #[.tmp 59, .tmp 64], #[82, 82]⟩, some 65⟩,
                  ⟨14, [], false, .pure, .yes, .indexAddr 58 (.tmp 52) (.tmp 54), some 66⟩,
                  ⟨15, [], false, .write, .yes, .store 82 (.tmp 66) (.tmp 65), none⟩])))))))))))
           (.keep [1, 2, 5, 13, 14, 15] (.ops [⟨.yes, .binOp .add 3 (.tmp 15) (.const (.int .i64 1)) 3, some 67⟩,
             ⟨.yes, .move (.tmp 67), some 15⟩])))))))))))
     (.keep [5] (.seq
      (.ops [⟨.yes, .move (.tmp 5), some 68⟩,
        ⟨.yes, .assign (.tmp 68), some 4⟩])
      .ret))))))), [.tmp 4]⟩
theorem is28 : IsFA P pol (planOf pol) 28 2 a28 := ⟨⟨_, _, Try.func28, rfl, rfl, rfl, by kernel_rfl⟩, by decide⟩
theorem ok28 : a28.c.ok = true := by kernel_rfl
theorem r28 (x : denL [(.st (.prod (.list (.st (.prod (.int .i64) (.prod (.int .i64) (.list (.int .i64)))))) (.prod (.list (.st (.prod (.int .i64) (.prod (.int .i64) (.prod (.int .i64) (.prod (.list (.int .i64)) (.list (.int .i64)))))))) (.prod (.list (.st (.prod (.int .i64) (.st (.prod (.int .i64) (.int .i64)))))) (.prod (.int .i64) (.prod (.int .i64) (.prod (.int .i64) (.int .i64)))))))), (.int .i64)]) : fun2 (env [(26, sp26)] []) a28 [(.st (.prod (.list (.st (.prod (.int .i64) (.prod (.int .i64) (.list (.int .i64)))))) (.prod (.list (.st (.prod (.int .i64) (.prod (.int .i64) (.prod (.int .i64) (.prod (.list (.int .i64)) (.list (.int .i64)))))))) (.prod (.list (.st (.prod (.int .i64) (.st (.prod (.int .i64) (.int .i64)))))) (.prod (.int .i64) (.prod (.int .i64) (.prod (.int .i64) (.int .i64)))))))), (.int .i64)] [(.list (.list (.st (.prod (.int .i64) (.int .i64)))))] x = F28 x.1 x.2 := by kernel_rfl
noncomputable def sp28 : FSp := ⟨[(.st (.prod (.list (.st (.prod (.int .i64) (.prod (.int .i64) (.list (.int .i64)))))) (.prod (.list (.st (.prod (.int .i64) (.prod (.int .i64) (.prod (.int .i64) (.prod (.list (.int .i64)) (.list (.int .i64)))))))) (.prod (.list (.st (.prod (.int .i64) (.st (.prod (.int .i64) (.int .i64)))))) (.prod (.int .i64) (.prod (.int .i64) (.prod (.int .i64) (.int .i64)))))))), (.int .i64)], [(.list (.list (.st (.prod (.int .i64) (.int .i64)))))], fun x => F28 x.1 x.2⟩
theorem s28 : SpOk pol P 28 sp28 := fun x r h => fun_ok is28 (fun _ => rfl) (tyOk [(26, sp26)] []) (kOk rfl rfl rfl (allC s26 allN) imN) ok28 rfl rfl ((r28 x).trans h)
end Go.Proofs.Ytffkjnaocflmdaa
namespace Go.Proofs.Ytffkjnaocflmdaa
open Go.Eng Go.Dat
set_option linter.unusedVariables false
-- 8 fulling/explain.Path
noncomputable def a8 : FA := ⟨30, (.seq
   (.ops [⟨.yes, .box 26 (.tmp 0), some 4⟩,
     ⟨.yes, .assign (.const (.slice none 0 0)), some 8⟩,
     ⟨.yes, .assign (.const (.bool false)), some 9⟩])
   (.lock 4 (.seq
    (.jn ⟨[1, 2, 3, 4], [(21, .dat .bool)], []⟩
     (.ops [⟨.yes, .fieldAddr 26 (.tmp 4) 0, some 10⟩,
       ⟨.yes, .load 22 (.tmp 10), some 11⟩,
       ⟨.yes, .move (.tmp 1), some 12⟩,
       ⟨.yes, .call ⟨.value (.func 26), #[.tmp 11, .tmp 12], #[22, 3]⟩, some 13⟩,
       ⟨.yes, .unOp .not 4 (.tmp 13), some 14⟩,
       ⟨.yes, .move (.tmp 14), some 15⟩,
       ⟨.at 15 false, .fieldAddr 26 (.tmp 4) 0, some 16⟩,
       ⟨.at 15 false, .load 22 (.tmp 16), some 17⟩,
       ⟨.at 15 false, .move (.tmp 2), some 18⟩,
       ⟨.at 15 false, .call ⟨.value (.func 26), #[.tmp 17, .tmp 18], #[22, 3]⟩, some 19⟩,
       ⟨.at 15 false, .unOp .not 4 (.tmp 19), some 20⟩,
       ⟨.yes, .pick (.tmp 15) (.const (.bool true)) (.tmp 20), some 21⟩])
     (.keep [1, 2, 3, 4, 21] (.cond (.tmp 21)
      (.seq
       (.ops [⟨.yes, .assign (.const (.slice none 0 0)), some 8⟩,
         ⟨.yes, .assign (.const (.bool false)), some 9⟩])
       .ret)
      .skip)))
    (.keep [1, 2, 3, 4] (.seq
     (.ops [⟨.yes, .load 26 (.tmp 4), some 22⟩,
       ⟨.yes, .move (.tmp 3), some 23⟩,
       ⟨.yes, .call ⟨.value (.func 28), #[.tmp 22, .tmp 23], #[26, 3]⟩, some 24⟩,
       ⟨.yes, .move (.tmp 1), some 25⟩,
       ⟨.yes, .move (.tmp 2), some 26⟩,
       ⟨.yes, .call ⟨.value (.func 27), #[.tmp 24, .tmp 25, .tmp 26], #[58, 3, 3]⟩, some 27⟩,
       ⟨.yes, .extract (.tmp 27) 0, some 28⟩,
       ⟨.yes, .extract (.tmp 27) 1, some 29⟩,
       ⟨.yes, .assign (.tmp 28), some 8⟩,
       ⟨.yes, .assign (.tmp 29), some 9⟩])
     .ret))))), [.tmp 8, .tmp 9]⟩
theorem is8 : IsFA P pol (planOf pol) 8 4 a8 := ⟨⟨_, _, Try.func8, rfl, rfl, rfl, by kernel_rfl⟩, by decide⟩
theorem ok8 : a8.c.ok = true := by kernel_rfl
theorem r8 (x : denL [(.st (.prod (.list (.st (.prod (.int .i64) (.prod (.int .i64) (.list (.int .i64)))))) (.prod (.list (.st (.prod (.int .i64) (.prod (.int .i64) (.prod (.int .i64) (.prod (.list (.int .i64)) (.list (.int .i64)))))))) (.prod (.list (.st (.prod (.int .i64) (.st (.prod (.int .i64) (.int .i64)))))) (.prod (.int .i64) (.prod (.int .i64) (.prod (.int .i64) (.int .i64)))))))), (.int .i64), (.int .i64), (.int .i64)]) : fun2 (env [(26, sp26), (27, sp27), (28, sp28)] []) a8 [(.st (.prod (.list (.st (.prod (.int .i64) (.prod (.int .i64) (.list (.int .i64)))))) (.prod (.list (.st (.prod (.int .i64) (.prod (.int .i64) (.prod (.int .i64) (.prod (.list (.int .i64)) (.list (.int .i64)))))))) (.prod (.list (.st (.prod (.int .i64) (.st (.prod (.int .i64) (.int .i64)))))) (.prod (.int .i64) (.prod (.int .i64) (.prod (.int .i64) (.int .i64)))))))), (.int .i64), (.int .i64), (.int .i64)] [(.list (.int .i64)), .bool] x = F8 x.1 x.2.1 x.2.2.1 x.2.2.2 := by kernel_rfl
noncomputable def sp8 : FSp := ⟨[(.st (.prod (.list (.st (.prod (.int .i64) (.prod (.int .i64) (.list (.int .i64)))))) (.prod (.list (.st (.prod (.int .i64) (.prod (.int .i64) (.prod (.int .i64) (.prod (.list (.int .i64)) (.list (.int .i64)))))))) (.prod (.list (.st (.prod (.int .i64) (.st (.prod (.int .i64) (.int .i64)))))) (.prod (.int .i64) (.prod (.int .i64) (.prod (.int .i64) (.int .i64)))))))), (.int .i64), (.int .i64), (.int .i64)], [(.list (.int .i64)), .bool], fun x => F8 x.1 x.2.1 x.2.2.1 x.2.2.2⟩
theorem s8 : SpOk pol P 8 sp8 := fun x r h => fun_ok is8 (fun _ => rfl) (tyOk [(26, sp26), (27, sp27), (28, sp28)] []) (kOk rfl rfl rfl (allC s26 (allC s27 (allC s28 allN))) imN) ok8 rfl rfl ((r8 x).trans h)
end Go.Proofs.Ytffkjnaocflmdaa
namespace Go.Proofs.Ytffkjnaocflmdaa
open Go.Eng Go.Dat
set_option linter.unusedVariables false
-- 10 fulling/fullingref22.SameInts
noncomputable def a10 : FA := ⟨26, (.seq
   (.ops [⟨.yes, .assign (.const (.bool false)), some 4⟩])
   (.seq
    (.seq
     (.ops [⟨.yes, .move (.tmp 0), some 6⟩,
       ⟨.yes, .call ⟨.builtin .len, #[.tmp 6], #[28]⟩, some 7⟩,
       ⟨.yes, .move (.tmp 1), some 8⟩,
       ⟨.yes, .call ⟨.builtin .len, #[.tmp 8], #[28]⟩, some 9⟩,
       ⟨.yes, .binOp .neq 3 (.tmp 7) (.tmp 9) 3, some 10⟩])
     (.keep [0, 1, 10] (.cond (.tmp 10)
      (.seq
       (.ops [⟨.yes, .assign (.const (.bool false)), some 4⟩])
       .ret)
      .skip)))
    (.keep [0, 1] (.seq
     (.seq
      (.ops [⟨.yes, .assign (.const (.int .i64 0)), some 5⟩])
      (.block 0 (.loop ⟨[0, 1], [(5, .dat (.int .i64))], []⟩ (.keep [0, 1, 5] (.seq
         (.seq
          (.ops [⟨.yes, .move (.tmp 5), some 11⟩,
            ⟨.yes, .move (.tmp 0), some 12⟩,
            ⟨.yes, .call ⟨.builtin .len, #[.tmp 12], #[28]⟩, some 13⟩,
            ⟨.yes, .binOp .lss 3 (.tmp 11) (.tmp 13) 3, some 14⟩])
          (.keep [0, 1, 5, 14] (.cond (.tmp 14)
           .skip
           (.exit 0))))
         (.keep [0, 1, 5] (.seq
          (.block 1 (.seq
            (.plan [⟨0, [], false, .pure, .yes, .move (.tmp 0), some 17⟩,
              ⟨1, [], false, .pure, .yes, .move (.tmp 5), some 18⟩,
              ⟨2, [], false, .pure, .yes, .indexAddr 28 (.tmp 17) (.tmp 18), some 19⟩,
              ⟨3, [], false, .read, .yes, .load 3 (.tmp 19), some 20⟩,
              ⟨4, [], false, .pure, .yes, .move (.tmp 1), some 21⟩,
              ⟨5, [], false, .pure, .yes, .move (.tmp 5), some 22⟩,
              ⟨6, [], false, .pure, .yes, .indexAddr 28 (.tmp 21) (.tmp 22), some 23⟩,
              ⟨7, [], false, .read, .yes, .load 3 (.tmp 23), some 24⟩,
              ⟨8, [], false, .pure, .yes, .binOp .neq 3 (.tmp 20) (.tmp 24) 3, some 25⟩])
            (.keep [0, 1, 5, 25] (.cond (.tmp 25)
             (.seq
              (.ops [⟨.yes, .assign (.const (.bool false)), some 4⟩])
              .ret)
             .skip))))
          (.keep [0, 1, 5] (.ops [⟨.yes, .move (.tmp 5), some 15⟩,
            ⟨.yes, .binOp .add 3 (.tmp 15) (.const (.int .i64 1)) 3, some 16⟩,
            ⟨.yes, .assign (.tmp 16), some 5⟩])))))))))
     (.keep [] (.seq
      (.ops [⟨.yes, .assign (.const (.bool true)), some 4⟩])
      .ret)))))), [.tmp 4]⟩
theorem is10 : IsFA P pol (planOf pol) 10 2 a10 := ⟨⟨_, _, Try.func10, rfl, rfl, rfl, by kernel_rfl⟩, by decide⟩
theorem ok10 : a10.c.ok = true := by kernel_rfl
theorem r10 (x : denL [(.list (.int .i64)), (.list (.int .i64))]) : fun2 (env [] []) a10 [(.list (.int .i64)), (.list (.int .i64))] [.bool] x = F10 x.1 x.2 := by kernel_rfl
noncomputable def sp10 : FSp := ⟨[(.list (.int .i64)), (.list (.int .i64))], [.bool], fun x => F10 x.1 x.2⟩
theorem s10 : SpOk pol P 10 sp10 := fun x r h => fun_ok is10 (fun _ => rfl) (tyOk [] []) (kOk rfl rfl rfl allN imN) ok10 rfl rfl ((r10 x).trans h)
end Go.Proofs.Ytffkjnaocflmdaa
namespace Go.Proofs.Ytffkjnaocflmdaa
open Go.Eng Go.Dat
set_option linter.unusedVariables false
-- 33 fulling/explain.Dependencies$1
noncomputable def a33 : FA := ⟨60, (.seq
   (.ops [⟨.yes, .move (.tmp 0), some 7⟩,
     ⟨.yes, .call ⟨.builtin .len, #[.tmp 7], #[28]⟩, some 8⟩,
     ⟨.yes, .move (.const (.int .i64 0)), some 9⟩])
   (.block 0 (.loop ⟨[7, 8], [(1, .bx 0 0), (2, .bx 1 0), (3, .bx 2 0), (9, .dat (.int .i64))], [.box [.dat (.list (.st (.prod (.int .i64) (.prod (.int .i64) (.list (.int .i64)))))), .dat (.list (.st (.prod (.int .i64) (.prod (.int .i64) (.prod (.int .i64) (.prod (.list (.int .i64)) (.list (.int .i64)))))))), .dat (.list (.st (.prod (.int .i64) (.st (.prod (.int .i64) (.int .i64)))))), .dat (.int .i64), .dat (.int .i64), .dat (.int .i64), .dat (.int .i64)] true, .box [.sl 3] true, .box [.sl 4] true, .own .bool true, .own (.int .i64) true]⟩ (.keep [1, 2, 3, 7, 8, 9] (.seq
      (.ops [⟨.yes, .binOp .lss 3 (.tmp 9) (.tmp 8) 3, some 10⟩])
      (.seq
       (.cond (.tmp 10)
        .skip
        (.exit 0))
       (.keep [1, 2, 3, 7, 8, 9] (.jn ⟨[7, 8, 9], [(1, .bx 0 0), (2, .bx 1 0), (3, .bx 2 0)], [.box [.dat (.list (.st (.prod (.int .i64) (.prod (.int .i64) (.list (.int .i64)))))), .dat (.list (.st (.prod (.int .i64) (.prod (.int .i64) (.prod (.int .i64) (.prod (.list (.int .i64)) (.list (.int .i64)))))))), .dat (.list (.st (.prod (.int .i64) (.st (.prod (.int .i64) (.int .i64)))))), .dat (.int .i64), .dat (.int .i64), .dat (.int .i64), .dat (.int .i64)] true, .box [.sl 3] true, .box [.sl 4] true, .own .bool true, .own (.int .i64) true]⟩
        (.block 1 (.seq
          (.ops [⟨.yes, .indexAddr 28 (.tmp 7) (.tmp 9), some 11⟩,
            ⟨.yes, .load 3 (.tmp 11), some 12⟩,
            ⟨.yes, .assign (.tmp 12), some 6⟩])
          (.seq
           (.jn ⟨[6, 7, 8, 9], [(1, .bx 0 0), (2, .bx 1 0), (3, .bx 2 0), (51, .dat .bool)], [.box [.dat (.list (.st (.prod (.int .i64) (.prod (.int .i64) (.list (.int .i64)))))), .dat (.list (.st (.prod (.int .i64) (.prod (.int .i64) (.prod (.int .i64) (.prod (.list (.int .i64)) (.list (.int .i64)))))))), .dat (.list (.st (.prod (.int .i64) (.st (.prod (.int .i64) (.int .i64)))))), .dat (.int .i64), .dat (.int .i64), .dat (.int .i64), .dat (.int .i64)] true, .box [.sl 3] true, .box [.sl 4] true, .own .bool true, .own (.int .i64) true]⟩
            (.plan [⟨0, [], false, .pure, .yes, .move (.tmp 6), some 13⟩,
              ⟨1, [], false, .pure, .yes, .binOp .lss 3 (.tmp 13) (.const (.int .i64 0)) 3, some 14⟩,
              ⟨2, [], false, .pure, .yes, .move (.tmp 14), some 15⟩,
              ⟨3, [], false, .pure, .at 15 false, .move (.tmp 6), some 16⟩,
              ⟨4, [], false, .pure, .at 15 false, .fieldAddr 26 (.tmp 1) 1, some 17⟩,
              ⟨5, [], false, .read, .at 15 false, .load 23 (.tmp 17), some 18⟩,
              ⟨6, [], false, .read, .at 15 false, .call ⟨.builtin .len, #[.tmp 18], #[23]⟩, some 19⟩,
              ⟨7, [], false, .pure, .at 15 false, .binOp .geq 3 (.tmp 16) (.tmp 19) 3, some 20⟩,
              ⟨8, [], false, .pure, .yes, .pick (.tmp 15) (.const (.bool true)) (.tmp 20), some 21⟩,
              ⟨9, [], false, .pure, .yes, .move (.tmp 21), some 22⟩,
              ⟨10, [], false, .read, .at 22 false, .load 60 (.tmp 2), some 23⟩,
              ⟨11, [], false, .pure, .at 22 false, .move (.tmp 6), some 24⟩,
              ⟨12, [], false, .pure, .at 22 false, .indexAddr 60 (.tmp 23) (.tmp 24), some 25⟩,
              ⟨13, [], false, .read, .at 22 false, .load 4 (.tmp 25), some 26⟩,
              ⟨14, [], false, .pure, .yes, .pick (.tmp 22) (.const (.bool true)) (.tmp 26), some 27⟩,
              ⟨15, [], false, .pure, .yes, .move (.tmp 27), some 28⟩,
              ⟨16, [], false, .pure, .at 28 false, .fieldAddr 26 (.tmp 1) 0, some 29⟩,
              ⟨17, [], false, .read, .at 28 false, .load 22 (.tmp 29), some 30⟩,
              ⟨18, [], false, .pure, .at 28 false, .fieldAddr 26 (.tmp 1) 1, some 31⟩,
              ⟨19, [], false, .read, .at 28 false, .load 23 (.tmp 31), some 32⟩,
              ⟨20, [], false, .pure, .at 28 false, .move (.tmp 6), some 33⟩,
              ⟨21, [], false, .pure, .at 28 false, .indexAddr 23 (.tmp 32) (.tmp 33), some 34⟩,
              ⟨22, [], false, .pure, .at 28 false, .fieldAddr 44 (.tmp 34) 0, some 35⟩,
              ⟨23, [], false, .read, .at 28 false, .load 3 (.tmp 35), some 36⟩,
              ⟨24, [], false, .write, .at 28 false, .call ⟨.value (.func 26), #[.tmp 30, .tmp 36], #[22, 3]⟩, some 37⟩,
              ⟨25, [], false, .pure, .at 28 false, .unOp .not 4 (.tmp 37), some 38⟩,
              ⟨26, [], false, .pure, .yes, .pick (.tmp 28) (.const (.bool true)) (.tmp 38), some 39⟩,
              ⟨27, [], false, .pure, .yes, .move (.tmp 39), some 40⟩,
              ⟨28, [], false, .pure, .at 40 false, .fieldAddr 26 (.tmp 1) 0, some 41⟩,
              ⟨29, [], false, .read, .at 40 false, .load 22 (.tmp 41), some 42⟩,
              ⟨30, [], false, .pure, .at 40 false, .fieldAddr 26 (.tmp 1) 1, some 43⟩,
              ⟨31, [], false, .read, .at 40 false, .load 23 (.tmp 43), some 44⟩,
              ⟨32, [], false, .pure, .at 40 false, .move (.tmp 6), some 45⟩,
              ⟨33, [], false, .pure, .at 40 false, .indexAddr 23 (.tmp 44) (.tmp 45), some 46⟩,
              ⟨34, [], false, .pure, .at 40 false, .fieldAddr 44 (.tmp 46) 1, some 47⟩,
              ⟨35, [], false, .read, .at 40 false, .load 3 (.tmp 47), some 48⟩,
              ⟨36, [], false, .write, .at 40 false, .call ⟨.value (.func 26), #[.tmp 42, .tmp 48], #[22, 3]⟩, some 49⟩,
              ⟨37, [], false, .pure, .at 40 false, .unOp .not 4 (.tmp 49), some 50⟩,
              ⟨38, [], false, .pure, .yes, .pick (.tmp 40) (.const (.bool true)) (.tmp 50), some 51⟩])
            (.keep [1, 2, 3, 6, 7, 8, 9, 51] (.cond (.tmp 51)
             (.exit 1)
             .skip)))
           (.keep [1, 2, 3, 6, 7, 8, 9] (.seq
            (.ops [⟨.yes, .load 60 (.tmp 2), some 52⟩,
              ⟨.yes, .move (.tmp 6), some 53⟩,
              ⟨.yes, .indexAddr 60 (.tmp 52) (.tmp 53), some 54⟩,
              ⟨.yes, .store 4 (.tmp 54) (.const (.bool true)), none⟩])
            (.keep [1, 2, 3, 6, 7, 8, 9] (.ops [⟨.yes, .load 28 (.tmp 3), some 55⟩,
              ⟨.yes, .move (.tmp 6), some 56⟩,
              ⟨.yes, .buildSlice 28 1 #[(0, .tmp 56)], some 57⟩,
              ⟨.yes, .call ⟨.builtin .append, #[.tmp 55, .tmp 57], #[28, 28]⟩, some 58⟩,
              ⟨.yes, .store 28 (.tmp 3) (.tmp 58), none⟩])))))))
        (.keep [1, 2, 3, 7, 8, 9] (.ops [⟨.yes, .binOp .add 3 (.tmp 9) (.const (.int .i64 1)) 3, some 59⟩,
          ⟨.yes, .move (.tmp 59), some 9⟩])))))))))), []⟩
theorem is33 : IsFA P pol (planOf pol) 33 4 a33 := ⟨⟨_, _, Try.func33, rfl, rfl, rfl, by kernel_rfl⟩, by decide⟩
theorem ok33 : a33.c.ok = true := by kernel_rfl
noncomputable def sp33 : ISpec := ⟨[.dat (.list (.int .i64)), .bx 0 0, .bx 1 0, .bx 2 0], [.box [.dat (.list (.st (.prod (.int .i64) (.prod (.int .i64) (.list (.int .i64)))))), .dat (.list (.st (.prod (.int .i64) (.prod (.int .i64) (.prod (.int .i64) (.prod (.list (.int .i64)) (.list (.int .i64)))))))), .dat (.list (.st (.prod (.int .i64) (.st (.prod (.int .i64) (.int .i64)))))), .dat (.int .i64), .dat (.int .i64), .dat (.int .i64), .dat (.int .i64)] true, .box [.sl 3] true, .box [.sl 4] true, .own .bool true, .own (.int .i64) true], 3, [], [(1, .bx 0 0), (2, .bx 1 0), (3, .bx 2 0)], [.box [.dat (.list (.st (.prod (.int .i64) (.prod (.int .i64) (.list (.int .i64)))))), .dat (.list (.st (.prod (.int .i64) (.prod (.int .i64) (.prod (.int .i64) (.prod (.list (.int .i64)) (.list (.int .i64)))))))), .dat (.list (.st (.prod (.int .i64) (.st (.prod (.int .i64) (.int .i64)))))), .dat (.int .i64), .dat (.int .i64), .dat (.int .i64), .dat (.int .i64)] true, .box [.sl 3] true, .box [.sl 4] true, .own .bool true, .own (.int .i64) true], fun (x : List Int × (List (Int × Int × List Int)) × (List (Int × Int × Int × List Int × List Int)) × (List (Int × Int × Int)) × Int × Int × Int × Int × List Bool × List Int) => (F33 x.1 x.2.1 x.2.2.1 x.2.2.2.1 x.2.2.2.2.1 x.2.2.2.2.2.1 x.2.2.2.2.2.2.1 x.2.2.2.2.2.2.2.1 x.2.2.2.2.2.2.2.2.1 x.2.2.2.2.2.2.2.2.2 : Option ((List (Int × Int × List Int)) × (List (Int × Int × Int × List Int × List Int)) × (List (Int × Int × Int)) × Int × Int × Int × Int × List Bool × List Int))⟩
theorem r33 (x : List Int × (List (Int × Int × List Int)) × (List (Int × Int × Int × List Int × List Int)) × (List (Int × Int × Int)) × Int × Int × Int × Int × List Bool × List Int) : ifun2 (env [(26, sp26)] []) a33 sp33.ins sp33.cks sp33.outs sp33.anc sp33.couts x = F33 x.1 x.2.1 x.2.2.1 x.2.2.2.1 x.2.2.2.2.1 x.2.2.2.2.2.1 x.2.2.2.2.2.2.1 x.2.2.2.2.2.2.2.1 x.2.2.2.2.2.2.2.2.1 x.2.2.2.2.2.2.2.2.2 := by kernel_rfl
theorem s33 : ImOk pol P 33 sp33 := ifun_ok is33 rfl (tyOk [(26, sp26)] []) (kOk rfl rfl rfl (allC s26 allN) imN) ok33 (by kernel_rfl) (by kernel_rfl) (by kernel_rfl) rfl rfl (by kernel_rfl) (fun x => r33 x)
end Go.Proofs.Ytffkjnaocflmdaa
namespace Go.Proofs.Ytffkjnaocflmdaa
open Go.Eng Go.Dat
set_option linter.unusedVariables false
-- 11 fulling/explain.Dependencies
noncomputable def a11 : FA := ⟨135, (.seq
   (.ops [⟨.yes, .box 26 (.tmp 0), some 2⟩,
     ⟨.yes, .assign (.const (.slice none 0 0)), some 4⟩])
   (.seq
    (.ops [⟨.yes, .fieldAddr 26 (.tmp 2) 1, some 18⟩,
      ⟨.yes, .load 23 (.tmp 18), some 19⟩,
      ⟨.yes, .call ⟨.builtin .len, #[.tmp 19], #[23]⟩, some 20⟩,
      ⟨.yes, .makeSlice 60 (.tmp 20) (.tmp 20), some 21⟩,
      ⟨.yes, .alloc 60, some 5⟩,
      ⟨.yes, .store 60 (.tmp 5) (.tmp 21), none⟩])
    (.keep [1, 2, 5] (.seq
     (.ops [⟨.yes, .alloc 28, some 6⟩])
     (.seq
      (.ops [⟨.yes, .makeFunc (.func 33) #[] #[.tmp 2, .tmp 5, .tmp 6], some 22⟩,
        ⟨.yes, .assign (.tmp 22), some 7⟩])
      (.seq
       (.ops [⟨.yes, .move (.tmp 7), some 23⟩,
         ⟨.yes, .move (.tmp 1), some 24⟩,
         ⟨.yes, .call ⟨.value (.tmp 23), #[.tmp 24], #[28]⟩, some 25⟩])
       (.seq
        (.block 0 (.loop ⟨[], [(2, .bx 0 0), (5, .bx 1 0), (6, .bx 2 0), (7, .fn 33 [] [.bx 0 0, .bx 1 0, .bx 2 0])], [.box [.dat (.list (.st (.prod (.int .i64) (.prod (.int .i64) (.list (.int .i64)))))), .dat (.list (.st (.prod (.int .i64) (.prod (.int .i64) (.prod (.int .i64) (.prod (.list (.int .i64)) (.list (.int .i64)))))))), .dat (.list (.st (.prod (.int .i64) (.st (.prod (.int .i64) (.int .i64)))))), .dat (.int .i64), .dat (.int .i64), .dat (.int .i64), .dat (.int .i64)] true, .box [.sl 3] true, .box [.sl 4] true, .own .bool true, .own (.int .i64) true]⟩ (.keep [2, 5, 6, 7] (.seq
           (.seq
            (.ops [⟨.yes, .load 28 (.tmp 6), some 26⟩,
              ⟨.yes, .call ⟨.builtin .len, #[.tmp 26], #[28]⟩, some 27⟩,
              ⟨.yes, .binOp .gtr 3 (.tmp 27) (.const (.int .i64 0)) 3, some 28⟩])
            (.cond (.tmp 28)
             .skip
             (.exit 0)))
           (.keep [2, 5, 6, 7] (.block 1 (.seq
             (.ops [⟨.yes, .load 28 (.tmp 6), some 29⟩,
               ⟨.yes, .load 28 (.tmp 6), some 30⟩,
               ⟨.yes, .call ⟨.builtin .len, #[.tmp 30], #[28]⟩, some 31⟩,
               ⟨.yes, .binOp .sub 3 (.tmp 31) (.const (.int .i64 1)) 3, some 32⟩,
               ⟨.yes, .indexAddr 28 (.tmp 29) (.tmp 32), some 33⟩,
               ⟨.yes, .load 3 (.tmp 33), some 34⟩,
               ⟨.yes, .assign (.tmp 34), some 8⟩])
             (.keep [2, 5, 6, 7, 8] (.seq
              (.ops [⟨.yes, .load 28 (.tmp 6), some 35⟩,
                ⟨.yes, .load 28 (.tmp 6), some 36⟩,
                ⟨.yes, .call ⟨.builtin .len, #[.tmp 36], #[28]⟩, some 37⟩,
                ⟨.yes, .binOp .sub 3 (.tmp 37) (.const (.int .i64 1)) 3, some 38⟩,
                ⟨.yes, .slice 28 (.tmp 35) none (some (.tmp 38)) none, some 39⟩,
                ⟨.yes, .store 28 (.tmp 6) (.tmp 39), none⟩])
              (.keep [2, 5, 6, 7, 8] (.seq
               (.seq
                (.ops [⟨.yes, .fieldAddr 26 (.tmp 2) 1, some 40⟩,
                  ⟨.yes, .load 23 (.tmp 40), some 41⟩,
                  ⟨.yes, .move (.tmp 8), some 42⟩,
                  ⟨.yes, .indexAddr 23 (.tmp 41) (.tmp 42), some 43⟩,
                  ⟨.yes, .fieldAddr 44 (.tmp 43) 2, some 44⟩,
                  ⟨.yes, .load 3 (.tmp 44), some 45⟩,
                  ⟨.yes, .binOp .neq 3 (.tmp 45) (.const (.int .i64 0)) 3, some 46⟩])
                (.keep [2, 5, 6, 7, 8, 46] (.cond (.tmp 46)
                 (.exit 1)
                 .skip)))
               (.keep [2, 5, 6, 7, 8] (.seq
                (.plan [⟨0, [], false, .pure, .yes, .fieldAddr 26 (.tmp 2) 0, some 47⟩,
                  ⟨1, [], true, .read, .yes, .load 22 (.tmp 47), some 48⟩,
                  ⟨2, [], false, .pure, .yes, .fieldAddr 26 (.tmp 2) 1, some 49⟩,
                  ⟨3, [], true, .read, .yes, .load 23 (.tmp 49), some 50⟩,
                  ⟨4, [], false, .pure, .yes, .move (.tmp 8), some 51⟩,
                  ⟨5, [], false, .pure, .yes, .indexAddr 23 (.tmp 50) (.tmp 51), some 52⟩,
                  ⟨6, [], false, .pure, .yes, .fieldAddr 44 (.tmp 52) 0, some 53⟩,
                  ⟨7, [], true, .read, .yes, .load 3 (.tmp 53), some 54⟩,
                  ⟨8, [], false, .pure, .yes, .indexAddr 22 (.tmp 48) (.tmp 54), some 55⟩,
                  ⟨9, [], true, .read, .yes, .load 55 (.tmp 55), some 56⟩,
                  ⟨10, [], false, .pure, .yes, .fieldAddr 26 (.tmp 2) 0, some 57⟩,
                  ⟨11, [], true, .read, .yes, .load 22 (.tmp 57), some 58⟩,
                  ⟨12, [], false, .pure, .yes, .fieldAddr 26 (.tmp 2) 1, some 59⟩,
                  ⟨13, [], true, .read, .yes, .load 23 (.tmp 59), some 60⟩,
                  ⟨14, [], false, .pure, .yes, .move (.tmp 8), some 61⟩,
                  ⟨15, [], false, .pure, .yes, .indexAddr 23 (.tmp 60) (.tmp 61), some 62⟩,
                  ⟨16, [], false, .pure, .yes, .fieldAddr 44 (.tmp 62) 1, some 63⟩,
                  ⟨17, [], true, .read, .yes, .load 3 (.tmp 63), some 64⟩,
                  ⟨18, [], false, .pure, .yes, .indexAddr 22 (.tmp 58) (.tmp 64), some 65⟩,
                  ⟨19, [], true, .read, .yes, .load 55 (.tmp 65), some 66⟩,
                  ⟨20, [1, 3, 7, 9, 11, 13, 17, 19], false, .alloc, .yes, .alloc 55, some 9⟩,
                  ⟨21, [1, 3, 7, 9, 11, 13, 17, 19], false, .alloc, .yes, .alloc 55, some 10⟩,
                  ⟨22, [11, 13, 17, 19], false, .write, .yes, .store 55 (.tmp 9) (.tmp 56), none⟩,
                  ⟨23, [], false, .write, .yes, .store 55 (.tmp 10) (.tmp 66), none⟩])
                (.lock 10 (.lock 9 (.keep [2, 5, 6, 7, 8, 9, 10] (.seq
                 (.ops [⟨.yes, .load 26 (.tmp 2), some 67⟩,
                   ⟨.yes, .move (.tmp 8), some 68⟩,
                   ⟨.yes, .call ⟨.value (.func 28), #[.tmp 67, .tmp 68], #[26, 3]⟩, some 69⟩,
                   ⟨.yes, .assign (.tmp 69), some 11⟩])
                 (.keep [2, 5, 6, 7, 9, 10, 11] (.seq
                  (.ops [⟨.yes, .assign (.const (.int .i64 0)), some 12⟩])
                  (.block 2 (.loop ⟨[9, 10, 11], [(2, .bx 0 0), (5, .bx 1 0), (6, .bx 2 0), (7, .fn 33 [] [.bx 0 0, .bx 1 0, .bx 2 0]), (12, .dat (.int .i64))], [.box [.dat (.list (.st (.prod (.int .i64) (.prod (.int .i64) (.list (.int .i64)))))), .dat (.list (.st (.prod (.int .i64) (.prod (.int .i64) (.prod (.int .i64) (.prod (.list (.int .i64)) (.list (.int .i64)))))))), .dat (.list (.st (.prod (.int .i64) (.st (.prod (.int .i64) (.int .i64)))))), .dat (.int .i64), .dat (.int .i64), .dat (.int .i64), .dat (.int .i64)] true, .box [.sl 3] true, .box [.sl 4] true, .own .bool true, .own (.int .i64) true]⟩ (.keep [2, 5, 6, 7, 9, 10, 11, 12] (.seq
                     (.jn ⟨[9, 10, 11, 12], [(2, .bx 0 0), (5, .bx 1 0), (6, .bx 2 0), (7, .fn 33 [] [.bx 0 0, .bx 1 0, .bx 2 0]), (81, .dat .bool)], [.box [.dat (.list (.st (.prod (.int .i64) (.prod (.int .i64) (.list (.int .i64)))))), .dat (.list (.st (.prod (.int .i64) (.prod (.int .i64) (.prod (.int .i64) (.prod (.list (.int .i64)) (.list (.int .i64)))))))), .dat (.list (.st (.prod (.int .i64) (.st (.prod (.int .i64) (.int .i64)))))), .dat (.int .i64), .dat (.int .i64), .dat (.int .i64), .dat (.int .i64)] true, .box [.sl 3] true, .box [.sl 4] true, .own .bool true, .own (.int .i64) true]⟩
                      (.ops [⟨.yes, .move (.tmp 12), some 70⟩,
                        ⟨.yes, .fieldAddr 55 (.tmp 9) 2, some 71⟩,
                        ⟨.yes, .load 28 (.tmp 71), some 72⟩,
                        ⟨.yes, .call ⟨.builtin .len, #[.tmp 72], #[28]⟩, some 73⟩,
                        ⟨.yes, .binOp .lss 3 (.tmp 70) (.tmp 73) 3, some 74⟩,
                        ⟨.yes, .move (.tmp 74), some 75⟩,
                        ⟨.at 75 true, .move (.tmp 12), some 76⟩,
                        ⟨.at 75 true, .fieldAddr 55 (.tmp 10) 2, some 77⟩,
                        ⟨.at 75 true, .load 28 (.tmp 77), some 78⟩,
                        ⟨.at 75 true, .call ⟨.builtin .len, #[.tmp 78], #[28]⟩, some 79⟩,
                        ⟨.at 75 true, .binOp .lss 3 (.tmp 76) (.tmp 79) 3, some 80⟩,
                        ⟨.yes, .pick (.tmp 75) (.tmp 80) (.const (.bool false)), some 81⟩])
                      (.keep [2, 5, 6, 7, 9, 10, 11, 12, 81] (.cond (.tmp 81)
                       .skip
                       (.exit 2))))
                     (.keep [2, 5, 6, 7, 9, 10, 11, 12] (.jn ⟨[9, 10, 11, 12], [(2, .bx 0 0), (5, .bx 1 0), (6, .bx 2 0), (7, .fn 33 [] [.bx 0 0, .bx 1 0, .bx 2 0])], [.box [.dat (.list (.st (.prod (.int .i64) (.prod (.int .i64) (.list (.int .i64)))))), .dat (.list (.st (.prod (.int .i64) (.prod (.int .i64) (.prod (.int .i64) (.prod (.list (.int .i64)) (.list (.int .i64)))))))), .dat (.list (.st (.prod (.int .i64) (.st (.prod (.int .i64) (.int .i64)))))), .dat (.int .i64), .dat (.int .i64), .dat (.int .i64), .dat (.int .i64)] true, .box [.sl 3] true, .box [.sl 4] true, .own .bool true, .own (.int .i64) true]⟩
                      (.block 3 (.jn ⟨[9, 10, 11, 12], [(2, .bx 0 0), (5, .bx 1 0), (6, .bx 2 0), (7, .fn 33 [] [.bx 0 0, .bx 1 0, .bx 2 0]), (101, .dat .bool)], [.box [.dat (.list (.st (.prod (.int .i64) (.prod (.int .i64) (.list (.int .i64)))))), .dat (.list (.st (.prod (.int .i64) (.prod (.int .i64) (.prod (.int .i64) (.prod (.list (.int .i64)) (.list (.int .i64)))))))), .dat (.list (.st (.prod (.int .i64) (.st (.prod (.int .i64) (.int .i64)))))), .dat (.int .i64), .dat (.int .i64), .dat (.int .i64), .dat (.int .i64)] true, .box [.sl 3] true, .box [.sl 4] true, .own .bool true, .own (.int .i64) true]⟩
                        (.plan [⟨0, [], false, .pure, .yes, .fieldAddr 26 (.tmp 2) 0, some 84⟩,
                          ⟨1, [], false, .read, .yes, .load 22 (.tmp 84), some 85⟩,
                          ⟨2, [], false, .pure, .yes, .fieldAddr 55 (.tmp 9) 2, some 86⟩,
                          ⟨3, [], false, .read, .yes, .load 28 (.tmp 86), some 87⟩,
                          ⟨4, [], false, .pure, .yes, .move (.tmp 12), some 88⟩,
                          ⟨5, [], false, .pure, .yes, .indexAddr 28 (.tmp 87) (.tmp 88), some 89⟩,
                          ⟨6, [], false, .read, .yes, .load 3 (.tmp 89), some 90⟩,
                          ⟨7, [], false, .write, .yes, .call ⟨.value (.func 26), #[.tmp 85, .tmp 90], #[22, 3]⟩, some 91⟩,
                          ⟨8, [], false, .pure, .yes, .move (.tmp 91), some 92⟩,
                          ⟨9, [], false, .pure, .at 92 true, .fieldAddr 26 (.tmp 2) 0, some 93⟩,
                          ⟨10, [], false, .read, .at 92 true, .load 22 (.tmp 93), some 94⟩,
                          ⟨11, [], false, .pure, .at 92 true, .fieldAddr 55 (.tmp 10) 2, some 95⟩,
                          ⟨12, [], false, .read, .at 92 true, .load 28 (.tmp 95), some 96⟩,
                          ⟨13, [], false, .pure, .at 92 true, .move (.tmp 12), some 97⟩,
                          ⟨14, [], false, .pure, .at 92 true, .indexAddr 28 (.tmp 96) (.tmp 97), some 98⟩,
                          ⟨15, [], false, .read, .at 92 true, .load 3 (.tmp 98), some 99⟩,
                          ⟨16, [], false, .write, .at 92 true, .call ⟨.value (.func 26), #[.tmp 94, .tmp 99], #[22, 3]⟩, some 100⟩,
                          ⟨17, [], false, .pure, .yes, .pick (.tmp 92) (.tmp 100) (.const (.bool false)), some 101⟩])
                        (.keep [2, 5, 6, 7, 9, 10, 11, 12, 101] (.cond (.tmp 101)
                         (.seq
                          (.plan [⟨0, [], false, .pure, .yes, .move (.tmp 11), some 103⟩,
                            ⟨1, [], false, .pure, .yes, .fieldAddr 55 (.tmp 9) 2, some 104⟩,
                            ⟨2, [], false, .read, .yes, .load 28 (.tmp 104), some 105⟩,
                            ⟨3, [], false, .pure, .yes, .move (.tmp 12), some 106⟩,
                            ⟨4, [], false, .pure, .yes, .indexAddr 28 (.tmp 105) (.tmp 106), some 107⟩,
                            ⟨5, [], false, .read, .yes, .load 3 (.tmp 107), some 108⟩,
                            ⟨6, [], false, .pure, .yes, .fieldAddr 55 (.tmp 10) 2, some 109⟩,
                            ⟨7, [], false, .read, .yes, .load 28 (.tmp 109), some 110⟩,
                            ⟨8, [], false, .pure, .yes, .move (.tmp 12), some 111⟩,
                            ⟨9, [], false, .pure, .yes, .indexAddr 28 (.tmp 110) (.tmp 111), some 112⟩,
                            ⟨10, [], false, .read, .yes, .load 3 (.tmp 112), some 113⟩,
                            ⟨11, [], false, .write, .yes, .call ⟨.value (.func 27), #[.tmp 103, .tmp 108, .tmp 113], #[58, 3, 3]⟩, some 114⟩,
                            ⟨12, [], false, .pure, .yes, .move (.tmp 114), some 102⟩,
                            ⟨13, [], false, .pure, .yes, .extract (.tmp 102) 0, some 115⟩,
                            ⟨14, [], false, .pure, .yes, .extract (.tmp 102) 1, some 116⟩,
                            ⟨15, [], false, .pure, .yes, .assign (.tmp 115), some 13⟩,
                            ⟨16, [], false, .pure, .yes, .assign (.tmp 116), some 14⟩])
                          (.keep [2, 5, 6, 7, 9, 10, 11, 12, 13, 14] (.seq
                           (.ops [⟨.yes, .move (.tmp 14), some 117⟩])
                           (.cond (.tmp 117)
                            (.ops [⟨.yes, .move (.tmp 7), some 118⟩,
                              ⟨.yes, .move (.tmp 13), some 119⟩,
                              ⟨.yes, .call ⟨.value (.tmp 118), #[.tmp 119], #[28]⟩, some 120⟩])
                            .skip))))
                         .skip))))
                      (.keep [2, 5, 6, 7, 9, 10, 11, 12] (.ops [⟨.yes, .move (.tmp 12), some 82⟩,
                        ⟨.yes, .binOp .add 3 (.tmp 82) (.const (.int .i64 1)) 3, some 83⟩,
                        ⟨.yes, .assign (.tmp 83), some 12⟩])))))))))))))))))))))))))))
        (.keep [5] (.seq
         (.ops [⟨.yes, .assign (.const (.slice none 0 0)), some 15⟩])
         (.seq
          (.seq
           (.ops [⟨.yes, .load 60 (.tmp 5), some 121⟩,
             ⟨.yes, .call ⟨.builtin .len, #[.tmp 121], #[60]⟩, some 122⟩,
             ⟨.yes, .move (.const (.int .i64 0)), some 123⟩])
           (.block 4 (.loop ⟨[122], [(15, .sl 0), (121, .sl 1), (123, .dat (.int .i64))], [.own (.int .i64) true, .own .bool true]⟩ (.keep [15, 121, 122, 123] (.seq
              (.ops [⟨.yes, .binOp .lss 3 (.tmp 123) (.tmp 122) 3, some 124⟩])
              (.seq
               (.cond (.tmp 124)
                .skip
                (.exit 4))
               (.keep [15, 121, 122, 123] (.jn ⟨[122, 123], [(15, .sl 0), (121, .sl 1)], [.own (.int .i64) true, .own .bool true]⟩
                (.block 5 (.seq
                  (.ops [⟨.yes, .move (.tmp 123), some 125⟩,
                    ⟨.yes, .indexAddr 60 (.tmp 121) (.tmp 123), some 126⟩,
                    ⟨.yes, .load 4 (.tmp 126), some 127⟩,
                    ⟨.yes, .assign (.tmp 125), some 16⟩,
                    ⟨.yes, .assign (.tmp 127), some 17⟩])
                  (.keep [15, 16, 17, 121, 122, 123] (.seq
                   (.ops [⟨.yes, .move (.tmp 17), some 128⟩])
                   (.cond (.tmp 128)
                    (.ops [⟨.yes, .move (.tmp 15), some 129⟩,
                      ⟨.yes, .move (.tmp 16), some 130⟩,
                      ⟨.yes, .buildSlice 28 1 #[(0, .tmp 130)], some 131⟩,
                      ⟨.yes, .call ⟨.builtin .append, #[.tmp 129, .tmp 131], #[28, 28]⟩, some 132⟩,
                      ⟨.yes, .assign (.tmp 132), some 15⟩])
                    .skip)))))
                (.keep [15, 121, 122, 123] (.ops [⟨.yes, .binOp .add 3 (.tmp 123) (.const (.int .i64 1)) 3, some 133⟩,
                  ⟨.yes, .move (.tmp 133), some 123⟩]))))))))))
          (.keep [15] (.seq
           (.ops [⟨.yes, .move (.tmp 15), some 134⟩,
             ⟨.yes, .assign (.tmp 134), some 4⟩])
           .ret)))))))))))), [.tmp 4]⟩
theorem is11 : IsFA P pol (planOf pol) 11 2 a11 := ⟨⟨_, _, Try.func11, rfl, rfl, rfl, by kernel_rfl⟩, by decide⟩
theorem ok11 : a11.c.ok = true := by kernel_rfl
theorem r11 (x : denL [(.st (.prod (.list (.st (.prod (.int .i64) (.prod (.int .i64) (.list (.int .i64)))))) (.prod (.list (.st (.prod (.int .i64) (.prod (.int .i64) (.prod (.int .i64) (.prod (.list (.int .i64)) (.list (.int .i64)))))))) (.prod (.list (.st (.prod (.int .i64) (.st (.prod (.int .i64) (.int .i64)))))) (.prod (.int .i64) (.prod (.int .i64) (.prod (.int .i64) (.int .i64)))))))), (.list (.int .i64))]) : fun2 (env [(26, sp26), (27, sp27), (28, sp28)] [(33, sp33)]) a11 [(.st (.prod (.list (.st (.prod (.int .i64) (.prod (.int .i64) (.list (.int .i64)))))) (.prod (.list (.st (.prod (.int .i64) (.prod (.int .i64) (.prod (.int .i64) (.prod (.list (.int .i64)) (.list (.int .i64)))))))) (.prod (.list (.st (.prod (.int .i64) (.st (.prod (.int .i64) (.int .i64)))))) (.prod (.int .i64) (.prod (.int .i64) (.prod (.int .i64) (.int .i64)))))))), (.list (.int .i64))] [(.list (.int .i64))] x = F11 x.1 x.2 := by kernel_rfl
noncomputable def sp11 : FSp := ⟨[(.st (.prod (.list (.st (.prod (.int .i64) (.prod (.int .i64) (.list (.int .i64)))))) (.prod (.list (.st (.prod (.int .i64) (.prod (.int .i64) (.prod (.int .i64) (.prod (.list (.int .i64)) (.list (.int .i64)))))))) (.prod (.list (.st (.prod (.int .i64) (.st (.prod (.int .i64) (.int .i64)))))) (.prod (.int .i64) (.prod (.int .i64) (.prod (.int .i64) (.int .i64)))))))), (.list (.int .i64))], [(.list (.int .i64))], fun x => F11 x.1 x.2⟩
theorem s11 : SpOk pol P 11 sp11 := fun x r h => fun_ok is11 (fun _ => rfl) (tyOk [(26, sp26), (27, sp27), (28, sp28)] [(33, sp33)]) (kOk rfl rfl rfl (allC s26 (allC s27 (allC s28 allN))) (imC s33 imN)) ok11 rfl rfl ((r11 x).trans h)
end Go.Proofs.Ytffkjnaocflmdaa
namespace Go.Proofs.Ytffkjnaocflmdaa
open Go.Eng Go.Dat
set_option linter.unusedVariables false
-- 15 fulling/fullingkeep.Pick
noncomputable def a15 : FA := ⟨14, (.seq
   (.ops [⟨.yes, .assign (.const (.int .i64 0)), some 4⟩])
   (.seq
    (.ops [⟨.yes, .move (.tmp 0), some 5⟩,
      ⟨.yes, .move (.tmp 1), some 6⟩,
      ⟨.yes, .binOp .rem 3 (.tmp 5) (.tmp 6) 3, some 7⟩,
      ⟨.yes, .assign (.tmp 7), some 0⟩])
    (.keep [0, 1] (.jn ⟨[], [(0, .dat (.int .i64))], []⟩
     (.seq
      (.ops [⟨.yes, .move (.tmp 0), some 8⟩,
        ⟨.yes, .binOp .lss 3 (.tmp 8) (.const (.int .i64 0)) 3, some 9⟩])
      (.cond (.tmp 9)
       (.ops [⟨.yes, .move (.tmp 0), some 10⟩,
         ⟨.yes, .move (.tmp 1), some 11⟩,
         ⟨.yes, .binOp .add 3 (.tmp 10) (.tmp 11) 3, some 12⟩,
         ⟨.yes, .assign (.tmp 12), some 0⟩])
       .skip))
     (.keep [0] (.seq
      (.ops [⟨.yes, .move (.tmp 0), some 13⟩,
        ⟨.yes, .assign (.tmp 13), some 4⟩])
      .ret)))))), [.tmp 4]⟩
theorem is15 : IsFA P pol (planOf pol) 15 2 a15 := ⟨⟨_, _, Try.func15, rfl, rfl, rfl, by kernel_rfl⟩, by decide⟩
theorem ok15 : a15.c.ok = true := by kernel_rfl
theorem r15 (x : denL [(.int .i64), (.int .i64)]) : fun2 (env [] []) a15 [(.int .i64), (.int .i64)] [(.int .i64)] x = F15 x.1 x.2 := by kernel_rfl
noncomputable def sp15 : FSp := ⟨[(.int .i64), (.int .i64)], [(.int .i64)], fun x => F15 x.1 x.2⟩
theorem s15 : SpOk pol P 15 sp15 := fun x r h => fun_ok is15 (fun _ => rfl) (tyOk [] []) (kOk rfl rfl rfl allN imN) ok15 rfl rfl ((r15 x).trans h)
end Go.Proofs.Ytffkjnaocflmdaa
namespace Go.Proofs.Ytffkjnaocflmdaa
open Go.Eng Go.Dat
set_option linter.unusedVariables false
-- 49 fulling/fullingkeep.Word
noncomputable def a49 : FA := ⟨25, (.seq
   (.ops [⟨.yes, .assign (.const (.int .i64 0)), some 4⟩])
   (.seq
    (.ops [⟨.yes, .buildSlice 42 10 #[(0, .const (.int .i64 0)), (1, .const (.int .i64 1)), (2, .const (.int .i64 (-1))), (3, .const (.int .i64 2)), (4, .const (.int .i64 (-9223372036854775808))), (5, .const (.int .i64 9223372036854775807)), (6, .const (.int .i64 4294967296)), (7, .const (.int .i64 (-2147483648))), (8, .const (.int .i64 63)), (9, .const (.int .i64 64))], some 7⟩,
      ⟨.yes, .assign (.tmp 7), some 5⟩])
    (.seq
     (.ops [⟨.yes, .move (.tmp 0), some 8⟩,
       ⟨.yes, .call ⟨.value (.func 15), #[.tmp 8, .const (.int .i64 24)], #[3, 3]⟩, some 9⟩,
       ⟨.yes, .assign (.tmp 9), some 6⟩])
     (.seq
      (.block 0 (.seq
        (.ops [⟨.yes, .move (.tmp 6), some 11⟩,
          ⟨.yes, .binOp .lss 3 (.tmp 11) (.const (.int .i64 10)) 3, some 12⟩,
          ⟨.yes, .assign (.tmp 12), some 10⟩])
        (.cond (.tmp 10)
         (.seq
          (.ops [⟨.yes, .move (.tmp 5), some 13⟩,
            ⟨.yes, .move (.tmp 6), some 14⟩,
            ⟨.yes, .indexAddr 42 (.tmp 13) (.tmp 14), some 15⟩,
            ⟨.yes, .load 2 (.tmp 15), some 16⟩,
            ⟨.yes, .assign (.tmp 16), some 4⟩])
          .ret)
         (.seq
          (.ops [⟨.yes, .move (.tmp 6), some 18⟩,
            ⟨.yes, .binOp .lss 3 (.tmp 18) (.const (.int .i64 22)) 3, some 19⟩,
            ⟨.yes, .assign (.tmp 19), some 17⟩])
          (.cond (.tmp 17)
           (.seq
            (.ops [⟨.yes, .move (.tmp 0), some 20⟩,
              ⟨.yes, .binOp .quo 3 (.tmp 20) (.const (.int .i64 24)) 3, some 21⟩,
              ⟨.yes, .call ⟨.value (.func 15), #[.tmp 21, .const (.int .i64 17)], #[3, 3]⟩, some 22⟩,
              ⟨.yes, .binOp .sub 3 (.tmp 22) (.const (.int .i64 6)) 3, some 23⟩,
              ⟨.yes, .assign (.tmp 23), some 4⟩])
            .ret)
           .skip)))))
      (.keep [1] (.seq
       (.ops [⟨.yes, .move (.tmp 1), some 24⟩,
         ⟨.yes, .assign (.tmp 24), some 4⟩])
       .ret)))))), [.tmp 4]⟩
theorem is49 : IsFA P pol (planOf pol) 49 2 a49 := ⟨⟨_, _, Try.func49, rfl, rfl, rfl, by kernel_rfl⟩, by decide⟩
theorem ok49 : a49.c.ok = true := by kernel_rfl
theorem r49 (x : denL [(.int .i64), (.int .i64)]) : fun2 (env [(15, sp15)] []) a49 [(.int .i64), (.int .i64)] [(.int .i64)] x = F49 x.1 x.2 := by kernel_rfl
noncomputable def sp49 : FSp := ⟨[(.int .i64), (.int .i64)], [(.int .i64)], fun x => F49 x.1 x.2⟩
theorem s49 : SpOk pol P 49 sp49 := fun x r h => fun_ok is49 (fun _ => rfl) (tyOk [(15, sp15)] []) (kOk rfl rfl rfl (allC s15 allN) imN) ok49 rfl rfl ((r49 x).trans h)
end Go.Proofs.Ytffkjnaocflmdaa
namespace Go.Proofs.Ytffkjnaocflmdaa
open Go.Eng Go.Dat
set_option linter.unusedVariables false
-- 50 fulling/fullingref7.Arity
noncomputable def a50 : FA := ⟨67, (.seq
   (.ops [⟨.yes, .assign (.const (.int .i64 0)), some 2⟩,
     ⟨.yes, .assign (.const (.bool false)), some 3⟩])
   (.seq
    (.block 0 (.jn ⟨[0], [(4, .dat .bool)], []⟩
      (.ops [⟨.yes, .move (.tmp 0), some 5⟩,
        ⟨.yes, .binOp .eql 3 (.tmp 5) (.const (.int .i64 1)) 3, some 6⟩,
        ⟨.yes, .move (.tmp 6), some 7⟩,
        ⟨.at 7 false, .move (.tmp 0), some 8⟩,
        ⟨.at 7 false, .binOp .eql 3 (.tmp 8) (.const (.int .i64 2)) 3, some 9⟩,
        ⟨.yes, .pick (.tmp 7) (.const (.bool true)) (.tmp 9), some 10⟩,
        ⟨.yes, .move (.tmp 10), some 11⟩,
        ⟨.at 11 false, .move (.tmp 0), some 12⟩,
        ⟨.at 11 false, .binOp .eql 3 (.tmp 12) (.const (.int .i64 3)) 3, some 13⟩,
        ⟨.yes, .pick (.tmp 11) (.const (.bool true)) (.tmp 13), some 14⟩,
        ⟨.yes, .move (.tmp 14), some 15⟩,
        ⟨.at 15 false, .move (.tmp 0), some 16⟩,
        ⟨.at 15 false, .binOp .eql 3 (.tmp 16) (.const (.int .i64 26)) 3, some 17⟩,
        ⟨.yes, .pick (.tmp 15) (.const (.bool true)) (.tmp 17), some 18⟩,
        ⟨.yes, .assign (.tmp 18), some 4⟩])
      (.keep [0, 4] (.cond (.tmp 4)
       (.seq
        (.ops [⟨.yes, .assign (.const (.int .i64 0)), some 2⟩,
          ⟨.yes, .assign (.const (.bool true)), some 3⟩])
        .ret)
       (.jn ⟨[0], [(19, .dat .bool)], []⟩
        (.ops [⟨.yes, .move (.tmp 0), some 20⟩,
          ⟨.yes, .binOp .eql 3 (.tmp 20) (.const (.int .i64 20)) 3, some 21⟩,
          ⟨.yes, .move (.tmp 21), some 22⟩,
          ⟨.at 22 false, .move (.tmp 0), some 23⟩,
          ⟨.at 22 false, .binOp .eql 3 (.tmp 23) (.const (.int .i64 21)) 3, some 24⟩,
          ⟨.yes, .pick (.tmp 22) (.const (.bool true)) (.tmp 24), some 25⟩,
          ⟨.yes, .move (.tmp 25), some 26⟩,
          ⟨.at 26 false, .move (.tmp 0), some 27⟩,
          ⟨.at 26 false, .binOp .eql 3 (.tmp 27) (.const (.int .i64 24)) 3, some 28⟩,
          ⟨.yes, .pick (.tmp 26) (.const (.bool true)) (.tmp 28), some 29⟩,
          ⟨.yes, .move (.tmp 29), some 30⟩,
          ⟨.at 30 false, .move (.tmp 0), some 31⟩,
          ⟨.at 30 false, .binOp .eql 3 (.tmp 31) (.const (.int .i64 25)) 3, some 32⟩,
          ⟨.yes, .pick (.tmp 30) (.const (.bool true)) (.tmp 32), some 33⟩,
          ⟨.yes, .assign (.tmp 33), some 19⟩])
        (.keep [0, 19] (.cond (.tmp 19)
         (.seq
          (.ops [⟨.yes, .assign (.const (.int .i64 1)), some 2⟩,
            ⟨.yes, .assign (.const (.bool true)), some 3⟩])
          .ret)
         (.jn ⟨[0], [(34, .dat .bool)], []⟩
          (.ops [⟨.yes, .move (.tmp 0), some 35⟩,
            ⟨.yes, .binOp .geq 3 (.tmp 35) (.const (.int .i64 4)) 3, some 36⟩,
            ⟨.yes, .move (.tmp 36), some 37⟩,
            ⟨.at 37 true, .move (.tmp 0), some 38⟩,
            ⟨.at 37 true, .binOp .leq 3 (.tmp 38) (.const (.int .i64 19)) 3, some 39⟩,
            ⟨.yes, .pick (.tmp 37) (.tmp 39) (.const (.bool false)), some 40⟩,
            ⟨.yes, .move (.tmp 40), some 41⟩,
            ⟨.at 41 false, .move (.tmp 0), some 42⟩,
            ⟨.at 41 false, .binOp .eql 3 (.tmp 42) (.const (.int .i64 23)) 3, some 43⟩,
            ⟨.yes, .pick (.tmp 41) (.const (.bool true)) (.tmp 43), some 44⟩,
            ⟨.yes, .move (.tmp 44), some 45⟩,
            ⟨.at 45 false, .move (.tmp 0), some 46⟩,
            ⟨.at 45 false, .binOp .eql 3 (.tmp 46) (.const (.int .i64 27)) 3, some 47⟩,
            ⟨.yes, .pick (.tmp 45) (.const (.bool true)) (.tmp 47), some 48⟩,
            ⟨.yes, .move (.tmp 48), some 49⟩,
            ⟨.at 49 false, .move (.tmp 0), some 50⟩,
            ⟨.at 49 false, .binOp .eql 3 (.tmp 50) (.const (.int .i64 29)) 3, some 51⟩,
            ⟨.yes, .pick (.tmp 49) (.const (.bool true)) (.tmp 51), some 52⟩,
            ⟨.yes, .assign (.tmp 52), some 34⟩])
          (.keep [0, 34] (.cond (.tmp 34)
           (.seq
            (.ops [⟨.yes, .assign (.const (.int .i64 2)), some 2⟩,
              ⟨.yes, .assign (.const (.bool true)), some 3⟩])
            .ret)
           (.jn ⟨[0], [(53, .dat .bool)], []⟩
            (.ops [⟨.yes, .move (.tmp 0), some 54⟩,
              ⟨.yes, .binOp .eql 3 (.tmp 54) (.const (.int .i64 22)) 3, some 55⟩,
              ⟨.yes, .move (.tmp 55), some 56⟩,
              ⟨.at 56 false, .move (.tmp 0), some 57⟩,
              ⟨.at 56 false, .binOp .eql 3 (.tmp 57) (.const (.int .i64 28)) 3, some 58⟩,
              ⟨.yes, .pick (.tmp 56) (.const (.bool true)) (.tmp 58), some 59⟩,
              ⟨.yes, .assign (.tmp 59), some 53⟩])
            (.keep [0, 53] (.cond (.tmp 53)
             (.seq
              (.ops [⟨.yes, .assign (.const (.int .i64 3)), some 2⟩,
                ⟨.yes, .assign (.const (.bool true)), some 3⟩])
              .ret)
             (.jn ⟨[], [(60, .dat .bool)], []⟩
              (.ops [⟨.yes, .move (.tmp 0), some 61⟩,
                ⟨.yes, .binOp .eql 3 (.tmp 61) (.const (.int .i64 30)) 3, some 62⟩,
                ⟨.yes, .move (.tmp 62), some 63⟩,
                ⟨.at 63 false, .move (.tmp 0), some 64⟩,
                ⟨.at 63 false, .binOp .eql 3 (.tmp 64) (.const (.int .i64 31)) 3, some 65⟩,
                ⟨.yes, .pick (.tmp 63) (.const (.bool true)) (.tmp 65), some 66⟩,
                ⟨.yes, .assign (.tmp 66), some 60⟩])
              (.keep [60] (.cond (.tmp 60)
               (.seq
                (.ops [⟨.yes, .assign (.const (.int .i64 (-1))), some 2⟩,
                  ⟨.yes, .assign (.const (.bool true)), some 3⟩])
                .ret)
               .skip))))))))))))))))
    (.keep [] (.seq
     (.ops [⟨.yes, .assign (.const (.int .i64 0)), some 2⟩,
       ⟨.yes, .assign (.const (.bool false)), some 3⟩])
     .ret)))), [.tmp 2, .tmp 3]⟩
theorem is50 : IsFA P pol (planOf pol) 50 1 a50 := ⟨⟨_, _, Try.func50, rfl, rfl, rfl, by kernel_rfl⟩, by decide⟩
theorem ok50 : a50.c.ok = true := by kernel_rfl
theorem r50 (x : denL [(.int .i64)]) : fun2 (env [] []) a50 [(.int .i64)] [(.int .i64), .bool] x = F50 x := by kernel_rfl
noncomputable def sp50 : FSp := ⟨[(.int .i64)], [(.int .i64), .bool], fun x => F50 x⟩
theorem s50 : SpOk pol P 50 sp50 := fun x r h => fun_ok is50 (fun _ => rfl) (tyOk [] []) (kOk rfl rfl rfl allN imN) ok50 rfl rfl ((r50 x).trans h)
end Go.Proofs.Ytffkjnaocflmdaa
namespace Go.Proofs.Ytffkjnaocflmdaa
open Go.Eng Go.Dat
set_option linter.unusedVariables false
-- 65 fulling/fullingref7.maxImm
noncomputable def a65 : FA := ⟨19, (.seq
   (.ops [⟨.yes, .assign (.const (.int .i64 0)), some 2⟩])
   (.seq
    (.seq
     (.ops [⟨.yes, .move (.tmp 0), some 3⟩])
     (.block 0 (.seq
       (.ops [⟨.yes, .binOp .eql 3 (.tmp 3) (.const (.int .i64 2)) 3, some 5⟩,
         ⟨.yes, .assign (.tmp 5), some 4⟩])
       (.cond (.tmp 4)
        (.seq
         (.ops [⟨.yes, .assign (.const (.int .i64 5)), some 2⟩])
         .ret)
        (.seq
         (.ops [⟨.yes, .binOp .eql 3 (.tmp 3) (.const (.int .i64 3)) 3, some 7⟩,
           ⟨.yes, .assign (.tmp 7), some 6⟩])
         (.cond (.tmp 6)
          (.seq
           (.ops [⟨.yes, .assign (.const (.int .i64 255)), some 2⟩])
           .ret)
          (.jn ⟨[3], [(8, .dat .bool)], []⟩
           (.seq
            (.ops [⟨.yes, .binOp .eql 3 (.tmp 3) (.const (.int .i64 23)) 3, some 9⟩,
              ⟨.yes, .assign (.tmp 9), some 8⟩])
            (.cond (.tmp 8)
             .skip
             (.ops [⟨.yes, .binOp .eql 3 (.tmp 3) (.const (.int .i64 28)) 3, some 10⟩,
               ⟨.yes, .assign (.tmp 10), some 8⟩])))
           (.keep [3, 8] (.cond (.tmp 8)
            (.seq
             (.ops [⟨.yes, .assign (.const (.int .i64 3)), some 2⟩])
             .ret)
            (.seq
             (.ops [⟨.yes, .binOp .eql 3 (.tmp 3) (.const (.int .i64 27)) 3, some 12⟩,
               ⟨.yes, .assign (.tmp 12), some 11⟩])
             (.cond (.tmp 11)
              (.seq
               (.ops [⟨.yes, .assign (.const (.int .i64 1000016)), some 2⟩])
               .ret)
              (.seq
               (.ops [⟨.yes, .binOp .eql 3 (.tmp 3) (.const (.int .i64 30)) 3, some 14⟩,
                 ⟨.yes, .assign (.tmp 14), some 13⟩])
               (.cond (.tmp 13)
                (.seq
                 (.ops [⟨.yes, .assign (.const (.int .i64 7)), some 2⟩])
                 .ret)
                (.seq
                 (.ops [⟨.yes, .binOp .eql 3 (.tmp 3) (.const (.int .i64 31)) 3, some 16⟩,
                   ⟨.yes, .assign (.tmp 16), some 15⟩])
                 (.cond (.tmp 15)
                  (.seq
                   (.ops [⟨.yes, .assign (.const (.int .i64 15)), some 2⟩])
                   .ret)
                  (.seq
                   (.ops [⟨.yes, .binOp .eql 3 (.tmp 3) (.const (.int .i64 25)) 3, some 18⟩,
                     ⟨.yes, .assign (.tmp 18), some 17⟩])
                   (.cond (.tmp 17)
                    (.seq
                     (.ops [⟨.yes, .assign (.const (.int .i64 15)), some 2⟩])
                     .ret)
                    .skip)))))))))))))))))
    (.keep [] (.seq
     (.ops [⟨.yes, .assign (.const (.int .i64 (-1))), some 2⟩])
     .ret)))), [.tmp 2]⟩
theorem is65 : IsFA P pol (planOf pol) 65 1 a65 := ⟨⟨_, _, Try.func65, rfl, rfl, rfl, by kernel_rfl⟩, by decide⟩
theorem ok65 : a65.c.ok = true := by kernel_rfl
theorem r65 (x : denL [(.int .i64)]) : fun2 (env [] []) a65 [(.int .i64)] [(.int .i64)] x = F65 x := by kernel_rfl
noncomputable def sp65 : FSp := ⟨[(.int .i64)], [(.int .i64)], fun x => F65 x⟩
theorem s65 : SpOk pol P 65 sp65 := fun x r h => fun_ok is65 (fun _ => rfl) (tyOk [] []) (kOk rfl rfl rfl allN imN) ok65 rfl rfl ((r65 x).trans h)
end Go.Proofs.Ytffkjnaocflmdaa
namespace Go.Proofs.Ytffkjnaocflmdaa
open Go.Eng Go.Dat
set_option linter.unusedVariables false
-- 62 fulling/fullingref7.ValidImm
noncomputable def a62 : FA := ⟨29, (.seq
   (.ops [⟨.yes, .assign (.const (.bool false)), some 4⟩])
   (.seq
    (.seq
     (.ops [⟨.yes, .move (.tmp 0), some 6⟩,
       ⟨.yes, .binOp .eql 3 (.tmp 6) (.const (.int .i64 1)) 3, some 7⟩])
     (.cond (.tmp 7)
      (.seq
       (.ops [⟨.yes, .assign (.const (.bool true)), some 4⟩])
       .ret)
      .skip))
    (.keep [0, 1] (.seq
     (.ops [⟨.yes, .move (.tmp 0), some 8⟩,
       ⟨.yes, .call ⟨.value (.func 65), #[.tmp 8], #[3]⟩, some 9⟩,
       ⟨.yes, .assign (.tmp 9), some 5⟩])
     (.seq
      (.seq
       (.ops [⟨.yes, .move (.tmp 5), some 10⟩,
         ⟨.yes, .binOp .lss 2 (.tmp 10) (.const (.int .i64 0)) 2, some 11⟩])
       (.cond (.tmp 11)
        (.seq
         (.ops [⟨.yes, .move (.tmp 1), some 12⟩,
           ⟨.yes, .binOp .eql 2 (.tmp 12) (.const (.int .i64 0)) 2, some 13⟩,
           ⟨.yes, .assign (.tmp 13), some 4⟩])
         .ret)
        .skip))
      (.keep [0, 1, 5] (.jn ⟨[], [(4, .dat .bool)], []⟩
       (.ops [⟨.yes, .move (.tmp 1), some 14⟩,
         ⟨.yes, .binOp .geq 2 (.tmp 14) (.const (.int .i64 0)) 2, some 15⟩,
         ⟨.yes, .move (.tmp 15), some 16⟩,
         ⟨.at 16 true, .move (.tmp 1), some 17⟩,
         ⟨.at 16 true, .move (.tmp 5), some 18⟩,
         ⟨.at 16 true, .binOp .leq 2 (.tmp 17) (.tmp 18) 2, some 19⟩,
         ⟨.yes, .pick (.tmp 16) (.tmp 19) (.const (.bool false)), some 20⟩,
         ⟨.yes, .move (.tmp 20), some 21⟩,
         ⟨.at 21 true, .move (.tmp 0), some 22⟩,
         ⟨.at 21 true, .binOp .neq 3 (.tmp 22) (.const (.int .i64 27)) 3, some 23⟩,
         ⟨.at 21 true, .move (.tmp 23), some 24⟩,
         ⟨.at 24 false, .move (.tmp 1), some 25⟩,
         ⟨.at 24 false, .binOp .gtr 2 (.tmp 25) (.const (.int .i64 0)) 2, some 26⟩,
         ⟨.at 21 true, .pick (.tmp 24) (.const (.bool true)) (.tmp 26), some 27⟩,
         ⟨.yes, .pick (.tmp 21) (.tmp 27) (.const (.bool false)), some 28⟩,
         ⟨.yes, .assign (.tmp 28), some 4⟩])
       .ret))))))), [.tmp 4]⟩
theorem is62 : IsFA P pol (planOf pol) 62 2 a62 := ⟨⟨_, _, Try.func62, rfl, rfl, rfl, by kernel_rfl⟩, by decide⟩
theorem ok62 : a62.c.ok = true := by kernel_rfl
theorem r62 (x : denL [(.int .i64), (.int .i64)]) : fun2 (env [(65, sp65)] []) a62 [(.int .i64), (.int .i64)] [.bool] x = F62 x.1 x.2 := by kernel_rfl
noncomputable def sp62 : FSp := ⟨[(.int .i64), (.int .i64)], [.bool], fun x => F62 x.1 x.2⟩
theorem s62 : SpOk pol P 62 sp62 := fun x r h => fun_ok is62 (fun _ => rfl) (tyOk [(65, sp65)] []) (kOk rfl rfl rfl (allC s65 allN) imN) ok62 rfl rfl ((r62 x).trans h)
end Go.Proofs.Ytffkjnaocflmdaa
namespace Go.Proofs.Ytffkjnaocflmdaa
open Go.Eng Go.Dat
set_option linter.unusedVariables false
-- 63 fulling/fullingref7.sortIf
noncomputable def a63 : FA := ⟨7, (.seq
   (.ops [⟨.yes, .assign (.const (.int .i64 0)), some 4⟩])
   (.seq
    (.seq
     (.ops [⟨.yes, .move (.tmp 0), some 5⟩])
     (.cond (.tmp 5)
      (.seq
       (.ops [⟨.yes, .move (.tmp 1), some 6⟩,
         ⟨.yes, .assign (.tmp 6), some 4⟩])
       .ret)
      .skip))
    (.keep [] (.seq
     (.ops [⟨.yes, .assign (.const (.int .i64 0)), some 4⟩])
     .ret)))), [.tmp 4]⟩
theorem is63 : IsFA P pol (planOf pol) 63 2 a63 := ⟨⟨_, _, Try.func63, rfl, rfl, rfl, by kernel_rfl⟩, by decide⟩
theorem ok63 : a63.c.ok = true := by kernel_rfl
theorem r63 (x : denL [.bool, (.int .i64)]) : fun2 (env [] []) a63 [.bool, (.int .i64)] [(.int .i64)] x = F63 x.1 x.2 := by kernel_rfl
noncomputable def sp63 : FSp := ⟨[.bool, (.int .i64)], [(.int .i64)], fun x => F63 x.1 x.2⟩
theorem s63 : SpOk pol P 63 sp63 := fun x r h => fun_ok is63 (fun _ => rfl) (tyOk [] []) (kOk rfl rfl rfl allN imN) ok63 rfl rfl ((r63 x).trans h)
end Go.Proofs.Ytffkjnaocflmdaa
namespace Go.Proofs.Ytffkjnaocflmdaa
open Go.Eng Go.Dat
set_option linter.unusedVariables false
-- 64 fulling/fullingref7.allValues
noncomputable def a64 : FA := ⟨15, (.seq
   (.ops [⟨.yes, .assign (.const (.bool false)), some 2⟩])
   (.seq
    (.seq
     (.ops [⟨.yes, .assign (.const (.int .i64 0)), some 3⟩])
     (.block 0 (.loop ⟨[0], [(3, .dat (.int .i64))], []⟩ (.keep [0, 3] (.seq
        (.seq
         (.ops [⟨.yes, .move (.tmp 3), some 4⟩,
           ⟨.yes, .move (.tmp 0), some 5⟩,
           ⟨.yes, .call ⟨.builtin .len, #[.tmp 5], #[28]⟩, some 6⟩,
           ⟨.yes, .binOp .lss 3 (.tmp 4) (.tmp 6) 3, some 7⟩])
         (.keep [0, 3, 7] (.cond (.tmp 7)
          .skip
          (.exit 0))))
        (.keep [0, 3] (.seq
         (.block 1 (.seq
           (.ops [⟨.yes, .move (.tmp 0), some 10⟩,
             ⟨.yes, .move (.tmp 3), some 11⟩,
             ⟨.yes, .indexAddr 28 (.tmp 10) (.tmp 11), some 12⟩,
             ⟨.yes, .load 3 (.tmp 12), some 13⟩,
             ⟨.yes, .binOp .neq 3 (.tmp 13) (.const (.int .i64 1)) 3, some 14⟩])
           (.keep [0, 3, 14] (.cond (.tmp 14)
            (.seq
             (.ops [⟨.yes, .assign (.const (.bool false)), some 2⟩])
             .ret)
            .skip))))
         (.keep [0, 3] (.ops [⟨.yes, .move (.tmp 3), some 8⟩,
           ⟨.yes, .binOp .add 3 (.tmp 8) (.const (.int .i64 1)) 3, some 9⟩,
           ⟨.yes, .assign (.tmp 9), some 3⟩])))))))))
    (.keep [] (.seq
     (.ops [⟨.yes, .assign (.const (.bool true)), some 2⟩])
     .ret)))), [.tmp 2]⟩
theorem is64 : IsFA P pol (planOf pol) 64 1 a64 := ⟨⟨_, _, Try.func64, rfl, rfl, rfl, by kernel_rfl⟩, by decide⟩
theorem ok64 : a64.c.ok = true := by kernel_rfl
theorem r64 (x : denL [(.list (.int .i64))]) : fun2 (env [] []) a64 [(.list (.int .i64))] [.bool] x = F64 x := by kernel_rfl
noncomputable def sp64 : FSp := ⟨[(.list (.int .i64))], [.bool], fun x => F64 x⟩
theorem s64 : SpOk pol P 64 sp64 := fun x r h => fun_ok is64 (fun _ => rfl) (tyOk [] []) (kOk rfl rfl rfl allN imN) ok64 rfl rfl ((r64 x).trans h)
end Go.Proofs.Ytffkjnaocflmdaa
namespace Go.Proofs.Ytffkjnaocflmdaa
open Go.Eng Go.Dat
set_option linter.unusedVariables false
-- 61 fulling/fullingref7.nodeSort
noncomputable def a61 : FA := ⟨221, (.seq
   (.ops [⟨.yes, .box 55 (.tmp 1), some 4⟩,
     ⟨.yes, .assign (.const (.int .i64 0)), some 6⟩])
   (.lock 4 (.seq
    (.ops [⟨.yes, .fieldAddr 55 (.tmp 4) 0, some 11⟩,
      ⟨.yes, .load 3 (.tmp 11), some 12⟩,
      ⟨.yes, .call ⟨.value (.func 50), #[.tmp 12], #[3]⟩, some 13⟩,
      ⟨.yes, .move (.tmp 13), some 10⟩,
      ⟨.yes, .extract (.tmp 10) 0, some 14⟩,
      ⟨.yes, .extract (.tmp 10) 1, some 15⟩,
      ⟨.yes, .assign (.tmp 14), some 7⟩,
      ⟨.yes, .assign (.tmp 15), some 8⟩])
    (.keep [0, 2, 4, 7, 8] (.seq
     (.jn ⟨[0, 2, 4], [(36, .dat .bool)], []⟩
      (.ops [⟨.yes, .move (.tmp 8), some 16⟩,
        ⟨.yes, .unOp .not 4 (.tmp 16), some 17⟩,
        ⟨.yes, .move (.tmp 17), some 18⟩,
        ⟨.at 18 false, .move (.tmp 7), some 19⟩,
        ⟨.at 18 false, .binOp .geq 3 (.tmp 19) (.const (.int .i64 0)) 3, some 20⟩,
        ⟨.at 18 false, .move (.tmp 20), some 21⟩,
        ⟨.at 21 true, .fieldAddr 55 (.tmp 4) 2, some 22⟩,
        ⟨.at 21 true, .load 28 (.tmp 22), some 23⟩,
        ⟨.at 21 true, .call ⟨.builtin .len, #[.tmp 23], #[28]⟩, some 24⟩,
        ⟨.at 21 true, .move (.tmp 7), some 25⟩,
        ⟨.at 21 true, .binOp .neq 3 (.tmp 24) (.tmp 25) 3, some 26⟩,
        ⟨.at 18 false, .pick (.tmp 21) (.tmp 26) (.const (.bool false)), some 27⟩,
        ⟨.yes, .pick (.tmp 18) (.const (.bool true)) (.tmp 27), some 28⟩,
        ⟨.yes, .move (.tmp 28), some 29⟩,
        ⟨.at 29 false, .fieldAddr 55 (.tmp 4) 0, some 30⟩,
        ⟨.at 29 false, .load 3 (.tmp 30), some 31⟩,
        ⟨.at 29 false, .fieldAddr 55 (.tmp 4) 1, some 32⟩,
        ⟨.at 29 false, .load 2 (.tmp 32), some 33⟩,
        ⟨.at 29 false, .call ⟨.value (.func 62), #[.tmp 31, .tmp 33], #[3, 2]⟩, some 34⟩,
        ⟨.at 29 false, .unOp .not 4 (.tmp 34), some 35⟩,
        ⟨.yes, .pick (.tmp 29) (.const (.bool true)) (.tmp 35), some 36⟩])
      (.keep [0, 2, 4, 36] (.cond (.tmp 36)
       (.seq
        (.ops [⟨.yes, .assign (.const (.int .i64 0)), some 6⟩])
        .ret)
       .skip)))
     (.keep [0, 2, 4] (.seq
      (.seq
       (.ops [⟨.yes, .fieldAddr 55 (.tmp 4) 0, some 37⟩,
         ⟨.yes, .load 3 (.tmp 37), some 38⟩])
       (.block 0 (.seq
         (.ops [⟨.yes, .binOp .eql 3 (.tmp 38) (.const (.int .i64 3)) 3, some 40⟩,
           ⟨.yes, .assign (.tmp 40), some 39⟩])
         (.cond (.tmp 39)
          (.seq
           (.seq
            (.ops [⟨.yes, .fieldAddr 55 (.tmp 4) 1, some 41⟩,
              ⟨.yes, .load 2 (.tmp 41), some 42⟩,
              ⟨.yes, .binOp .rem 2 (.tmp 42) (.const (.int .i64 16)) 2, some 43⟩,
              ⟨.yes, .binOp .eql 2 (.tmp 43) (.const (.int .i64 0)) 2, some 44⟩])
            (.keep [44] (.cond (.tmp 44)
             (.seq
              (.ops [⟨.yes, .assign (.const (.int .i64 2)), some 6⟩])
              .ret)
             .skip)))
           (.keep [] (.seq
            (.ops [⟨.yes, .assign (.const (.int .i64 1)), some 6⟩])
            .ret)))
          (.seq
           (.ops [⟨.yes, .binOp .eql 3 (.tmp 38) (.const (.int .i64 26)) 3, some 46⟩,
             ⟨.yes, .assign (.tmp 46), some 45⟩])
           (.cond (.tmp 45)
            (.seq
             (.ops [⟨.yes, .assign (.const (.int .i64 2)), some 6⟩])
             .ret)
            (.seq
             (.ops [⟨.yes, .binOp .eql 3 (.tmp 38) (.const (.int .i64 22)) 3, some 48⟩,
               ⟨.yes, .assign (.tmp 48), some 47⟩])
             (.cond (.tmp 47)
              (.seq
               (.jn ⟨[2], [(67, .dat .bool)], []⟩
                (.plan [⟨0, [], false, .pure, .yes, .move (.tmp 2), some 49⟩,
                  ⟨1, [], false, .pure, .yes, .indexAddr 28 (.tmp 49) (.const (.int .i64 0)), some 50⟩,
                  ⟨2, [], false, .read, .yes, .load 3 (.tmp 50), some 51⟩,
                  ⟨3, [], false, .pure, .yes, .binOp .neq 3 (.tmp 51) (.const (.int .i64 1)) 3, some 52⟩,
                  ⟨4, [], false, .pure, .yes, .move (.tmp 52), some 53⟩,
                  ⟨5, [], false, .pure, .at 53 false, .move (.tmp 2), some 54⟩,
                  ⟨6, [], false, .pure, .at 53 false, .indexAddr 28 (.tmp 54) (.const (.int .i64 1)), some 55⟩,
                  ⟨7, [], false, .read, .at 53 false, .load 3 (.tmp 55), some 56⟩,
                  ⟨8, [], false, .pure, .at 53 false, .move (.tmp 2), some 57⟩,
                  ⟨9, [], false, .pure, .at 53 false, .indexAddr 28 (.tmp 57) (.const (.int .i64 2)), some 58⟩,
                  ⟨10, [], false, .read, .at 53 false, .load 3 (.tmp 58), some 59⟩,
                  ⟨11, [], false, .pure, .at 53 false, .binOp .neq 3 (.tmp 56) (.tmp 59) 3, some 60⟩,
                  ⟨12, [], false, .pure, .yes, .pick (.tmp 53) (.const (.bool true)) (.tmp 60), some 61⟩,
                  ⟨13, [], false, .pure, .yes, .move (.tmp 61), some 62⟩,
                  ⟨14, [], false, .pure, .at 62 false, .move (.tmp 2), some 63⟩,
                  ⟨15, [], false, .pure, .at 62 false, .indexAddr 28 (.tmp 63) (.const (.int .i64 1)), some 64⟩,
                  ⟨16, [], false, .read, .at 62 false, .load 3 (.tmp 64), some 65⟩,
                  ⟨17, [], false, .pure, .at 62 false, .binOp .eql 3 (.tmp 65) (.const (.int .i64 3)) 3, some 66⟩,
                  ⟨18, [], false, .pure, .yes, .pick (.tmp 62) (.const (.bool true)) (.tmp 66), some 67⟩])
                (.keep [2, 67] (.cond (.tmp 67)
                 (.seq
                  (.ops [⟨.yes, .assign (.const (.int .i64 0)), some 6⟩])
                  .ret)
                 .skip)))
               (.keep [2] (.seq
                (.ops [⟨.yes, .move (.tmp 2), some 68⟩,
                  ⟨.yes, .indexAddr 28 (.tmp 68) (.const (.int .i64 1)), some 69⟩,
                  ⟨.yes, .load 3 (.tmp 69), some 70⟩,
                  ⟨.yes, .assign (.tmp 70), some 6⟩])
                .ret)))
              (.seq
               (.ops [⟨.yes, .binOp .eql 3 (.tmp 38) (.const (.int .i64 23)) 3, some 72⟩,
                 ⟨.yes, .assign (.tmp 72), some 71⟩])
               (.cond (.tmp 71)
                (.jn ⟨[], [(6, .dat (.int .i64))], []⟩
                 (.ops [⟨.yes, .move (.tmp 2), some 73⟩,
                   ⟨.yes, .indexAddr 28 (.tmp 73) (.const (.int .i64 0)), some 74⟩,
                   ⟨.yes, .load 3 (.tmp 74), some 75⟩,
                   ⟨.yes, .binOp .eql 3 (.tmp 75) (.const (.int .i64 2)) 3, some 76⟩,
                   ⟨.yes, .move (.tmp 76), some 77⟩,
                   ⟨.at 77 true, .move (.tmp 2), some 78⟩,
                   ⟨.at 77 true, .indexAddr 28 (.tmp 78) (.const (.int .i64 1)), some 79⟩,
                   ⟨.at 77 true, .load 3 (.tmp 79), some 80⟩,
                   ⟨.at 77 true, .binOp .eql 3 (.tmp 80) (.const (.int .i64 1)) 3, some 81⟩,
                   ⟨.yes, .pick (.tmp 77) (.tmp 81) (.const (.bool false)), some 82⟩,
                   ⟨.yes, .call ⟨.value (.func 63), #[.tmp 82, .const (.int .i64 1)], #[4, 3]⟩, some 83⟩,
                   ⟨.yes, .assign (.tmp 83), some 6⟩])
                 .ret)
                (.seq
                 (.ops [⟨.yes, .binOp .eql 3 (.tmp 38) (.const (.int .i64 24)) 3, some 85⟩,
                   ⟨.yes, .assign (.tmp 85), some 84⟩])
                 (.cond (.tmp 84)
                  (.seq
                   (.ops [⟨.yes, .move (.tmp 2), some 86⟩,
                     ⟨.yes, .indexAddr 28 (.tmp 86) (.const (.int .i64 0)), some 87⟩,
                     ⟨.yes, .load 3 (.tmp 87), some 88⟩,
                     ⟨.yes, .binOp .eql 3 (.tmp 88) (.const (.int .i64 2)) 3, some 89⟩,
                     ⟨.yes, .call ⟨.value (.func 63), #[.tmp 89, .const (.int .i64 1)], #[4, 3]⟩, some 90⟩,
                     ⟨.yes, .assign (.tmp 90), some 6⟩])
                   .ret)
                  (.seq
                   (.ops [⟨.yes, .binOp .eql 3 (.tmp 38) (.const (.int .i64 25)) 3, some 92⟩,
                     ⟨.yes, .assign (.tmp 92), some 91⟩])
                   (.cond (.tmp 91)
                    (.seq
                     (.jn ⟨[4], [(111, .dat .bool)], []⟩
                      (.plan [⟨0, [], false, .pure, .yes, .move (.tmp 2), some 93⟩,
                        ⟨1, [], false, .pure, .yes, .indexAddr 28 (.tmp 93) (.const (.int .i64 0)), some 94⟩,
                        ⟨2, [], false, .read, .yes, .load 3 (.tmp 94), some 95⟩,
                        ⟨3, [], false, .pure, .yes, .binOp .neq 3 (.tmp 95) (.const (.int .i64 3)) 3, some 96⟩,
                        ⟨4, [], false, .pure, .yes, .move (.tmp 96), some 97⟩,
                        ⟨5, [], false, .pure, .at 97 false, .fieldAddr 55 (.tmp 4) 1, some 98⟩,
                        ⟨6, [], false, .read, .at 97 false, .load 2 (.tmp 98), some 99⟩,
                        ⟨7, [], false, .pure, .at 97 false, .move (.tmp 0), some 100⟩,
                        ⟨8, [], false, .pure, .at 97 false, .fieldAddr 55 (.tmp 4) 2, some 101⟩,
                        ⟨9, [], false, .read, .at 97 false, .load 28 (.tmp 101), some 102⟩,
                        ⟨10, [], false, .pure, .at 97 false, .indexAddr 28 (.tmp 102) (.const (.int .i64 0)), some 103⟩,
                        ⟨11, [], false, .read, .at 97 false, .load 3 (.tmp 103), some 104⟩,
                        ⟨12, [], false, .pure, .at 97 false, .indexAddr 22 (.tmp 100) (.tmp 104), some 105⟩,
                        ⟨13, [], false, .pure, .at 97 false, .fieldAddr 55 (.tmp 105) 2, some 106⟩,
                        ⟨14, [], false, .read, .at 97 false, .load 28 (.tmp 106), some 107⟩,
                        ⟨15, [], false, .read, .at 97 false, .call ⟨.builtin .len, #[.tmp 107], #[28]⟩, some 108⟩,
                        ⟨16, [], false, .pure, .at 97 false, .binOp .quo 3 (.tmp 108) (.const (.int .i64 2)) 3, some 109⟩,
                        ⟨17, [], false, .pure, .at 97 false, .binOp .geq 2 (.tmp 99) (.tmp 109) 2, some 110⟩,
                        ⟨18, [], false, .pure, .yes, .pick (.tmp 97) (.const (.bool true)) (.tmp 110), some 111⟩])
                      (.keep [4, 111] (.cond (.tmp 111)
                       (.seq
                        (.ops [⟨.yes, .assign (.const (.int .i64 0)), some 6⟩])
                        .ret)
                       .skip)))
                     (.keep [4] (.seq
                      (.ops [⟨.yes, .fieldAddr 55 (.tmp 4) 1, some 112⟩,
                        ⟨.yes, .load 2 (.tmp 112), some 113⟩,
                        ⟨.yes, .binOp .eql 2 (.tmp 113) (.const (.int .i64 0)) 2, some 114⟩,
                        ⟨.yes, .call ⟨.value (.func 63), #[.tmp 114, .const (.int .i64 1)], #[4, 3]⟩, some 115⟩,
                        ⟨.yes, .binOp .add 3 (.tmp 115) (.const (.int .i64 1)) 3, some 116⟩,
                        ⟨.yes, .assign (.tmp 116), some 6⟩])
                      .ret)))
                    (.jn ⟨[2, 38], [(117, .dat .bool)], []⟩
                     (.seq
                      (.ops [⟨.yes, .binOp .eql 3 (.tmp 38) (.const (.int .i64 27)) 3, some 118⟩,
                        ⟨.yes, .assign (.tmp 118), some 117⟩])
                      (.cond (.tmp 117)
                       .skip
                       (.ops [⟨.yes, .binOp .eql 3 (.tmp 38) (.const (.int .i64 29)) 3, some 119⟩,
                         ⟨.yes, .assign (.tmp 119), some 117⟩])))
                     (.keep [2, 38, 117] (.cond (.tmp 117)
                      (.jn ⟨[], [(6, .dat (.int .i64))], []⟩
                       (.ops [⟨.yes, .move (.tmp 2), some 120⟩,
                         ⟨.yes, .indexAddr 28 (.tmp 120) (.const (.int .i64 0)), some 121⟩,
                         ⟨.yes, .load 3 (.tmp 121), some 122⟩,
                         ⟨.yes, .binOp .eql 3 (.tmp 122) (.const (.int .i64 2)) 3, some 123⟩,
                         ⟨.yes, .move (.tmp 123), some 124⟩,
                         ⟨.at 124 true, .move (.tmp 2), some 125⟩,
                         ⟨.at 124 true, .indexAddr 28 (.tmp 125) (.const (.int .i64 1)), some 126⟩,
                         ⟨.at 124 true, .load 3 (.tmp 126), some 127⟩,
                         ⟨.at 124 true, .binOp .eql 3 (.tmp 127) (.const (.int .i64 1)) 3, some 128⟩,
                         ⟨.yes, .pick (.tmp 124) (.tmp 128) (.const (.bool false)), some 129⟩,
                         ⟨.yes, .call ⟨.value (.func 63), #[.tmp 129, .const (.int .i64 2)], #[4, 3]⟩, some 130⟩,
                         ⟨.yes, .assign (.tmp 130), some 6⟩])
                       .ret)
                      (.seq
                       (.ops [⟨.yes, .binOp .eql 3 (.tmp 38) (.const (.int .i64 28)) 3, some 132⟩,
                         ⟨.yes, .assign (.tmp 132), some 131⟩])
                       (.cond (.tmp 131)
                        (.jn ⟨[], [(6, .dat (.int .i64))], []⟩
                         (.ops [⟨.yes, .move (.tmp 2), some 133⟩,
                           ⟨.yes, .indexAddr 28 (.tmp 133) (.const (.int .i64 0)), some 134⟩,
                           ⟨.yes, .load 3 (.tmp 134), some 135⟩,
                           ⟨.yes, .binOp .eql 3 (.tmp 135) (.const (.int .i64 2)) 3, some 136⟩,
                           ⟨.yes, .move (.tmp 136), some 137⟩,
                           ⟨.at 137 true, .move (.tmp 2), some 138⟩,
                           ⟨.at 137 true, .indexAddr 28 (.tmp 138) (.const (.int .i64 1)), some 139⟩,
                           ⟨.at 137 true, .load 3 (.tmp 139), some 140⟩,
                           ⟨.at 137 true, .binOp .eql 3 (.tmp 140) (.const (.int .i64 1)) 3, some 141⟩,
                           ⟨.yes, .pick (.tmp 137) (.tmp 141) (.const (.bool false)), some 142⟩,
                           ⟨.yes, .move (.tmp 142), some 143⟩,
                           ⟨.at 143 true, .move (.tmp 2), some 144⟩,
                           ⟨.at 143 true, .indexAddr 28 (.tmp 144) (.const (.int .i64 2)), some 145⟩,
                           ⟨.at 143 true, .load 3 (.tmp 145), some 146⟩,
                           ⟨.at 143 true, .binOp .eql 3 (.tmp 146) (.const (.int .i64 1)) 3, some 147⟩,
                           ⟨.yes, .pick (.tmp 143) (.tmp 147) (.const (.bool false)), some 148⟩,
                           ⟨.yes, .call ⟨.value (.func 63), #[.tmp 148, .const (.int .i64 2)], #[4, 3]⟩, some 149⟩,
                           ⟨.yes, .assign (.tmp 149), some 6⟩])
                         .ret)
                        (.seq
                         (.ops [⟨.yes, .binOp .eql 3 (.tmp 38) (.const (.int .i64 30)) 3, some 151⟩,
                           ⟨.yes, .assign (.tmp 151), some 150⟩])
                         (.cond (.tmp 150)
                          (.jn ⟨[], [(6, .dat (.int .i64))], []⟩
                           (.ops [⟨.yes, .move (.tmp 2), some 152⟩,
                             ⟨.yes, .call ⟨.builtin .len, #[.tmp 152], #[28]⟩, some 153⟩,
                             ⟨.yes, .binOp .geq 3 (.tmp 153) (.const (.int .i64 1)) 3, some 154⟩,
                             ⟨.yes, .move (.tmp 154), some 155⟩,
                             ⟨.at 155 true, .move (.tmp 2), some 156⟩,
                             ⟨.at 155 true, .call ⟨.builtin .len, #[.tmp 156], #[28]⟩, some 157⟩,
                             ⟨.at 155 true, .binOp .leq 3 (.tmp 157) (.const (.int .i64 7)) 3, some 158⟩,
                             ⟨.yes, .pick (.tmp 155) (.tmp 158) (.const (.bool false)), some 159⟩,
                             ⟨.yes, .move (.tmp 159), some 160⟩,
                             ⟨.at 160 true, .move (.tmp 2), some 161⟩,
                             ⟨.at 160 true, .indexAddr 28 (.tmp 161) (.const (.int .i64 0)), some 162⟩,
                             ⟨.at 160 true, .load 3 (.tmp 162), some 163⟩,
                             ⟨.at 160 true, .binOp .eql 3 (.tmp 163) (.const (.int .i64 2)) 3, some 164⟩,
                             ⟨.yes, .pick (.tmp 160) (.tmp 164) (.const (.bool false)), some 165⟩,
                             ⟨.yes, .move (.tmp 165), some 166⟩,
                             ⟨.at 166 true, .move (.tmp 2), some 167⟩,
                             ⟨.at 166 true, .slice 28 (.tmp 167) (some (.const (.int .i64 1))) none none, some 168⟩,
                             ⟨.at 166 true, .call ⟨.value (.func 64), #[.tmp 168], #[28]⟩, some 169⟩,
                             ⟨.yes, .pick (.tmp 166) (.tmp 169) (.const (.bool false)), some 170⟩,
                             ⟨.yes, .call ⟨.value (.func 63), #[.tmp 170, .const (.int .i64 2)], #[4, 3]⟩, some 171⟩,
                             ⟨.yes, .assign (.tmp 171), some 6⟩])
                           .ret)
                          (.seq
                           (.ops [⟨.yes, .binOp .eql 3 (.tmp 38) (.const (.int .i64 31)) 3, some 173⟩,
                             ⟨.yes, .assign (.tmp 173), some 172⟩])
                           (.cond (.tmp 172)
                            (.seq
                             (.ops [⟨.yes, .move (.tmp 2), some 174⟩,
                               ⟨.yes, .call ⟨.builtin .len, #[.tmp 174], #[28]⟩, some 175⟩,
                               ⟨.yes, .binOp .quo 3 (.tmp 175) (.const (.int .i64 2)) 3, some 176⟩,
                               ⟨.yes, .assign (.tmp 176), some 9⟩])
                             (.keep [2, 9] (.jn ⟨[], [(6, .dat (.int .i64))], []⟩
                              (.ops [⟨.yes, .move (.tmp 2), some 177⟩,
                                ⟨.yes, .call ⟨.builtin .len, #[.tmp 177], #[28]⟩, some 178⟩,
                                ⟨.yes, .binOp .rem 3 (.tmp 178) (.const (.int .i64 2)) 3, some 179⟩,
                                ⟨.yes, .binOp .eql 3 (.tmp 179) (.const (.int .i64 1)) 3, some 180⟩,
                                ⟨.yes, .move (.tmp 180), some 181⟩,
                                ⟨.at 181 true, .move (.tmp 9), some 182⟩,
                                ⟨.at 181 true, .binOp .geq 3 (.tmp 182) (.const (.int .i64 1)) 3, some 183⟩,
                                ⟨.yes, .pick (.tmp 181) (.tmp 183) (.const (.bool false)), some 184⟩,
                                ⟨.yes, .move (.tmp 184), some 185⟩,
                                ⟨.at 185 true, .move (.tmp 9), some 186⟩,
                                ⟨.at 185 true, .binOp .leq 3 (.tmp 186) (.const (.int .i64 16)) 3, some 187⟩,
                                ⟨.yes, .pick (.tmp 185) (.tmp 187) (.const (.bool false)), some 188⟩,
                                ⟨.yes, .move (.tmp 188), some 189⟩,
                                ⟨.at 189 true, .move (.tmp 2), some 190⟩,
                                ⟨.at 189 true, .indexAddr 28 (.tmp 190) (.const (.int .i64 0)), some 191⟩,
                                ⟨.at 189 true, .load 3 (.tmp 191), some 192⟩,
                                ⟨.at 189 true, .binOp .eql 3 (.tmp 192) (.const (.int .i64 2)) 3, some 193⟩,
                                ⟨.yes, .pick (.tmp 189) (.tmp 193) (.const (.bool false)), some 194⟩,
                                ⟨.yes, .move (.tmp 194), some 195⟩,
                                ⟨.at 195 true, .move (.tmp 2), some 196⟩,
                                ⟨.at 195 true, .move (.tmp 9), some 197⟩,
                                ⟨.at 195 true, .binOp .add 3 (.tmp 197) (.const (.int .i64 1)) 3, some 198⟩,
                                ⟨.at 195 true, .slice 28 (.tmp 196) (some (.const (.int .i64 1))) (some (.tmp 198)) none, some 199⟩,
                                ⟨.at 195 true, .call ⟨.value (.func 64), #[.tmp 199], #[28]⟩, some 200⟩,
                                ⟨.yes, .pick (.tmp 195) (.tmp 200) (.const (.bool false)), some 201⟩,
                                ⟨.yes, .move (.tmp 201), some 202⟩,
                                ⟨.at 202 true, .move (.tmp 2), some 203⟩,
                                ⟨.at 202 true, .move (.tmp 9), some 204⟩,
                                ⟨.at 202 true, .binOp .add 3 (.tmp 204) (.const (.int .i64 1)) 3, some 205⟩,
                                ⟨.at 202 true, .indexAddr 28 (.tmp 203) (.tmp 205), some 206⟩,
                                ⟨.at 202 true, .load 3 (.tmp 206), some 207⟩,
                                ⟨.at 202 true, .binOp .eql 3 (.tmp 207) (.const (.int .i64 2)) 3, some 208⟩,
                                ⟨.yes, .pick (.tmp 202) (.tmp 208) (.const (.bool false)), some 209⟩,
                                ⟨.yes, .move (.tmp 209), some 210⟩,
                                ⟨.at 210 true, .move (.tmp 2), some 211⟩,
                                ⟨.at 210 true, .move (.tmp 9), some 212⟩,
                                ⟨.at 210 true, .binOp .add 3 (.tmp 212) (.const (.int .i64 2)) 3, some 213⟩,
                                ⟨.at 210 true, .slice 28 (.tmp 211) (some (.tmp 213)) none none, some 214⟩,
                                ⟨.at 210 true, .call ⟨.value (.func 64), #[.tmp 214], #[28]⟩, some 215⟩,
                                ⟨.yes, .pick (.tmp 210) (.tmp 215) (.const (.bool false)), some 216⟩,
                                ⟨.yes, .call ⟨.value (.func 63), #[.tmp 216, .const (.int .i64 3)], #[4, 3]⟩, some 217⟩,
                                ⟨.yes, .assign (.tmp 217), some 6⟩])
                              .ret)))
                            .skip)))))))))))))))))))))))
      (.keep [2] (.seq
       (.ops [⟨.yes, .move (.tmp 2), some 218⟩,
         ⟨.yes, .call ⟨.value (.func 64), #[.tmp 218], #[28]⟩, some 219⟩,
         ⟨.yes, .call ⟨.value (.func 63), #[.tmp 219, .const (.int .i64 1)], #[4, 3]⟩, some 220⟩,
         ⟨.yes, .assign (.tmp 220), some 6⟩])
       .ret))))))))), [.tmp 6]⟩
theorem is61 : IsFA P pol (planOf pol) 61 3 a61 := ⟨⟨_, _, Try.func61, rfl, rfl, rfl, by kernel_rfl⟩, by decide⟩
theorem ok61 : a61.c.ok = true := by kernel_rfl
theorem r61 (x : denL [(.list (.st (.prod (.int .i64) (.prod (.int .i64) (.list (.int .i64)))))), (.st (.prod (.int .i64) (.prod (.int .i64) (.list (.int .i64))))), (.list (.int .i64))]) : fun2 (env [(50, sp50), (62, sp62), (63, sp63), (64, sp64)] []) a61 [(.list (.st (.prod (.int .i64) (.prod (.int .i64) (.list (.int .i64)))))), (.st (.prod (.int .i64) (.prod (.int .i64) (.list (.int .i64))))), (.list (.int .i64))] [(.int .i64)] x = F61 x.1 x.2.1 x.2.2 := by kernel_rfl
noncomputable def sp61 : FSp := ⟨[(.list (.st (.prod (.int .i64) (.prod (.int .i64) (.list (.int .i64)))))), (.st (.prod (.int .i64) (.prod (.int .i64) (.list (.int .i64))))), (.list (.int .i64))], [(.int .i64)], fun x => F61 x.1 x.2.1 x.2.2⟩
theorem s61 : SpOk pol P 61 sp61 := fun x r h => fun_ok is61 (fun _ => rfl) (tyOk [(50, sp50), (62, sp62), (63, sp63), (64, sp64)] []) (kOk rfl rfl rfl (allC s50 (allC s62 (allC s63 (allC s64 allN)))) imN) ok61 rfl rfl ((r61 x).trans h)
end Go.Proofs.Ytffkjnaocflmdaa
namespace Go.Proofs.Ytffkjnaocflmdaa
open Go.Eng Go.Dat
set_option linter.unusedVariables false
-- 59 fulling/fullingref7.Sorts
noncomputable def a59 : FA := ⟨69, (.seq
   (.ops [⟨.yes, .assign (.const (.slice none 0 0)), some 2⟩])
   (.seq
    (.ops [⟨.yes, .assign (.const (.slice none 0 0)), some 3⟩])
    (.seq
     (.seq
      (.ops [⟨.yes, .assign (.const (.int .i64 0)), some 4⟩])
      (.block 0 (.loop ⟨[0], [(3, .sl 0), (4, .dat (.int .i64))], [.own (.int .i64) true]⟩ (.keep [0, 3, 4] (.seq
         (.seq
          (.ops [⟨.yes, .move (.tmp 4), some 9⟩,
            ⟨.yes, .move (.tmp 0), some 10⟩,
            ⟨.yes, .call ⟨.builtin .len, #[.tmp 10], #[22]⟩, some 11⟩,
            ⟨.yes, .binOp .lss 3 (.tmp 9) (.tmp 11) 3, some 12⟩])
          (.keep [0, 3, 4, 12] (.cond (.tmp 12)
           .skip
           (.exit 0))))
         (.keep [0, 3, 4] (.jn ⟨[0, 4], [(3, .sl 0)], [.own (.int .i64) true]⟩
          (.block 1 (.seq
            (.ops [⟨.yes, .assign (.const (.slice none 0 0)), some 5⟩])
            (.seq
             (.ops [⟨.yes, .assign (.const (.bool true)), some 6⟩])
             (.jn ⟨[0, 4], [(3, .sl 0), (5, .sl 1), (6, .dat .bool)], [.own (.int .i64) true, .own (.int .i64) true]⟩
              (.seq
               (.ops [⟨.yes, .assign (.const (.int .i64 0)), some 7⟩])
               (.block 2 (.loop ⟨[0, 4], [(3, .sl 0), (5, .sl 1), (6, .dat .bool), (7, .dat (.int .i64))], [.own (.int .i64) true, .own (.int .i64) true]⟩ (.keep [0, 3, 4, 5, 6, 7] (.seq
                  (.seq
                   (.ops [⟨.yes, .move (.tmp 7), some 15⟩,
                     ⟨.yes, .move (.tmp 0), some 16⟩,
                     ⟨.yes, .move (.tmp 4), some 17⟩,
                     ⟨.yes, .indexAddr 22 (.tmp 16) (.tmp 17), some 18⟩,
                     ⟨.yes, .fieldAddr 55 (.tmp 18) 2, some 19⟩,
                     ⟨.yes, .load 28 (.tmp 19), some 20⟩,
                     ⟨.yes, .call ⟨.builtin .len, #[.tmp 20], #[28]⟩, some 21⟩,
                     ⟨.yes, .binOp .lss 3 (.tmp 15) (.tmp 21) 3, some 22⟩])
                   (.keep [0, 3, 4, 5, 6, 7, 22] (.cond (.tmp 22)
                    .skip
                    (.exit 2))))
                  (.keep [0, 3, 4, 5, 6, 7] (.seq
                   (.block 3 (.seq
                     (.ops [⟨.yes, .move (.tmp 0), some 25⟩,
                       ⟨.yes, .move (.tmp 4), some 26⟩,
                       ⟨.yes, .indexAddr 22 (.tmp 25) (.tmp 26), some 27⟩,
                       ⟨.yes, .fieldAddr 55 (.tmp 27) 2, some 28⟩,
                       ⟨.yes, .load 28 (.tmp 28), some 29⟩,
                       ⟨.yes, .move (.tmp 7), some 30⟩,
                       ⟨.yes, .indexAddr 28 (.tmp 29) (.tmp 30), some 31⟩,
                       ⟨.yes, .load 3 (.tmp 31), some 32⟩,
                       ⟨.yes, .assign (.tmp 32), some 8⟩])
                     (.keep [0, 3, 4, 5, 6, 7, 8] (.seq
                      (.jn ⟨[0, 4, 6, 7, 8], [(3, .sl 0), (5, .sl 1), (46, .dat .bool)], [.own (.int .i64) true, .own (.int .i64) true]⟩
                       (.ops [⟨.yes, .move (.tmp 8), some 33⟩,
                         ⟨.yes, .binOp .lss 3 (.tmp 33) (.const (.int .i64 0)) 3, some 34⟩,
                         ⟨.yes, .move (.tmp 34), some 35⟩,
                         ⟨.at 35 false, .move (.tmp 8), some 36⟩,
                         ⟨.at 35 false, .move (.tmp 4), some 37⟩,
                         ⟨.at 35 false, .binOp .geq 3 (.tmp 36) (.tmp 37) 3, some 38⟩,
                         ⟨.yes, .pick (.tmp 35) (.const (.bool true)) (.tmp 38), some 39⟩,
                         ⟨.yes, .move (.tmp 39), some 40⟩,
                         ⟨.at 40 false, .move (.tmp 3), some 41⟩,
                         ⟨.at 40 false, .move (.tmp 8), some 42⟩,
                         ⟨.at 40 false, .indexAddr 28 (.tmp 41) (.tmp 42), some 43⟩,
                         ⟨.at 40 false, .load 3 (.tmp 43), some 44⟩,
                         ⟨.at 40 false, .binOp .eql 3 (.tmp 44) (.const (.int .i64 0)) 3, some 45⟩,
                         ⟨.yes, .pick (.tmp 40) (.const (.bool true)) (.tmp 45), some 46⟩])
                       (.keep [0, 3, 4, 5, 6, 7, 8, 46] (.cond (.tmp 46)
                        (.seq
                         (.ops [⟨.yes, .assign (.const (.bool false)), some 6⟩])
                         (.exit 2))
                        .skip)))
                      (.keep [0, 3, 4, 5, 6, 7, 8] (.ops [⟨.yes, .move (.tmp 5), some 47⟩,
                        ⟨.yes, .move (.tmp 3), some 48⟩,
                        ⟨.yes, .move (.tmp 8), some 49⟩,
                        ⟨.yes, .indexAddr 28 (.tmp 48) (.tmp 49), some 50⟩,
                        ⟨.yes, .load 3 (.tmp 50), some 51⟩,
                        ⟨.yes, .buildSlice 28 1 #[(0, .tmp 51)], some 52⟩,
                        ⟨.yes, .call ⟨.builtin .append, #[.tmp 47, .tmp 52], #[28, 28]⟩, some 53⟩,
                        ⟨.yes, .assign (.tmp 53), some 5⟩]))))))
                   (.keep [0, 3, 4, 5, 6, 7] (.ops [⟨.yes, .move (.tmp 7), some 23⟩,
                     ⟨.yes, .binOp .add 3 (.tmp 23) (.const (.int .i64 1)) 3, some 24⟩,
                     ⟨.yes, .assign (.tmp 24), some 7⟩])))))))))
              (.keep [0, 3, 4, 5, 6] (.seq
               (.ops [⟨.yes, .move (.tmp 6), some 54⟩])
               (.cond (.tmp 54)
                (.ops [⟨.yes, .move (.tmp 3), some 55⟩,
                  ⟨.yes, .move (.tmp 0), some 56⟩,
                  ⟨.yes, .move (.tmp 0), some 57⟩,
                  ⟨.yes, .move (.tmp 4), some 58⟩,
                  ⟨.yes, .indexAddr 22 (.tmp 57) (.tmp 58), some 59⟩,
                  ⟨.yes, .load 55 (.tmp 59), some 60⟩,
                  ⟨.yes, .move (.tmp 5), some 61⟩,
                  ⟨.yes, .call ⟨.value (.func 61), #[.tmp 56, .tmp 60, .tmp 61], #[22, 55, 28]⟩, some 62⟩,
                  ⟨.yes, .buildSlice 28 1 #[(0, .tmp 62)], some 63⟩,
                  ⟨.yes, .call ⟨.builtin .append, #[.tmp 55, .tmp 63], #[28, 28]⟩, some 64⟩,
                  ⟨.yes, .assign (.tmp 64), some 3⟩])
                (.ops [⟨.yes, .move (.tmp 3), some 65⟩,
                  ⟨.yes, .buildSlice 28 1 #[(0, .const (.int .i64 0))], some 66⟩,
                  ⟨.yes, .call ⟨.builtin .append, #[.tmp 65, .tmp 66], #[28, 28]⟩, some 67⟩,
                  ⟨.yes, .assign (.tmp 67), some 3⟩]))))))))
          (.keep [0, 3, 4] (.ops [⟨.yes, .move (.tmp 4), some 13⟩,
            ⟨.yes, .binOp .add 3 (.tmp 13) (.const (.int .i64 1)) 3, some 14⟩,
            ⟨.yes, .assign (.tmp 14), some 4⟩])))))))))
     (.keep [3] (.seq
      (.ops [⟨.yes, .move (.tmp 3), some 68⟩,
        ⟨.yes, .assign (.tmp 68), some 2⟩])
      .ret))))), [.tmp 2]⟩
theorem is59 : IsFA P pol (planOf pol) 59 1 a59 := ⟨⟨_, _, Try.func59, rfl, rfl, rfl, by kernel_rfl⟩, by decide⟩
theorem ok59 : a59.c.ok = true := by kernel_rfl
theorem r59 (x : denL [(.list (.st (.prod (.int .i64) (.prod (.int .i64) (.list (.int .i64))))))]) : fun2 (env [(61, sp61)] []) a59 [(.list (.st (.prod (.int .i64) (.prod (.int .i64) (.list (.int .i64))))))] [(.list (.int .i64))] x = F59 x := by kernel_rfl
noncomputable def sp59 : FSp := ⟨[(.list (.st (.prod (.int .i64) (.prod (.int .i64) (.list (.int .i64))))))], [(.list (.int .i64))], fun x => F59 x⟩
theorem s59 : SpOk pol P 59 sp59 := fun x r h => fun_ok is59 (fun _ => rfl) (tyOk [(61, sp61)] []) (kOk rfl rfl rfl (allC s61 allN) imN) ok59 rfl rfl ((r59 x).trans h)
end Go.Proofs.Ytffkjnaocflmdaa
namespace Go.Proofs.Ytffkjnaocflmdaa
open Go.Eng Go.Dat
set_option linter.unusedVariables false
-- 51 fulling/fullingkeep.of
noncomputable def a51 : FA := ⟨39, (.seq
   (.ops [⟨.yes, .assign (.const (.int .i64 0)), some 6⟩])
   (.seq
    (.ops [⟨.yes, .move (.tmp 0), some 10⟩,
      ⟨.yes, .call ⟨.value (.func 59), #[.tmp 10], #[22]⟩, some 11⟩,
      ⟨.yes, .assign (.tmp 11), some 7⟩])
    (.seq
     (.ops [⟨.yes, .assign (.const (.slice none 0 0)), some 8⟩])
     (.seq
      (.seq
       (.ops [⟨.yes, .assign (.const (.int .i64 0)), some 9⟩])
       (.block 0 (.loop ⟨[0, 1, 2, 7], [(8, .sl 0), (9, .dat (.int .i64))], [.own (.int .i64) true]⟩ (.keep [0, 1, 2, 7, 8, 9] (.seq
          (.seq
           (.ops [⟨.yes, .move (.tmp 9), some 12⟩,
             ⟨.yes, .move (.tmp 0), some 13⟩,
             ⟨.yes, .call ⟨.builtin .len, #[.tmp 13], #[22]⟩, some 14⟩,
             ⟨.yes, .binOp .lss 3 (.tmp 12) (.tmp 14) 3, some 15⟩])
           (.keep [0, 1, 2, 7, 8, 9, 15] (.cond (.tmp 15)
            .skip
            (.exit 0))))
          (.keep [0, 1, 2, 7, 8, 9] (.jn ⟨[0, 1, 2, 7, 9], [(8, .sl 0)], [.own (.int .i64) true]⟩
           (.block 1 (.seq
             (.ops [⟨.yes, .move (.tmp 7), some 18⟩,
               ⟨.yes, .move (.tmp 9), some 19⟩,
               ⟨.yes, .indexAddr 28 (.tmp 18) (.tmp 19), some 20⟩,
               ⟨.yes, .load 3 (.tmp 20), some 21⟩,
               ⟨.yes, .move (.tmp 1), some 22⟩,
               ⟨.yes, .binOp .eql 3 (.tmp 21) (.tmp 22) 3, some 23⟩])
             (.keep [0, 1, 2, 7, 8, 9, 23] (.cond (.tmp 23)
              (.ops [⟨.yes, .move (.tmp 8), some 24⟩,
                ⟨.yes, .move (.tmp 9), some 25⟩,
                ⟨.yes, .buildSlice 28 1 #[(0, .tmp 25)], some 26⟩,
                ⟨.yes, .call ⟨.builtin .append, #[.tmp 24, .tmp 26], #[28, 28]⟩, some 27⟩,
                ⟨.yes, .assign (.tmp 27), some 8⟩])
              .skip))))
           (.keep [0, 1, 2, 7, 8, 9] (.ops [⟨.yes, .move (.tmp 9), some 16⟩,
             ⟨.yes, .binOp .add 3 (.tmp 16) (.const (.int .i64 1)) 3, some 17⟩,
             ⟨.yes, .assign (.tmp 17), some 9⟩])))))))))
      (.keep [2, 8] (.seq
       (.ops [⟨.yes, .move (.tmp 8), some 28⟩,
         ⟨.yes, .move (.tmp 8), some 29⟩,
         ⟨.yes, .call ⟨.builtin .len, #[.tmp 29], #[28]⟩, some 30⟩,
         ⟨.yes, .binOp .sub 3 (.tmp 30) (.const (.int .i64 1)) 3, some 31⟩,
         ⟨.yes, .move (.tmp 2), some 32⟩,
         ⟨.yes, .move (.tmp 8), some 33⟩,
         ⟨.yes, .call ⟨.builtin .len, #[.tmp 33], #[28]⟩, some 34⟩,
         ⟨.yes, .call ⟨.value (.func 15), #[.tmp 32, .tmp 34], #[3, 3]⟩, some 35⟩,
         ⟨.yes, .binOp .sub 3 (.tmp 31) (.tmp 35) 3, some 36⟩,
         ⟨.yes, .indexAddr 28 (.tmp 28) (.tmp 36), some 37⟩,
         ⟨.yes, .load 3 (.tmp 37), some 38⟩,
         ⟨.yes, .assign (.tmp 38), some 6⟩])
       .ret)))))), [.tmp 6]⟩
theorem is51 : IsFA P pol (planOf pol) 51 3 a51 := ⟨⟨_, _, Try.func51, rfl, rfl, rfl, by kernel_rfl⟩, by decide⟩
theorem ok51 : a51.c.ok = true := by kernel_rfl
theorem r51 (x : denL [(.list (.st (.prod (.int .i64) (.prod (.int .i64) (.list (.int .i64)))))), (.int .i64), (.int .i64)]) : fun2 (env [(15, sp15), (59, sp59)] []) a51 [(.list (.st (.prod (.int .i64) (.prod (.int .i64) (.list (.int .i64)))))), (.int .i64), (.int .i64)] [(.int .i64)] x = F51 x.1 x.2.1 x.2.2 := by kernel_rfl
noncomputable def sp51 : FSp := ⟨[(.list (.st (.prod (.int .i64) (.prod (.int .i64) (.list (.int .i64)))))), (.int .i64), (.int .i64)], [(.int .i64)], fun x => F51 x.1 x.2.1 x.2.2⟩
theorem s51 : SpOk pol P 51 sp51 := fun x r h => fun_ok is51 (fun _ => rfl) (tyOk [(15, sp15), (59, sp59)] []) (kOk rfl rfl rfl (allC s15 (allC s59 allN)) imN) ok51 rfl rfl ((r51 x).trans h)
end Go.Proofs.Ytffkjnaocflmdaa
namespace Go.Proofs.Ytffkjnaocflmdaa
open Go.Eng Go.Dat
set_option linter.unusedVariables false
-- 60 fulling/fullingref15.Sort
noncomputable def a60 : FA := ⟨13, (.seq
   (.ops [⟨.yes, .assign (.const (.int .i64 0)), some 2⟩])
   (.seq
    (.jn ⟨[], [(12, .dat .bool)], []⟩
     (.ops [⟨.yes, .move (.tmp 0), some 3⟩,
       ⟨.yes, .binOp .eql 3 (.tmp 3) (.const (.int .i64 27)) 3, some 4⟩,
       ⟨.yes, .move (.tmp 4), some 5⟩,
       ⟨.at 5 false, .move (.tmp 0), some 6⟩,
       ⟨.at 5 false, .binOp .eql 3 (.tmp 6) (.const (.int .i64 28)) 3, some 7⟩,
       ⟨.yes, .pick (.tmp 5) (.const (.bool true)) (.tmp 7), some 8⟩,
       ⟨.yes, .move (.tmp 8), some 9⟩,
       ⟨.at 9 false, .move (.tmp 0), some 10⟩,
       ⟨.at 9 false, .binOp .eql 3 (.tmp 10) (.const (.int .i64 29)) 3, some 11⟩,
       ⟨.yes, .pick (.tmp 9) (.const (.bool true)) (.tmp 11), some 12⟩])
     (.keep [12] (.cond (.tmp 12)
      (.seq
       (.ops [⟨.yes, .assign (.const (.int .i64 2)), some 2⟩])
       .ret)
      .skip)))
    (.keep [] (.seq
     (.ops [⟨.yes, .assign (.const (.int .i64 1)), some 2⟩])
     .ret)))), [.tmp 2]⟩
theorem is60 : IsFA P pol (planOf pol) 60 1 a60 := ⟨⟨_, _, Try.func60, rfl, rfl, rfl, by kernel_rfl⟩, by decide⟩
theorem ok60 : a60.c.ok = true := by kernel_rfl
theorem r60 (x : denL [(.int .i64)]) : fun2 (env [] []) a60 [(.int .i64)] [(.int .i64)] x = F60 x := by kernel_rfl
noncomputable def sp60 : FSp := ⟨[(.int .i64)], [(.int .i64)], fun x => F60 x⟩
theorem s60 : SpOk pol P 60 sp60 := fun x r h => fun_ok is60 (fun _ => rfl) (tyOk [] []) (kOk rfl rfl rfl allN imN) ok60 rfl rfl ((r60 x).trans h)
end Go.Proofs.Ytffkjnaocflmdaa
namespace Go.Proofs.Ytffkjnaocflmdaa
open Go.Eng Go.Dat
set_option linter.unusedVariables false
-- 52 fulling/fullingref15.OperandSort
noncomputable def a52 : FA := ⟨20, (.seq
   (.ops [⟨.yes, .assign (.const (.int .i64 0)), some 4⟩])
   (.seq
    (.jn ⟨[], [(19, .dat .bool)], []⟩
     (.ops [⟨.yes, .move (.tmp 1), some 5⟩,
       ⟨.yes, .binOp .eql 3 (.tmp 5) (.const (.int .i64 0)) 3, some 6⟩,
       ⟨.yes, .move (.tmp 6), some 7⟩,
       ⟨.at 7 true, .move (.tmp 0), some 8⟩,
       ⟨.at 7 true, .call ⟨.value (.func 60), #[.tmp 8], #[3]⟩, some 9⟩,
       ⟨.at 7 true, .binOp .eql 3 (.tmp 9) (.const (.int .i64 2)) 3, some 10⟩,
       ⟨.at 7 true, .move (.tmp 10), some 11⟩,
       ⟨.at 11 false, .move (.tmp 0), some 12⟩,
       ⟨.at 11 false, .binOp .eql 3 (.tmp 12) (.const (.int .i64 23)) 3, some 13⟩,
       ⟨.at 7 true, .pick (.tmp 11) (.const (.bool true)) (.tmp 13), some 14⟩,
       ⟨.at 7 true, .move (.tmp 14), some 15⟩,
       ⟨.at 15 false, .move (.tmp 0), some 16⟩,
       ⟨.at 15 false, .binOp .eql 3 (.tmp 16) (.const (.int .i64 24)) 3, some 17⟩,
       ⟨.at 7 true, .pick (.tmp 15) (.const (.bool true)) (.tmp 17), some 18⟩,
       ⟨.yes, .pick (.tmp 7) (.tmp 18) (.const (.bool false)), some 19⟩])
     (.keep [19] (.cond (.tmp 19)
      (.seq
       (.ops [⟨.yes, .assign (.const (.int .i64 2)), some 4⟩])
       .ret)
      .skip)))
    (.keep [] (.seq
     (.ops [⟨.yes, .assign (.const (.int .i64 1)), some 4⟩])
     .ret)))), [.tmp 4]⟩
theorem is52 : IsFA P pol (planOf pol) 52 2 a52 := ⟨⟨_, _, Try.func52, rfl, rfl, rfl, by kernel_rfl⟩, by decide⟩
theorem ok52 : a52.c.ok = true := by kernel_rfl
theorem r52 (x : denL [(.int .i64), (.int .i64)]) : fun2 (env [(60, sp60)] []) a52 [(.int .i64), (.int .i64)] [(.int .i64)] x = F52 x.1 x.2 := by kernel_rfl
noncomputable def sp52 : FSp := ⟨[(.int .i64), (.int .i64)], [(.int .i64)], fun x => F52 x.1 x.2⟩
theorem s52 : SpOk pol P 52 sp52 := fun x r h => fun_ok is52 (fun _ => rfl) (tyOk [(60, sp60)] []) (kOk rfl rfl rfl (allC s60 allN) imN) ok52 rfl rfl ((r52 x).trans h)
end Go.Proofs.Ytffkjnaocflmdaa
namespace Go.Proofs.Ytffkjnaocflmdaa
open Go.Eng Go.Dat
set_option linter.unusedVariables false
-- 48 fulling/fullingref7.SameNode
noncomputable def a48 : FA := ⟨45, (.seq
   (.ops [⟨.yes, .box 55 (.tmp 0), some 2⟩,
     ⟨.yes, .box 55 (.tmp 1), some 3⟩,
     ⟨.yes, .assign (.const (.bool false)), some 4⟩])
   (.lock 3 (.lock 2 (.seq
    (.jn ⟨[2, 3], [(26, .dat .bool)], []⟩
     (.ops [⟨.yes, .fieldAddr 55 (.tmp 2) 0, some 6⟩,
       ⟨.yes, .load 3 (.tmp 6), some 7⟩,
       ⟨.yes, .fieldAddr 55 (.tmp 3) 0, some 8⟩,
       ⟨.yes, .load 3 (.tmp 8), some 9⟩,
       ⟨.yes, .binOp .neq 3 (.tmp 7) (.tmp 9) 3, some 10⟩,
       ⟨.yes, .move (.tmp 10), some 11⟩,
       ⟨.at 11 false, .fieldAddr 55 (.tmp 2) 1, some 12⟩,
       ⟨.at 11 false, .load 2 (.tmp 12), some 13⟩,
       ⟨.at 11 false, .fieldAddr 55 (.tmp 3) 1, some 14⟩,
       ⟨.at 11 false, .load 2 (.tmp 14), some 15⟩,
       ⟨.at 11 false, .binOp .neq 2 (.tmp 13) (.tmp 15) 2, some 16⟩,
       ⟨.yes, .pick (.tmp 11) (.const (.bool true)) (.tmp 16), some 17⟩,
       ⟨.yes, .move (.tmp 17), some 18⟩,
       ⟨.at 18 false, .fieldAddr 55 (.tmp 2) 2, some 19⟩,
       ⟨.at 18 false, .load 28 (.tmp 19), some 20⟩,
       ⟨.at 18 false, .call ⟨.builtin .len, #[.tmp 20], #[28]⟩, some 21⟩,
       ⟨.at 18 false, .fieldAddr 55 (.tmp 3) 2, some 22⟩,
       ⟨.at 18 false, .load 28 (.tmp 22), some 23⟩,
       ⟨.at 18 false, .call ⟨.builtin .len, #[.tmp 23], #[28]⟩, some 24⟩,
       ⟨.at 18 false, .binOp .neq 3 (.tmp 21) (.tmp 24) 3, some 25⟩,
       ⟨.yes, .pick (.tmp 18) (.const (.bool true)) (.tmp 25), some 26⟩])
     (.keep [2, 3, 26] (.cond (.tmp 26)
      (.seq
       (.ops [⟨.yes, .assign (.const (.bool false)), some 4⟩])
       .ret)
      .skip)))
    (.keep [2, 3] (.seq
     (.seq
      (.ops [⟨.yes, .assign (.const (.int .i64 0)), some 5⟩])
      (.block 0 (.loop ⟨[2, 3], [(5, .dat (.int .i64))], []⟩ (.keep [2, 3, 5] (.seq
         (.seq
          (.ops [⟨.yes, .move (.tmp 5), some 27⟩,
            ⟨.yes, .fieldAddr 55 (.tmp 2) 2, some 28⟩,
            ⟨.yes, .load 28 (.tmp 28), some 29⟩,
            ⟨.yes, .call ⟨.builtin .len, #[.tmp 29], #[28]⟩, some 30⟩,
            ⟨.yes, .binOp .lss 3 (.tmp 27) (.tmp 30) 3, some 31⟩])
          (.keep [2, 3, 5, 31] (.cond (.tmp 31)
           .skip
           (.exit 0))))
         (.keep [2, 3, 5] (.seq
          (.block 1 (.seq
            (.plan [⟨0, [], false, .pure, .yes, .fieldAddr 55 (.tmp 2) 2, some 34⟩,
              ⟨1, [], false, .read, .yes, .load 28 (.tmp 34), some 35⟩,
              ⟨2, [], false, .pure, .yes, .move (.tmp 5), some 36⟩,
              ⟨3, [], false, .pure, .yes, .indexAddr 28 (.tmp 35) (.tmp 36), some 37⟩,
              ⟨4, [], false, .read, .yes, .load 3 (.tmp 37), some 38⟩,
              ⟨5, [], false, .pure, .yes, .fieldAddr 55 (.tmp 3) 2, some 39⟩,
              ⟨6, [], false, .read, .yes, .load 28 (.tmp 39), some 40⟩,
              ⟨7, [], false, .pure, .yes, .move (.tmp 5), some 41⟩,
              ⟨8, [], false, .pure, .yes, .indexAddr 28 (.tmp 40) (.tmp 41), some 42⟩,
              ⟨9, [], false, .read, .yes, .load 3 (.tmp 42), some 43⟩,
              ⟨10, [], false, .pure, .yes, .binOp .neq 3 (.tmp 38) (.tmp 43) 3, some 44⟩])
            (.keep [2, 3, 5, 44] (.cond (.tmp 44)
             (.seq
              (.ops [⟨.yes, .assign (.const (.bool false)), some 4⟩])
              .ret)
             .skip))))
          (.keep [2, 3, 5] (.ops [⟨.yes, .move (.tmp 5), some 32⟩,
            ⟨.yes, .binOp .add 3 (.tmp 32) (.const (.int .i64 1)) 3, some 33⟩,
            ⟨.yes, .assign (.tmp 33), some 5⟩])))))))))
     (.keep [] (.seq
      (.ops [⟨.yes, .assign (.const (.bool true)), some 4⟩])
      .ret)))))))), [.tmp 4]⟩
theorem is48 : IsFA P pol (planOf pol) 48 2 a48 := ⟨⟨_, _, Try.func48, rfl, rfl, rfl, by kernel_rfl⟩, by decide⟩
theorem ok48 : a48.c.ok = true := by kernel_rfl
theorem r48 (x : denL [(.st (.prod (.int .i64) (.prod (.int .i64) (.list (.int .i64))))), (.st (.prod (.int .i64) (.prod (.int .i64) (.list (.int .i64)))))]) : fun2 (env [] []) a48 [(.st (.prod (.int .i64) (.prod (.int .i64) (.list (.int .i64))))), (.st (.prod (.int .i64) (.prod (.int .i64) (.list (.int .i64)))))] [.bool] x = F48 x.1 x.2 := by kernel_rfl
noncomputable def sp48 : FSp := ⟨[(.st (.prod (.int .i64) (.prod (.int .i64) (.list (.int .i64))))), (.st (.prod (.int .i64) (.prod (.int .i64) (.list (.int .i64)))))], [.bool], fun x => F48 x.1 x.2⟩
theorem s48 : SpOk pol P 48 sp48 := fun x r h => fun_ok is48 (fun _ => rfl) (tyOk [] []) (kOk rfl rfl rfl allN imN) ok48 rfl rfl ((r48 x).trans h)
end Go.Proofs.Ytffkjnaocflmdaa
namespace Go.Proofs.Ytffkjnaocflmdaa
open Go.Eng Go.Dat
set_option linter.unusedVariables false
-- 54 fulling/fullingkeep.contains
noncomputable def a54 : FA := ⟨18, (.seq
   (.ops [⟨.yes, .box 55 (.tmp 1), some 3⟩,
     ⟨.yes, .assign (.const (.bool false)), some 4⟩])
   (.lock 3 (.seq
    (.seq
     (.ops [⟨.yes, .assign (.const (.int .i64 0)), some 5⟩])
     (.block 0 (.loop ⟨[0, 3], [(5, .dat (.int .i64))], []⟩ (.keep [0, 3, 5] (.seq
        (.seq
         (.ops [⟨.yes, .move (.tmp 5), some 6⟩,
           ⟨.yes, .move (.tmp 0), some 7⟩,
           ⟨.yes, .call ⟨.builtin .len, #[.tmp 7], #[22]⟩, some 8⟩,
           ⟨.yes, .binOp .lss 3 (.tmp 6) (.tmp 8) 3, some 9⟩])
         (.keep [0, 3, 5, 9] (.cond (.tmp 9)
          .skip
          (.exit 0))))
        (.keep [0, 3, 5] (.seq
         (.block 1 (.seq
           (.plan [⟨0, [], false, .pure, .yes, .move (.tmp 0), some 12⟩,
             ⟨1, [], false, .pure, .yes, .move (.tmp 5), some 13⟩,
             ⟨2, [], false, .pure, .yes, .indexAddr 22 (.tmp 12) (.tmp 13), some 14⟩,
             ⟨3, [], false, .read, .yes, .load 55 (.tmp 14), some 15⟩,
             ⟨4, [], false, .read, .yes, .load 55 (.tmp 3), some 16⟩,
             ⟨5, [], false, .write, .yes, .call ⟨.value (.func 48), #[.tmp 15, .tmp 16], #[55, 55]⟩, some 17⟩])
           (.keep [0, 3, 5, 17] (.cond (.tmp 17)
            (.seq
             (.ops [⟨.yes, .assign (.const (.bool true)), some 4⟩])
             .ret)
            .skip))))
         (.keep [0, 3, 5] (.ops [⟨.yes, .move (.tmp 5), some 10⟩,
           ⟨.yes, .binOp .add 3 (.tmp 10) (.const (.int .i64 1)) 3, some 11⟩,
           ⟨.yes, .assign (.tmp 11), some 5⟩])))))))))
    (.keep [] (.seq
     (.ops [⟨.yes, .assign (.const (.bool false)), some 4⟩])
     .ret))))), [.tmp 4]⟩
theorem is54 : IsFA P pol (planOf pol) 54 2 a54 := ⟨⟨_, _, Try.func54, rfl, rfl, rfl, by kernel_rfl⟩, by decide⟩
theorem ok54 : a54.c.ok = true := by kernel_rfl
theorem r54 (x : denL [(.list (.st (.prod (.int .i64) (.prod (.int .i64) (.list (.int .i64)))))), (.st (.prod (.int .i64) (.prod (.int .i64) (.list (.int .i64)))))]) : fun2 (env [(48, sp48)] []) a54 [(.list (.st (.prod (.int .i64) (.prod (.int .i64) (.list (.int .i64)))))), (.st (.prod (.int .i64) (.prod (.int .i64) (.list (.int .i64)))))] [.bool] x = F54 x.1 x.2 := by kernel_rfl
noncomputable def sp54 : FSp := ⟨[(.list (.st (.prod (.int .i64) (.prod (.int .i64) (.list (.int .i64)))))), (.st (.prod (.int .i64) (.prod (.int .i64) (.list (.int .i64)))))], [.bool], fun x => F54 x.1 x.2⟩
theorem s54 : SpOk pol P 54 sp54 := fun x r h => fun_ok is54 (fun _ => rfl) (tyOk [(48, sp48)] []) (kOk rfl rfl rfl (allC s48 allN) imN) ok54 rfl rfl ((r54 x).trans h)
end Go.Proofs.Ytffkjnaocflmdaa
namespace Go.Proofs.Ytffkjnaocflmdaa
open Go.Eng Go.Dat
set_option linter.unusedVariables false
-- 53 (*fulling/fullingkeep.Reader).Next
noncomputable def a53 : FA := ⟨25, (.seq
   (.ops [⟨.yes, .assign (.const (.int .i64 0)), some 2⟩])
   (.seq
    (.seq
     (.ops [⟨.yes, .move (.tmp 0), some 4⟩,
       ⟨.yes, .nilCheck (.tmp 4), some 5⟩,
       ⟨.yes, .fieldAddr 87 (.tmp 5) 0, some 6⟩,
       ⟨.yes, .load 28 (.tmp 6), some 7⟩,
       ⟨.yes, .call ⟨.builtin .len, #[.tmp 7], #[28]⟩, some 8⟩,
       ⟨.yes, .binOp .eql 3 (.tmp 8) (.const (.int .i64 0)) 3, some 9⟩])
     (.keep [0, 9] (.cond (.tmp 9)
      (.seq
       (.ops [⟨.yes, .assign (.const (.int .i64 0)), some 2⟩])
       .ret)
      .skip)))
    (.keep [0] (.seq
     (.ops [⟨.yes, .move (.tmp 0), some 10⟩,
       ⟨.yes, .nilCheck (.tmp 10), some 11⟩,
       ⟨.yes, .fieldAddr 87 (.tmp 11) 0, some 12⟩,
       ⟨.yes, .load 28 (.tmp 12), some 13⟩,
       ⟨.yes, .indexAddr 28 (.tmp 13) (.const (.int .i64 0)), some 14⟩,
       ⟨.yes, .load 3 (.tmp 14), some 15⟩,
       ⟨.yes, .assign (.tmp 15), some 3⟩])
     (.keep [0, 3] (.seq
      (.ops [⟨.yes, .move (.tmp 0), some 16⟩,
        ⟨.yes, .move (.tmp 0), some 17⟩,
        ⟨.yes, .nilCheck (.tmp 17), some 18⟩,
        ⟨.yes, .fieldAddr 87 (.tmp 18) 0, some 19⟩,
        ⟨.yes, .load 28 (.tmp 19), some 20⟩,
        ⟨.yes, .slice 28 (.tmp 20) (some (.const (.int .i64 1))) none none, some 21⟩,
        ⟨.yes, .nilCheck (.tmp 16), some 22⟩,
        ⟨.yes, .fieldAddr 87 (.tmp 22) 0, some 23⟩,
        ⟨.yes, .store 28 (.tmp 23) (.tmp 21), none⟩])
      (.keep [3, 0] (.seq
       (.ops [⟨.yes, .move (.tmp 3), some 24⟩,
         ⟨.yes, .assign (.tmp 24), some 2⟩])
       .ret)))))))), [.tmp 2]⟩
theorem is53 : IsFA P pol (planOf pol) 53 1 a53 := ⟨⟨_, _, Try.func53, rfl, rfl, rfl, by kernel_rfl⟩, by decide⟩
theorem ok53 : a53.c.ok = true := by kernel_rfl
noncomputable def sp53 : ISpec := ⟨[.bx 0 0], [.box [.sl 1, .dat (.int .i64)] true, .own (.int .i64) false], 1, [.dat (.int .i64)], [(0, .bx 0 0)], [.box [.sl 1, .dat (.int .i64)] true, .own (.int .i64) false], fun (x : Int × List Int) => (F53 x.1 x.2 : Option (Int × Int × List Int))⟩
theorem r53 (x : Int × List Int) : ifun2 (env [] []) a53 sp53.ins sp53.cks sp53.outs sp53.anc sp53.couts x = F53 x.1 x.2 := by kernel_rfl
theorem s53 : ImOk pol P 53 sp53 := ifun_ok is53 rfl (tyOk [] []) (kOk rfl rfl rfl allN imN) ok53 (by kernel_rfl) (by kernel_rfl) (by kernel_rfl) rfl rfl (by kernel_rfl) (fun x => r53 x)
end Go.Proofs.Ytffkjnaocflmdaa
namespace Go.Proofs.Ytffkjnaocflmdaa
open Go.Eng Go.Dat
set_option linter.unusedVariables false
-- 35 fulling/fullingkeep.Nodes
noncomputable def a35 : FA := ⟨147, (.seq
   (.ops [⟨.yes, .assign (.const (.slice none 0 0)), some 4⟩])
   (.seq
    (.ops [⟨.yes, .build 55 #[(0, .const (.int .i64 2))], some 12⟩,
      ⟨.yes, .build 55 #[(0, .const (.int .i64 2)), (1, .const (.int .i64 1))], some 13⟩,
      ⟨.yes, .build 55 #[(0, .const (.int .i64 26))], some 14⟩,
      ⟨.yes, .buildSlice 22 3 #[(0, .tmp 12), (1, .tmp 13), (2, .tmp 14)], some 15⟩,
      ⟨.yes, .assign (.tmp 15), some 5⟩])
    (.keep [0, 1, 5] (.seq
     (.seq
      (.ops [⟨.yes, .assign (.const (.int .i64 0)), some 6⟩])
      (.block 0 (.loop ⟨[0, 1], [(5, .sl 0), (6, .dat (.int .i64))], [.own (.st (.prod (.int .i64) (.prod (.int .i64) (.list (.int .i64))))) true]⟩ (.keep [0, 1, 5, 6] (.seq
         (.jn ⟨[0, 1, 6], [(5, .sl 0), (23, .dat .bool)], [.own (.st (.prod (.int .i64) (.prod (.int .i64) (.list (.int .i64))))) true]⟩
          (.ops [⟨.yes, .move (.tmp 6), some 16⟩,
            ⟨.yes, .move (.tmp 0), some 17⟩,
            ⟨.yes, .call ⟨.builtin .len, #[.tmp 17], #[28]⟩, some 18⟩,
            ⟨.yes, .binOp .lss 3 (.tmp 16) (.tmp 18) 3, some 19⟩,
            ⟨.yes, .move (.tmp 19), some 20⟩,
            ⟨.at 20 true, .move (.tmp 6), some 21⟩,
            ⟨.at 20 true, .binOp .lss 3 (.tmp 21) (.const (.int .i64 14)) 3, some 22⟩,
            ⟨.yes, .pick (.tmp 20) (.tmp 22) (.const (.bool false)), some 23⟩])
          (.keep [0, 1, 5, 6, 23] (.cond (.tmp 23)
           .skip
           (.exit 0))))
         (.keep [0, 1, 5, 6] (.jn ⟨[0, 1, 6], [(5, .sl 0)], [.own (.st (.prod (.int .i64) (.prod (.int .i64) (.list (.int .i64))))) true]⟩
          (.block 1 (.seq
            (.plan [⟨0, [], false, .pure, .yes, .move (.tmp 0), some 26⟩,
              ⟨1, [], false, .pure, .yes, .move (.tmp 6), some 27⟩,
              ⟨2, [], false, .pure, .yes, .indexAddr 28 (.tmp 26) (.tmp 27), some 28⟩,
              ⟨3, [], false, .read, .yes, .load 3 (.tmp 28), some 29⟩,
              ⟨4, [], false, .pure, .yes, .binOp .quo 3 (.tmp 29) (.const (.int .i64 7)) 3, some 30⟩,
              ⟨5, [], false, .pure, .yes, .move (.tmp 0), some 31⟩,
              ⟨6, [], false, .pure, .yes, .move (.tmp 6), some 32⟩,
              ⟨7, [], false, .pure, .yes, .indexAddr 28 (.tmp 31) (.tmp 32), some 33⟩,
              ⟨8, [], false, .read, .yes, .load 3 (.tmp 33), some 34⟩,
              ⟨9, [], false, .pure, .yes, .binOp .quo 3 (.tmp 34) (.const (.int .i64 101)) 3, some 35⟩,
              ⟨10, [], false, .pure, .yes, .move (.tmp 0), some 36⟩,
              ⟨11, [], false, .pure, .yes, .move (.tmp 6), some 37⟩,
              ⟨12, [], false, .pure, .yes, .indexAddr 28 (.tmp 36) (.tmp 37), some 38⟩,
              ⟨13, [], false, .read, .yes, .load 3 (.tmp 38), some 39⟩,
              ⟨14, [], false, .pure, .yes, .binOp .quo 3 (.tmp 39) (.const (.int .i64 1009)) 3, some 40⟩,
              ⟨15, [], false, .alloc, .yes, .buildSlice 28 3 #[(0, .tmp 30), (1, .tmp 35), (2, .tmp 40)], some 41⟩,
              ⟨16, [], false, .pure, .yes, .build 87 #[(0, .tmp 41)], some 42⟩,
              ⟨17, [], false, .alloc, .yes, .box 87 (.tmp 42), some 43⟩,
              ⟨18, [], false, .pure, .yes, .assign (.tmp 43), some 7⟩])
            (.keep [0, 1, 5, 6, 7] (.seq
             (.ops [⟨.yes, .move (.tmp 0), some 44⟩,
               ⟨.yes, .move (.tmp 6), some 45⟩,
               ⟨.yes, .indexAddr 28 (.tmp 44) (.tmp 45), some 46⟩,
               ⟨.yes, .load 3 (.tmp 46), some 47⟩,
               ⟨.yes, .call ⟨.value (.func 15), #[.tmp 47, .const (.int .i64 19)], #[3, 3]⟩, some 48⟩,
               ⟨.yes, .binOp .add 3 (.const (.int .i64 4)) (.tmp 48) 3, some 49⟩,
               ⟨.yes, .build 55 #[(0, .tmp 49)], some 50⟩,
               ⟨.yes, .alloc 55, some 8⟩,
               ⟨.yes, .store 55 (.tmp 8) (.tmp 50), none⟩])
             (.keep [0, 1, 5, 6, 7, 8] (.jn ⟨[0, 1, 6], [(5, .sl 0), (7, .bx 1 0), (8, .bx 2 0)], [.own (.st (.prod (.int .i64) (.prod (.int .i64) (.list (.int .i64))))) true, .box [.sl 3, .dat (.int .i64)] true, .box [.dat (.int .i64), .dat (.int .i64), .nils] true, .own (.int .i64) true]⟩
              (.jn ⟨[0, 1, 6], [(5, .sl 0), (7, .bx 1 0), (8, .bx 2 0), (60, .dat .bool)], [.own (.st (.prod (.int .i64) (.prod (.int .i64) (.list (.int .i64))))) true, .box [.sl 3, .dat (.int .i64)] true, .box [.dat (.int .i64), .dat (.int .i64), .nils] true, .own (.int .i64) true]⟩
               (.ops [⟨.yes, .move (.tmp 1), some 51⟩,
                 ⟨.yes, .unOp .not 4 (.tmp 51), some 52⟩,
                 ⟨.yes, .move (.tmp 52), some 53⟩,
                 ⟨.at 53 true, .move (.tmp 0), some 54⟩,
                 ⟨.at 53 true, .move (.tmp 6), some 55⟩,
                 ⟨.at 53 true, .indexAddr 28 (.tmp 54) (.tmp 55), some 56⟩,
                 ⟨.at 53 true, .load 3 (.tmp 56), some 57⟩,
                 ⟨.at 53 true, .call ⟨.value (.func 15), #[.tmp 57, .const (.int .i64 9)], #[3, 3]⟩, some 58⟩,
                 ⟨.at 53 true, .binOp .gtr 3 (.tmp 58) (.const (.int .i64 5)) 3, some 59⟩,
                 ⟨.yes, .pick (.tmp 53) (.tmp 59) (.const (.bool false)), some 60⟩])
               (.keep [0, 1, 5, 6, 7, 8, 60] (.cond (.tmp 60)
                (.ops [⟨.yes, .buildSlice 28 5 #[(0, .const (.int .i64 23)), (1, .const (.int .i64 27)), (2, .const (.int .i64 28)), (3, .const (.int .i64 29)), (4, .const (.int .i64 24))], some 61⟩,
                  ⟨.yes, .move (.tmp 0), some 62⟩,
                  ⟨.yes, .move (.tmp 6), some 63⟩,
                  ⟨.yes, .indexAddr 28 (.tmp 62) (.tmp 63), some 64⟩,
                  ⟨.yes, .load 3 (.tmp 64), some 65⟩,
                  ⟨.yes, .binOp .quo 3 (.tmp 65) (.const (.int .i64 9)) 3, some 66⟩,
                  ⟨.yes, .call ⟨.value (.func 15), #[.tmp 66, .const (.int .i64 5)], #[3, 3]⟩, some 67⟩,
                  ⟨.yes, .indexAddr 28 (.tmp 61) (.tmp 67), some 68⟩,
                  ⟨.yes, .load 3 (.tmp 68), some 69⟩,
                  ⟨.yes, .fieldAddr 55 (.tmp 8) 0, some 70⟩,
                  ⟨.yes, .store 3 (.tmp 70) (.tmp 69), none⟩])
                .skip)))
              (.keep [0, 1, 5, 6, 7, 8] (.jn ⟨[0, 1, 6], [(5, .sl 0), (7, .bx 1 0), (8, .bx 2 0)], [.own (.st (.prod (.int .i64) (.prod (.int .i64) (.list (.int .i64))))) true, .box [.sl 3, .dat (.int .i64)] true, .box [.dat (.int .i64), .dat (.int .i64), .nils] true, .own (.int .i64) true]⟩
               (.seq
                (.ops [⟨.yes, .move (.tmp 0), some 71⟩,
                  ⟨.yes, .move (.tmp 6), some 72⟩,
                  ⟨.yes, .indexAddr 28 (.tmp 71) (.tmp 72), some 73⟩,
                  ⟨.yes, .load 3 (.tmp 73), some 74⟩,
                  ⟨.yes, .call ⟨.value (.func 15), #[.tmp 74, .const (.int .i64 11)], #[3, 3]⟩, some 75⟩,
                  ⟨.yes, .binOp .eql 3 (.tmp 75) (.const (.int .i64 0)) 3, some 76⟩])
                (.keep [0, 1, 5, 6, 7, 8, 76] (.cond (.tmp 76)
                 (.plan [⟨0, [], false, .pure, .yes, .move (.tmp 0), some 77⟩,
                   ⟨1, [], false, .pure, .yes, .move (.tmp 6), some 78⟩,
                   ⟨2, [], false, .pure, .yes, .indexAddr 28 (.tmp 77) (.tmp 78), some 79⟩,
                   ⟨3, [], false, .read, .yes, .load 3 (.tmp 79), some 80⟩,
                   ⟨4, [], false, .pure, .yes, .binOp .quo 3 (.tmp 80) (.const (.int .i64 11)) 3, some 81⟩,
                   ⟨5, [], false, .pure, .yes, .move (.tmp 0), some 82⟩,
                   ⟨6, [], false, .pure, .yes, .move (.tmp 6), some 83⟩,
                   ⟨7, [], false, .pure, .yes, .indexAddr 28 (.tmp 82) (.tmp 83), some 84⟩,
                   ⟨8, [], false, .read, .yes, .load 3 (.tmp 84), some 85⟩,
                   ⟨9, [], false, .write, .yes, .call ⟨.value (.func 49), #[.tmp 81, .tmp 85], #[3, 2]⟩, some 86⟩,
                   ⟨10, [], false, .pure, .yes, .build 55 #[(0, .const (.int .i64 1)), (1, .tmp 86)], some 87⟩,
                   ⟨11, [], false, .write, .yes, .store 55 (.tmp 8) (.tmp 87), none⟩])
                 .skip)))
               (.keep [0, 1, 5, 6, 7, 8] (.seq
                (.ops [⟨.yes, .fieldAddr 55 (.tmp 8) 0, some 89⟩,
                  ⟨.yes, .load 3 (.tmp 89), some 90⟩,
                  ⟨.yes, .call ⟨.value (.func 50), #[.tmp 90], #[3]⟩, some 91⟩,
                  ⟨.yes, .move (.tmp 91), some 88⟩,
                  ⟨.yes, .extract (.tmp 88) 0, some 92⟩,
                  ⟨.yes, .extract (.tmp 88) 1, some 93⟩,
                  ⟨.yes, .assign (.tmp 92), some 9⟩,
                  ⟨.yes, .assign (.tmp 93), some 10⟩])
                (.keep [0, 1, 5, 6, 7, 8, 9] (.seq
                 (.seq
                  (.ops [⟨.yes, .assign (.const (.int .i64 0)), some 11⟩])
                  (.block 2 (.loop ⟨[0, 1, 6, 9], [(5, .sl 0), (7, .bx 1 0), (8, .bx 2 0), (11, .dat (.int .i64))], [.own (.st (.prod (.int .i64) (.prod (.int .i64) (.list (.int .i64))))) true, .box [.sl 3, .dat (.int .i64)] true, .box [.dat (.int .i64), .dat (.int .i64), .sl 4] true, .own (.int .i64) false, .own (.int .i64) true]⟩ (.keep [0, 1, 5, 6, 7, 8, 9, 11] (.seq
                     (.seq
                      (.ops [⟨.yes, .move (.tmp 11), some 94⟩,
                        ⟨.yes, .move (.tmp 9), some 95⟩,
                        ⟨.yes, .binOp .lss 3 (.tmp 94) (.tmp 95) 3, some 96⟩])
                      (.cond (.tmp 96)
                       .skip
                       (.exit 2)))
                     (.keep [0, 1, 5, 6, 7, 8, 9, 11] (.seq
                      (.block 3 (.plan [⟨0, [], false, .pure, .yes, .fieldAddr 55 (.tmp 8) 2, some 99⟩,
                         ⟨1, [], true, .read, .yes, .load 28 (.tmp 99), some 100⟩,
                         ⟨2, [], false, .pure, .yes, .move (.tmp 5), some 101⟩,
                         ⟨3, [], false, .pure, .yes, .fieldAddr 55 (.tmp 8) 0, some 102⟩,
                         ⟨4, [], false, .read, .yes, .load 3 (.tmp 102), some 103⟩,
                         ⟨5, [], false, .pure, .yes, .move (.tmp 11), some 104⟩,
                         ⟨7, [], false, .pure, .yes, .move (.tmp 7), some 106⟩,
                         ⟨6, [1], false, .write, .yes, .call ⟨.value (.func 52), #[.tmp 103, .tmp 104], #[3, 3]⟩, some 105⟩,
                         ⟨8, [1], false, .write, .yes, .call ⟨.value (.func 53), #[.tmp 106], #[85]⟩, some 107⟩,
                         ⟨9, [1], false, .write, .yes, .call ⟨.value (.func 51), #[.tmp 101, .tmp 105, .tmp 107], #[22, 3, 3]⟩, some 108⟩,
                         ⟨10, [1], false, .alloc, .yes, .buildSlice 28 1 #[(0, .tmp 108)], some 109⟩,
                         ⟨11, [], false, .write, .yes, .call ⟨.builtin .append, #[.tmp 100, .tmp 109], #[28, 28]⟩, some 110⟩,
                         ⟨12, [], false, .pure, .yes, .fieldAddr 55 (.tmp 8) 2, some 111⟩,
                         ⟨13, [], false, .write, .yes, .store 28 (.tmp 111) (.tmp 110), none⟩]))
                      (.keep [0, 1, 5, 6, 7, 8, 9, 11] (.ops [⟨.yes, .move (.tmp 11), some 97⟩,
                        ⟨.yes, .binOp .add 3 (.tmp 97) (.const (.int .i64 1)) 3, some 98⟩,
                        ⟨.yes, .assign (.tmp 98), some 11⟩])))))))))
                 (.keep [0, 1, 5, 6, 8] (.jn ⟨[0, 1, 6], [(5, .sl 0), (8, .bx 1 0)], [.own (.st (.prod (.int .i64) (.prod (.int .i64) (.list (.int .i64))))) true, .box [.dat (.int .i64), .dat (.int .i64), .sl 2] true, .own (.int .i64) true]⟩
                  (.seq
                   (.ops [⟨.yes, .fieldAddr 55 (.tmp 8) 0, some 112⟩,
                     ⟨.yes, .load 3 (.tmp 112), some 113⟩,
                     ⟨.yes, .binOp .eql 3 (.tmp 113) (.const (.int .i64 27)) 3, some 114⟩])
                   (.cond (.tmp 114)
                    (.ops [⟨.yes, .move (.tmp 0), some 115⟩,
                      ⟨.yes, .move (.tmp 6), some 116⟩,
                      ⟨.yes, .indexAddr 28 (.tmp 115) (.tmp 116), some 117⟩,
                      ⟨.yes, .load 3 (.tmp 117), some 118⟩,
                      ⟨.yes, .binOp .quo 3 (.tmp 118) (.const (.int .i64 5)) 3, some 119⟩,
                      ⟨.yes, .call ⟨.value (.func 15), #[.tmp 119, .const (.int .i64 2)], #[3, 3]⟩, some 120⟩,
                      ⟨.yes, .binOp .add 2 (.const (.int .i64 1)) (.tmp 120) 2, some 121⟩,
                      ⟨.yes, .fieldAddr 55 (.tmp 8) 1, some 122⟩,
                      ⟨.yes, .store 2 (.tmp 122) (.tmp 121), none⟩])
                    .skip))
                  (.keep [0, 1, 5, 6, 8] (.jn ⟨[0, 1, 6], [(5, .sl 0), (8, .bx 1 0)], [.own (.st (.prod (.int .i64) (.prod (.int .i64) (.list (.int .i64))))) true, .box [.dat (.int .i64), .dat (.int .i64), .sl 2] true, .own (.int .i64) true]⟩
                   (.jn ⟨[0, 1, 6], [(5, .sl 0), (8, .bx 1 0), (130, .dat .bool)], [.own (.st (.prod (.int .i64) (.prod (.int .i64) (.list (.int .i64))))) true, .box [.dat (.int .i64), .dat (.int .i64), .sl 2] true, .own (.int .i64) true]⟩
                    (.ops [⟨.yes, .fieldAddr 55 (.tmp 8) 0, some 123⟩,
                      ⟨.yes, .load 3 (.tmp 123), some 124⟩,
                      ⟨.yes, .binOp .eql 3 (.tmp 124) (.const (.int .i64 23)) 3, some 125⟩,
                      ⟨.yes, .move (.tmp 125), some 126⟩,
                      ⟨.at 126 false, .fieldAddr 55 (.tmp 8) 0, some 127⟩,
                      ⟨.at 126 false, .load 3 (.tmp 127), some 128⟩,
                      ⟨.at 126 false, .binOp .eql 3 (.tmp 128) (.const (.int .i64 28)) 3, some 129⟩,
                      ⟨.yes, .pick (.tmp 126) (.const (.bool true)) (.tmp 129), some 130⟩])
                    (.keep [0, 1, 5, 6, 8, 130] (.cond (.tmp 130)
                     (.ops [⟨.yes, .move (.tmp 0), some 131⟩,
                       ⟨.yes, .move (.tmp 6), some 132⟩,
                       ⟨.yes, .indexAddr 28 (.tmp 131) (.tmp 132), some 133⟩,
                       ⟨.yes, .load 3 (.tmp 133), some 134⟩,
                       ⟨.yes, .binOp .quo 3 (.tmp 134) (.const (.int .i64 5)) 3, some 135⟩,
                       ⟨.yes, .call ⟨.value (.func 15), #[.tmp 135, .const (.int .i64 2)], #[3, 3]⟩, some 136⟩,
                       ⟨.yes, .fieldAddr 55 (.tmp 8) 1, some 137⟩,
                       ⟨.yes, .store 2 (.tmp 137) (.tmp 136), none⟩])
                     .skip)))
                   (.keep [0, 1, 5, 6, 8] (.seq
                    (.ops [⟨.yes, .move (.tmp 5), some 138⟩,
                      ⟨.yes, .load 55 (.tmp 8), some 139⟩,
                      ⟨.yes, .call ⟨.value (.func 54), #[.tmp 138, .tmp 139], #[22, 55]⟩, some 140⟩,
                      ⟨.yes, .unOp .not 4 (.tmp 140), some 141⟩])
                    (.keep [0, 1, 5, 6, 8, 141] (.cond (.tmp 141)
                     (.ops [⟨.yes, .move (.tmp 5), some 142⟩,
                       ⟨.yes, .load 55 (.tmp 8), some 143⟩,
                       ⟨.yes, .buildSlice 22 1 #[(0, .tmp 143)], some 144⟩,
                       ⟨.yes, .call ⟨.builtin .append, #[.tmp 142, .tmp 144], #[22, 22]⟩, some 145⟩,
                       ⟨.yes, .assign (.tmp 145), some 5⟩])
                     .skip))))))))))))))))))))
          (.keep [0, 1, 5, 6] (.ops [⟨.yes, .move (.tmp 6), some 24⟩,
            ⟨.yes, .binOp .add 3 (.tmp 24) (.const (.int .i64 1)) 3, some 25⟩,
            ⟨.yes, .assign (.tmp 25), some 6⟩])))))))))
     (.keep [5] (.seq
      (.ops [⟨.yes, .move (.tmp 5), some 146⟩,
        ⟨.yes, .assign (.tmp 146), some 4⟩])
      .ret)))))), [.tmp 4]⟩
theorem is35 : IsFA P pol (planOf pol) 35 2 a35 := ⟨⟨_, _, Try.func35, rfl, rfl, rfl, by kernel_rfl⟩, by decide⟩
theorem ok35 : a35.c.ok = true := by kernel_rfl
theorem r35 (x : denL [(.list (.int .i64)), .bool]) : fun2 (env [(15, sp15), (49, sp49), (50, sp50), (51, sp51), (52, sp52), (54, sp54)] [(53, sp53)]) a35 [(.list (.int .i64)), .bool] [(.list (.st (.prod (.int .i64) (.prod (.int .i64) (.list (.int .i64))))))] x = F35 x.1 x.2 := by kernel_rfl
noncomputable def sp35 : FSp := ⟨[(.list (.int .i64)), .bool], [(.list (.st (.prod (.int .i64) (.prod (.int .i64) (.list (.int .i64))))))], fun x => F35 x.1 x.2⟩
theorem s35 : SpOk pol P 35 sp35 := fun x r h => fun_ok is35 (fun _ => rfl) (tyOk [(15, sp15), (49, sp49), (50, sp50), (51, sp51), (52, sp52), (54, sp54)] [(53, sp53)]) (kOk rfl rfl rfl (allC s15 (allC s49 (allC s50 (allC s51 (allC s52 (allC s54 allN)))))) (imC s53 imN)) ok35 rfl rfl ((r35 x).trans h)
end Go.Proofs.Ytffkjnaocflmdaa
namespace Go.Proofs.Ytffkjnaocflmdaa
open Go.Eng Go.Dat
set_option linter.unusedVariables false
-- 36 fulling/fullingkeep.Mutate
noncomputable def a36 : FA := ⟨111, (.seq
   (.ops [⟨.yes, .assign (.const (.slice none 0 0)), some 6⟩])
   (.seq
    (.ops [⟨.yes, .buildSlice 22 0 #[], some 10⟩,
      ⟨.yes, .move (.tmp 0), some 11⟩,
      ⟨.yes, .call ⟨.builtin .append, #[.tmp 10, .tmp 11], #[22, 22]⟩, some 12⟩,
      ⟨.yes, .assign (.tmp 12), some 7⟩])
    (.keep [1, 2, 7] (.seq
     (.seq
      (.ops [⟨.yes, .move (.tmp 7), some 13⟩,
        ⟨.yes, .call ⟨.builtin .len, #[.tmp 13], #[22]⟩, some 14⟩,
        ⟨.yes, .binOp .eql 3 (.tmp 14) (.const (.int .i64 0)) 3, some 15⟩])
      (.cond (.tmp 15)
       (.seq
        (.ops [⟨.yes, .move (.tmp 7), some 16⟩,
          ⟨.yes, .assign (.tmp 16), some 6⟩])
        .ret)
       .skip))
     (.keep [1, 2, 7] (.seq
      (.ops [⟨.yes, .move (.tmp 2), some 17⟩,
        ⟨.yes, .move (.tmp 7), some 18⟩,
        ⟨.yes, .call ⟨.builtin .len, #[.tmp 18], #[22]⟩, some 19⟩,
        ⟨.yes, .call ⟨.value (.func 15), #[.tmp 17, .tmp 19], #[3, 3]⟩, some 20⟩,
        ⟨.yes, .assign (.tmp 20), some 8⟩])
      (.keep [1, 2, 7, 8] (.seq
       (.ops [⟨.yes, .move (.tmp 7), some 21⟩,
         ⟨.yes, .move (.tmp 8), some 22⟩,
         ⟨.yes, .indexAddr 22 (.tmp 21) (.tmp 22), some 23⟩,
         ⟨.yes, .load 55 (.tmp 23), some 24⟩,
         ⟨.yes, .alloc 55, some 9⟩,
         ⟨.yes, .store 55 (.tmp 9) (.tmp 24), none⟩])
       (.keep [1, 2, 7, 8, 9] (.seq
        (.ops [⟨.yes, .buildSlice 28 0 #[], some 25⟩,
          ⟨.yes, .fieldAddr 55 (.tmp 9) 2, some 26⟩,
          ⟨.yes, .load 28 (.tmp 26), some 27⟩,
          ⟨.yes, .call ⟨.builtin .append, #[.tmp 25, .tmp 27], #[28, 28]⟩, some 28⟩,
          ⟨.yes, .fieldAddr 55 (.tmp 9) 2, some 29⟩,
          ⟨.yes, .store 28 (.tmp 29) (.tmp 28), none⟩])
        (.keep [1, 2, 7, 8, 9] (.jn ⟨[8], [(7, .sl 0), (9, .bx 1 0)], [.own (.st (.prod (.int .i64) (.prod (.int .i64) (.list (.int .i64))))) true, .box [.dat (.int .i64), .dat (.int .i64), .sl 2] true, .own (.int .i64) false]⟩
         (.seq
          (.ops [⟨.yes, .move (.tmp 1), some 30⟩,
            ⟨.yes, .call ⟨.value (.func 15), #[.tmp 30, .const (.int .i64 10)], #[3, 3]⟩, some 31⟩])
          (.block 0 (.seq
            (.ops [⟨.yes, .binOp .eql 3 (.tmp 31) (.const (.int .i64 0)) 3, some 33⟩,
              ⟨.yes, .assign (.tmp 33), some 32⟩])
            (.cond (.tmp 32)
             (.ops [⟨.yes, .move (.tmp 1), some 34⟩,
               ⟨.yes, .binOp .quo 3 (.tmp 34) (.const (.int .i64 10)) 3, some 35⟩,
               ⟨.yes, .call ⟨.value (.func 15), #[.tmp 35, .const (.int .i64 36)], #[3, 3]⟩, some 36⟩,
               ⟨.yes, .binOp .sub 3 (.tmp 36) (.const (.int .i64 1)) 3, some 37⟩,
               ⟨.yes, .fieldAddr 55 (.tmp 9) 0, some 38⟩,
               ⟨.yes, .store 3 (.tmp 38) (.tmp 37), none⟩])
             (.seq
              (.ops [⟨.yes, .binOp .eql 3 (.tmp 31) (.const (.int .i64 1)) 3, some 40⟩,
                ⟨.yes, .assign (.tmp 40), some 39⟩])
              (.cond (.tmp 39)
               (.ops [⟨.yes, .move (.tmp 1), some 41⟩,
                 ⟨.yes, .binOp .quo 3 (.tmp 41) (.const (.int .i64 10)) 3, some 42⟩,
                 ⟨.yes, .call ⟨.value (.func 15), #[.tmp 42, .const (.int .i64 300)], #[3, 3]⟩, some 43⟩,
                 ⟨.yes, .binOp .sub 3 (.tmp 43) (.const (.int .i64 3)) 3, some 44⟩,
                 ⟨.yes, .fieldAddr 55 (.tmp 9) 1, some 45⟩,
                 ⟨.yes, .store 2 (.tmp 45) (.tmp 44), none⟩])
               (.seq
                (.ops [⟨.yes, .binOp .eql 3 (.tmp 31) (.const (.int .i64 2)) 3, some 47⟩,
                  ⟨.yes, .assign (.tmp 47), some 46⟩])
                (.cond (.tmp 46)
                 (.plan [⟨0, [], false, .pure, .yes, .fieldAddr 55 (.tmp 9) 2, some 48⟩,
                   ⟨1, [], true, .read, .yes, .load 28 (.tmp 48), some 49⟩,
                   ⟨2, [], false, .pure, .yes, .move (.tmp 1), some 50⟩,
                   ⟨3, [], false, .pure, .yes, .binOp .quo 3 (.tmp 50) (.const (.int .i64 10)) 3, some 51⟩,
                   ⟨4, [], false, .pure, .yes, .move (.tmp 7), some 52⟩,
                   ⟨5, [], false, .read, .yes, .call ⟨.builtin .len, #[.tmp 52], #[22]⟩, some 53⟩,
                   ⟨6, [], false, .pure, .yes, .binOp .add 3 (.tmp 53) (.const (.int .i64 2)) 3, some 54⟩,
                   ⟨7, [1], false, .write, .yes, .call ⟨.value (.func 15), #[.tmp 51, .tmp 54], #[3, 3]⟩, some 55⟩,
                   ⟨8, [], false, .pure, .yes, .binOp .sub 3 (.tmp 55) (.const (.int .i64 1)) 3, some 56⟩,
                   ⟨9, [1], false, .alloc, .yes, .buildSlice 28 1 #[(0, .tmp 56)], some 57⟩,
                   ⟨10, [], false, .write, .yes, .call ⟨.builtin .append, #[.tmp 49, .tmp 57], #[28, 28]⟩, some 58⟩,
                   ⟨11, [], false, .pure, .yes, .fieldAddr 55 (.tmp 9) 2, some 59⟩,
                   ⟨12, [], false, .write, .yes, .store 28 (.tmp 59) (.tmp 58), none⟩])
                 (.seq
                  (.ops [⟨.yes, .binOp .eql 3 (.tmp 31) (.const (.int .i64 3)) 3, some 61⟩,
                    ⟨.yes, .assign (.tmp 61), some 60⟩])
                  (.cond (.tmp 60)
                   (.seq
                    (.ops [⟨.yes, .fieldAddr 55 (.tmp 9) 2, some 62⟩,
                      ⟨.yes, .load 28 (.tmp 62), some 63⟩,
                      ⟨.yes, .call ⟨.builtin .len, #[.tmp 63], #[28]⟩, some 64⟩,
                      ⟨.yes, .binOp .gtr 3 (.tmp 64) (.const (.int .i64 0)) 3, some 65⟩])
                    (.keep [1, 2, 7, 8, 9, 65] (.cond (.tmp 65)
                     (.plan [⟨0, [], false, .pure, .yes, .fieldAddr 55 (.tmp 9) 2, some 66⟩,
                       ⟨1, [], true, .read, .yes, .load 28 (.tmp 66), some 67⟩,
                       ⟨2, [], false, .pure, .yes, .move (.tmp 1), some 68⟩,
                       ⟨3, [], false, .pure, .yes, .binOp .quo 3 (.tmp 68) (.const (.int .i64 10)) 3, some 69⟩,
                       ⟨4, [], false, .pure, .yes, .fieldAddr 55 (.tmp 9) 2, some 70⟩,
                       ⟨5, [], false, .read, .yes, .load 28 (.tmp 70), some 71⟩,
                       ⟨6, [], false, .read, .yes, .call ⟨.builtin .len, #[.tmp 71], #[28]⟩, some 72⟩,
                       ⟨8, [], false, .pure, .yes, .move (.tmp 2), some 74⟩,
                       ⟨9, [], false, .pure, .yes, .binOp .quo 3 (.tmp 74) (.const (.int .i64 3)) 3, some 75⟩,
                       ⟨10, [], false, .pure, .yes, .move (.tmp 7), some 76⟩,
                       ⟨11, [], true, .read, .yes, .call ⟨.builtin .len, #[.tmp 76], #[22]⟩, some 77⟩,
                       ⟨12, [], false, .pure, .yes, .binOp .add 3 (.tmp 77) (.const (.int .i64 2)) 3, some 78⟩,
                       ⟨7, [1, 11], false, .write, .yes, .call ⟨.value (.func 15), #[.tmp 69, .tmp 72], #[3, 3]⟩, some 73⟩,
                       ⟨13, [1], false, .write, .yes, .call ⟨.value (.func 15), #[.tmp 75, .tmp 78], #[3, 3]⟩, some 79⟩,
                       ⟨14, [], false, .pure, .yes, .binOp .sub 3 (.tmp 79) (.const (.int .i64 1)) 3, some 80⟩,
                       ⟨15, [], false, .pure, .yes, .indexAddr 28 (.tmp 67) (.tmp 73), some 81⟩,
                       ⟨16, [], false, .write, .yes, .store 3 (.tmp 81) (.tmp 80), none⟩])
                     .skip)))
                   (.seq
                    (.ops [⟨.yes, .binOp .eql 3 (.tmp 31) (.const (.int .i64 4)) 3, some 83⟩,
                      ⟨.yes, .assign (.tmp 83), some 82⟩])
                    (.cond (.tmp 82)
                     (.seq
                      (.ops [⟨.yes, .fieldAddr 55 (.tmp 9) 2, some 84⟩,
                        ⟨.yes, .load 28 (.tmp 84), some 85⟩,
                        ⟨.yes, .call ⟨.builtin .len, #[.tmp 85], #[28]⟩, some 86⟩,
                        ⟨.yes, .binOp .gtr 3 (.tmp 86) (.const (.int .i64 0)) 3, some 87⟩])
                      (.keep [7, 8, 9, 87] (.cond (.tmp 87)
                       (.ops [⟨.yes, .fieldAddr 55 (.tmp 9) 2, some 88⟩,
                         ⟨.yes, .load 28 (.tmp 88), some 89⟩,
                         ⟨.yes, .slice 28 (.tmp 89) (some (.const (.int .i64 1))) none none, some 90⟩,
                         ⟨.yes, .fieldAddr 55 (.tmp 9) 2, some 91⟩,
                         ⟨.yes, .store 28 (.tmp 91) (.tmp 90), none⟩])
                       .skip)))
                     (.seq
                      (.ops [⟨.yes, .binOp .eql 3 (.tmp 31) (.const (.int .i64 5)) 3, some 93⟩,
                        ⟨.yes, .assign (.tmp 93), some 92⟩])
                      (.cond (.tmp 92)
                       (.ops [⟨.yes, .move (.tmp 7), some 94⟩,
                         ⟨.yes, .load 55 (.tmp 9), some 95⟩,
                         ⟨.yes, .buildSlice 22 1 #[(0, .tmp 95)], some 96⟩,
                         ⟨.yes, .call ⟨.builtin .append, #[.tmp 94, .tmp 96], #[22, 22]⟩, some 97⟩,
                         ⟨.yes, .assign (.tmp 97), some 7⟩])
                       (.seq
                        (.ops [⟨.yes, .binOp .eql 3 (.tmp 31) (.const (.int .i64 6)) 3, some 99⟩,
                          ⟨.yes, .assign (.tmp 99), some 98⟩])
                        (.cond (.tmp 98)
                         (.seq
                          (.ops [⟨.yes, .fieldAddr 55 (.tmp 9) 0, some 100⟩,
                            ⟨.yes, .store 3 (.tmp 100) (.const (.int .i64 3)), none⟩])
                          (.seq
                           (.ops [⟨.yes, .move (.tmp 1), some 101⟩,
                             ⟨.yes, .binOp .quo 3 (.tmp 101) (.const (.int .i64 10)) 3, some 102⟩,
                             ⟨.yes, .call ⟨.value (.func 15), #[.tmp 102, .const (.int .i64 40)], #[3, 3]⟩, some 103⟩,
                             ⟨.yes, .fieldAddr 55 (.tmp 9) 1, some 104⟩,
                             ⟨.yes, .store 2 (.tmp 104) (.tmp 103), none⟩])
                           (.keep [7, 8, 9] (.ops [⟨.yes, .fieldAddr 55 (.tmp 9) 2, some 105⟩,
                             ⟨.yes, .store 28 (.tmp 105) (.const (.slice none 0 0)), none⟩]))))
                         .skip))))))))))))))))
         (.keep [7, 8, 9] (.seq
          (.ops [⟨.yes, .move (.tmp 7), some 106⟩,
            ⟨.yes, .move (.tmp 8), some 107⟩,
            ⟨.yes, .load 55 (.tmp 9), some 108⟩,
            ⟨.yes, .indexAddr 22 (.tmp 106) (.tmp 107), some 109⟩,
            ⟨.yes, .store 55 (.tmp 109) (.tmp 108), none⟩])
          (.keep [7] (.seq
           (.ops [⟨.yes, .move (.tmp 7), some 110⟩,
             ⟨.yes, .assign (.tmp 110), some 6⟩])
           .ret)))))))))))))))), [.tmp 6]⟩
theorem is36 : IsFA P pol (planOf pol) 36 3 a36 := ⟨⟨_, _, Try.func36, rfl, rfl, rfl, by kernel_rfl⟩, by decide⟩
theorem ok36 : a36.c.ok = true := by kernel_rfl
theorem r36 (x : denL [(.list (.st (.prod (.int .i64) (.prod (.int .i64) (.list (.int .i64)))))), (.int .i64), (.int .i64)]) : fun2 (env [(15, sp15)] []) a36 [(.list (.st (.prod (.int .i64) (.prod (.int .i64) (.list (.int .i64)))))), (.int .i64), (.int .i64)] [(.list (.st (.prod (.int .i64) (.prod (.int .i64) (.list (.int .i64))))))] x = F36 x.1 x.2.1 x.2.2 := by kernel_rfl
noncomputable def sp36 : FSp := ⟨[(.list (.st (.prod (.int .i64) (.prod (.int .i64) (.list (.int .i64)))))), (.int .i64), (.int .i64)], [(.list (.st (.prod (.int .i64) (.prod (.int .i64) (.list (.int .i64))))))], fun x => F36 x.1 x.2.1 x.2.2⟩
theorem s36 : SpOk pol P 36 sp36 := fun x r h => fun_ok is36 (fun _ => rfl) (tyOk [(15, sp15)] []) (kOk rfl rfl rfl (allC s15 allN) imN) ok36 rfl rfl ((r36 x).trans h)
end Go.Proofs.Ytffkjnaocflmdaa
namespace Go.Proofs.Ytffkjnaocflmdaa
open Go.Eng Go.Dat
set_option linter.unusedVariables false
-- 38 fulling/fullingkeep2.last
noncomputable def a38 : FA := ⟨49, (.seq
   (.ops [⟨.yes, .assign (.const (.int .i64 0)), some 4⟩])
   (.seq
    (.seq
     (.ops [⟨.yes, .move (.tmp 0), some 7⟩,
       ⟨.yes, .call ⟨.builtin .len, #[.tmp 7], #[22]⟩, some 8⟩,
       ⟨.yes, .binOp .sub 3 (.tmp 8) (.const (.int .i64 1)) 3, some 9⟩,
       ⟨.yes, .assign (.tmp 9), some 5⟩])
     (.keep [0, 1, 5] (.block 0 (.loop ⟨[0, 1], [(5, .dat (.int .i64))], []⟩ (.keep [0, 1, 5] (.seq
        (.seq
         (.ops [⟨.yes, .move (.tmp 5), some 10⟩,
           ⟨.yes, .binOp .geq 3 (.tmp 10) (.const (.int .i64 0)) 3, some 11⟩])
         (.cond (.tmp 11)
          .skip
          (.exit 0)))
        (.keep [0, 1, 5] (.seq
         (.block 1 (.jn ⟨[0, 1, 5], [(6, .dat .bool)], []⟩
           (.ops [⟨.yes, .move (.tmp 0), some 14⟩,
             ⟨.yes, .move (.tmp 5), some 15⟩,
             ⟨.yes, .indexAddr 22 (.tmp 14) (.tmp 15), some 16⟩,
             ⟨.yes, .fieldAddr 55 (.tmp 16) 0, some 17⟩,
             ⟨.yes, .load 3 (.tmp 17), some 18⟩,
             ⟨.yes, .binOp .geq 3 (.tmp 18) (.const (.int .i64 1)) 3, some 19⟩,
             ⟨.yes, .move (.tmp 19), some 20⟩,
             ⟨.at 20 true, .move (.tmp 0), some 21⟩,
             ⟨.at 20 true, .move (.tmp 5), some 22⟩,
             ⟨.at 20 true, .indexAddr 22 (.tmp 21) (.tmp 22), some 23⟩,
             ⟨.at 20 true, .fieldAddr 55 (.tmp 23) 0, some 24⟩,
             ⟨.at 20 true, .load 3 (.tmp 24), some 25⟩,
             ⟨.at 20 true, .binOp .leq 3 (.tmp 25) (.const (.int .i64 24)) 3, some 26⟩,
             ⟨.yes, .pick (.tmp 20) (.tmp 26) (.const (.bool false)), some 27⟩,
             ⟨.yes, .move (.tmp 27), some 28⟩,
             ⟨.at 28 false, .move (.tmp 0), some 29⟩,
             ⟨.at 28 false, .move (.tmp 5), some 30⟩,
             ⟨.at 28 false, .indexAddr 22 (.tmp 29) (.tmp 30), some 31⟩,
             ⟨.at 28 false, .fieldAddr 55 (.tmp 31) 0, some 32⟩,
             ⟨.at 28 false, .load 3 (.tmp 32), some 33⟩,
             ⟨.at 28 false, .binOp .eql 3 (.tmp 33) (.const (.int .i64 25)) 3, some 34⟩,
             ⟨.at 28 false, .move (.tmp 34), some 35⟩,
             ⟨.at 35 true, .move (.tmp 0), some 36⟩,
             ⟨.at 35 true, .move (.tmp 5), some 37⟩,
             ⟨.at 35 true, .indexAddr 22 (.tmp 36) (.tmp 37), some 38⟩,
             ⟨.at 35 true, .fieldAddr 55 (.tmp 38) 1, some 39⟩,
             ⟨.at 35 true, .load 2 (.tmp 39), some 40⟩,
             ⟨.at 35 true, .binOp .neq 2 (.tmp 40) (.const (.int .i64 0)) 2, some 41⟩,
             ⟨.at 28 false, .pick (.tmp 35) (.tmp 41) (.const (.bool false)), some 42⟩,
             ⟨.yes, .pick (.tmp 28) (.const (.bool true)) (.tmp 42), some 43⟩,
             ⟨.yes, .assign (.tmp 43), some 6⟩])
           (.keep [0, 1, 5, 6] (.seq
            (.ops [⟨.yes, .move (.tmp 6), some 44⟩,
              ⟨.yes, .move (.tmp 1), some 45⟩,
              ⟨.yes, .binOp .eql 3 (.tmp 45) (.const (.int .i64 1)) 3, some 46⟩,
              ⟨.yes, .binOp .eql 4 (.tmp 44) (.tmp 46) 4, some 47⟩])
            (.keep [0, 1, 5, 47] (.cond (.tmp 47)
             (.seq
              (.ops [⟨.yes, .move (.tmp 5), some 48⟩,
                ⟨.yes, .assign (.tmp 48), some 4⟩])
              .ret)
             .skip))))))
         (.keep [0, 1, 5] (.ops [⟨.yes, .move (.tmp 5), some 12⟩,
           ⟨.yes, .binOp .sub 3 (.tmp 12) (.const (.int .i64 1)) 3, some 13⟩,
           ⟨.yes, .assign (.tmp 13), some 5⟩]))))))))))
    (.keep [] (.seq
     (.ops [⟨.yes, .assign (.const (.int .i64 0)), some 4⟩])
     .ret)))), [.tmp 4]⟩
theorem is38 : IsFA P pol (planOf pol) 38 2 a38 := ⟨⟨_, _, Try.func38, rfl, rfl, rfl, by kernel_rfl⟩, by decide⟩
theorem ok38 : a38.c.ok = true := by kernel_rfl
theorem r38 (x : denL [(.list (.st (.prod (.int .i64) (.prod (.int .i64) (.list (.int .i64)))))), (.int .i64)]) : fun2 (env [] []) a38 [(.list (.st (.prod (.int .i64) (.prod (.int .i64) (.list (.int .i64)))))), (.int .i64)] [(.int .i64)] x = F38 x.1 x.2 := by kernel_rfl
noncomputable def sp38 : FSp := ⟨[(.list (.st (.prod (.int .i64) (.prod (.int .i64) (.list (.int .i64)))))), (.int .i64)], [(.int .i64)], fun x => F38 x.1 x.2⟩
theorem s38 : SpOk pol P 38 sp38 := fun x r h => fun_ok is38 (fun _ => rfl) (tyOk [] []) (kOk rfl rfl rfl allN imN) ok38 rfl rfl ((r38 x).trans h)
end Go.Proofs.Ytffkjnaocflmdaa
namespace Go.Proofs.Ytffkjnaocflmdaa
open Go.Eng Go.Dat
set_option linter.unusedVariables false
-- 37 (*fulling/fullingkeep2.Digits).Next
noncomputable def a37 : FA := ⟨24, (.seq
   (.ops [⟨.yes, .assign (.const (.int .i64 0)), some 4⟩])
   (.seq
    (.ops [⟨.yes, .move (.tmp 0), some 6⟩,
      ⟨.yes, .nilCheck (.tmp 6), some 7⟩,
      ⟨.yes, .fieldAddr 73 (.tmp 7) 0, some 8⟩,
      ⟨.yes, .load 3 (.tmp 8), some 9⟩,
      ⟨.yes, .move (.tmp 1), some 10⟩,
      ⟨.yes, .call ⟨.value (.func 15), #[.tmp 9, .tmp 10], #[3, 3]⟩, some 11⟩,
      ⟨.yes, .assign (.tmp 11), some 5⟩])
    (.keep [0, 1, 5] (.seq
     (.ops [⟨.yes, .move (.tmp 0), some 12⟩,
       ⟨.yes, .move (.tmp 0), some 13⟩,
       ⟨.yes, .nilCheck (.tmp 13), some 14⟩,
       ⟨.yes, .fieldAddr 73 (.tmp 14) 0, some 15⟩,
       ⟨.yes, .load 3 (.tmp 15), some 16⟩,
       ⟨.yes, .move (.tmp 5), some 17⟩,
       ⟨.yes, .binOp .sub 3 (.tmp 16) (.tmp 17) 3, some 18⟩,
       ⟨.yes, .move (.tmp 1), some 19⟩,
       ⟨.yes, .binOp .quo 3 (.tmp 18) (.tmp 19) 3, some 20⟩,
       ⟨.yes, .nilCheck (.tmp 12), some 21⟩,
       ⟨.yes, .fieldAddr 73 (.tmp 21) 0, some 22⟩,
       ⟨.yes, .store 3 (.tmp 22) (.tmp 20), none⟩])
     (.keep [5, 0] (.seq
      (.ops [⟨.yes, .move (.tmp 5), some 23⟩,
        ⟨.yes, .assign (.tmp 23), some 4⟩])
      .ret)))))), [.tmp 4]⟩
theorem is37 : IsFA P pol (planOf pol) 37 2 a37 := ⟨⟨_, _, Try.func37, rfl, rfl, rfl, by kernel_rfl⟩, by decide⟩
theorem ok37 : a37.c.ok = true := by kernel_rfl
noncomputable def sp37 : ISpec := ⟨[.bx 0 0, .dat (.int .i64)], [.box [.dat (.int .i64)] true], 1, [.dat (.int .i64)], [(0, .bx 0 0)], [.box [.dat (.int .i64)] true], fun (x : Int × Int) => (F37 x.1 x.2 : Option (Int × Int))⟩
theorem r37 (x : Int × Int) : ifun2 (env [(15, sp15)] []) a37 sp37.ins sp37.cks sp37.outs sp37.anc sp37.couts x = F37 x.1 x.2 := by kernel_rfl
theorem s37 : ImOk pol P 37 sp37 := ifun_ok is37 rfl (tyOk [(15, sp15)] []) (kOk rfl rfl rfl (allC s15 allN) imN) ok37 (by kernel_rfl) (by kernel_rfl) (by kernel_rfl) rfl rfl (by kernel_rfl) (fun x => r37 x)
end Go.Proofs.Ytffkjnaocflmdaa
namespace Go.Proofs.Ytffkjnaocflmdaa
open Go.Eng Go.Dat
set_option linter.unusedVariables false
-- 13 fulling/fullingkeep2.RawSaturation
noncomputable def a13 : FA := ⟨102, (.seq
   (.ops [⟨.yes, .alloc 26, some 8⟩])
   (.seq
    (.ops [⟨.yes, .move (.tmp 0), some 15⟩,
      ⟨.yes, .call ⟨.value (.func 35), #[.tmp 15, .const (.bool false)], #[28, 4]⟩, some 16⟩,
      ⟨.yes, .build 26 #[(0, .tmp 16), (3, .const (.int .i64 0)), (4, .const (.int .i64 2))], some 17⟩,
      ⟨.yes, .alloc 26, some 9⟩,
      ⟨.yes, .store 26 (.tmp 9) (.tmp 17), none⟩])
    (.keep [1, 2, 3, 8, 9] (.jn ⟨[1], [(8, .bx 0 0), (9, .bx 1 0)], [.box [.nils, .nils, .nils, .dat (.int .i64), .dat (.int .i64), .dat (.int .i64), .dat (.int .i64)] true, .box [.dat (.list (.st (.prod (.int .i64) (.prod (.int .i64) (.list (.int .i64)))))), .nils, .nils, .dat (.int .i64), .dat (.int .i64), .dat (.int .i64), .dat (.int .i64)] true]⟩
     (.seq
      (.ops [⟨.yes, .move (.tmp 2), some 18⟩,
        ⟨.yes, .call ⟨.value (.func 15), #[.tmp 18, .const (.int .i64 3)], #[3, 3]⟩, some 19⟩,
        ⟨.yes, .binOp .eql 3 (.tmp 19) (.const (.int .i64 1)) 3, some 20⟩])
      (.cond (.tmp 20)
       (.ops [⟨.yes, .fieldAddr 26 (.tmp 9) 0, some 21⟩,
         ⟨.yes, .load 22 (.tmp 21), some 22⟩,
         ⟨.yes, .move (.tmp 2), some 23⟩,
         ⟨.yes, .binOp .quo 3 (.tmp 23) (.const (.int .i64 3)) 3, some 24⟩,
         ⟨.yes, .move (.tmp 3), some 25⟩,
         ⟨.yes, .call ⟨.value (.func 36), #[.tmp 22, .tmp 24, .tmp 25], #[22, 3, 3]⟩, some 26⟩,
         ⟨.yes, .fieldAddr 26 (.tmp 9) 0, some 27⟩,
         ⟨.yes, .store 22 (.tmp 27) (.tmp 26), none⟩])
       .skip))
     (.keep [1, 8, 9] (.seq
      (.ops [⟨.yes, .fieldAddr 26 (.tmp 9) 0, some 28⟩,
        ⟨.yes, .load 22 (.tmp 28), some 29⟩,
        ⟨.yes, .call ⟨.builtin .len, #[.tmp 29], #[22]⟩, some 30⟩,
        ⟨.yes, .assign (.tmp 30), some 10⟩])
      (.keep [1, 8, 9, 10] (.seq
       (.seq
        (.ops [⟨.yes, .assign (.const (.int .i64 0)), some 11⟩])
        (.block 0 (.loop ⟨[1, 10], [(8, .bx 0 0), (9, .bx 1 0), (11, .dat (.int .i64))], [.box [.nils, .nils, .nils, .dat (.int .i64), .dat (.int .i64), .dat (.int .i64), .dat (.int .i64)] true, .box [.dat (.list (.st (.prod (.int .i64) (.prod (.int .i64) (.list (.int .i64)))))), .sl 2, .nils, .dat (.int .i64), .dat (.int .i64), .dat (.int .i64), .dat (.int .i64)] true, .own (.st (.prod (.int .i64) (.prod (.int .i64) (.prod (.int .i64) (.prod (.list (.int .i64)) (.list (.int .i64))))))) true]⟩ (.keep [1, 8, 9, 10, 11] (.seq
           (.jn ⟨[1, 10, 11], [(8, .bx 0 0), (9, .bx 1 0), (38, .dat .bool)], [.box [.nils, .nils, .nils, .dat (.int .i64), .dat (.int .i64), .dat (.int .i64), .dat (.int .i64)] true, .box [.dat (.list (.st (.prod (.int .i64) (.prod (.int .i64) (.list (.int .i64)))))), .sl 2, .nils, .dat (.int .i64), .dat (.int .i64), .dat (.int .i64), .dat (.int .i64)] true, .own (.st (.prod (.int .i64) (.prod (.int .i64) (.prod (.int .i64) (.prod (.list (.int .i64)) (.list (.int .i64))))))) true]⟩
            (.ops [⟨.yes, .move (.tmp 11), some 31⟩,
              ⟨.yes, .move (.tmp 1), some 32⟩,
              ⟨.yes, .call ⟨.builtin .len, #[.tmp 32], #[28]⟩, some 33⟩,
              ⟨.yes, .binOp .lss 3 (.tmp 31) (.tmp 33) 3, some 34⟩,
              ⟨.yes, .move (.tmp 34), some 35⟩,
              ⟨.at 35 true, .move (.tmp 11), some 36⟩,
              ⟨.at 35 true, .binOp .lss 3 (.tmp 36) (.const (.int .i64 16)) 3, some 37⟩,
              ⟨.yes, .pick (.tmp 35) (.tmp 37) (.const (.bool false)), some 38⟩])
            (.keep [1, 8, 9, 10, 11, 38] (.cond (.tmp 38)
             .skip
             (.exit 0))))
           (.keep [1, 8, 9, 10, 11] (.seq
            (.block 1 (.seq
              (.ops [⟨.yes, .move (.tmp 1), some 41⟩,
                ⟨.yes, .move (.tmp 11), some 42⟩,
                ⟨.yes, .indexAddr 28 (.tmp 41) (.tmp 42), some 43⟩,
                ⟨.yes, .load 3 (.tmp 43), some 44⟩,
                ⟨.yes, .build 73 #[(0, .tmp 44)], some 45⟩,
                ⟨.yes, .box 73 (.tmp 45), some 46⟩,
                ⟨.yes, .assign (.tmp 46), some 12⟩])
              (.keep [1, 8, 9, 10, 11, 12] (.seq
               (.plan [⟨0, [], true, .alloc, .yes, .buildSlice 28 5 #[(0, .const (.int .i64 0)), (1, .const (.int .i64 1)), (2, .const (.int .i64 (-1))), (3, .const (.int .i64 2)), (4, .const (.int .i64 1))], some 47⟩,
                 ⟨1, [], false, .pure, .yes, .move (.tmp 12), some 48⟩,
                 ⟨5, [], false, .pure, .yes, .move (.tmp 12), some 52⟩,
                 ⟨6, [], false, .pure, .yes, .move (.tmp 10), some 53⟩,
                 ⟨7, [], false, .pure, .yes, .binOp .add 3 (.tmp 53) (.const (.int .i64 1)) 3, some 54⟩,
                 ⟨9, [], false, .pure, .yes, .move (.tmp 12), some 56⟩,
                 ⟨10, [], false, .pure, .yes, .move (.tmp 10), some 57⟩,
                 ⟨11, [], false, .pure, .yes, .binOp .add 3 (.tmp 57) (.const (.int .i64 1)) 3, some 58⟩,
                 ⟨14, [], true, .alloc, .yes, .alloc 44, some 13⟩,
                 ⟨2, [0, 14], false, .write, .yes, .call ⟨.value (.func 37), #[.tmp 48, .const (.int .i64 5)], #[71, 3]⟩, some 49⟩,
                 ⟨3, [], false, .pure, .yes, .indexAddr 28 (.tmp 47) (.tmp 49), some 50⟩,
                 ⟨4, [14], true, .read, .yes, .load 3 (.tmp 50), some 51⟩,
                 ⟨8, [0, 14, 4], false, .write, .yes, .call ⟨.value (.func 37), #[.tmp 52, .tmp 54], #[71, 3]⟩, some 55⟩,
                 ⟨12, [0, 14, 4], false, .write, .yes, .call ⟨.value (.func 37), #[.tmp 56, .tmp 58], #[71, 3]⟩, some 59⟩,
                 ⟨13, [], false, .pure, .yes, .build 44 #[(2, .tmp 51), (0, .tmp 55), (1, .tmp 59)], some 60⟩,
                 ⟨15, [], false, .write, .yes, .store 44 (.tmp 13) (.tmp 60), none⟩])
               (.keep [1, 8, 9, 10, 11, 12, 13] (.jn ⟨[1, 10, 11], [(8, .bx 0 0), (9, .bx 1 0), (12, .bx 2 0), (13, .bx 3 0)], [.box [.nils, .nils, .nils, .dat (.int .i64), .dat (.int .i64), .dat (.int .i64), .dat (.int .i64)] true, .box [.dat (.list (.st (.prod (.int .i64) (.prod (.int .i64) (.list (.int .i64)))))), .sl 4, .nils, .dat (.int .i64), .dat (.int .i64), .dat (.int .i64), .dat (.int .i64)] true, .box [.dat (.int .i64)] true, .box [.dat (.int .i64), .dat (.int .i64), .dat (.int .i64), .nils, .nils] true, .own (.st (.prod (.int .i64) (.prod (.int .i64) (.prod (.int .i64) (.prod (.list (.int .i64)) (.list (.int .i64))))))) true]⟩
                (.seq
                 (.ops [⟨.yes, .fieldAddr 44 (.tmp 13) 0, some 61⟩,
                   ⟨.yes, .load 3 (.tmp 61), some 62⟩,
                   ⟨.yes, .move (.tmp 10), some 63⟩,
                   ⟨.yes, .binOp .eql 3 (.tmp 62) (.tmp 63) 3, some 64⟩])
                 (.keep [1, 8, 9, 10, 11, 12, 13, 64] (.cond (.tmp 64)
                  (.ops [⟨.yes, .move (.tmp 12), some 65⟩,
                    ⟨.yes, .call ⟨.value (.func 37), #[.tmp 65, .const (.int .i64 2)], #[71, 3]⟩, some 66⟩,
                    ⟨.yes, .move (.tmp 10), some 67⟩,
                    ⟨.yes, .binOp .mul 3 (.tmp 66) (.tmp 67) 3, some 68⟩,
                    ⟨.yes, .binOp .add 3 (.const (.int .i64 (-1))) (.tmp 68) 3, some 69⟩,
                    ⟨.yes, .fieldAddr 44 (.tmp 13) 0, some 70⟩,
                    ⟨.yes, .store 3 (.tmp 70) (.tmp 69), none⟩])
                  .skip)))
                (.keep [1, 8, 9, 10, 11, 12, 13] (.seq
                 (.seq
                  (.ops [⟨.yes, .move (.tmp 12), some 71⟩,
                    ⟨.yes, .call ⟨.value (.func 37), #[.tmp 71, .const (.int .i64 3)], #[71, 3]⟩, some 72⟩,
                    ⟨.yes, .assign (.tmp 72), some 14⟩])
                  (.block 2 (.loop ⟨[1, 10, 11], [(8, .bx 0 0), (9, .bx 1 0), (12, .bx 2 0), (13, .bx 3 0), (14, .dat (.int .i64))], [.box [.nils, .nils, .nils, .dat (.int .i64), .dat (.int .i64), .dat (.int .i64), .dat (.int .i64)] true, .box [.dat (.list (.st (.prod (.int .i64) (.prod (.int .i64) (.list (.int .i64)))))), .sl 4, .nils, .dat (.int .i64), .dat (.int .i64), .dat (.int .i64), .dat (.int .i64)] true, .box [.dat (.int .i64)] true, .box [.dat (.int .i64), .dat (.int .i64), .dat (.int .i64), .sl 5, .nils] true, .own (.st (.prod (.int .i64) (.prod (.int .i64) (.prod (.int .i64) (.prod (.list (.int .i64)) (.list (.int .i64))))))) true, .own (.int .i64) true]⟩ (.keep [1, 8, 9, 10, 11, 12, 13, 14] (.seq
                     (.seq
                      (.ops [⟨.yes, .move (.tmp 14), some 73⟩,
                        ⟨.yes, .binOp .gtr 3 (.tmp 73) (.const (.int .i64 0)) 3, some 74⟩])
                      (.cond (.tmp 74)
                       .skip
                       (.exit 2)))
                     (.keep [1, 8, 9, 10, 11, 12, 13, 14] (.seq
                      (.block 3 (.plan [⟨0, [], false, .pure, .yes, .fieldAddr 44 (.tmp 13) 3, some 77⟩,
                         ⟨1, [], true, .read, .yes, .load 28 (.tmp 77), some 78⟩,
                         ⟨2, [], false, .pure, .yes, .move (.tmp 12), some 79⟩,
                         ⟨3, [], false, .pure, .yes, .move (.tmp 10), some 80⟩,
                         ⟨4, [], false, .pure, .yes, .binOp .add 3 (.tmp 80) (.const (.int .i64 2)) 3, some 81⟩,
                         ⟨5, [1], false, .write, .yes, .call ⟨.value (.func 37), #[.tmp 79, .tmp 81], #[71, 3]⟩, some 82⟩,
                         ⟨6, [], false, .pure, .yes, .binOp .sub 3 (.tmp 82) (.const (.int .i64 1)) 3, some 83⟩,
                         ⟨7, [1], false, .alloc, .yes, .buildSlice 28 1 #[(0, .tmp 83)], some 84⟩,
                         ⟨8, [], false, .write, .yes, .call ⟨.builtin .append, #[.tmp 78, .tmp 84], #[28, 28]⟩, some 85⟩,
                         ⟨9, [], false, .pure, .yes, .fieldAddr 44 (.tmp 13) 3, some 86⟩,
                         ⟨10, [], false, .write, .yes, .store 28 (.tmp 86) (.tmp 85), none⟩]))
                      (.keep [1, 8, 9, 10, 11, 12, 13, 14] (.ops [⟨.yes, .move (.tmp 14), some 75⟩,
                        ⟨.yes, .binOp .sub 3 (.tmp 75) (.const (.int .i64 1)) 3, some 76⟩,
                        ⟨.yes, .assign (.tmp 76), some 14⟩])))))))))
                 (.keep [1, 8, 9, 10, 11, 13] (.ops [⟨.yes, .fieldAddr 26 (.tmp 9) 1, some 87⟩,
                   ⟨.yes, .load 23 (.tmp 87), some 88⟩,
                   ⟨.yes, .load 44 (.tmp 13), some 89⟩,
                   ⟨.yes, .buildSlice 23 1 #[(0, .tmp 89)], some 90⟩,
                   ⟨.yes, .call ⟨.builtin .append, #[.tmp 88, .tmp 90], #[23, 23]⟩, some 91⟩,
                   ⟨.yes, .fieldAddr 26 (.tmp 9) 1, some 92⟩,
                   ⟨.yes, .store 23 (.tmp 92) (.tmp 91), none⟩]))))))))))
            (.keep [1, 8, 9, 10, 11] (.ops [⟨.yes, .move (.tmp 11), some 39⟩,
              ⟨.yes, .binOp .add 3 (.tmp 39) (.const (.int .i64 1)) 3, some 40⟩,
              ⟨.yes, .assign (.tmp 40), some 11⟩])))))))))
       (.keep [8, 9] (.seq
        (.plan [⟨0, [], false, .pure, .yes, .fieldAddr 26 (.tmp 9) 0, some 93⟩,
          ⟨1, [], false, .read, .yes, .load 22 (.tmp 93), some 94⟩,
          ⟨3, [], false, .pure, .yes, .fieldAddr 26 (.tmp 9) 0, some 96⟩,
          ⟨4, [], true, .read, .yes, .load 22 (.tmp 96), some 97⟩,
          ⟨2, [4], false, .write, .yes, .call ⟨.value (.func 38), #[.tmp 94, .const (.int .i64 1)], #[22, 3]⟩, some 95⟩,
          ⟨6, [], false, .pure, .yes, .fieldAddr 26 (.tmp 9) 3, some 99⟩,
          ⟨5, [], false, .write, .yes, .call ⟨.value (.func 38), #[.tmp 97, .const (.int .i64 2)], #[22, 3]⟩, some 98⟩,
          ⟨7, [], false, .write, .yes, .store 3 (.tmp 99) (.tmp 95), none⟩,
          ⟨8, [], false, .pure, .yes, .fieldAddr 26 (.tmp 9) 4, some 100⟩,
          ⟨9, [], false, .write, .yes, .store 3 (.tmp 100) (.tmp 98), none⟩])
        (.keep [8, 9] (.seq
         (.ops [⟨.yes, .load 26 (.tmp 9), some 101⟩,
           ⟨.yes, .store 26 (.tmp 8) (.tmp 101), none⟩])
         .ret)))))))))))), [.cell 8 26]⟩
theorem is13 : IsFA P pol (planOf pol) 13 4 a13 := ⟨⟨_, _, Try.func13, rfl, rfl, rfl, by kernel_rfl⟩, by decide⟩
theorem ok13 : a13.c.ok = true := by kernel_rfl
theorem r13 (x : denL [(.list (.int .i64)), (.list (.int .i64)), (.int .i64), (.int .i64)]) : fun2 (env [(15, sp15), (35, sp35), (36, sp36), (38, sp38)] [(37, sp37)]) a13 [(.list (.int .i64)), (.list (.int .i64)), (.int .i64), (.int .i64)] [(.st (.prod (.list (.st (.prod (.int .i64) (.prod (.int .i64) (.list (.int .i64)))))) (.prod (.list (.st (.prod (.int .i64) (.prod (.int .i64) (.prod (.int .i64) (.prod (.list (.int .i64)) (.list (.int .i64)))))))) (.prod (.list (.st (.prod (.int .i64) (.st (.prod (.int .i64) (.int .i64)))))) (.prod (.int .i64) (.prod (.int .i64) (.prod (.int .i64) (.int .i64))))))))] x = F13 x.1 x.2.1 x.2.2.1 x.2.2.2 := by kernel_rfl
noncomputable def sp13 : FSp := ⟨[(.list (.int .i64)), (.list (.int .i64)), (.int .i64), (.int .i64)], [(.st (.prod (.list (.st (.prod (.int .i64) (.prod (.int .i64) (.list (.int .i64)))))) (.prod (.list (.st (.prod (.int .i64) (.prod (.int .i64) (.prod (.int .i64) (.prod (.list (.int .i64)) (.list (.int .i64)))))))) (.prod (.list (.st (.prod (.int .i64) (.st (.prod (.int .i64) (.int .i64)))))) (.prod (.int .i64) (.prod (.int .i64) (.prod (.int .i64) (.int .i64))))))))], fun x => F13 x.1 x.2.1 x.2.2.1 x.2.2.2⟩
theorem s13 : SpOk pol P 13 sp13 := fun x r h => fun_ok is13 (fun _ => rfl) (tyOk [(15, sp15), (35, sp35), (36, sp36), (38, sp38)] [(37, sp37)]) (kOk rfl rfl rfl (allC s15 (allC s35 (allC s36 (allC s38 allN)))) (imC s37 imN)) ok13 rfl rfl ((r13 x).trans h)
end Go.Proofs.Ytffkjnaocflmdaa
namespace Go.Proofs.Ytffkjnaocflmdaa
open Go.Eng Go.Dat
set_option linter.unusedVariables false
-- 39 fulling/fullingref22.isNode
noncomputable def a39 : FA := ⟨13, (.seq
   (.ops [⟨.yes, .assign (.const (.bool false)), some 4⟩])
   (.jn ⟨[], [(4, .dat .bool)], []⟩
    (.ops [⟨.yes, .move (.tmp 1), some 5⟩,
      ⟨.yes, .binOp .geq 3 (.tmp 5) (.const (.int .i64 0)) 3, some 6⟩,
      ⟨.yes, .move (.tmp 6), some 7⟩,
      ⟨.at 7 true, .move (.tmp 1), some 8⟩,
      ⟨.at 7 true, .move (.tmp 0), some 9⟩,
      ⟨.at 7 true, .call ⟨.builtin .len, #[.tmp 9], #[22]⟩, some 10⟩,
      ⟨.at 7 true, .binOp .lss 3 (.tmp 8) (.tmp 10) 3, some 11⟩,
      ⟨.yes, .pick (.tmp 7) (.tmp 11) (.const (.bool false)), some 12⟩,
      ⟨.yes, .assign (.tmp 12), some 4⟩])
    .ret)), [.tmp 4]⟩
theorem is39 : IsFA P pol (planOf pol) 39 2 a39 := ⟨⟨_, _, Try.func39, rfl, rfl, rfl, by kernel_rfl⟩, by decide⟩
theorem ok39 : a39.c.ok = true := by kernel_rfl
theorem r39 (x : denL [(.list (.st (.prod (.int .i64) (.prod (.int .i64) (.list (.int .i64)))))), (.int .i64)]) : fun2 (env [] []) a39 [(.list (.st (.prod (.int .i64) (.prod (.int .i64) (.list (.int .i64)))))), (.int .i64)] [.bool] x = F39 x.1 x.2 := by kernel_rfl
noncomputable def sp39 : FSp := ⟨[(.list (.st (.prod (.int .i64) (.prod (.int .i64) (.list (.int .i64)))))), (.int .i64)], [.bool], fun x => F39 x.1 x.2⟩
theorem s39 : SpOk pol P 39 sp39 := fun x r h => fun_ok is39 (fun _ => rfl) (tyOk [] []) (kOk rfl rfl rfl allN imN) ok39 rfl rfl ((r39 x).trans h)
end Go.Proofs.Ytffkjnaocflmdaa
namespace Go.Proofs.Ytffkjnaocflmdaa
open Go.Eng Go.Dat
set_option linter.unusedVariables false
-- 41 fulling/fullingref22.isEdge
noncomputable def a41 : FA := ⟨15, (.seq
   (.ops [⟨.yes, .box 44 (.tmp 1), some 3⟩,
     ⟨.yes, .assign (.const (.bool false)), some 4⟩])
   (.lock 3 (.jn ⟨[], [(4, .dat .bool)], []⟩
    (.ops [⟨.yes, .move (.tmp 0), some 5⟩,
      ⟨.yes, .fieldAddr 44 (.tmp 3) 0, some 6⟩,
      ⟨.yes, .load 3 (.tmp 6), some 7⟩,
      ⟨.yes, .call ⟨.value (.func 39), #[.tmp 5, .tmp 7], #[22, 3]⟩, some 8⟩,
      ⟨.yes, .move (.tmp 8), some 9⟩,
      ⟨.at 9 true, .move (.tmp 0), some 10⟩,
      ⟨.at 9 true, .fieldAddr 44 (.tmp 3) 1, some 11⟩,
      ⟨.at 9 true, .load 3 (.tmp 11), some 12⟩,
      ⟨.at 9 true, .call ⟨.value (.func 39), #[.tmp 10, .tmp 12], #[22, 3]⟩, some 13⟩,
      ⟨.yes, .pick (.tmp 9) (.tmp 13) (.const (.bool false)), some 14⟩,
      ⟨.yes, .assign (.tmp 14), some 4⟩])
    .ret))), [.tmp 4]⟩
theorem is41 : IsFA P pol (planOf pol) 41 2 a41 := ⟨⟨_, _, Try.func41, rfl, rfl, rfl, by kernel_rfl⟩, by decide⟩
theorem ok41 : a41.c.ok = true := by kernel_rfl
theorem r41 (x : denL [(.list (.st (.prod (.int .i64) (.prod (.int .i64) (.list (.int .i64)))))), (.st (.prod (.int .i64) (.prod (.int .i64) (.prod (.int .i64) (.prod (.list (.int .i64)) (.list (.int .i64)))))))]) : fun2 (env [(39, sp39)] []) a41 [(.list (.st (.prod (.int .i64) (.prod (.int .i64) (.list (.int .i64)))))), (.st (.prod (.int .i64) (.prod (.int .i64) (.prod (.int .i64) (.prod (.list (.int .i64)) (.list (.int .i64)))))))] [.bool] x = F41 x.1 x.2 := by kernel_rfl
noncomputable def sp41 : FSp := ⟨[(.list (.st (.prod (.int .i64) (.prod (.int .i64) (.list (.int .i64)))))), (.st (.prod (.int .i64) (.prod (.int .i64) (.prod (.int .i64) (.prod (.list (.int .i64)) (.list (.int .i64)))))))], [.bool], fun x => F41 x.1 x.2⟩
theorem s41 : SpOk pol P 41 sp41 := fun x r h => fun_ok is41 (fun _ => rfl) (tyOk [(39, sp39)] []) (kOk rfl rfl rfl (allC s39 allN) imN) ok41 rfl rfl ((r41 x).trans h)
end Go.Proofs.Ytffkjnaocflmdaa
namespace Go.Proofs.Ytffkjnaocflmdaa
open Go.Eng Go.Dat
set_option linter.unusedVariables false
-- 40 fulling/fullingref22.distances
noncomputable def a40 : FA := ⟨97, (.seq
   (.ops [⟨.yes, .box 26 (.tmp 0), some 3⟩,
     ⟨.yes, .assign (.const (.slice none 0 0)), some 6⟩])
   (.lock 3 (.seq
    (.ops [⟨.yes, .fieldAddr 26 (.tmp 3) 0, some 13⟩,
      ⟨.yes, .load 22 (.tmp 13), some 14⟩,
      ⟨.yes, .call ⟨.builtin .len, #[.tmp 14], #[22]⟩, some 15⟩,
      ⟨.yes, .makeSlice 28 (.tmp 15) (.tmp 15), some 16⟩,
      ⟨.yes, .assign (.tmp 16), some 7⟩])
    (.keep [1, 2, 3, 7] (.seq
     (.seq
      (.ops [⟨.yes, .assign (.const (.int .i64 0)), some 8⟩])
      (.block 0 (.loop ⟨[1, 2, 3], [(7, .sl 0), (8, .dat (.int .i64))], [.own (.int .i64) true]⟩ (.keep [1, 2, 3, 7, 8] (.seq
         (.seq
          (.ops [⟨.yes, .move (.tmp 8), some 17⟩,
            ⟨.yes, .move (.tmp 7), some 18⟩,
            ⟨.yes, .call ⟨.builtin .len, #[.tmp 18], #[28]⟩, some 19⟩,
            ⟨.yes, .binOp .lss 3 (.tmp 17) (.tmp 19) 3, some 20⟩])
          (.keep [1, 2, 3, 7, 8, 20] (.cond (.tmp 20)
           .skip
           (.exit 0))))
         (.keep [1, 2, 3, 7, 8] (.seq
          (.block 1 (.ops [⟨.yes, .move (.tmp 7), some 23⟩,
             ⟨.yes, .move (.tmp 8), some 24⟩,
             ⟨.yes, .indexAddr 28 (.tmp 23) (.tmp 24), some 25⟩,
             ⟨.yes, .store 3 (.tmp 25) (.const (.int .i64 (-1))), none⟩]))
          (.keep [1, 2, 3, 7, 8] (.ops [⟨.yes, .move (.tmp 8), some 21⟩,
            ⟨.yes, .binOp .add 3 (.tmp 21) (.const (.int .i64 1)) 3, some 22⟩,
            ⟨.yes, .assign (.tmp 22), some 8⟩])))))))))
     (.keep [1, 2, 3, 7] (.seq
      (.ops [⟨.yes, .move (.tmp 7), some 26⟩,
        ⟨.yes, .move (.tmp 1), some 27⟩,
        ⟨.yes, .indexAddr 28 (.tmp 26) (.tmp 27), some 28⟩,
        ⟨.yes, .store 3 (.tmp 28) (.const (.int .i64 0)), none⟩])
      (.keep [2, 3, 7] (.seq
       (.seq
        (.ops [⟨.yes, .assign (.const (.int .i64 0)), some 9⟩,
          ⟨.yes, .assign (.const (.bool true)), some 10⟩])
        (.block 2 (.loop ⟨[2, 3], [(7, .sl 0), (9, .dat (.int .i64)), (10, .dat .bool)], [.own (.int .i64) true]⟩ (.keep [2, 3, 7, 9, 10] (.seq
           (.seq
            (.ops [⟨.yes, .move (.tmp 10), some 29⟩])
            (.cond (.tmp 29)
             .skip
             (.exit 2)))
           (.keep [2, 3, 7, 9] (.seq
            (.block 3 (.seq
              (.ops [⟨.yes, .assign (.const (.bool false)), some 10⟩])
              (.seq
               (.ops [⟨.yes, .assign (.const (.int .i64 0)), some 11⟩])
               (.block 4 (.loop ⟨[2, 3, 9], [(7, .sl 0), (10, .dat .bool), (11, .dat (.int .i64))], [.own (.int .i64) true]⟩ (.keep [2, 3, 7, 9, 10, 11] (.seq
                  (.jn ⟨[2, 3, 9, 10, 11], [(7, .sl 0), (41, .dat .bool)], [.own (.int .i64) true]⟩
                   (.ops [⟨.yes, .move (.tmp 11), some 32⟩,
                     ⟨.yes, .fieldAddr 26 (.tmp 3) 1, some 33⟩,
                     ⟨.yes, .load 23 (.tmp 33), some 34⟩,
                     ⟨.yes, .call ⟨.builtin .len, #[.tmp 34], #[23]⟩, some 35⟩,
                     ⟨.yes, .binOp .lss 3 (.tmp 32) (.tmp 35) 3, some 36⟩,
                     ⟨.yes, .move (.tmp 36), some 37⟩,
                     ⟨.at 37 true, .move (.tmp 11), some 38⟩,
                     ⟨.at 37 true, .move (.tmp 2), some 39⟩,
                     ⟨.at 37 true, .binOp .lss 3 (.tmp 38) (.tmp 39) 3, some 40⟩,
                     ⟨.yes, .pick (.tmp 37) (.tmp 40) (.const (.bool false)), some 41⟩])
                   (.keep [2, 3, 7, 9, 10, 11, 41] (.cond (.tmp 41)
                    .skip
                    (.exit 4))))
                  (.keep [2, 3, 7, 9, 10, 11] (.jn ⟨[2, 3, 9, 11], [(7, .sl 0), (10, .dat .bool)], [.own (.int .i64) true]⟩
                   (.block 5 (.seq
                     (.ops [⟨.yes, .fieldAddr 26 (.tmp 3) 1, some 44⟩,
                       ⟨.yes, .load 23 (.tmp 44), some 45⟩,
                       ⟨.yes, .move (.tmp 11), some 46⟩,
                       ⟨.yes, .indexAddr 23 (.tmp 45) (.tmp 46), some 47⟩,
                       ⟨.yes, .load 44 (.tmp 47), some 48⟩,
                       ⟨.yes, .alloc 44, some 12⟩,
                       ⟨.yes, .store 44 (.tmp 12) (.tmp 48), none⟩])
                     (.lock 12 (.keep [2, 3, 7, 9, 10, 11, 12] (.seq
                      (.seq
                       (.ops [⟨.yes, .fieldAddr 26 (.tmp 3) 0, some 49⟩,
                         ⟨.yes, .load 22 (.tmp 49), some 50⟩,
                         ⟨.yes, .load 44 (.tmp 12), some 51⟩,
                         ⟨.yes, .call ⟨.value (.func 41), #[.tmp 50, .tmp 51], #[22, 44]⟩, some 52⟩,
                         ⟨.yes, .unOp .not 4 (.tmp 52), some 53⟩])
                       (.keep [2, 3, 7, 9, 10, 11, 12, 53] (.cond (.tmp 53)
                        (.exit 5)
                        .skip)))
                      (.keep [2, 3, 7, 9, 10, 11, 12] (.jn ⟨[2, 3, 9, 11, 12], [(7, .sl 0), (10, .dat .bool)], [.own (.int .i64) true]⟩
                       (.jn ⟨[2, 3, 9, 10, 11, 12], [(7, .sl 0), (68, .dat .bool)], [.own (.int .i64) true]⟩
                        (.ops [⟨.yes, .move (.tmp 7), some 54⟩,
                          ⟨.yes, .fieldAddr 44 (.tmp 12) 0, some 55⟩,
                          ⟨.yes, .load 3 (.tmp 55), some 56⟩,
                          ⟨.yes, .indexAddr 28 (.tmp 54) (.tmp 56), some 57⟩,
                          ⟨.yes, .load 3 (.tmp 57), some 58⟩,
                          ⟨.yes, .move (.tmp 9), some 59⟩,
                          ⟨.yes, .binOp .eql 3 (.tmp 58) (.tmp 59) 3, some 60⟩,
                          ⟨.yes, .move (.tmp 60), some 61⟩,
                          ⟨.at 61 true, .move (.tmp 7), some 62⟩,
                          ⟨.at 61 true, .fieldAddr 44 (.tmp 12) 1, some 63⟩,
                          ⟨.at 61 true, .load 3 (.tmp 63), some 64⟩,
                          ⟨.at 61 true, .indexAddr 28 (.tmp 62) (.tmp 64), some 65⟩,
                          ⟨.at 61 true, .load 3 (.tmp 65), some 66⟩,
                          ⟨.at 61 true, .binOp .lss 3 (.tmp 66) (.const (.int .i64 0)) 3, some 67⟩,
                          ⟨.yes, .pick (.tmp 61) (.tmp 67) (.const (.bool false)), some 68⟩])
                        (.keep [2, 3, 7, 9, 10, 11, 12, 68] (.cond (.tmp 68)
                         (.ops [⟨.yes, .move (.tmp 7), some 69⟩,
                           ⟨.yes, .fieldAddr 44 (.tmp 12) 1, some 70⟩,
                           ⟨.yes, .load 3 (.tmp 70), some 71⟩,
                           ⟨.yes, .move (.tmp 9), some 72⟩,
                           ⟨.yes, .binOp .add 3 (.tmp 72) (.const (.int .i64 1)) 3, some 73⟩,
                           ⟨.yes, .indexAddr 28 (.tmp 69) (.tmp 71), some 74⟩,
                           ⟨.yes, .store 3 (.tmp 74) (.tmp 73), none⟩,
                           ⟨.yes, .assign (.const (.bool true)), some 10⟩])
                         .skip)))
                       (.keep [2, 3, 7, 9, 10, 11, 12] (.jn ⟨[2, 3, 9, 10, 11, 12], [(7, .sl 0), (89, .dat .bool)], [.own (.int .i64) true]⟩
                        (.ops [⟨.yes, .move (.tmp 7), some 75⟩,
                          ⟨.yes, .fieldAddr 44 (.tmp 12) 1, some 76⟩,
                          ⟨.yes, .load 3 (.tmp 76), some 77⟩,
                          ⟨.yes, .indexAddr 28 (.tmp 75) (.tmp 77), some 78⟩,
                          ⟨.yes, .load 3 (.tmp 78), some 79⟩,
                          ⟨.yes, .move (.tmp 9), some 80⟩,
                          ⟨.yes, .binOp .eql 3 (.tmp 79) (.tmp 80) 3, some 81⟩,
                          ⟨.yes, .move (.tmp 81), some 82⟩,
                          ⟨.at 82 true, .move (.tmp 7), some 83⟩,
                          ⟨.at 82 true, .fieldAddr 44 (.tmp 12) 0, some 84⟩,
                          ⟨.at 82 true, .load 3 (.tmp 84), some 85⟩,
                          ⟨.at 82 true, .indexAddr 28 (.tmp 83) (.tmp 85), some 86⟩,
                          ⟨.at 82 true, .load 3 (.tmp 86), some 87⟩,
                          ⟨.at 82 true, .binOp .lss 3 (.tmp 87) (.const (.int .i64 0)) 3, some 88⟩,
                          ⟨.yes, .pick (.tmp 82) (.tmp 88) (.const (.bool false)), some 89⟩])
                        (.keep [2, 3, 7, 9, 10, 11, 12, 89] (.cond (.tmp 89)
                         (.ops [⟨.yes, .move (.tmp 7), some 90⟩,
                           ⟨.yes, .fieldAddr 44 (.tmp 12) 0, some 91⟩,
                           ⟨.yes, .load 3 (.tmp 91), some 92⟩,
                           ⟨.yes, .move (.tmp 9), some 93⟩,
                           ⟨.yes, .binOp .add 3 (.tmp 93) (.const (.int .i64 1)) 3, some 94⟩,
                           ⟨.yes, .indexAddr 28 (.tmp 90) (.tmp 92), some 95⟩,
                           ⟨.yes, .store 3 (.tmp 95) (.tmp 94), none⟩,
                           ⟨.yes, .assign (.const (.bool true)), some 10⟩])
                         .skip)))))))))))
                   (.keep [2, 3, 7, 9, 10, 11] (.ops [⟨.yes, .move (.tmp 11), some 42⟩,
                     ⟨.yes, .binOp .add 3 (.tmp 42) (.const (.int .i64 1)) 3, some 43⟩,
                     ⟨.yes, .assign (.tmp 43), some 11⟩])))))))))))
            (.keep [2, 3, 7, 9, 10] (.ops [⟨.yes, .move (.tmp 9), some 30⟩,
              ⟨.yes, .binOp .add 3 (.tmp 30) (.const (.int .i64 1)) 3, some 31⟩,
              ⟨.yes, .assign (.tmp 31), some 9⟩])))))))))
       (.keep [7] (.seq
        (.ops [⟨.yes, .move (.tmp 7), some 96⟩,
          ⟨.yes, .assign (.tmp 96), some 6⟩])
        .ret))))))))))), [.tmp 6]⟩
theorem is40 : IsFA P pol (planOf pol) 40 3 a40 := ⟨⟨_, _, Try.func40, rfl, rfl, rfl, by kernel_rfl⟩, by decide⟩
theorem ok40 : a40.c.ok = true := by kernel_rfl
theorem r40 (x : denL [(.st (.prod (.list (.st (.prod (.int .i64) (.prod (.int .i64) (.list (.int .i64)))))) (.prod (.list (.st (.prod (.int .i64) (.prod (.int .i64) (.prod (.int .i64) (.prod (.list (.int .i64)) (.list (.int .i64)))))))) (.prod (.list (.st (.prod (.int .i64) (.st (.prod (.int .i64) (.int .i64)))))) (.prod (.int .i64) (.prod (.int .i64) (.prod (.int .i64) (.int .i64)))))))), (.int .i64), (.int .i64)]) : fun2 (env [(41, sp41)] []) a40 [(.st (.prod (.list (.st (.prod (.int .i64) (.prod (.int .i64) (.list (.int .i64)))))) (.prod (.list (.st (.prod (.int .i64) (.prod (.int .i64) (.prod (.int .i64) (.prod (.list (.int .i64)) (.list (.int .i64)))))))) (.prod (.list (.st (.prod (.int .i64) (.st (.prod (.int .i64) (.int .i64)))))) (.prod (.int .i64) (.prod (.int .i64) (.prod (.int .i64) (.int .i64)))))))), (.int .i64), (.int .i64)] [(.list (.int .i64))] x = F40 x.1 x.2.1 x.2.2 := by kernel_rfl
noncomputable def sp40 : FSp := ⟨[(.st (.prod (.list (.st (.prod (.int .i64) (.prod (.int .i64) (.list (.int .i64)))))) (.prod (.list (.st (.prod (.int .i64) (.prod (.int .i64) (.prod (.int .i64) (.prod (.list (.int .i64)) (.list (.int .i64)))))))) (.prod (.list (.st (.prod (.int .i64) (.st (.prod (.int .i64) (.int .i64)))))) (.prod (.int .i64) (.prod (.int .i64) (.prod (.int .i64) (.int .i64)))))))), (.int .i64), (.int .i64)], [(.list (.int .i64))], fun x => F40 x.1 x.2.1 x.2.2⟩
theorem s40 : SpOk pol P 40 sp40 := fun x r h => fun_ok is40 (fun _ => rfl) (tyOk [(41, sp41)] []) (kOk rfl rfl rfl (allC s41 allN) imN) ok40 rfl rfl ((r40 x).trans h)
end Go.Proofs.Ytffkjnaocflmdaa
namespace Go.Proofs.Ytffkjnaocflmdaa
open Go.Eng Go.Dat
set_option linter.unusedVariables false
-- 14 fulling/fullingref22.Path
noncomputable def a14 : FA := ⟨104, (.seq
   (.ops [⟨.yes, .box 26 (.tmp 0), some 4⟩,
     ⟨.yes, .assign (.const (.slice none 0 0)), some 8⟩,
     ⟨.yes, .assign (.const (.bool false)), some 9⟩])
   (.lock 4 (.seq
    (.jn ⟨[1, 2, 3, 4], [(26, .dat .bool)], []⟩
     (.ops [⟨.yes, .fieldAddr 26 (.tmp 4) 0, some 15⟩,
       ⟨.yes, .load 22 (.tmp 15), some 16⟩,
       ⟨.yes, .move (.tmp 1), some 17⟩,
       ⟨.yes, .call ⟨.value (.func 39), #[.tmp 16, .tmp 17], #[22, 3]⟩, some 18⟩,
       ⟨.yes, .unOp .not 4 (.tmp 18), some 19⟩,
       ⟨.yes, .move (.tmp 19), some 20⟩,
       ⟨.at 20 false, .fieldAddr 26 (.tmp 4) 0, some 21⟩,
       ⟨.at 20 false, .load 22 (.tmp 21), some 22⟩,
       ⟨.at 20 false, .move (.tmp 2), some 23⟩,
       ⟨.at 20 false, .call ⟨.value (.func 39), #[.tmp 22, .tmp 23], #[22, 3]⟩, some 24⟩,
       ⟨.at 20 false, .unOp .not 4 (.tmp 24), some 25⟩,
       ⟨.yes, .pick (.tmp 20) (.const (.bool true)) (.tmp 25), some 26⟩])
     (.keep [1, 2, 3, 4, 26] (.cond (.tmp 26)
      (.seq
       (.ops [⟨.yes, .assign (.const (.slice none 0 0)), some 8⟩,
         ⟨.yes, .assign (.const (.bool false)), some 9⟩])
       .ret)
      .skip)))
    (.keep [1, 2, 3, 4] (.seq
     (.ops [⟨.yes, .load 26 (.tmp 4), some 27⟩,
       ⟨.yes, .move (.tmp 2), some 28⟩,
       ⟨.yes, .move (.tmp 3), some 29⟩,
       ⟨.yes, .call ⟨.value (.func 40), #[.tmp 27, .tmp 28, .tmp 29], #[26, 3, 3]⟩, some 30⟩,
       ⟨.yes, .assign (.tmp 30), some 10⟩])
     (.keep [1, 2, 4, 10] (.seq
      (.seq
       (.ops [⟨.yes, .move (.tmp 10), some 31⟩,
         ⟨.yes, .move (.tmp 1), some 32⟩,
         ⟨.yes, .indexAddr 28 (.tmp 31) (.tmp 32), some 33⟩,
         ⟨.yes, .load 3 (.tmp 33), some 34⟩,
         ⟨.yes, .binOp .lss 3 (.tmp 34) (.const (.int .i64 0)) 3, some 35⟩])
       (.keep [1, 2, 4, 10, 35] (.cond (.tmp 35)
        (.seq
         (.ops [⟨.yes, .assign (.const (.slice none 0 0)), some 8⟩,
           ⟨.yes, .assign (.const (.bool false)), some 9⟩])
         .ret)
        .skip)))
      (.keep [1, 2, 4, 10] (.seq
       (.ops [⟨.yes, .assign (.const (.slice none 0 0)), some 11⟩])
       (.seq
        (.seq
         (.ops [⟨.yes, .move (.tmp 1), some 36⟩,
           ⟨.yes, .assign (.tmp 36), some 12⟩])
         (.block 0 (.loop ⟨[2, 4, 10], [(11, .sl 0), (12, .dat (.int .i64))], [.own (.int .i64) true]⟩ (.keep [2, 4, 10, 11, 12] (.seq
            (.seq
             (.ops [⟨.yes, .move (.tmp 12), some 37⟩,
               ⟨.yes, .move (.tmp 2), some 38⟩,
               ⟨.yes, .binOp .neq 3 (.tmp 37) (.tmp 38) 3, some 39⟩])
             (.cond (.tmp 39)
              .skip
              (.exit 0)))
            (.keep [2, 4, 10, 11, 12] (.block 1 (.seq
              (.ops [⟨.yes, .assign (.const (.int .i64 0)), some 13⟩])
              (.block 2 (.loop ⟨[2, 4, 10], [(11, .sl 0), (12, .dat (.int .i64)), (13, .dat (.int .i64))], [.own (.int .i64) true]⟩ (.keep [2, 4, 10, 11, 12, 13] (.seq
                 (.seq
                  (.ops [⟨.yes, .move (.tmp 13), some 40⟩,
                    ⟨.yes, .fieldAddr 26 (.tmp 4) 1, some 41⟩,
                    ⟨.yes, .load 23 (.tmp 41), some 42⟩,
                    ⟨.yes, .call ⟨.builtin .len, #[.tmp 42], #[23]⟩, some 43⟩,
                    ⟨.yes, .binOp .lss 3 (.tmp 40) (.tmp 43) 3, some 44⟩])
                  (.keep [2, 4, 10, 11, 12, 13, 44] (.cond (.tmp 44)
                   .skip
                   (.exit 2))))
                 (.keep [2, 4, 10, 11, 12, 13] (.jn ⟨[2, 4, 10, 13], [(11, .sl 0), (12, .dat (.int .i64))], [.own (.int .i64) true]⟩
                  (.block 3 (.seq
                    (.ops [⟨.yes, .fieldAddr 26 (.tmp 4) 1, some 47⟩,
                      ⟨.yes, .load 23 (.tmp 47), some 48⟩,
                      ⟨.yes, .move (.tmp 13), some 49⟩,
                      ⟨.yes, .indexAddr 23 (.tmp 48) (.tmp 49), some 50⟩,
                      ⟨.yes, .load 44 (.tmp 50), some 51⟩,
                      ⟨.yes, .alloc 44, some 14⟩,
                      ⟨.yes, .store 44 (.tmp 14) (.tmp 51), none⟩])
                    (.lock 14 (.keep [2, 4, 10, 11, 12, 13, 14] (.seq
                     (.seq
                      (.ops [⟨.yes, .fieldAddr 26 (.tmp 4) 0, some 52⟩,
                        ⟨.yes, .load 22 (.tmp 52), some 53⟩,
                        ⟨.yes, .load 44 (.tmp 14), some 54⟩,
                        ⟨.yes, .call ⟨.value (.func 41), #[.tmp 53, .tmp 54], #[22, 44]⟩, some 55⟩,
                        ⟨.yes, .unOp .not 4 (.tmp 55), some 56⟩])
                      (.keep [2, 4, 10, 11, 12, 13, 14, 56] (.cond (.tmp 56)
                       (.exit 3)
                       .skip)))
                     (.keep [2, 4, 10, 11, 12, 13, 14] (.seq
                      (.jn ⟨[2, 4, 10, 12, 13, 14], [(11, .sl 0), (73, .dat .bool)], [.own (.int .i64) true]⟩
                       (.plan [⟨0, [], false, .pure, .yes, .fieldAddr 44 (.tmp 14) 0, some 57⟩,
                         ⟨1, [], false, .read, .yes, .load 3 (.tmp 57), some 58⟩,
                         ⟨2, [], false, .pure, .yes, .move (.tmp 12), some 59⟩,
                         ⟨3, [], false, .pure, .yes, .binOp .eql 3 (.tmp 58) (.tmp 59) 3, some 60⟩,
                         ⟨4, [], false, .pure, .yes, .move (.tmp 60), some 61⟩,
                         ⟨5, [], false, .pure, .at 61 true, .move (.tmp 10), some 62⟩,
                         ⟨6, [], false, .pure, .at 61 true, .fieldAddr 44 (.tmp 14) 1, some 63⟩,
                         ⟨7, [], false, .read, .at 61 true, .load 3 (.tmp 63), some 64⟩,
                         ⟨8, [], false, .pure, .at 61 true, .indexAddr 28 (.tmp 62) (.tmp 64), some 65⟩,
                         ⟨9, [], false, .read, .at 61 true, .load 3 (.tmp 65), some 66⟩,
                         ⟨10, [], false, .pure, .at 61 true, .move (.tmp 10), some 67⟩,
                         ⟨11, [], false, .pure, .at 61 true, .move (.tmp 12), some 68⟩,
                         ⟨12, [], false, .pure, .at 61 true, .indexAddr 28 (.tmp 67) (.tmp 68), some 69⟩,
                         ⟨13, [], false, .read, .at 61 true, .load 3 (.tmp 69), some 70⟩,
                         ⟨14, [], false, .pure, .at 61 true, .binOp .sub 3 (.tmp 70) (.const (.int .i64 1)) 3, some 71⟩,
                         ⟨15, [], false, .pure, .at 61 true, .binOp .eql 3 (.tmp 66) (.tmp 71) 3, some 72⟩,
                         ⟨16, [], false, .pure, .yes, .pick (.tmp 61) (.tmp 72) (.const (.bool false)), some 73⟩])
                       (.keep [2, 4, 10, 11, 12, 13, 14, 73] (.cond (.tmp 73)
                        (.seq
                         (.plan [⟨0, [], false, .pure, .yes, .move (.tmp 11), some 74⟩,
                           ⟨1, [], false, .pure, .yes, .move (.tmp 13), some 75⟩,
                           ⟨2, [], true, .alloc, .yes, .buildSlice 28 1 #[(0, .tmp 75)], some 76⟩,
                           ⟨4, [], false, .pure, .yes, .fieldAddr 44 (.tmp 14) 1, some 78⟩,
                           ⟨5, [2], true, .read, .yes, .load 3 (.tmp 78), some 79⟩,
                           ⟨3, [5], false, .write, .yes, .call ⟨.builtin .append, #[.tmp 74, .tmp 76], #[28, 28]⟩, some 77⟩,
                           ⟨6, [], false, .pure, .yes, .assign (.tmp 77), some 11⟩,
                           ⟨7, [], false, .pure, .yes, .assign (.tmp 79), some 12⟩])
                         (.exit 2))
                        .skip)))
                      (.keep [2, 4, 10, 11, 12, 13, 14] (.jn ⟨[2, 4, 10, 12, 13, 14], [(11, .sl 0), (96, .dat .bool)], [.own (.int .i64) true]⟩
                       (.plan [⟨0, [], false, .pure, .yes, .fieldAddr 44 (.tmp 14) 1, some 80⟩,
                         ⟨1, [], false, .read, .yes, .load 3 (.tmp 80), some 81⟩,
                         ⟨2, [], false, .pure, .yes, .move (.tmp 12), some 82⟩,
                         ⟨3, [], false, .pure, .yes, .binOp .eql 3 (.tmp 81) (.tmp 82) 3, some 83⟩,
                         ⟨4, [], false, .pure, .yes, .move (.tmp 83), some 84⟩,
                         ⟨5, [], false, .pure, .at 84 true, .move (.tmp 10), some 85⟩,
                         ⟨6, [], false, .pure, .at 84 true, .fieldAddr 44 (.tmp 14) 0, some 86⟩,
                         ⟨7, [], false, .read, .at 84 true, .load 3 (.tmp 86), some 87⟩,
                         ⟨8, [], false, .pure, .at 84 true, .indexAddr 28 (.tmp 85) (.tmp 87), some 88⟩,
                         ⟨9, [], false, .read, .at 84 true, .load 3 (.tmp 88), some 89⟩,
                         ⟨10, [], false, .pure, .at 84 true, .move (.tmp 10), some 90⟩,
                         ⟨11, [], false, .pure, .at 84 true, .move (.tmp 12), some 91⟩,
                         ⟨12, [], false, .pure, .at 84 true, .indexAddr 28 (.tmp 90) (.tmp 91), some 92⟩,
                         ⟨13, [], false, .read, .at 84 true, .load 3 (.tmp 92), some 93⟩,
                         ⟨14, [], false, .pure, .at 84 true, .binOp .sub 3 (.tmp 93) (.const (.int .i64 1)) 3, some 94⟩,
                         ⟨15, [], false, .pure, .at 84 true, .binOp .eql 3 (.tmp 89) (.tmp 94) 3, some 95⟩,
                         ⟨16, [], false, .pure, .yes, .pick (.tmp 84) (.tmp 95) (.const (.bool false)), some 96⟩])
                       (.keep [2, 4, 10, 11, 12, 13, 14, 96] (.cond (.tmp 96)
                        (.seq
                         (.plan [⟨0, [], false, .pure, .yes, .move (.tmp 11), some 97⟩,
                           ⟨1, [], false, .pure, .yes, .move (.tmp 13), some 98⟩,
                           ⟨2, [], true, .alloc, .yes, .buildSlice 28 1 #[(0, .tmp 98)], some 99⟩,
                           ⟨4, [], false, .pure, .yes, .fieldAddr 44 (.tmp 14) 0, some 101⟩,
                           ⟨5, [2], true, .read, .yes, .load 3 (.tmp 101), some 102⟩,
                           ⟨3, [5], false, .write, .yes, .call ⟨.builtin .append, #[.tmp 97, .tmp 99], #[28, 28]⟩, some 100⟩,
                           ⟨6, [], false, .pure, .yes, .assign (.tmp 100), some 11⟩,
                           ⟨7, [], false, .pure, .yes, .assign (.tmp 102), some 12⟩])
                         (.exit 2))
                        .skip)))))))))))
                  (.keep [2, 4, 10, 11, 12, 13] (.ops [⟨.yes, .move (.tmp 13), some 45⟩,
                    ⟨.yes, .binOp .add 3 (.tmp 45) (.const (.int .i64 1)) 3, some 46⟩,
                    ⟨.yes, .assign (.tmp 46), some 13⟩]))))))))))))))))
        (.keep [11] (.seq
         (.ops [⟨.yes, .move (.tmp 11), some 103⟩,
           ⟨.yes, .assign (.tmp 103), some 8⟩,
           ⟨.yes, .assign (.const (.bool true)), some 9⟩])
         .ret)))))))))))), [.tmp 8, .tmp 9]⟩
theorem is14 : IsFA P pol (planOf pol) 14 4 a14 := ⟨⟨_, _, Try.func14, rfl, rfl, rfl, by kernel_rfl⟩, by decide⟩
theorem ok14 : a14.c.ok = true := by kernel_rfl
theorem r14 (x : denL [(.st (.prod (.list (.st (.prod (.int .i64) (.prod (.int .i64) (.list (.int .i64)))))) (.prod (.list (.st (.prod (.int .i64) (.prod (.int .i64) (.prod (.int .i64) (.prod (.list (.int .i64)) (.list (.int .i64)))))))) (.prod (.list (.st (.prod (.int .i64) (.st (.prod (.int .i64) (.int .i64)))))) (.prod (.int .i64) (.prod (.int .i64) (.prod (.int .i64) (.int .i64)))))))), (.int .i64), (.int .i64), (.int .i64)]) : fun2 (env [(39, sp39), (40, sp40), (41, sp41)] []) a14 [(.st (.prod (.list (.st (.prod (.int .i64) (.prod (.int .i64) (.list (.int .i64)))))) (.prod (.list (.st (.prod (.int .i64) (.prod (.int .i64) (.prod (.int .i64) (.prod (.list (.int .i64)) (.list (.int .i64)))))))) (.prod (.list (.st (.prod (.int .i64) (.st (.prod (.int .i64) (.int .i64)))))) (.prod (.int .i64) (.prod (.int .i64) (.prod (.int .i64) (.int .i64)))))))), (.int .i64), (.int .i64), (.int .i64)] [(.list (.int .i64)), .bool] x = F14 x.1 x.2.1 x.2.2.1 x.2.2.2 := by kernel_rfl
noncomputable def sp14 : FSp := ⟨[(.st (.prod (.list (.st (.prod (.int .i64) (.prod (.int .i64) (.list (.int .i64)))))) (.prod (.list (.st (.prod (.int .i64) (.prod (.int .i64) (.prod (.int .i64) (.prod (.list (.int .i64)) (.list (.int .i64)))))))) (.prod (.list (.st (.prod (.int .i64) (.st (.prod (.int .i64) (.int .i64)))))) (.prod (.int .i64) (.prod (.int .i64) (.prod (.int .i64) (.int .i64)))))))), (.int .i64), (.int .i64), (.int .i64)], [(.list (.int .i64)), .bool], fun x => F14 x.1 x.2.1 x.2.2.1 x.2.2.2⟩
theorem s14 : SpOk pol P 14 sp14 := fun x r h => fun_ok is14 (fun _ => rfl) (tyOk [(39, sp39), (40, sp40), (41, sp41)] []) (kOk rfl rfl rfl (allC s39 (allC s40 (allC s41 allN))) imN) ok14 rfl rfl ((r14 x).trans h)
end Go.Proofs.Ytffkjnaocflmdaa
namespace Go.Proofs.Ytffkjnaocflmdaa
open Go.Eng Go.Dat
set_option linter.unusedVariables false
-- 16 fulling/fullingref22.Dependencies
noncomputable def a16 : FA := ⟨153, (.seq
   (.ops [⟨.yes, .box 26 (.tmp 0), some 2⟩,
     ⟨.yes, .assign (.const (.slice none 0 0)), some 4⟩])
   (.lock 2 (.seq
    (.ops [⟨.yes, .fieldAddr 26 (.tmp 2) 1, some 17⟩,
      ⟨.yes, .load 23 (.tmp 17), some 18⟩,
      ⟨.yes, .call ⟨.builtin .len, #[.tmp 18], #[23]⟩, some 19⟩,
      ⟨.yes, .makeSlice 60 (.tmp 19) (.tmp 19), some 20⟩,
      ⟨.yes, .assign (.tmp 20), some 5⟩])
    (.keep [1, 2, 5] (.seq
     (.seq
      (.ops [⟨.yes, .assign (.const (.int .i64 0)), some 6⟩])
      (.block 0 (.loop ⟨[1, 2], [(5, .sl 0), (6, .dat (.int .i64))], [.own .bool true]⟩ (.keep [1, 2, 5, 6] (.seq
         (.seq
          (.ops [⟨.yes, .move (.tmp 6), some 21⟩,
            ⟨.yes, .move (.tmp 1), some 22⟩,
            ⟨.yes, .call ⟨.builtin .len, #[.tmp 22], #[28]⟩, some 23⟩,
            ⟨.yes, .binOp .lss 3 (.tmp 21) (.tmp 23) 3, some 24⟩])
          (.keep [1, 2, 5, 6, 24] (.cond (.tmp 24)
           .skip
           (.exit 0))))
         (.keep [1, 2, 5, 6] (.jn ⟨[1, 2, 6], [(5, .sl 0)], [.own .bool true]⟩
          (.block 1 (.jn ⟨[1, 2, 6], [(5, .sl 0), (40, .dat .bool)], [.own .bool true]⟩
            (.ops [⟨.yes, .move (.tmp 1), some 27⟩,
              ⟨.yes, .move (.tmp 6), some 28⟩,
              ⟨.yes, .indexAddr 28 (.tmp 27) (.tmp 28), some 29⟩,
              ⟨.yes, .load 3 (.tmp 29), some 30⟩,
              ⟨.yes, .binOp .geq 3 (.tmp 30) (.const (.int .i64 0)) 3, some 31⟩,
              ⟨.yes, .move (.tmp 31), some 32⟩,
              ⟨.at 32 true, .move (.tmp 1), some 33⟩,
              ⟨.at 32 true, .move (.tmp 6), some 34⟩,
              ⟨.at 32 true, .indexAddr 28 (.tmp 33) (.tmp 34), some 35⟩,
              ⟨.at 32 true, .load 3 (.tmp 35), some 36⟩,
              ⟨.at 32 true, .move (.tmp 5), some 37⟩,
              ⟨.at 32 true, .call ⟨.builtin .len, #[.tmp 37], #[60]⟩, some 38⟩,
              ⟨.at 32 true, .binOp .lss 3 (.tmp 36) (.tmp 38) 3, some 39⟩,
              ⟨.yes, .pick (.tmp 32) (.tmp 39) (.const (.bool false)), some 40⟩])
            (.keep [1, 2, 5, 6, 40] (.cond (.tmp 40)
             (.ops [⟨.yes, .move (.tmp 5), some 41⟩,
               ⟨.yes, .move (.tmp 1), some 42⟩,
               ⟨.yes, .move (.tmp 6), some 43⟩,
               ⟨.yes, .indexAddr 28 (.tmp 42) (.tmp 43), some 44⟩,
               ⟨.yes, .load 3 (.tmp 44), some 45⟩,
               ⟨.yes, .indexAddr 60 (.tmp 41) (.tmp 45), some 46⟩,
               ⟨.yes, .store 4 (.tmp 46) (.const (.bool true)), none⟩])
             .skip))))
          (.keep [1, 2, 5, 6] (.ops [⟨.yes, .move (.tmp 6), some 25⟩,
            ⟨.yes, .binOp .add 3 (.tmp 25) (.const (.int .i64 1)) 3, some 26⟩,
            ⟨.yes, .assign (.tmp 26), some 6⟩])))))))))
     (.keep [2, 5] (.seq
      (.seq
       (.ops [⟨.yes, .move (.tmp 5), some 47⟩,
         ⟨.yes, .call ⟨.builtin .len, #[.tmp 47], #[60]⟩, some 48⟩,
         ⟨.yes, .binOp .sub 3 (.tmp 48) (.const (.int .i64 1)) 3, some 49⟩,
         ⟨.yes, .assign (.tmp 49), some 7⟩])
       (.keep [2, 5, 7] (.block 2 (.loop ⟨[2], [(5, .sl 0), (7, .dat (.int .i64))], [.own .bool true]⟩ (.keep [2, 5, 7] (.seq
          (.seq
           (.ops [⟨.yes, .move (.tmp 7), some 50⟩,
             ⟨.yes, .binOp .geq 3 (.tmp 50) (.const (.int .i64 0)) 3, some 51⟩])
           (.cond (.tmp 51)
            .skip
            (.exit 2)))
          (.keep [2, 5, 7] (.jn ⟨[2, 7], [(5, .sl 0)], [.own .bool true]⟩
           (.block 3 (.seq
             (.ops [⟨.yes, .fieldAddr 26 (.tmp 2) 1, some 54⟩,
               ⟨.yes, .load 23 (.tmp 54), some 55⟩,
               ⟨.yes, .move (.tmp 7), some 56⟩,
               ⟨.yes, .indexAddr 23 (.tmp 55) (.tmp 56), some 57⟩,
               ⟨.yes, .load 44 (.tmp 57), some 58⟩,
               ⟨.yes, .alloc 44, some 8⟩,
               ⟨.yes, .store 44 (.tmp 8) (.tmp 58), none⟩])
             (.lock 8 (.keep [2, 5, 7, 8] (.seq
              (.jn ⟨[2, 7, 8], [(5, .sl 0), (75, .dat .bool)], [.own .bool true]⟩
               (.ops [⟨.yes, .move (.tmp 5), some 59⟩,
                 ⟨.yes, .move (.tmp 7), some 60⟩,
                 ⟨.yes, .indexAddr 60 (.tmp 59) (.tmp 60), some 61⟩,
                 ⟨.yes, .load 4 (.tmp 61), some 62⟩,
                 ⟨.yes, .unOp .not 4 (.tmp 62), some 63⟩,
                 ⟨.yes, .move (.tmp 63), some 64⟩,
                 ⟨.at 64 false, .fieldAddr 44 (.tmp 8) 2, some 65⟩,
                 ⟨.at 64 false, .load 3 (.tmp 65), some 66⟩,
                 ⟨.at 64 false, .binOp .neq 3 (.tmp 66) (.const (.int .i64 0)) 3, some 67⟩,
                 ⟨.yes, .pick (.tmp 64) (.const (.bool true)) (.tmp 67), some 68⟩,
                 ⟨.yes, .move (.tmp 68), some 69⟩,
                 ⟨.at 69 false, .fieldAddr 26 (.tmp 2) 0, some 70⟩,
                 ⟨.at 69 false, .load 22 (.tmp 70), some 71⟩,
                 ⟨.at 69 false, .load 44 (.tmp 8), some 72⟩,
                 ⟨.at 69 false, .call ⟨.value (.func 41), #[.tmp 71, .tmp 72], #[22, 44]⟩, some 73⟩,
                 ⟨.at 69 false, .unOp .not 4 (.tmp 73), some 74⟩,
                 ⟨.yes, .pick (.tmp 69) (.const (.bool true)) (.tmp 74), some 75⟩])
               (.keep [2, 5, 7, 8, 75] (.cond (.tmp 75)
                (.exit 3)
                .skip)))
              (.keep [2, 5, 7, 8] (.seq
               (.plan [⟨0, [], false, .pure, .yes, .fieldAddr 26 (.tmp 2) 0, some 76⟩,
                 ⟨1, [], false, .read, .yes, .load 22 (.tmp 76), some 77⟩,
                 ⟨2, [], false, .pure, .yes, .fieldAddr 44 (.tmp 8) 0, some 78⟩,
                 ⟨3, [], false, .read, .yes, .load 3 (.tmp 78), some 79⟩,
                 ⟨4, [], false, .pure, .yes, .indexAddr 22 (.tmp 77) (.tmp 79), some 80⟩,
                 ⟨5, [], false, .pure, .yes, .fieldAddr 55 (.tmp 80) 2, some 81⟩,
                 ⟨6, [], false, .read, .yes, .load 28 (.tmp 81), some 82⟩,
                 ⟨7, [], false, .pure, .yes, .fieldAddr 26 (.tmp 2) 0, some 83⟩,
                 ⟨8, [], false, .read, .yes, .load 22 (.tmp 83), some 84⟩,
                 ⟨9, [], false, .pure, .yes, .fieldAddr 44 (.tmp 8) 1, some 85⟩,
                 ⟨10, [], false, .read, .yes, .load 3 (.tmp 85), some 86⟩,
                 ⟨11, [], false, .pure, .yes, .indexAddr 22 (.tmp 84) (.tmp 86), some 87⟩,
                 ⟨12, [], false, .pure, .yes, .fieldAddr 55 (.tmp 87) 2, some 88⟩,
                 ⟨13, [], false, .read, .yes, .load 28 (.tmp 88), some 89⟩,
                 ⟨14, [], false, .pure, .yes, .assign (.tmp 82), some 9⟩,
                 ⟨15, [], false, .pure, .yes, .assign (.tmp 89), some 10⟩])
               (.keep [2, 5, 7, 9, 10] (.seq
                (.ops [⟨.yes, .assign (.const (.int .i64 0)), some 11⟩])
                (.block 4 (.loop ⟨[2, 7, 9, 10], [(5, .sl 0), (11, .dat (.int .i64))], [.own .bool true]⟩ (.keep [2, 5, 7, 9, 10, 11] (.seq
                   (.jn ⟨[2, 7, 9, 10, 11], [(5, .sl 0), (99, .dat .bool)], [.own .bool true]⟩
                    (.ops [⟨.yes, .move (.tmp 11), some 90⟩,
                      ⟨.yes, .move (.tmp 9), some 91⟩,
                      ⟨.yes, .call ⟨.builtin .len, #[.tmp 91], #[28]⟩, some 92⟩,
                      ⟨.yes, .binOp .lss 3 (.tmp 90) (.tmp 92) 3, some 93⟩,
                      ⟨.yes, .move (.tmp 93), some 94⟩,
                      ⟨.at 94 true, .move (.tmp 11), some 95⟩,
                      ⟨.at 94 true, .move (.tmp 10), some 96⟩,
                      ⟨.at 94 true, .call ⟨.builtin .len, #[.tmp 96], #[28]⟩, some 97⟩,
                      ⟨.at 94 true, .binOp .lss 3 (.tmp 95) (.tmp 97) 3, some 98⟩,
                      ⟨.yes, .pick (.tmp 94) (.tmp 98) (.const (.bool false)), some 99⟩])
                    (.keep [2, 5, 7, 9, 10, 11, 99] (.cond (.tmp 99)
                     .skip
                     (.exit 4))))
                   (.keep [2, 5, 7, 9, 10, 11] (.seq
                    (.block 5 (.seq
                      (.plan [⟨0, [], false, .read, .yes, .load 26 (.tmp 2), some 103⟩,
                        ⟨1, [], false, .pure, .yes, .move (.tmp 9), some 104⟩,
                        ⟨2, [], false, .pure, .yes, .move (.tmp 11), some 105⟩,
                        ⟨3, [], false, .pure, .yes, .indexAddr 28 (.tmp 104) (.tmp 105), some 106⟩,
                        ⟨4, [], false, .read, .yes, .load 3 (.tmp 106), some 107⟩,
                        ⟨5, [], false, .pure, .yes, .move (.tmp 10), some 108⟩,
                        ⟨6, [], false, .pure, .yes, .move (.tmp 11), some 109⟩,
                        ⟨7, [], false, .pure, .yes, .indexAddr 28 (.tmp 108) (.tmp 109), some 110⟩,
                        ⟨8, [], false, .read, .yes, .load 3 (.tmp 110), some 111⟩,
                        ⟨9, [], false, .pure, .yes, .move (.tmp 7), some 112⟩,
                        ⟨10, [], false, .write, .yes, .call ⟨.value (.func 14), #[.tmp 103, .tmp 107, .tmp 111, .tmp 112], #[26, 3, 3, 3]⟩, some 113⟩,
                        ⟨11, [], false, .pure, .yes, .move (.tmp 113), some 102⟩,
                        ⟨12, [], false, .pure, .yes, .extract (.tmp 102) 0, some 114⟩,
                        ⟨13, [], false, .pure, .yes, .extract (.tmp 102) 1, some 115⟩,
                        ⟨14, [], false, .pure, .yes, .assign (.tmp 114), some 12⟩,
                        ⟨15, [], false, .pure, .yes, .assign (.tmp 115), some 13⟩])
                      (.keep [2, 5, 7, 9, 10, 11, 12] (.seq
                       (.ops [⟨.yes, .assign (.const (.int .i64 0)), some 14⟩])
                       (.block 6 (.loop ⟨[2, 7, 9, 10, 11, 12], [(5, .sl 0), (14, .dat (.int .i64))], [.own .bool true]⟩ (.keep [2, 5, 7, 9, 10, 11, 12, 14] (.seq
                          (.seq
                           (.ops [⟨.yes, .move (.tmp 14), some 116⟩,
                             ⟨.yes, .move (.tmp 12), some 117⟩,
                             ⟨.yes, .call ⟨.builtin .len, #[.tmp 117], #[28]⟩, some 118⟩,
                             ⟨.yes, .binOp .lss 3 (.tmp 116) (.tmp 118) 3, some 119⟩])
                           (.keep [2, 5, 7, 9, 10, 11, 12, 14, 119] (.cond (.tmp 119)
                            .skip
                            (.exit 6))))
                          (.keep [2, 5, 7, 9, 10, 11, 12, 14] (.seq
                           (.block 7 (.ops [⟨.yes, .move (.tmp 5), some 122⟩,
                              ⟨.yes, .move (.tmp 12), some 123⟩,
                              ⟨.yes, .move (.tmp 14), some 124⟩,
                              ⟨.yes, .indexAddr 28 (.tmp 123) (.tmp 124), some 125⟩,
                              ⟨.yes, .load 3 (.tmp 125), some 126⟩,
                              ⟨.yes, .indexAddr 60 (.tmp 122) (.tmp 126), some 127⟩,
                              ⟨.yes, .store 4 (.tmp 127) (.const (.bool true)), none⟩]))
                           (.keep [2, 5, 7, 9, 10, 11, 12, 14] (.ops [⟨.yes, .move (.tmp 14), some 120⟩,
                             ⟨.yes, .binOp .add 3 (.tmp 120) (.const (.int .i64 1)) 3, some 121⟩,
                             ⟨.yes, .assign (.tmp 121), some 14⟩]))))))))))))
                    (.keep [2, 5, 7, 9, 10, 11] (.ops [⟨.yes, .move (.tmp 11), some 100⟩,
                      ⟨.yes, .binOp .add 3 (.tmp 100) (.const (.int .i64 1)) 3, some 101⟩,
                      ⟨.yes, .assign (.tmp 101), some 11⟩])))))))))))))))))
           (.keep [2, 5, 7] (.ops [⟨.yes, .move (.tmp 7), some 52⟩,
             ⟨.yes, .binOp .sub 3 (.tmp 52) (.const (.int .i64 1)) 3, some 53⟩,
             ⟨.yes, .assign (.tmp 53), some 7⟩]))))))))))
      (.keep [2, 5] (.seq
       (.ops [⟨.yes, .assign (.const (.slice none 0 0)), some 15⟩])
       (.seq
        (.seq
         (.ops [⟨.yes, .assign (.const (.int .i64 0)), some 16⟩])
         (.block 8 (.loop ⟨[2], [(5, .sl 0), (15, .sl 1), (16, .dat (.int .i64))], [.own .bool true, .own (.int .i64) true]⟩ (.keep [2, 5, 15, 16] (.seq
            (.seq
             (.ops [⟨.yes, .move (.tmp 16), some 128⟩,
               ⟨.yes, .move (.tmp 5), some 129⟩,
               ⟨.yes, .call ⟨.builtin .len, #[.tmp 129], #[60]⟩, some 130⟩,
               ⟨.yes, .binOp .lss 3 (.tmp 128) (.tmp 130) 3, some 131⟩])
             (.keep [2, 5, 15, 16, 131] (.cond (.tmp 131)
              .skip
              (.exit 8))))
            (.keep [2, 5, 15, 16] (.jn ⟨[2, 16], [(5, .sl 0), (15, .sl 1)], [.own .bool true, .own (.int .i64) true]⟩
             (.block 9 (.jn ⟨[2, 16], [(5, .sl 0), (15, .sl 1), (147, .dat .bool)], [.own .bool true, .own (.int .i64) true]⟩
               (.plan [⟨0, [], false, .pure, .yes, .move (.tmp 5), some 134⟩,
                 ⟨1, [], false, .pure, .yes, .move (.tmp 16), some 135⟩,
                 ⟨2, [], false, .pure, .yes, .indexAddr 60 (.tmp 134) (.tmp 135), some 136⟩,
                 ⟨3, [], false, .read, .yes, .load 4 (.tmp 136), some 137⟩,
                 ⟨4, [], false, .pure, .yes, .move (.tmp 137), some 138⟩,
                 ⟨5, [], false, .pure, .at 138 true, .fieldAddr 26 (.tmp 2) 0, some 139⟩,
                 ⟨6, [], false, .read, .at 138 true, .load 22 (.tmp 139), some 140⟩,
                 ⟨7, [], false, .pure, .at 138 true, .fieldAddr 26 (.tmp 2) 1, some 141⟩,
                 ⟨8, [], false, .read, .at 138 true, .load 23 (.tmp 141), some 142⟩,
                 ⟨9, [], false, .pure, .at 138 true, .move (.tmp 16), some 143⟩,
                 ⟨10, [], false, .pure, .at 138 true, .indexAddr 23 (.tmp 142) (.tmp 143), some 144⟩,
                 ⟨11, [], false, .read, .at 138 true, .load 44 (.tmp 144), some 145⟩,
                 ⟨12, [], false, .write, .at 138 true, .call ⟨.value (.func 41), #[.tmp 140, .tmp 145], #[22, 44]⟩, some 146⟩,
                 ⟨13, [], false, .pure, .yes, .pick (.tmp 138) (.tmp 146) (.const (.bool false)), some 147⟩])
               (.keep [2, 5, 15, 16, 147] (.cond (.tmp 147)
                (.ops [⟨.yes, .move (.tmp 15), some 148⟩,
                  ⟨.yes, .move (.tmp 16), some 149⟩,
                  ⟨.yes, .buildSlice 28 1 #[(0, .tmp 149)], some 150⟩,
                  ⟨.yes, .call ⟨.builtin .append, #[.tmp 148, .tmp 150], #[28, 28]⟩, some 151⟩,
                  ⟨.yes, .assign (.tmp 151), some 15⟩])
                .skip))))
             (.keep [2, 5, 15, 16] (.ops [⟨.yes, .move (.tmp 16), some 132⟩,
               ⟨.yes, .binOp .add 3 (.tmp 132) (.const (.int .i64 1)) 3, some 133⟩,
               ⟨.yes, .assign (.tmp 133), some 16⟩])))))))))
        (.keep [15] (.seq
         (.ops [⟨.yes, .move (.tmp 15), some 152⟩,
           ⟨.yes, .assign (.tmp 152), some 4⟩])
         .ret)))))))))))), [.tmp 4]⟩
theorem is16 : IsFA P pol (planOf pol) 16 2 a16 := ⟨⟨_, _, Try.func16, rfl, rfl, rfl, by kernel_rfl⟩, by decide⟩
theorem ok16 : a16.c.ok = true := by kernel_rfl
theorem r16 (x : denL [(.st (.prod (.list (.st (.prod (.int .i64) (.prod (.int .i64) (.list (.int .i64)))))) (.prod (.list (.st (.prod (.int .i64) (.prod (.int .i64) (.prod (.int .i64) (.prod (.list (.int .i64)) (.list (.int .i64)))))))) (.prod (.list (.st (.prod (.int .i64) (.st (.prod (.int .i64) (.int .i64)))))) (.prod (.int .i64) (.prod (.int .i64) (.prod (.int .i64) (.int .i64)))))))), (.list (.int .i64))]) : fun2 (env [(14, sp14), (41, sp41)] []) a16 [(.st (.prod (.list (.st (.prod (.int .i64) (.prod (.int .i64) (.list (.int .i64)))))) (.prod (.list (.st (.prod (.int .i64) (.prod (.int .i64) (.prod (.int .i64) (.prod (.list (.int .i64)) (.list (.int .i64)))))))) (.prod (.list (.st (.prod (.int .i64) (.st (.prod (.int .i64) (.int .i64)))))) (.prod (.int .i64) (.prod (.int .i64) (.prod (.int .i64) (.int .i64)))))))), (.list (.int .i64))] [(.list (.int .i64))] x = F16 x.1 x.2 := by kernel_rfl
noncomputable def sp16 : FSp := ⟨[(.st (.prod (.list (.st (.prod (.int .i64) (.prod (.int .i64) (.list (.int .i64)))))) (.prod (.list (.st (.prod (.int .i64) (.prod (.int .i64) (.prod (.int .i64) (.prod (.list (.int .i64)) (.list (.int .i64)))))))) (.prod (.list (.st (.prod (.int .i64) (.st (.prod (.int .i64) (.int .i64)))))) (.prod (.int .i64) (.prod (.int .i64) (.prod (.int .i64) (.int .i64)))))))), (.list (.int .i64))], [(.list (.int .i64))], fun x => F16 x.1 x.2⟩
theorem s16 : SpOk pol P 16 sp16 := fun x r h => fun_ok is16 (fun _ => rfl) (tyOk [(14, sp14), (41, sp41)] []) (kOk rfl rfl rfl (allC s14 (allC s41 allN)) imN) ok16 rfl rfl ((r16 x).trans h)
end Go.Proofs.Ytffkjnaocflmdaa
namespace Go.Proofs.Ytffkjnaocflmdaa
open Go.Eng Go.Dat
set_option linter.unusedVariables false
-- 4 fulling/fullinglaw22.ExplainPaths
noncomputable def a4 : FA := ⟨120, (.seq
   (.ops [⟨.yes, .assign (.const (.bool false)), some 16⟩])
   (.seq
    (.ops [⟨.yes, .move (.tmp 0), some 27⟩,
      ⟨.yes, .move (.tmp 1), some 28⟩,
      ⟨.yes, .move (.tmp 2), some 29⟩,
      ⟨.yes, .move (.tmp 3), some 30⟩,
      ⟨.yes, .call ⟨.value (.func 13), #[.tmp 27, .tmp 28, .tmp 29, .tmp 30], #[28, 28, 3, 3]⟩, some 31⟩,
      ⟨.yes, .alloc 26, some 17⟩,
      ⟨.yes, .store 26 (.tmp 17) (.tmp 31), none⟩])
    (.lock 17 (.keep [4, 5, 6, 7, 17] (.seq
     (.seq
      (.ops [⟨.yes, .assign (.const (.int .i64 (-1))), some 18⟩])
      (.block 0 (.loop ⟨[4, 5, 6, 7, 17], [(18, .dat (.int .i64))], []⟩ (.keep [4, 5, 6, 7, 17, 18] (.seq
         (.seq
          (.ops [⟨.yes, .move (.tmp 18), some 32⟩,
            ⟨.yes, .fieldAddr 26 (.tmp 17) 0, some 33⟩,
            ⟨.yes, .load 22 (.tmp 33), some 34⟩,
            ⟨.yes, .call ⟨.builtin .len, #[.tmp 34], #[22]⟩, some 35⟩,
            ⟨.yes, .binOp .leq 3 (.tmp 32) (.tmp 35) 3, some 36⟩])
          (.keep [4, 5, 6, 7, 17, 18, 36] (.cond (.tmp 36)
           .skip
           (.exit 0))))
         (.keep [4, 5, 6, 7, 17, 18] (.seq
          (.block 1 (.seq
            (.ops [⟨.yes, .load 26 (.tmp 17), some 40⟩,
              ⟨.yes, .move (.tmp 4), some 41⟩,
              ⟨.yes, .move (.tmp 18), some 42⟩,
              ⟨.yes, .move (.tmp 6), some 43⟩,
              ⟨.yes, .call ⟨.value (.func 8), #[.tmp 40, .tmp 41, .tmp 42, .tmp 43], #[26, 3, 3, 3]⟩, some 44⟩,
              ⟨.yes, .move (.tmp 44), some 39⟩,
              ⟨.yes, .extract (.tmp 39) 0, some 45⟩,
              ⟨.yes, .extract (.tmp 39) 1, some 46⟩,
              ⟨.yes, .assign (.tmp 45), some 19⟩,
              ⟨.yes, .assign (.tmp 46), some 20⟩])
            (.keep [4, 5, 6, 7, 17, 18, 19, 20] (.seq
             (.ops [⟨.yes, .load 26 (.tmp 17), some 48⟩,
               ⟨.yes, .move (.tmp 4), some 49⟩,
               ⟨.yes, .move (.tmp 18), some 50⟩,
               ⟨.yes, .move (.tmp 6), some 51⟩,
               ⟨.yes, .call ⟨.value (.func 14), #[.tmp 48, .tmp 49, .tmp 50, .tmp 51], #[26, 3, 3, 3]⟩, some 52⟩,
               ⟨.yes, .move (.tmp 52), some 47⟩,
               ⟨.yes, .extract (.tmp 47) 0, some 53⟩,
               ⟨.yes, .extract (.tmp 47) 1, some 54⟩,
               ⟨.yes, .assign (.tmp 53), some 21⟩,
               ⟨.yes, .assign (.tmp 54), some 22⟩])
             (.keep [4, 5, 6, 7, 17, 18, 19, 20, 21, 22] (.seq
              (.plan [⟨0, [], true, .read, .yes, .load 26 (.tmp 17), some 56⟩,
                ⟨1, [], false, .pure, .yes, .move (.tmp 18), some 57⟩,
                ⟨2, [], false, .pure, .yes, .move (.tmp 5), some 58⟩,
                ⟨3, [], false, .pure, .yes, .fieldAddr 26 (.tmp 17) 0, some 59⟩,
                ⟨4, [], false, .read, .yes, .load 22 (.tmp 59), some 60⟩,
                ⟨5, [], false, .read, .yes, .call ⟨.builtin .len, #[.tmp 60], #[22]⟩, some 61⟩,
                ⟨7, [], false, .pure, .yes, .move (.tmp 6), some 63⟩,
                ⟨6, [0], false, .write, .yes, .call ⟨.value (.func 15), #[.tmp 58, .tmp 61], #[3, 3]⟩, some 62⟩,
                ⟨8, [0], false, .write, .yes, .call ⟨.value (.func 15), #[.tmp 63, .const (.int .i64 20)], #[3, 3]⟩, some 64⟩,
                ⟨9, [], false, .write, .yes, .call ⟨.value (.func 8), #[.tmp 56, .tmp 57, .tmp 62, .tmp 64], #[26, 3, 3, 3]⟩, some 65⟩,
                ⟨10, [], false, .pure, .yes, .move (.tmp 65), some 55⟩,
                ⟨11, [], false, .pure, .yes, .extract (.tmp 55) 0, some 66⟩,
                ⟨12, [], false, .pure, .yes, .extract (.tmp 55) 1, some 67⟩,
                ⟨13, [], false, .pure, .yes, .assign (.tmp 66), some 23⟩,
                ⟨14, [], false, .pure, .yes, .assign (.tmp 67), some 24⟩])
              (.keep [4, 5, 6, 7, 17, 18, 19, 20, 21, 22, 23, 24] (.seq
               (.plan [⟨0, [], true, .read, .yes, .load 26 (.tmp 17), some 69⟩,
                 ⟨1, [], false, .pure, .yes, .move (.tmp 18), some 70⟩,
                 ⟨2, [], false, .pure, .yes, .move (.tmp 5), some 71⟩,
                 ⟨3, [], false, .pure, .yes, .fieldAddr 26 (.tmp 17) 0, some 72⟩,
                 ⟨4, [], false, .read, .yes, .load 22 (.tmp 72), some 73⟩,
                 ⟨5, [], false, .read, .yes, .call ⟨.builtin .len, #[.tmp 73], #[22]⟩, some 74⟩,
                 ⟨7, [], false, .pure, .yes, .move (.tmp 6), some 76⟩,
                 ⟨6, [0], false, .write, .yes, .call ⟨.value (.func 15), #[.tmp 71, .tmp 74], #[3, 3]⟩, some 75⟩,
                 ⟨8, [0], false, .write, .yes, .call ⟨.value (.func 15), #[.tmp 76, .const (.int .i64 20)], #[3, 3]⟩, some 77⟩,
                 ⟨9, [], false, .write, .yes, .call ⟨.value (.func 14), #[.tmp 69, .tmp 70, .tmp 75, .tmp 77], #[26, 3, 3, 3]⟩, some 78⟩,
                 ⟨10, [], false, .pure, .yes, .move (.tmp 78), some 68⟩,
                 ⟨11, [], false, .pure, .yes, .extract (.tmp 68) 0, some 79⟩,
                 ⟨12, [], false, .pure, .yes, .extract (.tmp 68) 1, some 80⟩,
                 ⟨13, [], false, .pure, .yes, .assign (.tmp 79), some 25⟩,
                 ⟨14, [], false, .pure, .yes, .assign (.tmp 80), some 26⟩])
               (.keep [4, 5, 6, 7, 17, 18, 19, 20, 21, 22, 23, 24, 25, 26] (.jn ⟨[4, 5, 6, 7, 17, 18], [(100, .dat .bool)], []⟩
                (.ops [⟨.yes, .move (.tmp 20), some 81⟩,
                  ⟨.yes, .move (.tmp 22), some 82⟩,
                  ⟨.yes, .binOp .neq 4 (.tmp 81) (.tmp 82) 4, some 83⟩,
                  ⟨.yes, .move (.tmp 83), some 84⟩,
                  ⟨.at 84 false, .move (.tmp 24), some 85⟩,
                  ⟨.at 84 false, .move (.tmp 26), some 86⟩,
                  ⟨.at 84 false, .binOp .neq 4 (.tmp 85) (.tmp 86) 4, some 87⟩,
                  ⟨.yes, .pick (.tmp 84) (.const (.bool true)) (.tmp 87), some 88⟩,
                  ⟨.yes, .move (.tmp 88), some 89⟩,
                  ⟨.at 89 false, .move (.tmp 19), some 90⟩,
                  ⟨.at 89 false, .move (.tmp 21), some 91⟩,
                  ⟨.at 89 false, .call ⟨.value (.func 10), #[.tmp 90, .tmp 91], #[28, 28]⟩, some 92⟩,
                  ⟨.at 89 false, .unOp .not 4 (.tmp 92), some 93⟩,
                  ⟨.yes, .pick (.tmp 89) (.const (.bool true)) (.tmp 93), some 94⟩,
                  ⟨.yes, .move (.tmp 94), some 95⟩,
                  ⟨.at 95 false, .move (.tmp 23), some 96⟩,
                  ⟨.at 95 false, .move (.tmp 25), some 97⟩,
                  ⟨.at 95 false, .call ⟨.value (.func 10), #[.tmp 96, .tmp 97], #[28, 28]⟩, some 98⟩,
                  ⟨.at 95 false, .unOp .not 4 (.tmp 98), some 99⟩,
                  ⟨.yes, .pick (.tmp 95) (.const (.bool true)) (.tmp 99), some 100⟩])
                (.keep [4, 5, 6, 7, 17, 18, 100] (.cond (.tmp 100)
                 (.seq
                  (.ops [⟨.yes, .assign (.const (.bool false)), some 16⟩])
                  .ret)
                 .skip))))))))))))
          (.keep [4, 5, 6, 7, 17, 18] (.ops [⟨.yes, .move (.tmp 18), some 37⟩,
            ⟨.yes, .binOp .add 3 (.tmp 37) (.const (.int .i64 1)) 3, some 38⟩,
            ⟨.yes, .assign (.tmp 38), some 18⟩])))))))))
     (.keep [7, 17] (.jn ⟨[], [(16, .dat .bool)], []⟩
      (.plan [⟨0, [], false, .read, .yes, .load 26 (.tmp 17), some 101⟩,
        ⟨1, [], false, .pure, .yes, .move (.tmp 7), some 102⟩,
        ⟨3, [], true, .read, .yes, .load 26 (.tmp 17), some 104⟩,
        ⟨4, [], false, .pure, .yes, .move (.tmp 7), some 105⟩,
        ⟨2, [3], false, .write, .yes, .call ⟨.value (.func 11), #[.tmp 101, .tmp 102], #[26, 28]⟩, some 103⟩,
        ⟨5, [], false, .write, .yes, .call ⟨.value (.func 16), #[.tmp 104, .tmp 105], #[26, 28]⟩, some 106⟩,
        ⟨6, [], false, .write, .yes, .call ⟨.value (.func 10), #[.tmp 103, .tmp 106], #[28, 28]⟩, some 107⟩,
        ⟨7, [], false, .pure, .yes, .move (.tmp 107), some 108⟩,
        ⟨8, [], true, .read, .at 108 true, .load 26 (.tmp 17), some 109⟩,
        ⟨9, [8], true, .alloc, .at 108 true, .buildSlice 28 5 #[(0, .const (.int .i64 0)), (1, .const (.int .i64 3)), (2, .const (.int .i64 5)), (3, .const (.int .i64 9)), (4, .const (.int .i64 12))], some 110⟩,
        ⟨11, [9], true, .read, .at 108 true, .load 26 (.tmp 17), some 112⟩,
        ⟨12, [8, 11], true, .alloc, .at 108 true, .buildSlice 28 5 #[(0, .const (.int .i64 0)), (1, .const (.int .i64 3)), (2, .const (.int .i64 5)), (3, .const (.int .i64 9)), (4, .const (.int .i64 12))], some 113⟩,
        ⟨10, [11, 12], false, .write, .at 108 true, .call ⟨.value (.func 11), #[.tmp 109, .tmp 110], #[26, 28]⟩, some 111⟩,
        ⟨13, [], false, .write, .at 108 true, .call ⟨.value (.func 16), #[.tmp 112, .tmp 113], #[26, 28]⟩, some 114⟩,
        ⟨14, [], false, .write, .at 108 true, .call ⟨.value (.func 10), #[.tmp 111, .tmp 114], #[28, 28]⟩, some 115⟩,
        ⟨15, [], false, .pure, .yes, .pick (.tmp 108) (.tmp 115) (.const (.bool false)), some 116⟩,
        ⟨16, [], false, .pure, .yes, .move (.tmp 116), some 117⟩,
        ⟨17, [], false, .write, .at 117 true, .call ⟨.value (.func 3), #[], #[]⟩, some 118⟩,
        ⟨18, [], false, .pure, .yes, .pick (.tmp 117) (.tmp 118) (.const (.bool false)), some 119⟩,
        ⟨19, [], false, .pure, .yes, .assign (.tmp 119), some 16⟩])
      .ret))))))), [.tmp 16]⟩
theorem is4 : IsFA P pol (planOf pol) 4 8 a4 := ⟨⟨_, _, Try.func4, rfl, rfl, rfl, by kernel_rfl⟩, by decide⟩
theorem ok4 : a4.c.ok = true := by kernel_rfl
theorem r4 (x : denL [(.list (.int .i64)), (.list (.int .i64)), (.int .i64), (.int .i64), (.int .i64), (.int .i64), (.int .i64), (.list (.int .i64))]) : fun2 (env [(3, sp3), (8, sp8), (10, sp10), (11, sp11), (13, sp13), (14, sp14), (15, sp15), (16, sp16)] []) a4 [(.list (.int .i64)), (.list (.int .i64)), (.int .i64), (.int .i64), (.int .i64), (.int .i64), (.int .i64), (.list (.int .i64))] [.bool] x = F4 x.1 x.2.1 x.2.2.1 x.2.2.2.1 x.2.2.2.2.1 x.2.2.2.2.2.1 x.2.2.2.2.2.2.1 x.2.2.2.2.2.2.2 := by kernel_rfl
noncomputable def sp4 : FSp := ⟨[(.list (.int .i64)), (.list (.int .i64)), (.int .i64), (.int .i64), (.int .i64), (.int .i64), (.int .i64), (.list (.int .i64))], [.bool], fun x => F4 x.1 x.2.1 x.2.2.1 x.2.2.2.1 x.2.2.2.2.1 x.2.2.2.2.2.1 x.2.2.2.2.2.2.1 x.2.2.2.2.2.2.2⟩
theorem s4 : SpOk pol P 4 sp4 := fun x r h => fun_ok is4 (fun _ => rfl) (tyOk [(3, sp3), (8, sp8), (10, sp10), (11, sp11), (13, sp13), (14, sp14), (15, sp15), (16, sp16)] []) (kOk rfl rfl rfl (allC s3 (allC s8 (allC s10 (allC s11 (allC s13 (allC s14 (allC s15 (allC s16 allN)))))))) imN) ok4 rfl rfl ((r4 x).trans h)
end Go.Proofs.Ytffkjnaocflmdaa
