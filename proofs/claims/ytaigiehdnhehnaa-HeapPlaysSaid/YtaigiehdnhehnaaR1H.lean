/-
  The functions as abstract code: printed by a program of mine.
-/
import Derived.Test.YtaigiehdnhehnaaProg
import Derived.Test.YtaigiehdnhehnaaA20
import Derived.WalkKit
set_option maxRecDepth 100000
namespace Go.Proofs.Ytaigiehdnhehnaa
open Go Go.Abs

/- decorum/decorumlaw12.HeapSorts -/
def code3 : ACode :=
 .seq (
  .region [
    ⟨(some 2), .mov (.const (.bool false)), none⟩]
   none)
 (
  .seq (
   .region [
     ⟨(some 16), .call (.func 13) [], none⟩,
     ⟨(some 3), .mov (.tmp 16), none⟩]
    none)
  (
   .seq (
    .region [
      ⟨(some 17), .mov (.tmp 0), none⟩,
      ⟨(some 18), .len .slice (.tmp 17), none⟩,
      ⟨(some 4), .mov (.tmp 18), none⟩]
     none)
   (
    .seq (
     .seq (
      .region [
        ⟨(some 19), .mov (.tmp 4), none⟩,
        ⟨(some 20), .bin .gtr (.tmp 19) (.const (.int .i64 100)), none⟩]
       none)
     (
      .cond (.tmp 20) (
       .region [
         ⟨(some 4), .mov (.const (.int .i64 100)), none⟩]
        none)
      (
       .skip)))
    (
     .seq (
      .seq (
       .region [
         ⟨(some 5), .mov (.const (.int .i64 0)), none⟩]
        none)
      (
       .block 0 (
        .loop [0, 3, 4, 5] (
         .seq (
          .seq (
           .region [
             ⟨(some 21), .mov (.tmp 5), none⟩,
             ⟨(some 22), .mov (.tmp 4), none⟩,
             ⟨(some 23), .bin .lss (.tmp 21) (.tmp 22), none⟩]
            none)
          (
           .cond (.tmp 23) (
            .skip)
           (
            .exit 0)))
         (
          .seq (
           .block 1 (
            .region [
              ⟨(some 26), .mov (.tmp 3), none⟩,
              ⟨(some 27), .mov (.tmp 5), none⟩,
              ⟨(some 28), .mov (.tmp 0), none⟩,
              ⟨(some 29), .mov (.tmp 5), none⟩,
              ⟨(some 30), .indexAddr 1 (.tmp 28) (.tmp 29), none⟩,
              ⟨(some 31), .load none (.tmp 30), none⟩,
              ⟨(some 32), .call (.func 14) [(.tmp 26), (.tmp 27), (.tmp 31)], none⟩]
             none))
          (
           .region [
             ⟨(some 24), .mov (.tmp 5), none⟩,
             ⟨(some 25), .bin .add (.tmp 24) (.const (.int .i64 1)), none⟩,
             ⟨(some 5), .mov (.tmp 25), none⟩]
            none))))))
     (
      .seq (
       .region [
         ⟨(some 33), .mov (.tmp 4), none⟩,
         ⟨(some 34), .mkSlice 4 1 1 [(.bool false)] (.tmp 33) (.tmp 33), none⟩,
         ⟨(some 6), .mov (.tmp 34), none⟩]
        none)
      (
       .seq (
        .region [
          ⟨(some 7), .mov (.const (.int .i64 0)), none⟩,
          ⟨(some 8), .mov (.const (.int .i64 (-1))), none⟩]
         none)
       (
        .seq (
         .seq (
          .region [
            ⟨(some 9), .mov (.const (.int .i64 0)), none⟩]
           none)
         (
          .block 2 (
           .loop [0, 3, 4, 6, 7, 8, 9] (
            .seq (
             .seq (
              .region [
                ⟨(some 35), .mov (.tmp 9), none⟩,
                ⟨(some 36), .mov (.tmp 4), none⟩,
                ⟨(some 37), .bin .lss (.tmp 35) (.tmp 36), none⟩]
               none)
             (
              .cond (.tmp 37) (
               .skip)
              (
               .exit 2)))
            (
             .seq (
              .block 3 (
               .seq (
                .region [
                  ⟨(some 41), .mov (.tmp 3), none⟩,
                  ⟨(some 42), .call (.func 15) [(.tmp 41)], none⟩,
                  ⟨(some 40), .mov (.tmp 42), none⟩,
                  ⟨(some 43), .extract (.tmp 40) 0, none⟩,
                  ⟨(some 44), .extract (.tmp 40) 1, none⟩,
                  ⟨(some 45), .extract (.tmp 40) 2, none⟩,
                  ⟨(some 10), .mov (.tmp 43), none⟩,
                  ⟨(some 11), .mov (.tmp 44), none⟩,
                  ⟨(some 12), .mov (.tmp 45), none⟩]
                 none)
               (
                .seq (
                 .seq (
                  .region [
                    ⟨(some 46), .mov (.tmp 12), none⟩,
                    ⟨(some 47), .un .not (.tmp 46), none⟩,
                    ⟨(some 48), .mov (.tmp 47), none⟩,
                    ⟨(some 49), .mov (.tmp 10), (some (48, false))⟩,
                    ⟨(some 50), .bin .lss (.tmp 49) (.const (.int .i64 0)), (some (48, false))⟩,
                    ⟨(some 51), .pick (.tmp 48) (.const (.bool true)) (.tmp 50), none⟩,
                    ⟨(some 52), .mov (.tmp 51), none⟩,
                    ⟨(some 53), .mov (.tmp 10), (some (52, false))⟩,
                    ⟨(some 54), .mov (.tmp 4), (some (52, false))⟩,
                    ⟨(some 55), .bin .geq (.tmp 53) (.tmp 54), (some (52, false))⟩,
                    ⟨(some 56), .pick (.tmp 52) (.const (.bool true)) (.tmp 55), none⟩,
                    ⟨(some 57), .mov (.tmp 56), none⟩,
                    ⟨(some 58), .mov (.tmp 6), (some (57, false))⟩,
                    ⟨(some 59), .mov (.tmp 10), (some (57, false))⟩,
                    ⟨(some 60), .indexAddr 1 (.tmp 58) (.tmp 59), (some (57, false))⟩,
                    ⟨(some 61), .load none (.tmp 60), (some (57, false))⟩,
                    ⟨(some 62), .pick (.tmp 57) (.const (.bool true)) (.tmp 61), none⟩,
                    ⟨(some 63), .mov (.tmp 62), none⟩,
                    ⟨(some 64), .mov (.tmp 0), (some (63, false))⟩,
                    ⟨(some 65), .mov (.tmp 10), (some (63, false))⟩,
                    ⟨(some 66), .indexAddr 1 (.tmp 64) (.tmp 65), (some (63, false))⟩,
                    ⟨(some 67), .load none (.tmp 66), (some (63, false))⟩,
                    ⟨(some 68), .mov (.tmp 11), (some (63, false))⟩,
                    ⟨(some 69), .bin .neq (.tmp 67) (.tmp 68), (some (63, false))⟩,
                    ⟨(some 70), .pick (.tmp 63) (.const (.bool true)) (.tmp 69), none⟩,
                    ⟨(some 71), .mov (.tmp 70), none⟩,
                    ⟨(some 72), .mov (.tmp 9), (some (71, false))⟩,
                    ⟨(some 73), .bin .gtr (.tmp 72) (.const (.int .i64 0)), (some (71, false))⟩,
                    ⟨(some 74), .mov (.tmp 73), (some (71, false))⟩,
                    ⟨(some 75), .mov (.tmp 11), (some (74, true))⟩,
                    ⟨(some 76), .mov (.tmp 7), (some (74, true))⟩,
                    ⟨(some 77), .bin .lss (.tmp 75) (.tmp 76), (some (74, true))⟩,
                    ⟨(some 78), .mov (.tmp 77), (some (74, true))⟩,
                    ⟨(some 79), .mov (.tmp 11), (some (78, false))⟩,
                    ⟨(some 80), .mov (.tmp 7), (some (78, false))⟩,
                    ⟨(some 81), .bin .eql (.tmp 79) (.tmp 80), (some (78, false))⟩,
                    ⟨(some 82), .mov (.tmp 81), (some (78, false))⟩,
                    ⟨(some 83), .mov (.tmp 10), (some (82, true))⟩,
                    ⟨(some 84), .mov (.tmp 8), (some (82, true))⟩,
                    ⟨(some 85), .bin .lss (.tmp 83) (.tmp 84), (some (82, true))⟩,
                    ⟨(some 86), .pick (.tmp 82) (.tmp 85) (.const (.bool false)), (some (78, false))⟩,
                    ⟨(some 87), .pick (.tmp 78) (.const (.bool true)) (.tmp 86), (some (74, true))⟩,
                    ⟨(some 88), .pick (.tmp 74) (.tmp 87) (.const (.bool false)), (some (71, false))⟩,
                    ⟨(some 89), .pick (.tmp 71) (.const (.bool true)) (.tmp 88), none⟩,
                    ⟨(some 90), .mov (.tmp 89), none⟩,
                    ⟨(some 91), .mov (.tmp 3), (some (90, false))⟩,
                    ⟨(some 92), .mov (.tmp 10), (some (90, false))⟩,
                    ⟨(some 93), .call (.func 16) [(.tmp 91), (.tmp 92)], (some (90, false))⟩,
                    ⟨(some 94), .un .not (.tmp 93), (some (90, false))⟩,
                    ⟨(some 95), .pick (.tmp 90) (.const (.bool true)) (.tmp 94), none⟩]
                   none)
                 (
                  .cond (.tmp 95) (
                   .seq (
                    .region [
                      ⟨(some 2), .mov (.const (.bool false)), none⟩]
                     none)
                   (
                    .ret))
                  (
                   .skip)))
                (
                 .region [
                   ⟨(some 96), .mov (.tmp 6), none⟩,
                   ⟨(some 97), .mov (.tmp 10), none⟩,
                   ⟨(some 98), .mov (.tmp 11), none⟩,
                   ⟨(some 99), .mov (.tmp 10), none⟩,
                   ⟨(some 100), .indexAddr 1 (.tmp 96) (.tmp 97), none⟩,
                   ⟨none, .store 1 (.tmp 100) (.const (.bool true)), none⟩,
                   ⟨(some 7), .mov (.tmp 98), none⟩,
                   ⟨(some 8), .mov (.tmp 99), none⟩]
                  none))))
             (
              .region [
                ⟨(some 38), .mov (.tmp 9), none⟩,
                ⟨(some 39), .bin .add (.tmp 38) (.const (.int .i64 1)), none⟩,
                ⟨(some 9), .mov (.tmp 39), none⟩]
               none))))))
        (
         .seq (
          .region [
            ⟨(some 102), .mov (.tmp 3), none⟩,
            ⟨(some 103), .call (.func 15) [(.tmp 102)], none⟩,
            ⟨(some 101), .mov (.tmp 103), none⟩,
            ⟨(some 104), .extract (.tmp 101) 0, none⟩,
            ⟨(some 105), .extract (.tmp 101) 1, none⟩,
            ⟨(some 106), .extract (.tmp 101) 2, none⟩,
            ⟨(some 13), .mov (.tmp 104), none⟩,
            ⟨(some 14), .mov (.tmp 105), none⟩,
            ⟨(some 15), .mov (.tmp 106), none⟩]
           none)
         (
          .seq (
           .region [
             ⟨(some 107), .call (.func 17) [], none⟩,
             ⟨(some 108), .mov (.tmp 107), none⟩,
             ⟨(some 109), .mov (.tmp 15), (some (108, true))⟩,
             ⟨(some 110), .un .not (.tmp 109), (some (108, true))⟩,
             ⟨(some 111), .pick (.tmp 108) (.tmp 110) (.const (.bool false)), none⟩,
             ⟨(some 112), .mov (.tmp 111), none⟩,
             ⟨(some 113), .mov (.tmp 3), (some (112, true))⟩,
             ⟨(some 114), .call (.func 18) [(.tmp 113)], (some (112, true))⟩,
             ⟨(some 115), .bin .eql (.tmp 114) (.const (.int .i64 0)), (some (112, true))⟩,
             ⟨(some 116), .pick (.tmp 112) (.tmp 115) (.const (.bool false)), none⟩,
             ⟨(some 2), .mov (.tmp 116), none⟩]
            none)
          (
           .ret))))))))))
def fun3 : AFun := ⟨1, code3, [.tmp 2]⟩
theorem comp3 : FunOK Try.prog 3 fun3 :=
  FunOK.of Try.func3 [[0, 3, 4, 5], [0, 3, 4, 6, 7, 8, 9]] [] (by kernel_rfl) (by kernel_rfl) (by decide +kernel) (by kernel_rfl)

/- decorum/decorumlaw12.HeapAgain -/
def code4 : ACode :=
 .seq (
  .region [
    ⟨(some 4), .mov (.const (.bool false)), none⟩]
   none)
 (
  .seq (
   .region [
     ⟨(some 18), .call (.func 13) [], none⟩,
     ⟨(some 19), .call (.func 13) [], none⟩,
     ⟨(some 5), .mov (.tmp 18), none⟩,
     ⟨(some 6), .mov (.tmp 19), none⟩]
    none)
  (
   .seq (
    .region [
      ⟨(some 20), .mov (.tmp 0), none⟩,
      ⟨(some 21), .len .slice (.tmp 20), none⟩,
      ⟨(some 7), .mov (.tmp 21), none⟩]
     none)
   (
    .seq (
     .seq (
      .region [
        ⟨(some 22), .mov (.tmp 7), none⟩,
        ⟨(some 23), .bin .gtr (.tmp 22) (.const (.int .i64 60)), none⟩]
       none)
     (
      .cond (.tmp 23) (
       .region [
         ⟨(some 7), .mov (.const (.int .i64 60)), none⟩]
        none)
      (
       .skip)))
    (
     .seq (
      .seq (
       .region [
         ⟨(some 8), .mov (.const (.int .i64 0)), none⟩]
        none)
      (
       .block 0 (
        .loop [0, 1, 5, 6, 7, 8] (
         .seq (
          .seq (
           .region [
             ⟨(some 24), .mov (.tmp 8), none⟩,
             ⟨(some 25), .mov (.tmp 7), none⟩,
             ⟨(some 26), .bin .lss (.tmp 24) (.tmp 25), none⟩]
            none)
          (
           .cond (.tmp 26) (
            .skip)
           (
            .exit 0)))
         (
          .seq (
           .block 1 (
            .region [
              ⟨(some 29), .mov (.tmp 5), none⟩,
              ⟨(some 30), .mov (.tmp 8), none⟩,
              ⟨(some 31), .mov (.tmp 0), none⟩,
              ⟨(some 32), .mov (.tmp 8), none⟩,
              ⟨(some 33), .indexAddr 1 (.tmp 31) (.tmp 32), none⟩,
              ⟨(some 34), .load none (.tmp 33), none⟩,
              ⟨(some 35), .call (.func 14) [(.tmp 29), (.tmp 30), (.tmp 34)], none⟩]
             none))
          (
           .region [
             ⟨(some 27), .mov (.tmp 8), none⟩,
             ⟨(some 28), .bin .add (.tmp 27) (.const (.int .i64 1)), none⟩,
             ⟨(some 8), .mov (.tmp 28), none⟩]
            none))))))
     (
      .seq (
       .seq (
        .region [
          ⟨(some 9), .mov (.const (.int .i64 0)), none⟩]
         none)
       (
        .block 2 (
         .loop [0, 1, 5, 6, 7, 9] (
          .seq (
           .seq (
            .region [
              ⟨(some 36), .mov (.tmp 9), none⟩,
              ⟨(some 37), .mov (.tmp 1), none⟩,
              ⟨(some 38), .len .slice (.tmp 37), none⟩,
              ⟨(some 39), .bin .lss (.tmp 36) (.tmp 38), none⟩,
              ⟨(some 40), .mov (.tmp 39), none⟩,
              ⟨(some 41), .mov (.tmp 9), (some (40, true))⟩,
              ⟨(some 42), .bin .lss (.tmp 41) (.const (.int .i64 100)), (some (40, true))⟩,
              ⟨(some 43), .pick (.tmp 40) (.tmp 42) (.const (.bool false)), none⟩,
              ⟨(some 44), .mov (.tmp 43), none⟩,
              ⟨(some 45), .mov (.tmp 7), (some (44, true))⟩,
              ⟨(some 46), .bin .gtr (.tmp 45) (.const (.int .i64 0)), (some (44, true))⟩,
              ⟨(some 47), .pick (.tmp 44) (.tmp 46) (.const (.bool false)), none⟩]
             none)
           (
            .cond (.tmp 47) (
             .skip)
            (
             .exit 2)))
          (
           .seq (
            .block 3 (
             .region [
               ⟨(some 50), .mov (.tmp 6), none⟩,
               ⟨(some 51), .mov (.tmp 1), none⟩,
               ⟨(some 52), .mov (.tmp 9), none⟩,
               ⟨(some 53), .indexAddr 1 (.tmp 51) (.tmp 52), none⟩,
               ⟨(some 54), .load none (.tmp 53), none⟩,
               ⟨(some 55), .conv (.int .i64) (.tmp 54), none⟩,
               ⟨(some 56), .mov (.tmp 7), none⟩,
               ⟨(some 57), .bin .rem (.tmp 55) (.tmp 56), none⟩,
               ⟨(some 58), .mov (.tmp 9), none⟩,
               ⟨(some 59), .un .neg (.tmp 58), none⟩,
               ⟨(some 60), .call (.func 14) [(.tmp 50), (.tmp 57), (.tmp 59)], none⟩]
              none))
           (
            .region [
              ⟨(some 48), .mov (.tmp 9), none⟩,
              ⟨(some 49), .bin .add (.tmp 48) (.const (.int .i64 1)), none⟩,
              ⟨(some 9), .mov (.tmp 49), none⟩]
             none))))))
      (
       .seq (
        .seq (
         .region [
           ⟨(some 61), .mov (.tmp 7), none⟩,
           ⟨(some 62), .bin .sub (.tmp 61) (.const (.int .i64 1)), none⟩,
           ⟨(some 10), .mov (.tmp 62), none⟩]
          none)
        (
         .block 4 (
          .loop [0, 5, 6, 7, 10] (
           .seq (
            .seq (
             .region [
               ⟨(some 63), .mov (.tmp 10), none⟩,
               ⟨(some 64), .bin .geq (.tmp 63) (.const (.int .i64 0)), none⟩]
              none)
            (
             .cond (.tmp 64) (
              .skip)
             (
              .exit 4)))
           (
            .seq (
             .block 5 (
              .region [
                ⟨(some 67), .mov (.tmp 6), none⟩,
                ⟨(some 68), .mov (.tmp 10), none⟩,
                ⟨(some 69), .mov (.tmp 0), none⟩,
                ⟨(some 70), .mov (.tmp 10), none⟩,
                ⟨(some 71), .indexAddr 1 (.tmp 69) (.tmp 70), none⟩,
                ⟨(some 72), .load none (.tmp 71), none⟩,
                ⟨(some 73), .call (.func 14) [(.tmp 67), (.tmp 68), (.tmp 72)], none⟩]
               none))
            (
             .region [
               ⟨(some 65), .mov (.tmp 10), none⟩,
               ⟨(some 66), .bin .sub (.tmp 65) (.const (.int .i64 1)), none⟩,
               ⟨(some 10), .mov (.tmp 66), none⟩]
              none))))))
       (
        .seq (
         .seq (
          .region [
            ⟨(some 11), .mov (.const (.int .i64 0)), none⟩]
           none)
         (
          .block 6 (
           .loop [5, 6, 7, 11] (
            .seq (
             .seq (
              .region [
                ⟨(some 74), .mov (.tmp 11), none⟩,
                ⟨(some 75), .mov (.tmp 7), none⟩,
                ⟨(some 76), .bin .lss (.tmp 74) (.tmp 75), none⟩]
               none)
             (
              .cond (.tmp 76) (
               .skip)
              (
               .exit 6)))
            (
             .seq (
              .block 7 (
               .seq (
                .region [
                  ⟨(some 80), .mov (.tmp 5), none⟩,
                  ⟨(some 81), .call (.func 15) [(.tmp 80)], none⟩,
                  ⟨(some 79), .mov (.tmp 81), none⟩,
                  ⟨(some 82), .extract (.tmp 79) 0, none⟩,
                  ⟨(some 83), .extract (.tmp 79) 1, none⟩,
                  ⟨(some 84), .extract (.tmp 79) 2, none⟩,
                  ⟨(some 12), .mov (.tmp 82), none⟩,
                  ⟨(some 13), .mov (.tmp 83), none⟩,
                  ⟨(some 14), .mov (.tmp 84), none⟩]
                 none)
               (
                .seq (
                 .region [
                   ⟨(some 86), .mov (.tmp 6), none⟩,
                   ⟨(some 87), .call (.func 15) [(.tmp 86)], none⟩,
                   ⟨(some 85), .mov (.tmp 87), none⟩,
                   ⟨(some 88), .extract (.tmp 85) 0, none⟩,
                   ⟨(some 89), .extract (.tmp 85) 1, none⟩,
                   ⟨(some 90), .extract (.tmp 85) 2, none⟩,
                   ⟨(some 15), .mov (.tmp 88), none⟩,
                   ⟨(some 16), .mov (.tmp 89), none⟩,
                   ⟨(some 17), .mov (.tmp 90), none⟩]
                  none)
                (
                 .seq (
                  .region [
                    ⟨(some 91), .mov (.tmp 14), none⟩,
                    ⟨(some 92), .un .not (.tmp 91), none⟩,
                    ⟨(some 93), .mov (.tmp 92), none⟩,
                    ⟨(some 94), .mov (.tmp 17), (some (93, false))⟩,
                    ⟨(some 95), .un .not (.tmp 94), (some (93, false))⟩,
                    ⟨(some 96), .pick (.tmp 93) (.const (.bool true)) (.tmp 95), none⟩,
                    ⟨(some 97), .mov (.tmp 96), none⟩,
                    ⟨(some 98), .mov (.tmp 12), (some (97, false))⟩,
                    ⟨(some 99), .mov (.tmp 15), (some (97, false))⟩,
                    ⟨(some 100), .bin .neq (.tmp 98) (.tmp 99), (some (97, false))⟩,
                    ⟨(some 101), .pick (.tmp 97) (.const (.bool true)) (.tmp 100), none⟩,
                    ⟨(some 102), .mov (.tmp 101), none⟩,
                    ⟨(some 103), .mov (.tmp 13), (some (102, false))⟩,
                    ⟨(some 104), .mov (.tmp 16), (some (102, false))⟩,
                    ⟨(some 105), .bin .neq (.tmp 103) (.tmp 104), (some (102, false))⟩,
                    ⟨(some 106), .pick (.tmp 102) (.const (.bool true)) (.tmp 105), none⟩,
                    ⟨(some 107), .mov (.tmp 106), none⟩,
                    ⟨(some 108), .mov (.tmp 5), (some (107, false))⟩,
                    ⟨(some 109), .mov (.tmp 12), (some (107, false))⟩,
                    ⟨(some 110), .call (.func 16) [(.tmp 108), (.tmp 109)], (some (107, false))⟩,
                    ⟨(some 111), .un .not (.tmp 110), (some (107, false))⟩,
                    ⟨(some 112), .pick (.tmp 107) (.const (.bool true)) (.tmp 111), none⟩,
                    ⟨(some 113), .mov (.tmp 112), none⟩,
                    ⟨(some 114), .mov (.tmp 6), (some (113, false))⟩,
                    ⟨(some 115), .mov (.tmp 15), (some (113, false))⟩,
                    ⟨(some 116), .call (.func 16) [(.tmp 114), (.tmp 115)], (some (113, false))⟩,
                    ⟨(some 117), .un .not (.tmp 116), (some (113, false))⟩,
                    ⟨(some 118), .pick (.tmp 113) (.const (.bool true)) (.tmp 117), none⟩]
                   none)
                 (
                  .cond (.tmp 118) (
                   .seq (
                    .region [
                      ⟨(some 4), .mov (.const (.bool false)), none⟩]
                     none)
                   (
                    .ret))
                  (
                   .skip))))))
             (
              .region [
                ⟨(some 77), .mov (.tmp 11), none⟩,
                ⟨(some 78), .bin .add (.tmp 77) (.const (.int .i64 1)), none⟩,
                ⟨(some 11), .mov (.tmp 78), none⟩]
               none))))))
        (
         .seq (
          .region [
            ⟨(some 119), .call (.func 17) [], none⟩,
            ⟨(some 120), .mov (.tmp 119), none⟩,
            ⟨(some 121), .mov (.tmp 5), (some (120, true))⟩,
            ⟨(some 122), .call (.func 18) [(.tmp 121)], (some (120, true))⟩,
            ⟨(some 123), .bin .eql (.tmp 122) (.const (.int .i64 0)), (some (120, true))⟩,
            ⟨(some 124), .pick (.tmp 120) (.tmp 123) (.const (.bool false)), none⟩,
            ⟨(some 125), .mov (.tmp 124), none⟩,
            ⟨(some 126), .mov (.tmp 6), (some (125, true))⟩,
            ⟨(some 127), .call (.func 18) [(.tmp 126)], (some (125, true))⟩,
            ⟨(some 128), .bin .eql (.tmp 127) (.const (.int .i64 0)), (some (125, true))⟩,
            ⟨(some 129), .pick (.tmp 125) (.tmp 128) (.const (.bool false)), none⟩,
            ⟨(some 4), .mov (.tmp 129), none⟩]
           none)
         (
          .ret)))))))))
def fun4 : AFun := ⟨2, code4, [.tmp 4]⟩
theorem comp4 : FunOK Try.prog 4 fun4 :=
  FunOK.of Try.func4 [[0, 1, 5, 6, 7, 8], [0, 1, 5, 6, 7, 9], [0, 5, 6, 7, 10], [5, 6, 7, 11]] [] (by kernel_rfl) (by kernel_rfl) (by decide +kernel) (by kernel_rfl)

/- decorum/decorumlaw12.HeapPlays -/
def code5 : ACode :=
 .seq (
  .region [
    ⟨(some 2), .mov (.const (.bool false)), none⟩]
   none)
 (
  .seq (
   .region [
     ⟨(some 17), .call (.func 13) [], none⟩,
     ⟨(some 3), .mov (.tmp 17), none⟩]
    none)
  (
   .seq (
    .region [
      ⟨(some 18), .buildSlice 41 2 0 [] [], none⟩,
      ⟨(some 4), .mov (.tmp 18), none⟩]
     none)
   (
    .seq (
     .seq (
      .region [
        ⟨(some 5), .mov (.const (.int .i64 0)), none⟩]
       none)
     (
      .block 0 (
       .loop [0, 3, 4, 5] (
        .seq (
         .seq (
          .region [
            ⟨(some 19), .mov (.tmp 5), none⟩,
            ⟨(some 20), .mov (.tmp 0), none⟩,
            ⟨(some 21), .len .slice (.tmp 20), none⟩,
            ⟨(some 22), .bin .lss (.tmp 19) (.tmp 21), none⟩,
            ⟨(some 23), .mov (.tmp 22), none⟩,
            ⟨(some 24), .mov (.tmp 5), (some (23, true))⟩,
            ⟨(some 25), .bin .lss (.tmp 24) (.const (.int .i64 150)), (some (23, true))⟩,
            ⟨(some 26), .pick (.tmp 23) (.tmp 25) (.const (.bool false)), none⟩]
           none)
         (
          .cond (.tmp 26) (
           .skip)
          (
           .exit 0)))
        (
         .seq (
          .block 1 (
           .seq (
            .region [
              ⟨(some 29), .mov (.tmp 0), none⟩,
              ⟨(some 30), .mov (.tmp 5), none⟩,
              ⟨(some 31), .indexAddr 3 (.tmp 29) (.tmp 30), none⟩,
              ⟨(some 32), .load (some 3) (.tmp 31), none⟩,
              ⟨(some 6), .alloc 38 [(.int .i64 0), (.int .i64 0), (.int .i64 0)], none⟩,
              ⟨none, .store 3 (.tmp 6) (.tmp 32), none⟩]
             none)
           (
            .seq (
             .region [
               ⟨(some 33), .mov (.tmp 4), none⟩,
               ⟨(some 34), .fieldAddr 1 (.tmp 6), none⟩,
               ⟨(some 35), .load none (.tmp 34), none⟩,
               ⟨(some 36), .call (.func 19) [(.tmp 33), (.tmp 35)], none⟩,
               ⟨(some 7), .mov (.tmp 36), none⟩]
              none)
            (
             .seq (
              .region [
                ⟨(some 37), .mov (.tmp 3), none⟩,
                ⟨(some 38), .call (.func 20) [(.tmp 37)], none⟩,
                ⟨(some 39), .mov (.tmp 4), none⟩,
                ⟨(some 40), .len .slice (.tmp 39), none⟩,
                ⟨(some 8), .mov (.tmp 38), none⟩,
                ⟨(some 9), .mov (.tmp 40), none⟩]
               none)
             (
              .seq (
               .seq (
                .region [
                  ⟨(some 41), .fieldAddr 0 (.tmp 6), none⟩,
                  ⟨(some 42), .load none (.tmp 41), none⟩,
                  ⟨(some 43), .bin .eql (.tmp 42) (.const (.int .i64 0)), none⟩]
                 none)
               (
                .cond (.tmp 43) (
                 .seq (
                  .region [
                    ⟨(some 44), .mov (.tmp 3), none⟩,
                    ⟨(some 45), .fieldAddr 1 (.tmp 6), none⟩,
                    ⟨(some 46), .load none (.tmp 45), none⟩,
                    ⟨(some 47), .fieldAddr 2 (.tmp 6), none⟩,
                    ⟨(some 48), .load none (.tmp 47), none⟩,
                    ⟨(some 49), .call (.func 14) [(.tmp 44), (.tmp 46), (.tmp 48)], none⟩]
                   none)
                 (
                  .seq (
                   .region [
                     ⟨(some 50), .mov (.tmp 7), none⟩,
                     ⟨(some 51), .bin .lss (.tmp 50) (.const (.int .i64 0)), none⟩]
                    none)
                  (
                   .cond (.tmp 51) (
                    .seq (
                     .region [
                       ⟨(some 52), .mov (.tmp 4), none⟩,
                       ⟨(some 53), .fieldAddr 1 (.tmp 6), none⟩,
                       ⟨(some 54), .load none (.tmp 53), none⟩,
                       ⟨(some 55), .fieldAddr 2 (.tmp 6), none⟩,
                       ⟨(some 56), .load none (.tmp 55), none⟩,
                       ⟨(some 57), .build [(.int .i64 0), (.int .i64 0)] [(0, 1, (.tmp 54)), (1, 1, (.tmp 56))], none⟩,
                       ⟨(some 58), .buildSlice 41 2 1 [(.int .i64 0), (.int .i64 0)] [(0, 2, (.tmp 57))], none⟩,
                       ⟨(some 59), .append 41 2 16 (.tmp 52) (.tmp 58), none⟩,
                       ⟨(some 4), .mov (.tmp 59), none⟩]
                      none)
                    (
                     .region [
                       ⟨(some 60), .mov (.tmp 9), none⟩,
                       ⟨(some 61), .bin .add (.tmp 60) (.const (.int .i64 1)), none⟩,
                       ⟨(some 9), .mov (.tmp 61), none⟩]
                      none))
                   (
                    .region [
                      ⟨(some 62), .mov (.tmp 4), none⟩,
                      ⟨(some 63), .mov (.tmp 7), none⟩,
                      ⟨(some 64), .fieldAddr 2 (.tmp 6), none⟩,
                      ⟨(some 65), .load none (.tmp 64), none⟩,
                      ⟨(some 66), .indexAddr 2 (.tmp 62) (.tmp 63), none⟩,
                      ⟨(some 67), .fieldAddr 1 (.tmp 66), none⟩,
                      ⟨none, .store 1 (.tmp 67) (.tmp 65), none⟩]
                     none))))
                (
                 .seq (
                  .seq (
                   .region [
                     ⟨(some 68), .mov (.tmp 3), none⟩,
                     ⟨(some 69), .fieldAddr 1 (.tmp 6), none⟩,
                     ⟨(some 70), .load none (.tmp 69), none⟩,
                     ⟨(some 71), .call (.func 16) [(.tmp 68), (.tmp 70)], none⟩,
                     ⟨(some 72), .mov (.tmp 7), none⟩,
                     ⟨(some 73), .bin .geq (.tmp 72) (.const (.int .i64 0)), none⟩,
                     ⟨(some 74), .eq true .scalar (.tmp 71) (.tmp 73), none⟩]
                    none)
                  (
                   .cond (.tmp 74) (
                    .seq (
                     .region [
                       ⟨(some 2), .mov (.const (.bool false)), none⟩]
                      none)
                    (
                     .ret))
                   (
                    .skip)))
                 (
                  .seq (
                   .region [
                     ⟨(some 75), .mov (.tmp 7), none⟩,
                     ⟨(some 76), .bin .geq (.tmp 75) (.const (.int .i64 0)), none⟩]
                    none)
                  (
                   .cond (.tmp 76) (
                    .region [
                      ⟨(some 77), .buildSlice 41 2 0 [] [], none⟩,
                      ⟨(some 78), .mov (.tmp 4), none⟩,
                      ⟨(some 79), .mov (.tmp 7), none⟩,
                      ⟨(some 80), .slice (.slice 2) (.tmp 78) none (some (.tmp 79)) none, none⟩,
                      ⟨(some 81), .append 41 2 16 (.tmp 77) (.tmp 80), none⟩,
                      ⟨(some 82), .mov (.tmp 4), none⟩,
                      ⟨(some 83), .mov (.tmp 7), none⟩,
                      ⟨(some 84), .bin .add (.tmp 83) (.const (.int .i64 1)), none⟩,
                      ⟨(some 85), .slice (.slice 2) (.tmp 82) (some (.tmp 84)) none none, none⟩,
                      ⟨(some 86), .append 41 2 16 (.tmp 81) (.tmp 85), none⟩,
                      ⟨(some 4), .mov (.tmp 86), none⟩]
                     (some ⟨[(4, 8)], []⟩))
                   (
                    .skip))))))
              (
               .seq (
                .seq (
                 .region [
                   ⟨(some 87), .mov (.tmp 3), none⟩,
                   ⟨(some 88), .call (.func 20) [(.tmp 87)], none⟩,
                   ⟨(some 89), .mov (.tmp 8), none⟩,
                   ⟨(some 90), .bin .sub (.tmp 88) (.tmp 89), none⟩,
                   ⟨(some 91), .mov (.tmp 9), none⟩,
                   ⟨(some 92), .call (.func 21) [(.tmp 91)], none⟩,
                   ⟨(some 93), .bin .mul (.const (.int .i64 3)) (.tmp 92), none⟩,
                   ⟨(some 94), .bin .add (.tmp 93) (.const (.int .i64 3)), none⟩,
                   ⟨(some 95), .bin .gtr (.tmp 90) (.tmp 94), none⟩,
                   ⟨(some 96), .mov (.tmp 95), none⟩,
                   ⟨(some 97), .mov (.tmp 3), (some (96, false))⟩,
                   ⟨(some 98), .call (.func 20) [(.tmp 97)], (some (96, false))⟩,
                   ⟨(some 99), .mov (.tmp 8), (some (96, false))⟩,
                   ⟨(some 100), .bin .lss (.tmp 98) (.tmp 99), (some (96, false))⟩,
                   ⟨(some 101), .pick (.tmp 96) (.const (.bool true)) (.tmp 100), none⟩,
                   ⟨(some 102), .mov (.tmp 101), none⟩,
                   ⟨(some 103), .mov (.tmp 3), (some (102, false))⟩,
                   ⟨(some 104), .call (.func 18) [(.tmp 103)], (some (102, false))⟩,
                   ⟨(some 105), .mov (.tmp 4), (some (102, false))⟩,
                   ⟨(some 106), .len .slice (.tmp 105), (some (102, false))⟩,
                   ⟨(some 107), .bin .neq (.tmp 104) (.tmp 106), (some (102, false))⟩,
                   ⟨(some 108), .pick (.tmp 102) (.const (.bool true)) (.tmp 107), none⟩]
                  none)
                (
                 .cond (.tmp 108) (
                  .seq (
                   .region [
                     ⟨(some 2), .mov (.const (.bool false)), none⟩]
                    none)
                  (
                   .ret))
                 (
                  .skip)))
               (
                .seq (
                 .region [
                   ⟨(some 10), .mov (.const (.int .i64 (-1))), none⟩]
                  none)
                (
                 .seq (
                  .seq (
                   .region [
                     ⟨(some 11), .mov (.const (.int .i64 0)), none⟩]
                    none)
                  (
                   .block 2 (
                    .loop [0, 3, 4, 5, 10, 11] (
                     .seq (
                      .seq (
                       .region [
                         ⟨(some 109), .mov (.tmp 11), none⟩,
                         ⟨(some 110), .mov (.tmp 4), none⟩,
                         ⟨(some 111), .len .slice (.tmp 110), none⟩,
                         ⟨(some 112), .bin .lss (.tmp 109) (.tmp 111), none⟩]
                        none)
                      (
                       .cond (.tmp 112) (
                        .skip)
                       (
                        .exit 2)))
                     (
                      .seq (
                       .block 3 (
                        .seq (
                         .seq (
                          .region [
                            ⟨(some 115), .mov (.tmp 10), none⟩,
                            ⟨(some 116), .bin .lss (.tmp 115) (.const (.int .i64 0)), none⟩,
                            ⟨(some 117), .mov (.tmp 116), none⟩,
                            ⟨(some 118), .mov (.tmp 4), (some (117, false))⟩,
                            ⟨(some 119), .mov (.tmp 11), (some (117, false))⟩,
                            ⟨(some 120), .indexAddr 2 (.tmp 118) (.tmp 119), (some (117, false))⟩,
                            ⟨(some 121), .fieldAddr 1 (.tmp 120), (some (117, false))⟩,
                            ⟨(some 122), .load none (.tmp 121), (some (117, false))⟩,
                            ⟨(some 123), .mov (.tmp 4), (some (117, false))⟩,
                            ⟨(some 124), .mov (.tmp 10), (some (117, false))⟩,
                            ⟨(some 125), .indexAddr 2 (.tmp 123) (.tmp 124), (some (117, false))⟩,
                            ⟨(some 126), .fieldAddr 1 (.tmp 125), (some (117, false))⟩,
                            ⟨(some 127), .load none (.tmp 126), (some (117, false))⟩,
                            ⟨(some 128), .bin .lss (.tmp 122) (.tmp 127), (some (117, false))⟩,
                            ⟨(some 129), .pick (.tmp 117) (.const (.bool true)) (.tmp 128), none⟩,
                            ⟨(some 130), .mov (.tmp 129), none⟩,
                            ⟨(some 131), .mov (.tmp 4), (some (130, false))⟩,
                            ⟨(some 132), .mov (.tmp 11), (some (130, false))⟩,
                            ⟨(some 133), .indexAddr 2 (.tmp 131) (.tmp 132), (some (130, false))⟩,
                            ⟨(some 134), .fieldAddr 1 (.tmp 133), (some (130, false))⟩,
                            ⟨(some 135), .load none (.tmp 134), (some (130, false))⟩,
                            ⟨(some 136), .mov (.tmp 4), (some (130, false))⟩,
                            ⟨(some 137), .mov (.tmp 10), (some (130, false))⟩,
                            ⟨(some 138), .indexAddr 2 (.tmp 136) (.tmp 137), (some (130, false))⟩,
                            ⟨(some 139), .fieldAddr 1 (.tmp 138), (some (130, false))⟩,
                            ⟨(some 140), .load none (.tmp 139), (some (130, false))⟩,
                            ⟨(some 141), .bin .eql (.tmp 135) (.tmp 140), (some (130, false))⟩,
                            ⟨(some 142), .mov (.tmp 141), (some (130, false))⟩,
                            ⟨(some 143), .mov (.tmp 4), (some (142, true))⟩,
                            ⟨(some 144), .mov (.tmp 11), (some (142, true))⟩,
                            ⟨(some 145), .indexAddr 2 (.tmp 143) (.tmp 144), (some (142, true))⟩,
                            ⟨(some 146), .fieldAddr 0 (.tmp 145), (some (142, true))⟩,
                            ⟨(some 147), .load none (.tmp 146), (some (142, true))⟩,
                            ⟨(some 148), .mov (.tmp 4), (some (142, true))⟩,
                            ⟨(some 149), .mov (.tmp 10), (some (142, true))⟩,
                            ⟨(some 150), .indexAddr 2 (.tmp 148) (.tmp 149), (some (142, true))⟩,
                            ⟨(some 151), .fieldAddr 0 (.tmp 150), (some (142, true))⟩,
                            ⟨(some 152), .load none (.tmp 151), (some (142, true))⟩,
                            ⟨(some 153), .bin .lss (.tmp 147) (.tmp 152), (some (142, true))⟩,
                            ⟨(some 154), .pick (.tmp 142) (.tmp 153) (.const (.bool false)), (some (130, false))⟩,
                            ⟨(some 155), .pick (.tmp 130) (.const (.bool true)) (.tmp 154), none⟩]
                           none)
                         (
                          .cond (.tmp 155) (
                           .region [
                             ⟨(some 156), .mov (.tmp 11), none⟩,
                             ⟨(some 10), .mov (.tmp 156), none⟩]
                            none)
                          (
                           .skip)))
                        (
                         .seq (
                          .region [
                            ⟨(some 158), .mov (.tmp 3), none⟩,
                            ⟨(some 159), .mov (.tmp 4), none⟩,
                            ⟨(some 160), .mov (.tmp 11), none⟩,
                            ⟨(some 161), .indexAddr 2 (.tmp 159) (.tmp 160), none⟩,
                            ⟨(some 162), .fieldAddr 0 (.tmp 161), none⟩,
                            ⟨(some 163), .load none (.tmp 162), none⟩,
                            ⟨(some 164), .call (.func 22) [(.tmp 158), (.tmp 163)], none⟩,
                            ⟨(some 157), .mov (.tmp 164), none⟩,
                            ⟨(some 165), .extract (.tmp 157) 0, none⟩,
                            ⟨(some 166), .extract (.tmp 157) 1, none⟩,
                            ⟨(some 12), .mov (.tmp 165), none⟩,
                            ⟨(some 13), .mov (.tmp 166), none⟩]
                           none)
                         (
                          .seq (
                           .region [
                             ⟨(some 167), .mov (.tmp 13), none⟩,
                             ⟨(some 168), .un .not (.tmp 167), none⟩,
                             ⟨(some 169), .mov (.tmp 168), none⟩,
                             ⟨(some 170), .mov (.tmp 12), (some (169, false))⟩,
                             ⟨(some 171), .mov (.tmp 4), (some (169, false))⟩,
                             ⟨(some 172), .mov (.tmp 11), (some (169, false))⟩,
                             ⟨(some 173), .indexAddr 2 (.tmp 171) (.tmp 172), (some (169, false))⟩,
                             ⟨(some 174), .fieldAddr 1 (.tmp 173), (some (169, false))⟩,
                             ⟨(some 175), .load none (.tmp 174), (some (169, false))⟩,
                             ⟨(some 176), .bin .neq (.tmp 170) (.tmp 175), (some (169, false))⟩,
                             ⟨(some 177), .pick (.tmp 169) (.const (.bool true)) (.tmp 176), none⟩]
                            none)
                          (
                           .cond (.tmp 177) (
                            .seq (
                             .region [
                               ⟨(some 2), .mov (.const (.bool false)), none⟩]
                              none)
                            (
                             .ret))
                           (
                            .skip))))))
                      (
                       .region [
                         ⟨(some 113), .mov (.tmp 11), none⟩,
                         ⟨(some 114), .bin .add (.tmp 113) (.const (.int .i64 1)), none⟩,
                         ⟨(some 11), .mov (.tmp 114), none⟩]
                        none))))))
                 (
                  .seq (
                   .region [
                     ⟨(some 178), .mov (.tmp 3), none⟩,
                     ⟨(some 179), .call (.func 20) [(.tmp 178)], none⟩,
                     ⟨(some 8), .mov (.tmp 179), none⟩]
                    none)
                  (
                   .seq (
                    .region [
                      ⟨(some 181), .mov (.tmp 3), none⟩,
                      ⟨(some 182), .call (.func 15) [(.tmp 181)], none⟩,
                      ⟨(some 180), .mov (.tmp 182), none⟩,
                      ⟨(some 183), .extract (.tmp 180) 0, none⟩,
                      ⟨(some 184), .extract (.tmp 180) 1, none⟩,
                      ⟨(some 185), .extract (.tmp 180) 2, none⟩,
                      ⟨(some 14), .mov (.tmp 183), none⟩,
                      ⟨(some 15), .mov (.tmp 184), none⟩,
                      ⟨(some 16), .mov (.tmp 185), none⟩]
                     none)
                   (
                    .seq (
                     .region [
                       ⟨(some 186), .mov (.tmp 16), none⟩,
                       ⟨(some 187), .mov (.tmp 10), none⟩,
                       ⟨(some 188), .bin .geq (.tmp 187) (.const (.int .i64 0)), none⟩,
                       ⟨(some 189), .eq true .scalar (.tmp 186) (.tmp 188), none⟩,
                       ⟨(some 190), .mov (.tmp 189), none⟩,
                       ⟨(some 191), .mov (.tmp 16), (some (190, false))⟩,
                       ⟨(some 192), .mov (.tmp 191), (some (190, false))⟩,
                       ⟨(some 193), .mov (.tmp 14), (some (192, true))⟩,
                       ⟨(some 194), .mov (.tmp 4), (some (192, true))⟩,
                       ⟨(some 195), .mov (.tmp 10), (some (192, true))⟩,
                       ⟨(some 196), .indexAddr 2 (.tmp 194) (.tmp 195), (some (192, true))⟩,
                       ⟨(some 197), .fieldAddr 0 (.tmp 196), (some (192, true))⟩,
                       ⟨(some 198), .load none (.tmp 197), (some (192, true))⟩,
                       ⟨(some 199), .bin .neq (.tmp 193) (.tmp 198), (some (192, true))⟩,
                       ⟨(some 200), .mov (.tmp 199), (some (192, true))⟩,
                       ⟨(some 201), .mov (.tmp 15), (some (200, false))⟩,
                       ⟨(some 202), .mov (.tmp 4), (some (200, false))⟩,
                       ⟨(some 203), .mov (.tmp 10), (some (200, false))⟩,
                       ⟨(some 204), .indexAddr 2 (.tmp 202) (.tmp 203), (some (200, false))⟩,
                       ⟨(some 205), .fieldAddr 1 (.tmp 204), (some (200, false))⟩,
                       ⟨(some 206), .load none (.tmp 205), (some (200, false))⟩,
                       ⟨(some 207), .bin .neq (.tmp 201) (.tmp 206), (some (200, false))⟩,
                       ⟨(some 208), .pick (.tmp 200) (.const (.bool true)) (.tmp 207), (some (192, true))⟩,
                       ⟨(some 209), .pick (.tmp 192) (.tmp 208) (.const (.bool false)), (some (190, false))⟩,
                       ⟨(some 210), .pick (.tmp 190) (.const (.bool true)) (.tmp 209), none⟩,
                       ⟨(some 211), .mov (.tmp 210), none⟩,
                       ⟨(some 212), .mov (.tmp 3), (some (211, false))⟩,
                       ⟨(some 213), .call (.func 20) [(.tmp 212)], (some (211, false))⟩,
                       ⟨(some 214), .mov (.tmp 8), (some (211, false))⟩,
                       ⟨(some 215), .bin .neq (.tmp 213) (.tmp 214), (some (211, false))⟩,
                       ⟨(some 216), .pick (.tmp 211) (.const (.bool true)) (.tmp 215), none⟩]
                      none)
                    (
                     .cond (.tmp 216) (
                      .seq (
                       .region [
                         ⟨(some 2), .mov (.const (.bool false)), none⟩]
                        none)
                      (
                       .ret))
                     (
                      .skip)))))))))))))
         (
          .region [
            ⟨(some 27), .mov (.tmp 5), none⟩,
            ⟨(some 28), .bin .add (.tmp 27) (.const (.int .i64 1)), none⟩,
            ⟨(some 5), .mov (.tmp 28), none⟩]
           none))))))
    (
     .seq (
      .region [
        ⟨(some 217), .call (.func 17) [], none⟩,
        ⟨(some 2), .mov (.tmp 217), none⟩]
       none)
     (
      .ret)))))
def fun5 : AFun := ⟨1, code5, [.tmp 2]⟩
theorem comp5 : FunOK Try.prog 5 fun5 :=
  FunOK.of Try.func5 [[0, 3, 4, 5], [0, 3, 4, 5, 10, 11]] [⟨[(4, 8)], []⟩] (by kernel_rfl) (by kernel_rfl) (by decide +kernel) (by kernel_rfl)

/- decorum/decorumlaw12.HeapNone -/
def code6 : ACode :=
 .seq (
  .region [
    ⟨(some 4), .mov (.const (.bool false)), none⟩]
   none)
 (
  .seq (
   .region [
     ⟨(some 5), .mov (.const (.pointer none)), none⟩]
    none)
  (
   .seq (
    .region [
      ⟨(some 11), .mov (.tmp 5), none⟩,
      ⟨(some 12), .mov (.tmp 0), none⟩,
      ⟨(some 13), .mov (.tmp 1), none⟩,
      ⟨(some 14), .call (.func 14) [(.tmp 11), (.tmp 12), (.tmp 13)], none⟩]
     none)
   (
    .seq (
     .region [
       ⟨(some 16), .mov (.tmp 5), none⟩,
       ⟨(some 17), .call (.func 15) [(.tmp 16)], none⟩,
       ⟨(some 15), .mov (.tmp 17), none⟩,
       ⟨(some 18), .extract (.tmp 15) 0, none⟩,
       ⟨(some 19), .extract (.tmp 15) 1, none⟩,
       ⟨(some 20), .extract (.tmp 15) 2, none⟩,
       ⟨(some 6), .mov (.tmp 18), none⟩,
       ⟨(some 7), .mov (.tmp 19), none⟩,
       ⟨(some 8), .mov (.tmp 20), none⟩]
      none)
    (
     .seq (
      .region [
        ⟨(some 22), .mov (.tmp 5), none⟩,
        ⟨(some 23), .mov (.tmp 0), none⟩,
        ⟨(some 24), .call (.func 22) [(.tmp 22), (.tmp 23)], none⟩,
        ⟨(some 21), .mov (.tmp 24), none⟩,
        ⟨(some 25), .extract (.tmp 21) 0, none⟩,
        ⟨(some 26), .extract (.tmp 21) 1, none⟩,
        ⟨(some 9), .mov (.tmp 25), none⟩,
        ⟨(some 10), .mov (.tmp 26), none⟩]
       none)
     (
      .seq (
       .region [
         ⟨(some 27), .call (.func 17) [], none⟩,
         ⟨(some 28), .mov (.tmp 27), none⟩,
         ⟨(some 29), .mov (.tmp 5), (some (28, true))⟩,
         ⟨(some 30), .mov (.tmp 0), (some (28, true))⟩,
         ⟨(some 31), .call (.func 16) [(.tmp 29), (.tmp 30)], (some (28, true))⟩,
         ⟨(some 32), .un .not (.tmp 31), (some (28, true))⟩,
         ⟨(some 33), .pick (.tmp 28) (.tmp 32) (.const (.bool false)), none⟩,
         ⟨(some 34), .mov (.tmp 33), none⟩,
         ⟨(some 35), .mov (.tmp 8), (some (34, true))⟩,
         ⟨(some 36), .un .not (.tmp 35), (some (34, true))⟩,
         ⟨(some 37), .pick (.tmp 34) (.tmp 36) (.const (.bool false)), none⟩,
         ⟨(some 38), .mov (.tmp 37), none⟩,
         ⟨(some 39), .mov (.tmp 10), (some (38, true))⟩,
         ⟨(some 40), .un .not (.tmp 39), (some (38, true))⟩,
         ⟨(some 41), .pick (.tmp 38) (.tmp 40) (.const (.bool false)), none⟩,
         ⟨(some 42), .mov (.tmp 41), none⟩,
         ⟨(some 43), .mov (.tmp 5), (some (42, true))⟩,
         ⟨(some 44), .call (.func 18) [(.tmp 43)], (some (42, true))⟩,
         ⟨(some 45), .bin .eql (.tmp 44) (.const (.int .i64 0)), (some (42, true))⟩,
         ⟨(some 46), .pick (.tmp 42) (.tmp 45) (.const (.bool false)), none⟩,
         ⟨(some 47), .mov (.tmp 46), none⟩,
         ⟨(some 48), .mov (.tmp 5), (some (47, true))⟩,
         ⟨(some 49), .call (.func 20) [(.tmp 48)], (some (47, true))⟩,
         ⟨(some 50), .bin .eql (.tmp 49) (.const (.int .i64 0)), (some (47, true))⟩,
         ⟨(some 51), .pick (.tmp 47) (.tmp 50) (.const (.bool false)), none⟩,
         ⟨(some 4), .mov (.tmp 51), none⟩]
        none)
      (
       .ret))))))
def fun6 : AFun := ⟨2, code6, [.tmp 4]⟩
theorem comp6 : FunOK Try.prog 6 fun6 :=
  FunOK.of Try.func6 [] [] (by kernel_rfl) (by kernel_rfl) (by decide +kernel) (by kernel_rfl)

/- decorum/heap.New -/
def code13 : ACode :=
 .seq (
  .region [
    ⟨(some 0), .mov (.const (.pointer none)), none⟩]
   none)
 (
  .seq (
   .region [
     ⟨(some 1), .mkMap none, none⟩,
     ⟨(some 2), .build [(.slice none 0 0), (.map none), (.int .i64 0)] [(1, 1, (.tmp 1))], none⟩,
     ⟨(some 3), .box 71 (.tmp 2), none⟩,
     ⟨(some 0), .mov (.tmp 3), none⟩]
    none)
  (
   .ret))
def fun13 : AFun := ⟨0, code13, [.tmp 0]⟩
theorem comp13 : FunOK Try.prog 13 fun13 :=
  FunOK.of Try.func13 [] [] (by kernel_rfl) (by kernel_rfl) (by decide +kernel) (by kernel_rfl)

/- (*decorum/heap.Heap).Set -/
def code14 : ACode :=
 .seq (
  .seq (
   .region [
     ⟨(some 8), .mov (.tmp 0), none⟩,
     ⟨(some 9), .eq false .pointer (.tmp 8) (.const (.pointer none)), none⟩]
    none)
  (
   .cond (.tmp 9) (
    .ret)
   (
    .skip)))
 (
  .seq (
   .region [
     ⟨(some 11), .mov (.tmp 0), none⟩,
     ⟨(some 12), .nilCheck (.tmp 11), none⟩,
     ⟨(some 13), .fieldAddr 1 (.tmp 12), none⟩,
     ⟨(some 14), .load none (.tmp 13), none⟩,
     ⟨(some 15), .mov (.tmp 1), none⟩,
     ⟨(some 16), .lookup .int (.int .i64 0) true (.tmp 14) (.tmp 15), none⟩,
     ⟨(some 10), .mov (.tmp 16), none⟩,
     ⟨(some 17), .extract (.tmp 10) 0, none⟩,
     ⟨(some 18), .extract (.tmp 10) 1, none⟩,
     ⟨(some 6), .mov (.tmp 17), none⟩,
     ⟨(some 7), .mov (.tmp 18), none⟩]
    none)
  (
   .seq (
    .seq (
     .region [
       ⟨(some 19), .mov (.tmp 7), none⟩,
       ⟨(some 20), .un .not (.tmp 19), none⟩]
      none)
    (
     .cond (.tmp 20) (
      .seq (
       .region [
         ⟨(some 21), .mov (.tmp 0), none⟩,
         ⟨(some 22), .nilCheck (.tmp 21), none⟩,
         ⟨(some 23), .fieldAddr 0 (.tmp 22), none⟩,
         ⟨(some 24), .load none (.tmp 23), none⟩,
         ⟨(some 25), .len .slice (.tmp 24), none⟩,
         ⟨(some 6), .mov (.tmp 25), none⟩]
        none)
      (
       .seq (
        .region [
          ⟨(some 26), .mov (.tmp 0), none⟩,
          ⟨(some 27), .mov (.tmp 0), none⟩,
          ⟨(some 28), .nilCheck (.tmp 27), none⟩,
          ⟨(some 29), .fieldAddr 0 (.tmp 28), none⟩,
          ⟨(some 30), .load none (.tmp 29), none⟩,
          ⟨(some 31), .mov (.tmp 1), none⟩,
          ⟨(some 32), .mov (.tmp 2), none⟩,
          ⟨(some 33), .build [(.int .i64 0), (.int .i64 0)] [(0, 1, (.tmp 31)), (1, 1, (.tmp 32))], none⟩,
          ⟨(some 34), .buildSlice 73 2 1 [(.int .i64 0), (.int .i64 0)] [(0, 2, (.tmp 33))], none⟩,
          ⟨(some 35), .append 73 2 16 (.tmp 30) (.tmp 34), none⟩,
          ⟨(some 36), .nilCheck (.tmp 26), none⟩,
          ⟨(some 37), .fieldAddr 0 (.tmp 36), none⟩,
          ⟨none, .store 1 (.tmp 37) (.tmp 35), none⟩]
         none)
       (
        .region [
          ⟨(some 38), .mov (.tmp 0), none⟩,
          ⟨(some 39), .nilCheck (.tmp 38), none⟩,
          ⟨(some 40), .fieldAddr 1 (.tmp 39), none⟩,
          ⟨(some 41), .load none (.tmp 40), none⟩,
          ⟨(some 42), .mov (.tmp 1), none⟩,
          ⟨(some 43), .mov (.tmp 6), none⟩,
          ⟨none, .mapUpdate .int (.tmp 41) (.tmp 42) (.tmp 43), none⟩]
         none)))
     (
      .skip)))
   (
    .seq (
     .region [
       ⟨(some 44), .mov (.tmp 0), none⟩,
       ⟨(some 45), .nilCheck (.tmp 44), none⟩,
       ⟨(some 46), .fieldAddr 0 (.tmp 45), none⟩,
       ⟨(some 47), .load none (.tmp 46), none⟩,
       ⟨(some 48), .mov (.tmp 6), none⟩,
       ⟨(some 49), .mov (.tmp 2), none⟩,
       ⟨(some 50), .indexAddr 2 (.tmp 47) (.tmp 48), none⟩,
       ⟨(some 51), .fieldAddr 1 (.tmp 50), none⟩,
       ⟨none, .store 1 (.tmp 51) (.tmp 49), none⟩]
      none)
    (
     .seq (
      .region [
        ⟨(some 52), .mov (.tmp 0), none⟩,
        ⟨(some 53), .mov (.tmp 6), none⟩,
        ⟨(some 54), .call (.func 30) [(.tmp 52), (.tmp 53)], none⟩]
       none)
     (
      .region [
        ⟨(some 55), .mov (.tmp 0), none⟩,
        ⟨(some 56), .mov (.tmp 0), none⟩,
        ⟨(some 57), .nilCheck (.tmp 56), none⟩,
        ⟨(some 58), .fieldAddr 1 (.tmp 57), none⟩,
        ⟨(some 59), .load none (.tmp 58), none⟩,
        ⟨(some 60), .mov (.tmp 1), none⟩,
        ⟨(some 61), .lookup .int (.int .i64 0) false (.tmp 59) (.tmp 60), none⟩,
        ⟨(some 62), .call (.func 31) [(.tmp 55), (.tmp 61)], none⟩]
       none)))))
def fun14 : AFun := ⟨3, code14, []⟩
theorem comp14 : FunOK Try.prog 14 fun14 :=
  FunOK.of Try.func14 [] [] (by kernel_rfl) (by kernel_rfl) (by decide +kernel) (by kernel_rfl)

/- (*decorum/heap.Heap).Min -/
def code15 : ACode :=
 .seq (
  .region [
    ⟨(some 2), .mov (.const (.int .i64 0)), none⟩,
    ⟨(some 3), .mov (.const (.int .i64 0)), none⟩,
    ⟨(some 4), .mov (.const (.bool false)), none⟩]
   none)
 (
  .seq (
   .seq (
    .region [
      ⟨(some 5), .mov (.tmp 0), none⟩,
      ⟨(some 6), .eq false .pointer (.tmp 5) (.const (.pointer none)), none⟩,
      ⟨(some 7), .mov (.tmp 6), none⟩,
      ⟨(some 8), .mov (.tmp 0), (some (7, false))⟩,
      ⟨(some 9), .nilCheck (.tmp 8), (some (7, false))⟩,
      ⟨(some 10), .fieldAddr 0 (.tmp 9), (some (7, false))⟩,
      ⟨(some 11), .load none (.tmp 10), (some (7, false))⟩,
      ⟨(some 12), .len .slice (.tmp 11), (some (7, false))⟩,
      ⟨(some 13), .bin .eql (.tmp 12) (.const (.int .i64 0)), (some (7, false))⟩,
      ⟨(some 14), .pick (.tmp 7) (.const (.bool true)) (.tmp 13), none⟩]
     none)
   (
    .cond (.tmp 14) (
     .seq (
      .region [
        ⟨(some 2), .mov (.const (.int .i64 0)), none⟩,
        ⟨(some 3), .mov (.const (.int .i64 0)), none⟩,
        ⟨(some 4), .mov (.const (.bool false)), none⟩]
       none)
     (
      .ret))
    (
     .skip)))
  (
   .seq (
    .region [
      ⟨(some 15), .mov (.tmp 0), none⟩,
      ⟨(some 16), .nilCheck (.tmp 15), none⟩,
      ⟨(some 17), .fieldAddr 0 (.tmp 16), none⟩,
      ⟨(some 18), .load none (.tmp 17), none⟩,
      ⟨(some 19), .indexAddr 2 (.tmp 18) (.const (.int .i64 0)), none⟩,
      ⟨(some 20), .fieldAddr 0 (.tmp 19), none⟩,
      ⟨(some 21), .load none (.tmp 20), none⟩,
      ⟨(some 22), .mov (.tmp 0), none⟩,
      ⟨(some 23), .nilCheck (.tmp 22), none⟩,
      ⟨(some 24), .fieldAddr 0 (.tmp 23), none⟩,
      ⟨(some 25), .load none (.tmp 24), none⟩,
      ⟨(some 26), .indexAddr 2 (.tmp 25) (.const (.int .i64 0)), none⟩,
      ⟨(some 27), .fieldAddr 1 (.tmp 26), none⟩,
      ⟨(some 28), .load none (.tmp 27), none⟩,
      ⟨(some 2), .mov (.tmp 21), none⟩,
      ⟨(some 3), .mov (.tmp 28), none⟩,
      ⟨(some 4), .mov (.const (.bool true)), none⟩]
     none)
   (
    .ret)))
def fun15 : AFun := ⟨1, code15, [.tmp 2, .tmp 3, .tmp 4]⟩
theorem comp15 : FunOK Try.prog 15 fun15 :=
  FunOK.of Try.func15 [] [] (by kernel_rfl) (by kernel_rfl) (by decide +kernel) (by kernel_rfl)

/- (*decorum/heap.Heap).Drop -/
def code16 : ACode :=
 .seq (
  .region [
    ⟨(some 4), .mov (.const (.bool false)), none⟩]
   none)
 (
  .seq (
   .seq (
    .region [
      ⟨(some 9), .mov (.tmp 0), none⟩,
      ⟨(some 10), .eq false .pointer (.tmp 9) (.const (.pointer none)), none⟩]
     none)
   (
    .cond (.tmp 10) (
     .seq (
      .region [
        ⟨(some 4), .mov (.const (.bool false)), none⟩]
       none)
     (
      .ret))
    (
     .skip)))
  (
   .seq (
    .region [
      ⟨(some 12), .mov (.tmp 0), none⟩,
      ⟨(some 13), .nilCheck (.tmp 12), none⟩,
      ⟨(some 14), .fieldAddr 1 (.tmp 13), none⟩,
      ⟨(some 15), .load none (.tmp 14), none⟩,
      ⟨(some 16), .mov (.tmp 1), none⟩,
      ⟨(some 17), .lookup .int (.int .i64 0) true (.tmp 15) (.tmp 16), none⟩,
      ⟨(some 11), .mov (.tmp 17), none⟩,
      ⟨(some 18), .extract (.tmp 11) 0, none⟩,
      ⟨(some 19), .extract (.tmp 11) 1, none⟩,
      ⟨(some 5), .mov (.tmp 18), none⟩,
      ⟨(some 6), .mov (.tmp 19), none⟩]
     none)
   (
    .seq (
     .seq (
      .region [
        ⟨(some 20), .mov (.tmp 6), none⟩,
        ⟨(some 21), .un .not (.tmp 20), none⟩]
       none)
     (
      .cond (.tmp 21) (
       .seq (
        .region [
          ⟨(some 4), .mov (.const (.bool false)), none⟩]
         none)
       (
        .ret))
      (
       .skip)))
    (
     .seq (
      .region [
        ⟨(some 22), .mov (.tmp 0), none⟩,
        ⟨(some 23), .nilCheck (.tmp 22), none⟩,
        ⟨(some 24), .fieldAddr 0 (.tmp 23), none⟩,
        ⟨(some 25), .load none (.tmp 24), none⟩,
        ⟨(some 26), .len .slice (.tmp 25), none⟩,
        ⟨(some 27), .bin .sub (.tmp 26) (.const (.int .i64 1)), none⟩,
        ⟨(some 7), .mov (.tmp 27), none⟩]
       none)
     (
      .seq (
       .region [
         ⟨(some 28), .mov (.tmp 0), none⟩,
         ⟨(some 29), .mov (.tmp 5), none⟩,
         ⟨(some 30), .mov (.tmp 7), none⟩,
         ⟨(some 31), .call (.func 32) [(.tmp 28), (.tmp 29), (.tmp 30)], none⟩]
        none)
      (
       .seq (
        .region [
          ⟨(some 32), .mov (.tmp 0), none⟩,
          ⟨(some 33), .mov (.tmp 0), none⟩,
          ⟨(some 34), .nilCheck (.tmp 33), none⟩,
          ⟨(some 35), .fieldAddr 0 (.tmp 34), none⟩,
          ⟨(some 36), .load none (.tmp 35), none⟩,
          ⟨(some 37), .mov (.tmp 7), none⟩,
          ⟨(some 38), .slice (.slice 2) (.tmp 36) none (some (.tmp 37)) none, none⟩,
          ⟨(some 39), .nilCheck (.tmp 32), none⟩,
          ⟨(some 40), .fieldAddr 0 (.tmp 39), none⟩,
          ⟨none, .store 1 (.tmp 40) (.tmp 38), none⟩]
         none)
       (
        .seq (
         .region [
           ⟨(some 41), .mov (.tmp 0), none⟩,
           ⟨(some 42), .nilCheck (.tmp 41), none⟩,
           ⟨(some 43), .fieldAddr 1 (.tmp 42), none⟩,
           ⟨(some 44), .load none (.tmp 43), none⟩,
           ⟨(some 45), .mov (.tmp 1), none⟩,
           ⟨none, .delete .int (.tmp 44) (.tmp 45), none⟩]
          none)
        (
         .seq (
          .seq (
           .region [
             ⟨(some 46), .mov (.tmp 5), none⟩,
             ⟨(some 47), .mov (.tmp 7), none⟩,
             ⟨(some 48), .bin .lss (.tmp 46) (.tmp 47), none⟩]
            none)
          (
           .cond (.tmp 48) (
            .seq (
             .region [
               ⟨(some 49), .mov (.tmp 0), none⟩,
               ⟨(some 50), .nilCheck (.tmp 49), none⟩,
               ⟨(some 51), .fieldAddr 0 (.tmp 50), none⟩,
               ⟨(some 52), .load none (.tmp 51), none⟩,
               ⟨(some 53), .mov (.tmp 5), none⟩,
               ⟨(some 54), .indexAddr 2 (.tmp 52) (.tmp 53), none⟩,
               ⟨(some 55), .fieldAddr 0 (.tmp 54), none⟩,
               ⟨(some 56), .load none (.tmp 55), none⟩,
               ⟨(some 8), .mov (.tmp 56), none⟩]
              none)
            (
             .seq (
              .region [
                ⟨(some 57), .mov (.tmp 0), none⟩,
                ⟨(some 58), .mov (.tmp 5), none⟩,
                ⟨(some 59), .call (.func 30) [(.tmp 57), (.tmp 58)], none⟩]
               none)
             (
              .region [
                ⟨(some 60), .mov (.tmp 0), none⟩,
                ⟨(some 61), .mov (.tmp 0), none⟩,
                ⟨(some 62), .nilCheck (.tmp 61), none⟩,
                ⟨(some 63), .fieldAddr 1 (.tmp 62), none⟩,
                ⟨(some 64), .load none (.tmp 63), none⟩,
                ⟨(some 65), .mov (.tmp 8), none⟩,
                ⟨(some 66), .lookup .int (.int .i64 0) false (.tmp 64) (.tmp 65), none⟩,
                ⟨(some 67), .call (.func 31) [(.tmp 60), (.tmp 66)], none⟩]
               none)))
           (
            .skip)))
         (
          .seq (
           .region [
             ⟨(some 4), .mov (.const (.bool true)), none⟩]
            none)
          (
           .ret))))))))))
def fun16 : AFun := ⟨2, code16, [.tmp 4]⟩
theorem comp16 : FunOK Try.prog 16 fun16 :=
  FunOK.of Try.func16 [] [] (by kernel_rfl) (by kernel_rfl) (by decide +kernel) (by kernel_rfl)

/- decorum/decorumlaw12.awake -/
def code17 : ACode :=
 .seq (
  .region [
    ⟨(some 0), .mov (.const (.bool false)), none⟩]
   none)
 (
  .seq (
   .region [
     ⟨(some 8), .call (.func 13) [], none⟩,
     ⟨(some 1), .mov (.tmp 8), none⟩]
    none)
  (
   .seq (
    .region [
      ⟨(some 9), .mov (.tmp 1), none⟩,
      ⟨(some 10), .call (.func 14) [(.tmp 9), (.const (.int .i64 3)), (.const (.int .i64 9))], none⟩]
     none)
   (
    .seq (
     .region [
       ⟨(some 11), .mov (.tmp 1), none⟩,
       ⟨(some 12), .call (.func 14) [(.tmp 11), (.const (.int .i64 1)), (.const (.int .i64 5))], none⟩]
      none)
    (
     .seq (
      .region [
        ⟨(some 13), .mov (.tmp 1), none⟩,
        ⟨(some 14), .call (.func 14) [(.tmp 13), (.const (.int .i64 2)), (.const (.int .i64 5))], none⟩]
       none)
     (
      .seq (
       .region [
         ⟨(some 16), .mov (.tmp 1), none⟩,
         ⟨(some 17), .call (.func 15) [(.tmp 16)], none⟩,
         ⟨(some 15), .mov (.tmp 17), none⟩,
         ⟨(some 18), .extract (.tmp 15) 0, none⟩,
         ⟨(some 19), .extract (.tmp 15) 1, none⟩,
         ⟨(some 20), .extract (.tmp 15) 2, none⟩,
         ⟨(some 2), .mov (.tmp 18), none⟩,
         ⟨(some 3), .mov (.tmp 19), none⟩,
         ⟨(some 4), .mov (.tmp 20), none⟩]
        none)
      (
       .seq (
        .region [
          ⟨(some 21), .mov (.tmp 1), none⟩,
          ⟨(some 22), .call (.func 14) [(.tmp 21), (.const (.int .i64 1)), (.const (.int .i64 20))], none⟩]
         none)
       (
        .seq (
         .region [
           ⟨(some 24), .mov (.tmp 1), none⟩,
           ⟨(some 25), .call (.func 15) [(.tmp 24)], none⟩,
           ⟨(some 23), .mov (.tmp 25), none⟩,
           ⟨(some 26), .extract (.tmp 23) 0, none⟩,
           ⟨(some 27), .extract (.tmp 23) 1, none⟩,
           ⟨(some 28), .extract (.tmp 23) 2, none⟩,
           ⟨(some 5), .mov (.tmp 26), none⟩,
           ⟨(some 6), .mov (.tmp 27), none⟩,
           ⟨(some 7), .mov (.tmp 28), none⟩]
          none)
        (
         .seq (
          .region [
            ⟨(some 29), .mov (.tmp 4), none⟩,
            ⟨(some 30), .mov (.tmp 29), none⟩,
            ⟨(some 31), .mov (.tmp 2), (some (30, true))⟩,
            ⟨(some 32), .bin .eql (.tmp 31) (.const (.int .i64 1)), (some (30, true))⟩,
            ⟨(some 33), .pick (.tmp 30) (.tmp 32) (.const (.bool false)), none⟩,
            ⟨(some 34), .mov (.tmp 33), none⟩,
            ⟨(some 35), .mov (.tmp 3), (some (34, true))⟩,
            ⟨(some 36), .bin .eql (.tmp 35) (.const (.int .i64 5)), (some (34, true))⟩,
            ⟨(some 37), .pick (.tmp 34) (.tmp 36) (.const (.bool false)), none⟩,
            ⟨(some 38), .mov (.tmp 37), none⟩,
            ⟨(some 39), .mov (.tmp 5), (some (38, true))⟩,
            ⟨(some 40), .bin .eql (.tmp 39) (.const (.int .i64 2)), (some (38, true))⟩,
            ⟨(some 41), .pick (.tmp 38) (.tmp 40) (.const (.bool false)), none⟩,
            ⟨(some 42), .mov (.tmp 41), none⟩,
            ⟨(some 43), .mov (.tmp 1), (some (42, true))⟩,
            ⟨(some 44), .call (.func 16) [(.tmp 43), (.const (.int .i64 2))], (some (42, true))⟩,
            ⟨(some 45), .pick (.tmp 42) (.tmp 44) (.const (.bool false)), none⟩,
            ⟨(some 46), .mov (.tmp 45), none⟩,
            ⟨(some 47), .mov (.tmp 1), (some (46, true))⟩,
            ⟨(some 48), .call (.func 16) [(.tmp 47), (.const (.int .i64 2))], (some (46, true))⟩,
            ⟨(some 49), .un .not (.tmp 48), (some (46, true))⟩,
            ⟨(some 50), .pick (.tmp 46) (.tmp 49) (.const (.bool false)), none⟩,
            ⟨(some 51), .mov (.tmp 50), none⟩,
            ⟨(some 52), .mov (.tmp 1), (some (51, true))⟩,
            ⟨(some 53), .call (.func 18) [(.tmp 52)], (some (51, true))⟩,
            ⟨(some 54), .bin .eql (.tmp 53) (.const (.int .i64 2)), (some (51, true))⟩,
            ⟨(some 55), .pick (.tmp 51) (.tmp 54) (.const (.bool false)), none⟩,
            ⟨(some 56), .mov (.tmp 55), none⟩,
            ⟨(some 57), .mov (.tmp 1), (some (56, true))⟩,
            ⟨(some 58), .call (.func 20) [(.tmp 57)], (some (56, true))⟩,
            ⟨(some 59), .bin .gtr (.tmp 58) (.const (.int .i64 0)), (some (56, true))⟩,
            ⟨(some 60), .pick (.tmp 56) (.tmp 59) (.const (.bool false)), none⟩,
            ⟨(some 0), .mov (.tmp 60), none⟩]
           none)
         (
          .ret)))))))))
def fun17 : AFun := ⟨0, code17, [.tmp 0]⟩
theorem comp17 : FunOK Try.prog 17 fun17 :=
  FunOK.of Try.func17 [] [] (by kernel_rfl) (by kernel_rfl) (by decide +kernel) (by kernel_rfl)

/- (*decorum/heap.Heap).Len -/
def code18 : ACode :=
 .seq (
  .region [
    ⟨(some 2), .mov (.const (.int .i64 0)), none⟩]
   none)
 (
  .seq (
   .seq (
    .region [
      ⟨(some 3), .mov (.tmp 0), none⟩,
      ⟨(some 4), .eq false .pointer (.tmp 3) (.const (.pointer none)), none⟩]
     none)
   (
    .cond (.tmp 4) (
     .seq (
      .region [
        ⟨(some 2), .mov (.const (.int .i64 0)), none⟩]
       none)
     (
      .ret))
    (
     .skip)))
  (
   .seq (
    .region [
      ⟨(some 5), .mov (.tmp 0), none⟩,
      ⟨(some 6), .nilCheck (.tmp 5), none⟩,
      ⟨(some 7), .fieldAddr 0 (.tmp 6), none⟩,
      ⟨(some 8), .load none (.tmp 7), none⟩,
      ⟨(some 9), .len .slice (.tmp 8), none⟩,
      ⟨(some 2), .mov (.tmp 9), none⟩]
     none)
   (
    .ret)))
def fun18 : AFun := ⟨1, code18, [.tmp 2]⟩
theorem comp18 : FunOK Try.prog 18 fun18 :=
  FunOK.of Try.func18 [] [] (by kernel_rfl) (by kernel_rfl) (by decide +kernel) (by kernel_rfl)

/- decorum/decorumlaw12.at -/
def code19 : ACode :=
 .seq (
  .region [
    ⟨(some 4), .mov (.const (.int .i64 0)), none⟩]
   none)
 (
  .seq (
   .seq (
    .region [
      ⟨(some 5), .mov (.const (.int .i64 0)), none⟩]
     none)
   (
    .block 0 (
     .loop [0, 1, 5] (
      .seq (
       .seq (
        .region [
          ⟨(some 6), .mov (.tmp 5), none⟩,
          ⟨(some 7), .mov (.tmp 0), none⟩,
          ⟨(some 8), .len .slice (.tmp 7), none⟩,
          ⟨(some 9), .bin .lss (.tmp 6) (.tmp 8), none⟩]
         none)
       (
        .cond (.tmp 9) (
         .skip)
        (
         .exit 0)))
      (
       .seq (
        .block 1 (
         .seq (
          .region [
            ⟨(some 12), .mov (.tmp 0), none⟩,
            ⟨(some 13), .mov (.tmp 5), none⟩,
            ⟨(some 14), .indexAddr 2 (.tmp 12) (.tmp 13), none⟩,
            ⟨(some 15), .fieldAddr 0 (.tmp 14), none⟩,
            ⟨(some 16), .load none (.tmp 15), none⟩,
            ⟨(some 17), .mov (.tmp 1), none⟩,
            ⟨(some 18), .bin .eql (.tmp 16) (.tmp 17), none⟩]
           none)
         (
          .cond (.tmp 18) (
           .seq (
            .region [
              ⟨(some 19), .mov (.tmp 5), none⟩,
              ⟨(some 4), .mov (.tmp 19), none⟩]
             none)
           (
            .ret))
          (
           .skip))))
       (
        .region [
          ⟨(some 10), .mov (.tmp 5), none⟩,
          ⟨(some 11), .bin .add (.tmp 10) (.const (.int .i64 1)), none⟩,
          ⟨(some 5), .mov (.tmp 11), none⟩]
         none))))))
  (
   .seq (
    .region [
      ⟨(some 4), .mov (.const (.int .i64 (-1))), none⟩]
     none)
   (
    .ret)))
def fun19 : AFun := ⟨2, code19, [.tmp 4]⟩
theorem comp19 : FunOK Try.prog 19 fun19 :=
  FunOK.of Try.func19 [[0, 1, 5]] [] (by kernel_rfl) (by kernel_rfl) (by decide +kernel) (by kernel_rfl)

/- (*decorum/heap.Heap).Work -/
def code20 : ACode :=
 .seq (
  .region [
    ⟨(some 2), .mov (.const (.int .i64 0)), none⟩]
   none)
 (
  .seq (
   .seq (
    .region [
      ⟨(some 3), .mov (.tmp 0), none⟩,
      ⟨(some 4), .eq false .pointer (.tmp 3) (.const (.pointer none)), none⟩]
     none)
   (
    .cond (.tmp 4) (
     .seq (
      .region [
        ⟨(some 2), .mov (.const (.int .i64 0)), none⟩]
       none)
     (
      .ret))
    (
     .skip)))
  (
   .seq (
    .region [
      ⟨(some 5), .mov (.tmp 0), none⟩,
      ⟨(some 6), .nilCheck (.tmp 5), none⟩,
      ⟨(some 7), .fieldAddr 2 (.tmp 6), none⟩,
      ⟨(some 8), .load none (.tmp 7), none⟩,
      ⟨(some 2), .mov (.tmp 8), none⟩]
     none)
   (
    .ret)))
def fun20 : AFun := ⟨1, code20, [.tmp 2]⟩
theorem comp20 : FunOK Try.prog 20 fun20 :=
  FunOK.of Try.func20 [] [] (by kernel_rfl) (by kernel_rfl) (by decide +kernel) (by kernel_rfl)

/- decorum/decorumlaw12.bits -/
def code21 : ACode :=
 .seq (
  .region [
    ⟨(some 2), .mov (.const (.int .i64 0)), none⟩]
   none)
 (
  .seq (
   .region [
     ⟨(some 3), .mov (.const (.int .i64 0)), none⟩]
    none)
  (
   .seq (
    .block 0 (
     .loop [0, 3] (
      .seq (
       .seq (
        .region [
          ⟨(some 4), .mov (.tmp 0), none⟩,
          ⟨(some 5), .bin .gtr (.tmp 4) (.const (.int .i64 0)), none⟩]
         none)
       (
        .cond (.tmp 5) (
         .skip)
        (
         .exit 0)))
      (
       .block 1 (
        .seq (
         .region [
           ⟨(some 6), .mov (.tmp 0), none⟩,
           ⟨(some 7), .bin .quo (.tmp 6) (.const (.int .i64 2)), none⟩,
           ⟨(some 0), .mov (.tmp 7), none⟩]
          none)
        (
         .region [
           ⟨(some 8), .mov (.tmp 3), none⟩,
           ⟨(some 9), .bin .add (.tmp 8) (.const (.int .i64 1)), none⟩,
           ⟨(some 3), .mov (.tmp 9), none⟩]
          none))))))
   (
    .seq (
     .region [
       ⟨(some 10), .mov (.tmp 3), none⟩,
       ⟨(some 2), .mov (.tmp 10), none⟩]
      none)
    (
     .ret))))
def fun21 : AFun := ⟨1, code21, [.tmp 2]⟩
theorem comp21 : FunOK Try.prog 21 fun21 :=
  FunOK.of Try.func21 [[0, 3]] [] (by kernel_rfl) (by kernel_rfl) (by decide +kernel) (by kernel_rfl)

/- (*decorum/heap.Heap).Key -/
def code22 : ACode :=
 .seq (
  .region [
    ⟨(some 4), .mov (.const (.int .i64 0)), none⟩,
    ⟨(some 5), .mov (.const (.bool false)), none⟩]
   none)
 (
  .seq (
   .seq (
    .region [
      ⟨(some 8), .mov (.tmp 0), none⟩,
      ⟨(some 9), .eq false .pointer (.tmp 8) (.const (.pointer none)), none⟩]
     none)
   (
    .cond (.tmp 9) (
     .seq (
      .region [
        ⟨(some 4), .mov (.const (.int .i64 0)), none⟩,
        ⟨(some 5), .mov (.const (.bool false)), none⟩]
       none)
     (
      .ret))
    (
     .skip)))
  (
   .seq (
    .region [
      ⟨(some 11), .mov (.tmp 0), none⟩,
      ⟨(some 12), .nilCheck (.tmp 11), none⟩,
      ⟨(some 13), .fieldAddr 1 (.tmp 12), none⟩,
      ⟨(some 14), .load none (.tmp 13), none⟩,
      ⟨(some 15), .mov (.tmp 1), none⟩,
      ⟨(some 16), .lookup .int (.int .i64 0) true (.tmp 14) (.tmp 15), none⟩,
      ⟨(some 10), .mov (.tmp 16), none⟩,
      ⟨(some 17), .extract (.tmp 10) 0, none⟩,
      ⟨(some 18), .extract (.tmp 10) 1, none⟩,
      ⟨(some 6), .mov (.tmp 17), none⟩,
      ⟨(some 7), .mov (.tmp 18), none⟩]
     none)
   (
    .seq (
     .seq (
      .region [
        ⟨(some 19), .mov (.tmp 7), none⟩,
        ⟨(some 20), .un .not (.tmp 19), none⟩]
       none)
     (
      .cond (.tmp 20) (
       .seq (
        .region [
          ⟨(some 4), .mov (.const (.int .i64 0)), none⟩,
          ⟨(some 5), .mov (.const (.bool false)), none⟩]
         none)
       (
        .ret))
      (
       .skip)))
    (
     .seq (
      .region [
        ⟨(some 21), .mov (.tmp 0), none⟩,
        ⟨(some 22), .nilCheck (.tmp 21), none⟩,
        ⟨(some 23), .fieldAddr 0 (.tmp 22), none⟩,
        ⟨(some 24), .load none (.tmp 23), none⟩,
        ⟨(some 25), .mov (.tmp 6), none⟩,
        ⟨(some 26), .indexAddr 2 (.tmp 24) (.tmp 25), none⟩,
        ⟨(some 27), .fieldAddr 1 (.tmp 26), none⟩,
        ⟨(some 28), .load none (.tmp 27), none⟩,
        ⟨(some 4), .mov (.tmp 28), none⟩,
        ⟨(some 5), .mov (.const (.bool true)), none⟩]
       none)
     (
      .ret)))))
def fun22 : AFun := ⟨2, code22, [.tmp 4, .tmp 5]⟩
theorem comp22 : FunOK Try.prog 22 fun22 :=
  FunOK.of Try.func22 [] [] (by kernel_rfl) (by kernel_rfl) (by decide +kernel) (by kernel_rfl)

/- (*decorum/heap.Heap).up -/
def code30 : ACode :=
 .block 0 (
  .loop [0, 1] (
   .seq (
    .seq (
     .region [
       ⟨(some 4), .mov (.tmp 1), none⟩,
       ⟨(some 5), .bin .gtr (.tmp 4) (.const (.int .i64 0)), none⟩,
       ⟨(some 6), .mov (.tmp 5), none⟩,
       ⟨(some 7), .mov (.tmp 0), (some (6, true))⟩,
       ⟨(some 8), .mov (.tmp 1), (some (6, true))⟩,
       ⟨(some 9), .mov (.tmp 1), (some (6, true))⟩,
       ⟨(some 10), .bin .sub (.tmp 9) (.const (.int .i64 1)), (some (6, true))⟩,
       ⟨(some 11), .bin .quo (.tmp 10) (.const (.int .i64 2)), (some (6, true))⟩,
       ⟨(some 12), .call (.func 40) [(.tmp 7), (.tmp 8), (.tmp 11)], (some (6, true))⟩,
       ⟨(some 13), .pick (.tmp 6) (.tmp 12) (.const (.bool false)), none⟩]
      none)
    (
     .cond (.tmp 13) (
      .skip)
     (
      .exit 0)))
   (
    .block 1 (
     .seq (
      .region [
        ⟨(some 14), .mov (.tmp 0), none⟩,
        ⟨(some 15), .mov (.tmp 1), none⟩,
        ⟨(some 16), .mov (.tmp 1), none⟩,
        ⟨(some 17), .bin .sub (.tmp 16) (.const (.int .i64 1)), none⟩,
        ⟨(some 18), .bin .quo (.tmp 17) (.const (.int .i64 2)), none⟩,
        ⟨(some 19), .call (.func 32) [(.tmp 14), (.tmp 15), (.tmp 18)], none⟩]
       none)
     (
      .region [
        ⟨(some 20), .mov (.tmp 1), none⟩,
        ⟨(some 21), .bin .sub (.tmp 20) (.const (.int .i64 1)), none⟩,
        ⟨(some 22), .bin .quo (.tmp 21) (.const (.int .i64 2)), none⟩,
        ⟨(some 1), .mov (.tmp 22), none⟩]
       none)))))
def fun30 : AFun := ⟨2, code30, []⟩
theorem comp30 : FunOK Try.prog 30 fun30 :=
  FunOK.of Try.func30 [[0, 1]] [] (by kernel_rfl) (by kernel_rfl) (by decide +kernel) (by kernel_rfl)

/- (*decorum/heap.Heap).down -/
def code31 : ACode :=
 .block 0 (
  .loop [0, 1] (
   .block 1 (
    .seq (
     .region [
       ⟨(some 5), .mov (.tmp 1), none⟩,
       ⟨(some 6), .bin .mul (.const (.int .i64 2)) (.tmp 5), none⟩,
       ⟨(some 7), .bin .add (.tmp 6) (.const (.int .i64 1)), none⟩,
       ⟨(some 4), .mov (.tmp 7), none⟩]
      none)
    (
     .seq (
      .seq (
       .region [
         ⟨(some 8), .mov (.tmp 4), none⟩,
         ⟨(some 9), .mov (.tmp 0), none⟩,
         ⟨(some 10), .nilCheck (.tmp 9), none⟩,
         ⟨(some 11), .fieldAddr 0 (.tmp 10), none⟩,
         ⟨(some 12), .load none (.tmp 11), none⟩,
         ⟨(some 13), .len .slice (.tmp 12), none⟩,
         ⟨(some 14), .bin .geq (.tmp 8) (.tmp 13), none⟩]
        none)
      (
       .cond (.tmp 14) (
        .ret)
       (
        .skip)))
     (
      .seq (
       .seq (
        .region [
          ⟨(some 15), .mov (.tmp 4), none⟩,
          ⟨(some 16), .bin .add (.tmp 15) (.const (.int .i64 1)), none⟩,
          ⟨(some 17), .mov (.tmp 0), none⟩,
          ⟨(some 18), .nilCheck (.tmp 17), none⟩,
          ⟨(some 19), .fieldAddr 0 (.tmp 18), none⟩,
          ⟨(some 20), .load none (.tmp 19), none⟩,
          ⟨(some 21), .len .slice (.tmp 20), none⟩,
          ⟨(some 22), .bin .lss (.tmp 16) (.tmp 21), none⟩,
          ⟨(some 23), .mov (.tmp 22), none⟩,
          ⟨(some 24), .mov (.tmp 0), (some (23, true))⟩,
          ⟨(some 25), .mov (.tmp 4), (some (23, true))⟩,
          ⟨(some 26), .bin .add (.tmp 25) (.const (.int .i64 1)), (some (23, true))⟩,
          ⟨(some 27), .mov (.tmp 4), (some (23, true))⟩,
          ⟨(some 28), .call (.func 40) [(.tmp 24), (.tmp 26), (.tmp 27)], (some (23, true))⟩,
          ⟨(some 29), .pick (.tmp 23) (.tmp 28) (.const (.bool false)), none⟩]
         none)
       (
        .cond (.tmp 29) (
         .region [
           ⟨(some 30), .mov (.tmp 4), none⟩,
           ⟨(some 31), .bin .add (.tmp 30) (.const (.int .i64 1)), none⟩,
           ⟨(some 4), .mov (.tmp 31), none⟩]
          none)
        (
         .skip)))
      (
       .seq (
        .seq (
         .region [
           ⟨(some 32), .mov (.tmp 0), none⟩,
           ⟨(some 33), .mov (.tmp 4), none⟩,
           ⟨(some 34), .mov (.tmp 1), none⟩,
           ⟨(some 35), .call (.func 40) [(.tmp 32), (.tmp 33), (.tmp 34)], none⟩,
           ⟨(some 36), .un .not (.tmp 35), none⟩]
          none)
        (
         .cond (.tmp 36) (
          .ret)
         (
          .skip)))
       (
        .seq (
         .region [
           ⟨(some 37), .mov (.tmp 0), none⟩,
           ⟨(some 38), .mov (.tmp 1), none⟩,
           ⟨(some 39), .mov (.tmp 4), none⟩,
           ⟨(some 40), .call (.func 32) [(.tmp 37), (.tmp 38), (.tmp 39)], none⟩]
          none)
        (
         .region [
           ⟨(some 41), .mov (.tmp 4), none⟩,
           ⟨(some 1), .mov (.tmp 41), none⟩]
          none))))))))
def fun31 : AFun := ⟨2, code31, []⟩
theorem comp31 : FunOK Try.prog 31 fun31 :=
  FunOK.of Try.func31 [[0, 1]] [] (by kernel_rfl) (by kernel_rfl) (by decide +kernel) (by kernel_rfl)

/- (*decorum/heap.Heap).swap -/
def code32 : ACode :=
 .seq (
  .region [
    ⟨(some 6), .mov (.tmp 0), none⟩,
    ⟨(some 7), .nilCheck (.tmp 6), none⟩,
    ⟨(some 8), .fieldAddr 0 (.tmp 7), none⟩,
    ⟨(some 9), .load none (.tmp 8), none⟩,
    ⟨(some 10), .mov (.tmp 1), none⟩,
    ⟨(some 11), .mov (.tmp 0), none⟩,
    ⟨(some 12), .nilCheck (.tmp 11), none⟩,
    ⟨(some 13), .fieldAddr 0 (.tmp 12), none⟩,
    ⟨(some 14), .load none (.tmp 13), none⟩,
    ⟨(some 15), .mov (.tmp 2), none⟩,
    ⟨(some 16), .mov (.tmp 0), none⟩,
    ⟨(some 17), .nilCheck (.tmp 16), none⟩,
    ⟨(some 18), .fieldAddr 0 (.tmp 17), none⟩,
    ⟨(some 19), .load none (.tmp 18), none⟩,
    ⟨(some 20), .mov (.tmp 2), none⟩,
    ⟨(some 21), .indexAddr 2 (.tmp 19) (.tmp 20), none⟩,
    ⟨(some 22), .load (some 2) (.tmp 21), none⟩,
    ⟨(some 23), .mov (.tmp 0), none⟩,
    ⟨(some 24), .nilCheck (.tmp 23), none⟩,
    ⟨(some 25), .fieldAddr 0 (.tmp 24), none⟩,
    ⟨(some 26), .load none (.tmp 25), none⟩,
    ⟨(some 27), .mov (.tmp 1), none⟩,
    ⟨(some 28), .indexAddr 2 (.tmp 26) (.tmp 27), none⟩,
    ⟨(some 29), .load (some 2) (.tmp 28), none⟩,
    ⟨(some 30), .indexAddr 2 (.tmp 9) (.tmp 10), none⟩,
    ⟨none, .store 2 (.tmp 30) (.tmp 22), none⟩,
    ⟨(some 31), .indexAddr 2 (.tmp 14) (.tmp 15), none⟩,
    ⟨none, .store 2 (.tmp 31) (.tmp 29), none⟩]
   none)
 (
  .region [
    ⟨(some 32), .mov (.tmp 0), none⟩,
    ⟨(some 33), .nilCheck (.tmp 32), none⟩,
    ⟨(some 34), .fieldAddr 1 (.tmp 33), none⟩,
    ⟨(some 35), .load none (.tmp 34), none⟩,
    ⟨(some 36), .mov (.tmp 0), none⟩,
    ⟨(some 37), .nilCheck (.tmp 36), none⟩,
    ⟨(some 38), .fieldAddr 0 (.tmp 37), none⟩,
    ⟨(some 39), .load none (.tmp 38), none⟩,
    ⟨(some 40), .mov (.tmp 1), none⟩,
    ⟨(some 41), .indexAddr 2 (.tmp 39) (.tmp 40), none⟩,
    ⟨(some 42), .fieldAddr 0 (.tmp 41), none⟩,
    ⟨(some 43), .load none (.tmp 42), none⟩,
    ⟨(some 44), .mov (.tmp 0), none⟩,
    ⟨(some 45), .nilCheck (.tmp 44), none⟩,
    ⟨(some 46), .fieldAddr 1 (.tmp 45), none⟩,
    ⟨(some 47), .load none (.tmp 46), none⟩,
    ⟨(some 48), .mov (.tmp 0), none⟩,
    ⟨(some 49), .nilCheck (.tmp 48), none⟩,
    ⟨(some 50), .fieldAddr 0 (.tmp 49), none⟩,
    ⟨(some 51), .load none (.tmp 50), none⟩,
    ⟨(some 52), .mov (.tmp 2), none⟩,
    ⟨(some 53), .indexAddr 2 (.tmp 51) (.tmp 52), none⟩,
    ⟨(some 54), .fieldAddr 0 (.tmp 53), none⟩,
    ⟨(some 55), .load none (.tmp 54), none⟩,
    ⟨(some 56), .mov (.tmp 1), none⟩,
    ⟨(some 57), .mov (.tmp 2), none⟩,
    ⟨(some 58), .mapEntry .int (.int .i64 0) (.tmp 35) (.tmp 43), none⟩,
    ⟨(some 59), .extract (.tmp 58) 1, none⟩,
    ⟨none, .entryStore (.tmp 35) (.tmp 59) (.tmp 56), none⟩,
    ⟨(some 60), .mapEntry .int (.int .i64 0) (.tmp 47) (.tmp 55), none⟩,
    ⟨(some 61), .extract (.tmp 60) 1, none⟩,
    ⟨none, .entryStore (.tmp 47) (.tmp 61) (.tmp 57), none⟩]
   none)
def fun32 : AFun := ⟨3, code32, []⟩
theorem comp32 : FunOK Try.prog 32 fun32 :=
  FunOK.of Try.func32 [] [] (by kernel_rfl) (by kernel_rfl) (by decide +kernel) (by kernel_rfl)

/- (*decorum/heap.Heap).less -/
def code40 : ACode :=
 .seq (
  .region [
    ⟨(some 6), .mov (.const (.bool false)), none⟩]
   none)
 (
  .seq (
   .region [
     ⟨(some 9), .mov (.tmp 0), none⟩,
     ⟨(some 10), .nilCheck (.tmp 9), none⟩,
     ⟨(some 11), .fieldAddr 2 (.tmp 10), none⟩,
     ⟨(some 12), .load none (.tmp 11), none⟩,
     ⟨(some 13), .bin .add (.tmp 12) (.const (.int .i64 1)), none⟩,
     ⟨(some 14), .nilCheck (.tmp 9), none⟩,
     ⟨(some 15), .fieldAddr 2 (.tmp 14), none⟩,
     ⟨none, .store 1 (.tmp 15) (.tmp 13), none⟩]
    none)
  (
   .seq (
    .region [
      ⟨(some 16), .mov (.tmp 0), none⟩,
      ⟨(some 17), .nilCheck (.tmp 16), none⟩,
      ⟨(some 18), .fieldAddr 0 (.tmp 17), none⟩,
      ⟨(some 19), .load none (.tmp 18), none⟩,
      ⟨(some 20), .mov (.tmp 1), none⟩,
      ⟨(some 21), .indexAddr 2 (.tmp 19) (.tmp 20), none⟩,
      ⟨(some 22), .load (some 2) (.tmp 21), none⟩,
      ⟨(some 23), .mov (.tmp 0), none⟩,
      ⟨(some 24), .nilCheck (.tmp 23), none⟩,
      ⟨(some 25), .fieldAddr 0 (.tmp 24), none⟩,
      ⟨(some 26), .load none (.tmp 25), none⟩,
      ⟨(some 27), .mov (.tmp 2), none⟩,
      ⟨(some 28), .indexAddr 2 (.tmp 26) (.tmp 27), none⟩,
      ⟨(some 29), .load (some 2) (.tmp 28), none⟩,
      ⟨(some 7), .alloc 73 [(.int .i64 0), (.int .i64 0)], none⟩,
      ⟨(some 8), .alloc 73 [(.int .i64 0), (.int .i64 0)], none⟩,
      ⟨none, .store 2 (.tmp 7) (.tmp 22), none⟩,
      ⟨none, .store 2 (.tmp 8) (.tmp 29), none⟩]
     (some ⟨[(16, 10), (16, 13)], []⟩))
   (
    .seq (
     .region [
       ⟨(some 30), .fieldAddr 1 (.tmp 7), none⟩,
       ⟨(some 31), .load none (.tmp 30), none⟩,
       ⟨(some 32), .fieldAddr 1 (.tmp 8), none⟩,
       ⟨(some 33), .load none (.tmp 32), none⟩,
       ⟨(some 34), .bin .lss (.tmp 31) (.tmp 33), none⟩,
       ⟨(some 35), .mov (.tmp 34), none⟩,
       ⟨(some 36), .fieldAddr 1 (.tmp 7), (some (35, false))⟩,
       ⟨(some 37), .load none (.tmp 36), (some (35, false))⟩,
       ⟨(some 38), .fieldAddr 1 (.tmp 8), (some (35, false))⟩,
       ⟨(some 39), .load none (.tmp 38), (some (35, false))⟩,
       ⟨(some 40), .bin .eql (.tmp 37) (.tmp 39), (some (35, false))⟩,
       ⟨(some 41), .mov (.tmp 40), (some (35, false))⟩,
       ⟨(some 42), .fieldAddr 0 (.tmp 7), (some (41, true))⟩,
       ⟨(some 43), .load none (.tmp 42), (some (41, true))⟩,
       ⟨(some 44), .fieldAddr 0 (.tmp 8), (some (41, true))⟩,
       ⟨(some 45), .load none (.tmp 44), (some (41, true))⟩,
       ⟨(some 46), .bin .lss (.tmp 43) (.tmp 45), (some (41, true))⟩,
       ⟨(some 47), .pick (.tmp 41) (.tmp 46) (.const (.bool false)), (some (35, false))⟩,
       ⟨(some 48), .pick (.tmp 35) (.const (.bool true)) (.tmp 47), none⟩,
       ⟨(some 6), .mov (.tmp 48), none⟩]
      none)
    (
     .ret))))
def fun40 : AFun := ⟨3, code40, [.tmp 6]⟩
theorem comp40 : FunOK Try.prog 40 fun40 :=
  FunOK.of Try.func40 [] [⟨[(16, 10), (16, 13)], []⟩] (by kernel_rfl) (by kernel_rfl) (by decide +kernel) (by kernel_rfl)

end Go.Proofs.Ytaigiehdnhehnaa
