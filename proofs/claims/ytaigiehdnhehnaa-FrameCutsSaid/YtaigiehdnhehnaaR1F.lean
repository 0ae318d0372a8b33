/-
  The functions as abstract code: printed by a program of mine.
-/
import Derived.Test.YtaigiehdnhehnaaProg
import Derived.Test.YtaigiehdnhehnaaA20
import Derived.WalkKit
set_option maxRecDepth 100000
namespace Go.Proofs.Ytaigiehdnhehnaa
open Go Go.Abs

/- decorum/decorumlaw14.FrameEncodes -/
def code7 : ACode :=
 .seq (
  .region [
    ⟨(some 1), .box 50 (.tmp 0), none⟩,
    ⟨(some 2), .mov (.const (.bool false)), none⟩]
   none)
 (
  .seq (
   .seq (
    .region [
      ⟨(some 7), .fieldAddr 1 (.tmp 1), none⟩,
      ⟨(some 8), .fieldAddr 1 (.tmp 7), none⟩,
      ⟨(some 9), .load none (.tmp 8), none⟩,
      ⟨(some 10), .len .string (.tmp 9), none⟩,
      ⟨(some 11), .fieldAddr 1 (.tmp 1), none⟩,
      ⟨(some 12), .fieldAddr 2 (.tmp 11), none⟩,
      ⟨(some 13), .load none (.tmp 12), none⟩,
      ⟨(some 14), .len .string (.tmp 13), none⟩,
      ⟨(some 15), .bin .add (.tmp 10) (.tmp 14), none⟩,
      ⟨(some 16), .bin .gtr (.tmp 15) (.const (.int .i64 3000)), none⟩]
     none)
   (
    .cond (.tmp 16) (
     .seq (
      .region [
        ⟨(some 17), .call (.func 23) [], none⟩,
        ⟨(some 2), .mov (.tmp 17), none⟩]
       none)
     (
      .ret))
    (
     .skip)))
  (
   .seq (
    .region [
      ⟨(some 19), .load (some 6) (.tmp 1), none⟩,
      ⟨(some 20), .call (.func 24) [(.tmp 19)], none⟩,
      ⟨(some 18), .mov (.tmp 20), none⟩,
      ⟨(some 21), .extract (.tmp 18) 0, none⟩,
      ⟨(some 22), .extract (.tmp 18) 1, none⟩,
      ⟨(some 3), .mov (.tmp 21), none⟩,
      ⟨(some 4), .mov (.tmp 22), none⟩]
     none)
   (
    .seq (
     .seq (
      .region [
        ⟨(some 23), .fieldAddr 0 (.tmp 1), none⟩,
        ⟨(some 24), .load none (.tmp 23), none⟩,
        ⟨(some 25), .fieldAddr 1 (.tmp 1), none⟩,
        ⟨(some 26), .load (some 5) (.tmp 25), none⟩,
        ⟨(some 27), .call (.func 25) [(.tmp 24), (.tmp 26)], none⟩,
        ⟨(some 28), .un .not (.tmp 27), none⟩]
       none)
     (
      .cond (.tmp 28) (
       .seq (
        .region [
          ⟨(some 29), .call (.func 23) [], none⟩,
          ⟨(some 30), .mov (.tmp 29), none⟩,
          ⟨(some 31), .mov (.tmp 4), (some (30, true))⟩,
          ⟨(some 32), .bin .eql (.tmp 31) (.const (.int .i64 2)), (some (30, true))⟩,
          ⟨(some 33), .pick (.tmp 30) (.tmp 32) (.const (.bool false)), none⟩,
          ⟨(some 34), .mov (.tmp 33), none⟩,
          ⟨(some 35), .mov (.tmp 3), (some (34, true))⟩,
          ⟨(some 36), .len .slice (.tmp 35), (some (34, true))⟩,
          ⟨(some 37), .bin .eql (.tmp 36) (.const (.int .i64 0)), (some (34, true))⟩,
          ⟨(some 38), .pick (.tmp 34) (.tmp 37) (.const (.bool false)), none⟩,
          ⟨(some 2), .mov (.tmp 38), none⟩]
         none)
       (
        .ret))
      (
       .skip)))
    (
     .seq (
      .region [
        ⟨(some 40), .mov (.tmp 3), none⟩,
        ⟨(some 41), .call (.func 26) [(.tmp 40)], none⟩,
        ⟨(some 39), .mov (.tmp 41), none⟩,
        ⟨(some 42), .extract (.tmp 39) 0, none⟩,
        ⟨(some 43), .extract (.tmp 39) 1, none⟩,
        ⟨(some 5), .mov (.tmp 42), none⟩,
        ⟨(some 6), .mov (.tmp 43), none⟩]
       none)
     (
      .seq (
       .region [
         ⟨(some 44), .call (.func 23) [], none⟩,
         ⟨(some 45), .mov (.tmp 44), none⟩,
         ⟨(some 46), .mov (.tmp 4), (some (45, true))⟩,
         ⟨(some 47), .bin .eql (.tmp 46) (.const (.int .i64 0)), (some (45, true))⟩,
         ⟨(some 48), .pick (.tmp 45) (.tmp 47) (.const (.bool false)), none⟩,
         ⟨(some 49), .mov (.tmp 48), none⟩,
         ⟨(some 50), .mov (.tmp 3), (some (49, true))⟩,
         ⟨(some 51), .conv .toString (.tmp 50), (some (49, true))⟩,
         ⟨(some 52), .fieldAddr 0 (.tmp 1), (some (49, true))⟩,
         ⟨(some 53), .load none (.tmp 52), (some (49, true))⟩,
         ⟨(some 54), .fieldAddr 1 (.tmp 1), (some (49, true))⟩,
         ⟨(some 55), .load (some 5) (.tmp 54), (some (49, true))⟩,
         ⟨(some 56), .call (.func 27) [(.tmp 53), (.tmp 55)], (some (49, true))⟩,
         ⟨(some 57), .conv .toString (.tmp 56), (some (49, true))⟩,
         ⟨(some 58), .bin .eql (.tmp 51) (.tmp 57), (some (49, true))⟩,
         ⟨(some 59), .pick (.tmp 49) (.tmp 58) (.const (.bool false)), none⟩,
         ⟨(some 60), .mov (.tmp 59), none⟩,
         ⟨(some 61), .mov (.tmp 5), (some (60, true))⟩,
         ⟨(some 62), .len .slice (.tmp 61), (some (60, true))⟩,
         ⟨(some 63), .bin .eql (.tmp 62) (.const (.int .i64 1)), (some (60, true))⟩,
         ⟨(some 64), .pick (.tmp 60) (.tmp 63) (.const (.bool false)), none⟩,
         ⟨(some 65), .mov (.tmp 64), none⟩,
         ⟨(some 66), .mov (.tmp 5), (some (65, true))⟩,
         ⟨(some 67), .indexAddr 6 (.tmp 66) (.const (.int .i64 0)), (some (65, true))⟩,
         ⟨(some 68), .load (some 6) (.tmp 67), (some (65, true))⟩,
         ⟨(some 69), .load (some 6) (.tmp 1), (some (65, true))⟩,
         ⟨(some 70), .eq false (.plain [.int, .int, .string, .string, .int, .int]) (.tmp 68) (.tmp 69), (some (65, true))⟩,
         ⟨(some 71), .pick (.tmp 65) (.tmp 70) (.const (.bool false)), none⟩,
         ⟨(some 72), .mov (.tmp 71), none⟩,
         ⟨(some 73), .mov (.tmp 6), (some (72, true))⟩,
         ⟨(some 74), .mov (.tmp 3), (some (72, true))⟩,
         ⟨(some 75), .len .slice (.tmp 74), (some (72, true))⟩,
         ⟨(some 76), .bin .eql (.tmp 73) (.tmp 75), (some (72, true))⟩,
         ⟨(some 77), .pick (.tmp 72) (.tmp 76) (.const (.bool false)), none⟩,
         ⟨(some 2), .mov (.tmp 77), none⟩]
        (some ⟨[], [12]⟩))
      (
       .ret))))))
def fun7 : AFun := ⟨1, code7, [.tmp 2]⟩
theorem comp7 : FunOK Try.prog 7 fun7 :=
  FunOK.of Try.func7 [] [⟨[], [12]⟩] (by kernel_rfl) (by kernel_rfl) (by decide +kernel) (by kernel_rfl)

/- decorum/decorumlaw14.FrameScans -/
def code8 : ACode :=
 .seq (
  .region [
    ⟨(some 2), .mov (.const (.bool false)), none⟩]
   none)
 (
  .seq (
   .seq (
    .region [
      ⟨(some 9), .mov (.tmp 0), none⟩,
      ⟨(some 10), .len .slice (.tmp 9), none⟩,
      ⟨(some 11), .bin .gtr (.tmp 10) (.const (.int .i64 4000)), none⟩]
     none)
   (
    .cond (.tmp 11) (
     .region [
       ⟨(some 12), .mov (.tmp 0), none⟩,
       ⟨(some 13), .slice (.slice 1) (.tmp 12) none (some (.const (.int .i64 4000))) none, none⟩,
       ⟨(some 0), .mov (.tmp 13), none⟩]
      none)
    (
     .skip)))
  (
   .seq (
    .region [
      ⟨(some 15), .mov (.tmp 0), none⟩,
      ⟨(some 16), .call (.func 26) [(.tmp 15)], none⟩,
      ⟨(some 14), .mov (.tmp 16), none⟩,
      ⟨(some 17), .extract (.tmp 14) 0, none⟩,
      ⟨(some 18), .extract (.tmp 14) 1, none⟩,
      ⟨(some 3), .mov (.tmp 17), none⟩,
      ⟨(some 4), .mov (.tmp 18), none⟩]
     none)
   (
    .seq (
     .region [
       ⟨(some 19), .buildSlice 5 1 0 [] [], none⟩,
       ⟨(some 5), .mov (.tmp 19), none⟩]
      none)
    (
     .seq (
      .seq (
       .region [
         ⟨(some 6), .mov (.const (.int .i64 0)), none⟩]
        none)
      (
       .block 0 (
        .loop [0, 3, 4, 5, 6] (
         .seq (
          .seq (
           .region [
             ⟨(some 20), .mov (.tmp 6), none⟩,
             ⟨(some 21), .mov (.tmp 3), none⟩,
             ⟨(some 22), .len .slice (.tmp 21), none⟩,
             ⟨(some 23), .bin .lss (.tmp 20) (.tmp 22), none⟩]
            none)
          (
           .cond (.tmp 23) (
            .skip)
           (
            .exit 0)))
         (
          .seq (
           .block 1 (
            .seq (
             .seq (
              .region [
                ⟨(some 26), .mov (.tmp 3), none⟩,
                ⟨(some 27), .mov (.tmp 6), none⟩,
                ⟨(some 28), .indexAddr 6 (.tmp 26) (.tmp 27), none⟩,
                ⟨(some 29), .fieldAddr 0 (.tmp 28), none⟩,
                ⟨(some 30), .load none (.tmp 29), none⟩,
                ⟨(some 31), .mov (.tmp 3), none⟩,
                ⟨(some 32), .mov (.tmp 6), none⟩,
                ⟨(some 33), .indexAddr 6 (.tmp 31) (.tmp 32), none⟩,
                ⟨(some 34), .fieldAddr 1 (.tmp 33), none⟩,
                ⟨(some 35), .load (some 5) (.tmp 34), none⟩,
                ⟨(some 36), .call (.func 25) [(.tmp 30), (.tmp 35)], none⟩,
                ⟨(some 37), .un .not (.tmp 36), none⟩]
               none)
             (
              .cond (.tmp 37) (
               .seq (
                .region [
                  ⟨(some 2), .mov (.const (.bool false)), none⟩]
                 none)
               (
                .ret))
              (
               .skip)))
            (
             .region [
               ⟨(some 38), .mov (.tmp 5), none⟩,
               ⟨(some 39), .mov (.tmp 3), none⟩,
               ⟨(some 40), .mov (.tmp 6), none⟩,
               ⟨(some 41), .indexAddr 6 (.tmp 39) (.tmp 40), none⟩,
               ⟨(some 42), .fieldAddr 0 (.tmp 41), none⟩,
               ⟨(some 43), .load none (.tmp 42), none⟩,
               ⟨(some 44), .mov (.tmp 3), none⟩,
               ⟨(some 45), .mov (.tmp 6), none⟩,
               ⟨(some 46), .indexAddr 6 (.tmp 44) (.tmp 45), none⟩,
               ⟨(some 47), .fieldAddr 1 (.tmp 46), none⟩,
               ⟨(some 48), .load (some 5) (.tmp 47), none⟩,
               ⟨(some 49), .call (.func 27) [(.tmp 43), (.tmp 48)], none⟩,
               ⟨(some 50), .append 5 1 1 (.tmp 38) (.tmp 49), none⟩,
               ⟨(some 5), .mov (.tmp 50), none⟩]
              none)))
          (
           .region [
             ⟨(some 24), .mov (.tmp 6), none⟩,
             ⟨(some 25), .bin .add (.tmp 24) (.const (.int .i64 1)), none⟩,
             ⟨(some 6), .mov (.tmp 25), none⟩]
            none))))))
     (
      .seq (
       .seq (
        .region [
          ⟨(some 51), .mov (.tmp 4), none⟩,
          ⟨(some 52), .mov (.tmp 5), none⟩,
          ⟨(some 53), .len .slice (.tmp 52), none⟩,
          ⟨(some 54), .bin .neq (.tmp 51) (.tmp 53), none⟩,
          ⟨(some 55), .mov (.tmp 54), none⟩,
          ⟨(some 56), .mov (.tmp 4), (some (55, false))⟩,
          ⟨(some 57), .mov (.tmp 0), (some (55, false))⟩,
          ⟨(some 58), .len .slice (.tmp 57), (some (55, false))⟩,
          ⟨(some 59), .bin .gtr (.tmp 56) (.tmp 58), (some (55, false))⟩,
          ⟨(some 60), .pick (.tmp 55) (.const (.bool true)) (.tmp 59), none⟩,
          ⟨(some 61), .mov (.tmp 60), none⟩,
          ⟨(some 62), .mov (.tmp 0), (some (61, false))⟩,
          ⟨(some 63), .mov (.tmp 4), (some (61, false))⟩,
          ⟨(some 64), .slice (.slice 1) (.tmp 62) none (some (.tmp 63)) none, (some (61, false))⟩,
          ⟨(some 65), .conv .toString (.tmp 64), (some (61, false))⟩,
          ⟨(some 66), .mov (.tmp 5), (some (61, false))⟩,
          ⟨(some 67), .conv .toString (.tmp 66), (some (61, false))⟩,
          ⟨(some 68), .bin .neq (.tmp 65) (.tmp 67), (some (61, false))⟩,
          ⟨(some 69), .pick (.tmp 61) (.const (.bool true)) (.tmp 68), none⟩]
         none)
       (
        .cond (.tmp 69) (
         .seq (
          .region [
            ⟨(some 2), .mov (.const (.bool false)), none⟩]
           none)
         (
          .ret))
        (
         .skip)))
      (
       .seq (
        .region [
          ⟨(some 71), .mov (.tmp 0), none⟩,
          ⟨(some 72), .mov (.tmp 4), none⟩,
          ⟨(some 73), .slice (.slice 1) (.tmp 71) (some (.tmp 72)) none none, none⟩,
          ⟨(some 74), .call (.func 26) [(.tmp 73)], none⟩,
          ⟨(some 70), .mov (.tmp 74), none⟩,
          ⟨(some 75), .extract (.tmp 70) 0, none⟩,
          ⟨(some 76), .extract (.tmp 70) 1, none⟩,
          ⟨(some 7), .mov (.tmp 75), none⟩,
          ⟨(some 8), .mov (.tmp 76), none⟩]
         none)
       (
        .seq (
         .region [
           ⟨(some 77), .call (.func 23) [], none⟩,
           ⟨(some 78), .mov (.tmp 77), none⟩,
           ⟨(some 79), .mov (.tmp 7), (some (78, true))⟩,
           ⟨(some 80), .len .slice (.tmp 79), (some (78, true))⟩,
           ⟨(some 81), .bin .eql (.tmp 80) (.const (.int .i64 0)), (some (78, true))⟩,
           ⟨(some 82), .pick (.tmp 78) (.tmp 81) (.const (.bool false)), none⟩,
           ⟨(some 83), .mov (.tmp 82), none⟩,
           ⟨(some 84), .mov (.tmp 8), (some (83, true))⟩,
           ⟨(some 85), .bin .eql (.tmp 84) (.const (.int .i64 0)), (some (83, true))⟩,
           ⟨(some 86), .pick (.tmp 83) (.tmp 85) (.const (.bool false)), none⟩,
           ⟨(some 2), .mov (.tmp 86), none⟩]
          none)
        (
         .ret))))))))
def fun8 : AFun := ⟨1, code8, [.tmp 2]⟩
theorem comp8 : FunOK Try.prog 8 fun8 :=
  FunOK.of Try.func8 [[0, 3, 4, 5, 6]] [] (by kernel_rfl) (by kernel_rfl) (by decide +kernel) (by kernel_rfl)

/- decorum/decorumlaw14.FrameSums -/
def code9 : ACode :=
 .seq (
  .region [
    ⟨(some 2), .mov (.const (.bool false)), none⟩]
   none)
 (
  .seq (
   .seq (
    .region [
      ⟨(some 3), .mov (.tmp 0), none⟩,
      ⟨(some 4), .len .slice (.tmp 3), none⟩,
      ⟨(some 5), .bin .gtr (.tmp 4) (.const (.int .i64 2000)), none⟩]
     none)
   (
    .cond (.tmp 5) (
     .region [
       ⟨(some 6), .mov (.tmp 0), none⟩,
       ⟨(some 7), .slice (.slice 1) (.tmp 6) none (some (.const (.int .i64 2000))) none, none⟩,
       ⟨(some 0), .mov (.tmp 7), none⟩]
      none)
    (
     .skip)))
  (
   .seq (
    .region [
      ⟨(some 8), .call (.func 23) [], none⟩,
      ⟨(some 9), .mov (.tmp 8), none⟩,
      ⟨(some 10), .mov (.tmp 0), (some (9, true))⟩,
      ⟨(some 11), .call (.func 28) [(.tmp 10)], (some (9, true))⟩,
      ⟨(some 12), .mov (.tmp 0), (some (9, true))⟩,
      ⟨(some 13), .call (.func 29) [(.tmp 12)], (some (9, true))⟩,
      ⟨(some 14), .bin .eql (.tmp 11) (.tmp 13), (some (9, true))⟩,
      ⟨(some 15), .pick (.tmp 9) (.tmp 14) (.const (.bool false)), none⟩,
      ⟨(some 2), .mov (.tmp 15), none⟩]
     none)
   (
    .ret)))
def fun9 : AFun := ⟨1, code9, [.tmp 2]⟩
theorem comp9 : FunOK Try.prog 9 fun9 :=
  FunOK.of Try.func9 [] [] (by kernel_rfl) (by kernel_rfl) (by decide +kernel) (by kernel_rfl)

/- decorum/decorumlaw14.FrameCuts -/
def code10 : ACode :=
 .seq (
  .region [
    ⟨(some 4), .mov (.const (.bool false)), none⟩]
   none)
 (
  .seq (
   .region [
     ⟨(some 16), .buildSlice 5 1 0 [] [], none⟩,
     ⟨(some 5), .mov (.tmp 16), none⟩]
    none)
  (
   .seq (
    .region [
      ⟨(some 17), .buildSlice 3 1 0 [] [], none⟩,
      ⟨(some 6), .mov (.tmp 17), none⟩]
     none)
   (
    .seq (
     .region [
       ⟨(some 18), .buildSlice 50 6 0 [] [], none⟩,
       ⟨(some 7), .mov (.tmp 18), none⟩]
      none)
    (
     .seq (
      .seq (
       .region [
         ⟨(some 8), .mov (.const (.int .i64 0)), none⟩]
        none)
      (
       .block 0 (
        .loop [0, 1, 5, 6, 7, 8] (
         .seq (
          .seq (
           .region [
             ⟨(some 19), .mov (.tmp 8), none⟩,
             ⟨(some 20), .mov (.tmp 0), none⟩,
             ⟨(some 21), .len .slice (.tmp 20), none⟩,
             ⟨(some 22), .bin .lss (.tmp 19) (.tmp 21), none⟩,
             ⟨(some 23), .mov (.tmp 22), none⟩,
             ⟨(some 24), .mov (.tmp 8), (some (23, true))⟩,
             ⟨(some 25), .bin .lss (.tmp 24) (.const (.int .i64 10)), (some (23, true))⟩,
             ⟨(some 26), .pick (.tmp 23) (.tmp 25) (.const (.bool false)), none⟩]
            none)
          (
           .cond (.tmp 26) (
            .skip)
           (
            .exit 0)))
         (
          .seq (
           .block 1 (
            .seq (
             .seq (
              .region [
                ⟨(some 29), .mov (.tmp 0), none⟩,
                ⟨(some 30), .mov (.tmp 8), none⟩,
                ⟨(some 31), .indexAddr 6 (.tmp 29) (.tmp 30), none⟩,
                ⟨(some 32), .fieldAddr 1 (.tmp 31), none⟩,
                ⟨(some 33), .fieldAddr 1 (.tmp 32), none⟩,
                ⟨(some 34), .load none (.tmp 33), none⟩,
                ⟨(some 35), .len .string (.tmp 34), none⟩,
                ⟨(some 36), .mov (.tmp 0), none⟩,
                ⟨(some 37), .mov (.tmp 8), none⟩,
                ⟨(some 38), .indexAddr 6 (.tmp 36) (.tmp 37), none⟩,
                ⟨(some 39), .fieldAddr 1 (.tmp 38), none⟩,
                ⟨(some 40), .fieldAddr 2 (.tmp 39), none⟩,
                ⟨(some 41), .load none (.tmp 40), none⟩,
                ⟨(some 42), .len .string (.tmp 41), none⟩,
                ⟨(some 43), .bin .add (.tmp 35) (.tmp 42), none⟩,
                ⟨(some 44), .bin .gtr (.tmp 43) (.const (.int .i64 1100)), none⟩]
               none)
             (
              .cond (.tmp 44) (
               .exit 1)
              (
               .skip)))
            (
             .seq (
              .region [
                ⟨(some 46), .mov (.tmp 0), none⟩,
                ⟨(some 47), .mov (.tmp 8), none⟩,
                ⟨(some 48), .indexAddr 6 (.tmp 46) (.tmp 47), none⟩,
                ⟨(some 49), .load (some 6) (.tmp 48), none⟩,
                ⟨(some 50), .call (.func 24) [(.tmp 49)], none⟩,
                ⟨(some 45), .mov (.tmp 50), none⟩,
                ⟨(some 51), .extract (.tmp 45) 0, none⟩,
                ⟨(some 52), .extract (.tmp 45) 1, none⟩,
                ⟨(some 9), .mov (.tmp 51), none⟩,
                ⟨(some 10), .mov (.tmp 52), none⟩]
               none)
             (
              .seq (
               .seq (
                .region [
                  ⟨(some 53), .mov (.tmp 10), none⟩,
                  ⟨(some 54), .bin .neq (.tmp 53) (.const (.int .i64 0)), none⟩]
                 none)
               (
                .cond (.tmp 54) (
                 .exit 1)
                (
                 .skip)))
              (
               .seq (
                .region [
                  ⟨(some 55), .mov (.tmp 5), none⟩,
                  ⟨(some 56), .mov (.tmp 9), none⟩,
                  ⟨(some 57), .append 5 1 1 (.tmp 55) (.tmp 56), none⟩,
                  ⟨(some 5), .mov (.tmp 57), none⟩]
                 none)
               (
                .seq (
                 .region [
                   ⟨(some 58), .mov (.tmp 7), none⟩,
                   ⟨(some 59), .mov (.tmp 0), none⟩,
                   ⟨(some 60), .mov (.tmp 8), none⟩,
                   ⟨(some 61), .indexAddr 6 (.tmp 59) (.tmp 60), none⟩,
                   ⟨(some 62), .load (some 6) (.tmp 61), none⟩,
                   ⟨(some 63), .buildSlice 50 6 1 [(.int .i64 0), (.int .i64 0), (.string ⟨#[]⟩), (.string ⟨#[]⟩), (.int .i64 0), (.int .i64 0)] [(0, 6, (.tmp 62))], none⟩,
                   ⟨(some 64), .append 50 6 64 (.tmp 58) (.tmp 63), none⟩,
                   ⟨(some 7), .mov (.tmp 64), none⟩]
                  none)
                (
                 .region [
                   ⟨(some 65), .mov (.tmp 6), none⟩,
                   ⟨(some 66), .mov (.tmp 5), none⟩,
                   ⟨(some 67), .len .slice (.tmp 66), none⟩,
                   ⟨(some 68), .buildSlice 3 1 1 [(.int .i64 0)] [(0, 1, (.tmp 67))], none⟩,
                   ⟨(some 69), .append 3 1 8 (.tmp 65) (.tmp 68), none⟩,
                   ⟨(some 6), .mov (.tmp 69), none⟩]
                  none)))))))
          (
           .region [
             ⟨(some 27), .mov (.tmp 8), none⟩,
             ⟨(some 28), .bin .add (.tmp 27) (.const (.int .i64 1)), none⟩,
             ⟨(some 8), .mov (.tmp 28), none⟩]
            none))))))
     (
      .seq (
       .region [
         ⟨(some 70), .mov (.tmp 1), none⟩,
         ⟨(some 71), .conv (.int .i64) (.tmp 70), none⟩,
         ⟨(some 72), .mov (.tmp 5), none⟩,
         ⟨(some 73), .len .slice (.tmp 72), none⟩,
         ⟨(some 74), .bin .add (.tmp 73) (.const (.int .i64 1)), none⟩,
         ⟨(some 75), .bin .rem (.tmp 71) (.tmp 74), none⟩,
         ⟨(some 11), .mov (.tmp 75), none⟩]
        none)
      (
       .seq (
        .region [
          ⟨(some 77), .mov (.tmp 5), none⟩,
          ⟨(some 78), .mov (.tmp 11), none⟩,
          ⟨(some 79), .slice (.slice 1) (.tmp 77) none (some (.tmp 78)) none, none⟩,
          ⟨(some 80), .call (.func 26) [(.tmp 79)], none⟩,
          ⟨(some 76), .mov (.tmp 80), none⟩,
          ⟨(some 81), .extract (.tmp 76) 0, none⟩,
          ⟨(some 82), .extract (.tmp 76) 1, none⟩,
          ⟨(some 12), .mov (.tmp 81), none⟩,
          ⟨(some 13), .mov (.tmp 82), none⟩]
         none)
       (
        .seq (
         .region [
           ⟨(some 14), .mov (.const (.int .i64 0)), none⟩]
          none)
        (
         .seq (
          .block 2 (
           .loop [6, 7, 11, 12, 13, 14] (
            .seq (
             .seq (
              .region [
                ⟨(some 83), .mov (.tmp 14), none⟩,
                ⟨(some 84), .mov (.tmp 6), none⟩,
                ⟨(some 85), .len .slice (.tmp 84), none⟩,
                ⟨(some 86), .bin .lss (.tmp 83) (.tmp 85), none⟩,
                ⟨(some 87), .mov (.tmp 86), none⟩,
                ⟨(some 88), .mov (.tmp 6), (some (87, true))⟩,
                ⟨(some 89), .mov (.tmp 14), (some (87, true))⟩,
                ⟨(some 90), .indexAddr 1 (.tmp 88) (.tmp 89), (some (87, true))⟩,
                ⟨(some 91), .load none (.tmp 90), (some (87, true))⟩,
                ⟨(some 92), .mov (.tmp 11), (some (87, true))⟩,
                ⟨(some 93), .bin .leq (.tmp 91) (.tmp 92), (some (87, true))⟩,
                ⟨(some 94), .pick (.tmp 87) (.tmp 93) (.const (.bool false)), none⟩]
               none)
             (
              .cond (.tmp 94) (
               .skip)
              (
               .exit 2)))
            (
             .block 3 (
              .region [
                ⟨(some 95), .mov (.tmp 14), none⟩,
                ⟨(some 96), .bin .add (.tmp 95) (.const (.int .i64 1)), none⟩,
                ⟨(some 14), .mov (.tmp 96), none⟩]
               none)))))
         (
          .seq (
           .seq (
            .region [
              ⟨(some 97), .mov (.tmp 12), none⟩,
              ⟨(some 98), .len .slice (.tmp 97), none⟩,
              ⟨(some 99), .mov (.tmp 14), none⟩,
              ⟨(some 100), .bin .neq (.tmp 98) (.tmp 99), none⟩,
              ⟨(some 101), .mov (.tmp 100), none⟩,
              ⟨(some 102), .mov (.tmp 14), (some (101, false))⟩,
              ⟨(some 103), .bin .gtr (.tmp 102) (.const (.int .i64 0)), (some (101, false))⟩,
              ⟨(some 104), .mov (.tmp 103), (some (101, false))⟩,
              ⟨(some 105), .mov (.tmp 13), (some (104, true))⟩,
              ⟨(some 106), .mov (.tmp 6), (some (104, true))⟩,
              ⟨(some 107), .mov (.tmp 14), (some (104, true))⟩,
              ⟨(some 108), .bin .sub (.tmp 107) (.const (.int .i64 1)), (some (104, true))⟩,
              ⟨(some 109), .indexAddr 1 (.tmp 106) (.tmp 108), (some (104, true))⟩,
              ⟨(some 110), .load none (.tmp 109), (some (104, true))⟩,
              ⟨(some 111), .bin .neq (.tmp 105) (.tmp 110), (some (104, true))⟩,
              ⟨(some 112), .pick (.tmp 104) (.tmp 111) (.const (.bool false)), (some (101, false))⟩,
              ⟨(some 113), .pick (.tmp 101) (.const (.bool true)) (.tmp 112), none⟩,
              ⟨(some 114), .mov (.tmp 113), none⟩,
              ⟨(some 115), .mov (.tmp 14), (some (114, false))⟩,
              ⟨(some 116), .bin .eql (.tmp 115) (.const (.int .i64 0)), (some (114, false))⟩,
              ⟨(some 117), .mov (.tmp 116), (some (114, false))⟩,
              ⟨(some 118), .mov (.tmp 13), (some (117, true))⟩,
              ⟨(some 119), .bin .neq (.tmp 118) (.const (.int .i64 0)), (some (117, true))⟩,
              ⟨(some 120), .pick (.tmp 117) (.tmp 119) (.const (.bool false)), (some (114, false))⟩,
              ⟨(some 121), .pick (.tmp 114) (.const (.bool true)) (.tmp 120), none⟩]
             none)
           (
            .cond (.tmp 121) (
             .seq (
              .region [
                ⟨(some 4), .mov (.const (.bool false)), none⟩]
               none)
             (
              .ret))
            (
             .skip)))
          (
           .seq (
            .seq (
             .region [
               ⟨(some 15), .mov (.const (.int .i64 0)), none⟩]
              none)
            (
             .block 4 (
              .loop [7, 12, 14, 15] (
               .seq (
                .seq (
                 .region [
                   ⟨(some 122), .mov (.tmp 15), none⟩,
                   ⟨(some 123), .mov (.tmp 14), none⟩,
                   ⟨(some 124), .bin .lss (.tmp 122) (.tmp 123), none⟩]
                  none)
                (
                 .cond (.tmp 124) (
                  .skip)
                 (
                  .exit 4)))
               (
                .seq (
                 .block 5 (
                  .seq (
                   .region [
                     ⟨(some 127), .mov (.tmp 12), none⟩,
                     ⟨(some 128), .mov (.tmp 15), none⟩,
                     ⟨(some 129), .indexAddr 6 (.tmp 127) (.tmp 128), none⟩,
                     ⟨(some 130), .load (some 6) (.tmp 129), none⟩,
                     ⟨(some 131), .mov (.tmp 7), none⟩,
                     ⟨(some 132), .mov (.tmp 15), none⟩,
                     ⟨(some 133), .indexAddr 6 (.tmp 131) (.tmp 132), none⟩,
                     ⟨(some 134), .load (some 6) (.tmp 133), none⟩,
                     ⟨(some 135), .eq true (.plain [.int, .int, .string, .string, .int, .int]) (.tmp 130) (.tmp 134), none⟩]
                    none)
                  (
                   .cond (.tmp 135) (
                    .seq (
                     .region [
                       ⟨(some 4), .mov (.const (.bool false)), none⟩]
                      none)
                    (
                     .ret))
                   (
                    .skip))))
                (
                 .region [
                   ⟨(some 125), .mov (.tmp 15), none⟩,
                   ⟨(some 126), .bin .add (.tmp 125) (.const (.int .i64 1)), none⟩,
                   ⟨(some 15), .mov (.tmp 126), none⟩]
                  none))))))
           (
            .seq (
             .region [
               ⟨(some 136), .call (.func 23) [], none⟩,
               ⟨(some 4), .mov (.tmp 136), none⟩]
              none)
            (
             .ret))))))))))))
def fun10 : AFun := ⟨2, code10, [.tmp 4]⟩
theorem comp10 : FunOK Try.prog 10 fun10 :=
  FunOK.of Try.func10 [[0, 1, 5, 6, 7, 8], [6, 7, 11, 12, 13, 14], [7, 12, 14, 15]] [] (by kernel_rfl) (by kernel_rfl) (by decide +kernel) (by kernel_rfl)

/- decorum/decorumlaw14.FrameTurned -/
def code11 : ACode :=
 .seq (
  .region [
    ⟨(some 3), .box 50 (.tmp 0), none⟩,
    ⟨(some 6), .mov (.const (.bool false)), none⟩]
   none)
 (
  .seq (
   .seq (
    .region [
      ⟨(some 13), .fieldAddr 1 (.tmp 3), none⟩,
      ⟨(some 14), .fieldAddr 1 (.tmp 13), none⟩,
      ⟨(some 15), .load none (.tmp 14), none⟩,
      ⟨(some 16), .len .string (.tmp 15), none⟩,
      ⟨(some 17), .fieldAddr 1 (.tmp 3), none⟩,
      ⟨(some 18), .fieldAddr 2 (.tmp 17), none⟩,
      ⟨(some 19), .load none (.tmp 18), none⟩,
      ⟨(some 20), .len .string (.tmp 19), none⟩,
      ⟨(some 21), .bin .add (.tmp 16) (.tmp 20), none⟩,
      ⟨(some 22), .bin .gtr (.tmp 21) (.const (.int .i64 1100)), none⟩,
      ⟨(some 23), .mov (.tmp 22), none⟩,
      ⟨(some 24), .mov (.tmp 2), (some (23, false))⟩,
      ⟨(some 25), .bin .eql (.tmp 24) (.const (.int .u32 0)), (some (23, false))⟩,
      ⟨(some 26), .pick (.tmp 23) (.const (.bool true)) (.tmp 25), none⟩]
     none)
   (
    .cond (.tmp 26) (
     .seq (
      .region [
        ⟨(some 27), .call (.func 23) [], none⟩,
        ⟨(some 6), .mov (.tmp 27), none⟩]
       none)
     (
      .ret))
    (
     .skip)))
  (
   .seq (
    .region [
      ⟨(some 29), .load (some 6) (.tmp 3), none⟩,
      ⟨(some 30), .call (.func 24) [(.tmp 29)], none⟩,
      ⟨(some 28), .mov (.tmp 30), none⟩,
      ⟨(some 31), .extract (.tmp 28) 0, none⟩,
      ⟨(some 32), .extract (.tmp 28) 1, none⟩,
      ⟨(some 7), .mov (.tmp 31), none⟩,
      ⟨(some 8), .mov (.tmp 32), none⟩]
     none)
   (
    .seq (
     .seq (
      .region [
        ⟨(some 33), .mov (.tmp 8), none⟩,
        ⟨(some 34), .bin .neq (.tmp 33) (.const (.int .i64 0)), none⟩,
        ⟨(some 35), .mov (.tmp 34), none⟩,
        ⟨(some 36), .mov (.tmp 7), (some (35, false))⟩,
        ⟨(some 37), .len .slice (.tmp 36), (some (35, false))⟩,
        ⟨(some 38), .bin .lss (.tmp 37) (.const (.int .i64 10)), (some (35, false))⟩,
        ⟨(some 39), .pick (.tmp 35) (.const (.bool true)) (.tmp 38), none⟩]
       none)
     (
      .cond (.tmp 39) (
       .seq (
        .region [
          ⟨(some 40), .call (.func 23) [], none⟩,
          ⟨(some 41), .mov (.tmp 40), none⟩,
          ⟨(some 42), .mov (.tmp 8), (some (41, true))⟩,
          ⟨(some 43), .bin .neq (.tmp 42) (.const (.int .i64 0)), (some (41, true))⟩,
          ⟨(some 44), .pick (.tmp 41) (.tmp 43) (.const (.bool false)), none⟩,
          ⟨(some 6), .mov (.tmp 44), none⟩]
         none)
       (
        .ret))
      (
       .skip)))
    (
     .seq (
      .region [
        ⟨(some 45), .mov (.tmp 1), none⟩,
        ⟨(some 46), .conv (.int .i64) (.tmp 45), none⟩,
        ⟨(some 47), .mov (.tmp 7), none⟩,
        ⟨(some 48), .len .slice (.tmp 47), none⟩,
        ⟨(some 49), .bin .sub (.tmp 48) (.const (.int .i64 9)), none⟩,
        ⟨(some 50), .bin .rem (.tmp 46) (.tmp 49), none⟩,
        ⟨(some 51), .bin .add (.const (.int .i64 6)) (.tmp 50), none⟩,
        ⟨(some 9), .mov (.tmp 51), none⟩]
       none)
     (
      .seq (
       .seq (
        .region [
          ⟨(some 10), .mov (.const (.int .i64 0)), none⟩]
         none)
       (
        .block 0 (
         .loop [2, 7, 9, 10] (
          .seq (
           .seq (
            .region [
              ⟨(some 52), .mov (.tmp 10), none⟩,
              ⟨(some 53), .bin .lss (.tmp 52) (.const (.int .i64 4)), none⟩]
             none)
           (
            .cond (.tmp 53) (
             .skip)
            (
             .exit 0)))
          (
           .seq (
            .block 1 (
             .region [
               ⟨(some 56), .mov (.tmp 7), none⟩,
               ⟨(some 57), .mov (.tmp 9), none⟩,
               ⟨(some 58), .mov (.tmp 10), none⟩,
               ⟨(some 59), .bin .add (.tmp 57) (.tmp 58), none⟩,
               ⟨(some 60), .indexAddr 1 (.tmp 56) (.tmp 59), none⟩,
               ⟨(some 61), .load none (.tmp 60), none⟩,
               ⟨(some 62), .mov (.tmp 2), none⟩,
               ⟨(some 63), .mov (.tmp 10), none⟩,
               ⟨(some 64), .bin .mul (.const (.int .i64 8)) (.tmp 63), none⟩,
               ⟨(some 65), .conv (.int .u64) (.tmp 64), none⟩,
               ⟨(some 66), .bin .shr (.tmp 62) (.tmp 65), none⟩,
               ⟨(some 67), .conv (.int .u8) (.tmp 66), none⟩,
               ⟨(some 68), .bin .xor (.tmp 61) (.tmp 67), none⟩,
               ⟨(some 69), .indexAddr 1 (.tmp 56) (.tmp 59), none⟩,
               ⟨none, .store 1 (.tmp 69) (.tmp 68), none⟩]
              none))
           (
            .region [
              ⟨(some 54), .mov (.tmp 10), none⟩,
              ⟨(some 55), .bin .add (.tmp 54) (.const (.int .i64 1)), none⟩,
              ⟨(some 10), .mov (.tmp 55), none⟩]
             none))))))
      (
       .seq (
        .region [
          ⟨(some 71), .mov (.tmp 7), none⟩,
          ⟨(some 72), .call (.func 26) [(.tmp 71)], none⟩,
          ⟨(some 70), .mov (.tmp 72), none⟩,
          ⟨(some 73), .extract (.tmp 70) 0, none⟩,
          ⟨(some 74), .extract (.tmp 70) 1, none⟩,
          ⟨(some 11), .mov (.tmp 73), none⟩,
          ⟨(some 12), .mov (.tmp 74), none⟩]
         none)
       (
        .seq (
         .region [
           ⟨(some 75), .call (.func 23) [], none⟩,
           ⟨(some 76), .mov (.tmp 75), none⟩,
           ⟨(some 77), .mov (.tmp 11), (some (76, true))⟩,
           ⟨(some 78), .len .slice (.tmp 77), (some (76, true))⟩,
           ⟨(some 79), .bin .eql (.tmp 78) (.const (.int .i64 0)), (some (76, true))⟩,
           ⟨(some 80), .pick (.tmp 76) (.tmp 79) (.const (.bool false)), none⟩,
           ⟨(some 81), .mov (.tmp 80), none⟩,
           ⟨(some 82), .mov (.tmp 12), (some (81, true))⟩,
           ⟨(some 83), .bin .eql (.tmp 82) (.const (.int .i64 0)), (some (81, true))⟩,
           ⟨(some 84), .pick (.tmp 81) (.tmp 83) (.const (.bool false)), none⟩,
           ⟨(some 6), .mov (.tmp 84), none⟩]
          none)
        (
         .ret))))))))
def fun11 : AFun := ⟨3, code11, [.tmp 6]⟩
theorem comp11 : FunOK Try.prog 11 fun11 :=
  FunOK.of Try.func11 [[2, 7, 9, 10]] [] (by kernel_rfl) (by kernel_rfl) (by decide +kernel) (by kernel_rfl)

/- decorum/decorumlaw14.FrameUnlike -/
def code12 : ACode :=
 .seq (
  .region [
    ⟨(some 2), .box 50 (.tmp 0), none⟩,
    ⟨(some 3), .box 50 (.tmp 1), none⟩,
    ⟨(some 4), .mov (.const (.bool false)), none⟩]
   none)
 (
  .seq (
   .seq (
    .region [
      ⟨(some 9), .fieldAddr 1 (.tmp 2), none⟩,
      ⟨(some 10), .fieldAddr 1 (.tmp 9), none⟩,
      ⟨(some 11), .load none (.tmp 10), none⟩,
      ⟨(some 12), .len .string (.tmp 11), none⟩,
      ⟨(some 13), .fieldAddr 1 (.tmp 2), none⟩,
      ⟨(some 14), .fieldAddr 2 (.tmp 13), none⟩,
      ⟨(some 15), .load none (.tmp 14), none⟩,
      ⟨(some 16), .len .string (.tmp 15), none⟩,
      ⟨(some 17), .bin .add (.tmp 12) (.tmp 16), none⟩,
      ⟨(some 18), .fieldAddr 1 (.tmp 3), none⟩,
      ⟨(some 19), .fieldAddr 1 (.tmp 18), none⟩,
      ⟨(some 20), .load none (.tmp 19), none⟩,
      ⟨(some 21), .len .string (.tmp 20), none⟩,
      ⟨(some 22), .bin .add (.tmp 17) (.tmp 21), none⟩,
      ⟨(some 23), .fieldAddr 1 (.tmp 3), none⟩,
      ⟨(some 24), .fieldAddr 2 (.tmp 23), none⟩,
      ⟨(some 25), .load none (.tmp 24), none⟩,
      ⟨(some 26), .len .string (.tmp 25), none⟩,
      ⟨(some 27), .bin .add (.tmp 22) (.tmp 26), none⟩,
      ⟨(some 28), .bin .gtr (.tmp 27) (.const (.int .i64 3000)), none⟩]
     none)
   (
    .cond (.tmp 28) (
     .seq (
      .region [
        ⟨(some 29), .call (.func 23) [], none⟩,
        ⟨(some 4), .mov (.tmp 29), none⟩]
       none)
     (
      .ret))
    (
     .skip)))
  (
   .seq (
    .region [
      ⟨(some 31), .load (some 6) (.tmp 2), none⟩,
      ⟨(some 32), .call (.func 24) [(.tmp 31)], none⟩,
      ⟨(some 30), .mov (.tmp 32), none⟩,
      ⟨(some 33), .extract (.tmp 30) 0, none⟩,
      ⟨(some 34), .extract (.tmp 30) 1, none⟩,
      ⟨(some 5), .mov (.tmp 33), none⟩,
      ⟨(some 6), .mov (.tmp 34), none⟩]
     none)
   (
    .seq (
     .region [
       ⟨(some 36), .load (some 6) (.tmp 3), none⟩,
       ⟨(some 37), .call (.func 24) [(.tmp 36)], none⟩,
       ⟨(some 35), .mov (.tmp 37), none⟩,
       ⟨(some 38), .extract (.tmp 35) 0, none⟩,
       ⟨(some 39), .extract (.tmp 35) 1, none⟩,
       ⟨(some 7), .mov (.tmp 38), none⟩,
       ⟨(some 8), .mov (.tmp 39), none⟩]
      none)
    (
     .seq (
      .seq (
       .region [
         ⟨(some 40), .mov (.tmp 6), none⟩,
         ⟨(some 41), .bin .neq (.tmp 40) (.const (.int .i64 0)), none⟩,
         ⟨(some 42), .mov (.tmp 41), none⟩,
         ⟨(some 43), .mov (.tmp 8), (some (42, false))⟩,
         ⟨(some 44), .bin .neq (.tmp 43) (.const (.int .i64 0)), (some (42, false))⟩,
         ⟨(some 45), .pick (.tmp 42) (.const (.bool true)) (.tmp 44), none⟩,
         ⟨(some 46), .mov (.tmp 45), none⟩,
         ⟨(some 47), .mov (.tmp 5), (some (46, false))⟩,
         ⟨(some 48), .len .slice (.tmp 47), (some (46, false))⟩,
         ⟨(some 49), .mov (.tmp 7), (some (46, false))⟩,
         ⟨(some 50), .len .slice (.tmp 49), (some (46, false))⟩,
         ⟨(some 51), .bin .gtr (.tmp 48) (.tmp 50), (some (46, false))⟩,
         ⟨(some 52), .pick (.tmp 46) (.const (.bool true)) (.tmp 51), none⟩]
        none)
      (
       .cond (.tmp 52) (
        .seq (
         .region [
           ⟨(some 53), .call (.func 23) [], none⟩,
           ⟨(some 4), .mov (.tmp 53), none⟩]
          none)
        (
         .ret))
       (
        .skip)))
     (
      .seq (
       .region [
         ⟨(some 54), .call (.func 23) [], none⟩,
         ⟨(some 55), .mov (.tmp 54), none⟩,
         ⟨(some 56), .mov (.tmp 7), (some (55, true))⟩,
         ⟨(some 57), .mov (.tmp 5), (some (55, true))⟩,
         ⟨(some 58), .len .slice (.tmp 57), (some (55, true))⟩,
         ⟨(some 59), .slice (.slice 1) (.tmp 56) none (some (.tmp 58)) none, (some (55, true))⟩,
         ⟨(some 60), .conv .toString (.tmp 59), (some (55, true))⟩,
         ⟨(some 61), .mov (.tmp 5), (some (55, true))⟩,
         ⟨(some 62), .conv .toString (.tmp 61), (some (55, true))⟩,
         ⟨(some 63), .bin .eql (.tmp 60) (.tmp 62), (some (55, true))⟩,
         ⟨(some 64), .load (some 6) (.tmp 2), (some (55, true))⟩,
         ⟨(some 65), .load (some 6) (.tmp 3), (some (55, true))⟩,
         ⟨(some 66), .eq false (.plain [.int, .int, .string, .string, .int, .int]) (.tmp 64) (.tmp 65), (some (55, true))⟩,
         ⟨(some 67), .eq false .scalar (.tmp 63) (.tmp 66), (some (55, true))⟩,
         ⟨(some 68), .pick (.tmp 55) (.tmp 67) (.const (.bool false)), none⟩,
         ⟨(some 4), .mov (.tmp 68), none⟩]
        none)
      (
       .ret))))))
def fun12 : AFun := ⟨2, code12, [.tmp 4]⟩
theorem comp12 : FunOK Try.prog 12 fun12 :=
  FunOK.of Try.func12 [] [] (by kernel_rfl) (by kernel_rfl) (by decide +kernel) (by kernel_rfl)

/- decorum/decorumlaw14.awake -/
def code23 : ACode :=
 .seq (
  .region [
    ⟨(some 0), .mov (.const (.bool false)), none⟩]
   none)
 (
  .seq (
   .region [
     ⟨(some 6), .build [(.int .i64 0), (.string ⟨#[]⟩), (.string ⟨#[]⟩), (.int .i64 0), (.int .i64 0)] [(0, 1, (.const (.int .i64 5))), (1, 1, (.const (.string ⟨#[104, 116, 116, 112, 58, 47, 47, 97]⟩))), (2, 1, (.const (.string ⟨#[47, 98]⟩))), (3, 1, (.const (.int .i64 2))), (4, 1, (.const (.int .i64 9)))], none⟩,
     ⟨(some 7), .build [(.int .i64 0), (.int .i64 0), (.string ⟨#[]⟩), (.string ⟨#[]⟩), (.int .i64 0), (.int .i64 0)] [(0, 1, (.const (.int .i64 1))), (1, 5, (.tmp 6))], none⟩,
     ⟨(some 1), .alloc 50 [(.int .i64 0), (.int .i64 0), (.string ⟨#[]⟩), (.string ⟨#[]⟩), (.int .i64 0), (.int .i64 0)], none⟩,
     ⟨none, .store 6 (.tmp 1) (.tmp 7), none⟩]
    none)
  (
   .seq (
    .region [
      ⟨(some 9), .load (some 6) (.tmp 1), none⟩,
      ⟨(some 10), .call (.func 24) [(.tmp 9)], none⟩,
      ⟨(some 8), .mov (.tmp 10), none⟩,
      ⟨(some 11), .extract (.tmp 8) 0, none⟩,
      ⟨(some 12), .extract (.tmp 8) 1, none⟩,
      ⟨(some 2), .mov (.tmp 11), none⟩,
      ⟨(some 3), .mov (.tmp 12), none⟩]
     none)
   (
    .seq (
     .region [
       ⟨(some 14), .buildSlice 5 1 0 [] [], none⟩,
       ⟨(some 15), .mov (.tmp 2), none⟩,
       ⟨(some 16), .append 5 1 1 (.tmp 14) (.tmp 15), none⟩,
       ⟨(some 17), .mov (.tmp 2), none⟩,
       ⟨(some 18), .mov (.tmp 2), none⟩,
       ⟨(some 19), .len .slice (.tmp 18), none⟩,
       ⟨(some 20), .bin .quo (.tmp 19) (.const (.int .i64 2)), none⟩,
       ⟨(some 21), .slice (.slice 1) (.tmp 17) none (some (.tmp 20)) none, none⟩,
       ⟨(some 22), .append 5 1 1 (.tmp 16) (.tmp 21), none⟩,
       ⟨(some 23), .call (.func 26) [(.tmp 22)], none⟩,
       ⟨(some 13), .mov (.tmp 23), none⟩,
       ⟨(some 24), .extract (.tmp 13) 0, none⟩,
       ⟨(some 25), .extract (.tmp 13) 1, none⟩,
       ⟨(some 4), .mov (.tmp 24), none⟩,
       ⟨(some 5), .mov (.tmp 25), none⟩]
      (some ⟨[(2, 7)], []⟩))
    (
     .seq (
      .region [
        ⟨(some 26), .mov (.tmp 3), none⟩,
        ⟨(some 27), .bin .eql (.tmp 26) (.const (.int .i64 0)), none⟩,
        ⟨(some 28), .mov (.tmp 27), none⟩,
        ⟨(some 29), .mov (.tmp 4), (some (28, true))⟩,
        ⟨(some 30), .len .slice (.tmp 29), (some (28, true))⟩,
        ⟨(some 31), .bin .eql (.tmp 30) (.const (.int .i64 1)), (some (28, true))⟩,
        ⟨(some 32), .pick (.tmp 28) (.tmp 31) (.const (.bool false)), none⟩,
        ⟨(some 33), .mov (.tmp 32), none⟩,
        ⟨(some 34), .mov (.tmp 4), (some (33, true))⟩,
        ⟨(some 35), .indexAddr 6 (.tmp 34) (.const (.int .i64 0)), (some (33, true))⟩,
        ⟨(some 36), .load (some 6) (.tmp 35), (some (33, true))⟩,
        ⟨(some 37), .load (some 6) (.tmp 1), (some (33, true))⟩,
        ⟨(some 38), .eq false (.plain [.int, .int, .string, .string, .int, .int]) (.tmp 36) (.tmp 37), (some (33, true))⟩,
        ⟨(some 39), .pick (.tmp 33) (.tmp 38) (.const (.bool false)), none⟩,
        ⟨(some 40), .mov (.tmp 39), none⟩,
        ⟨(some 41), .mov (.tmp 5), (some (40, true))⟩,
        ⟨(some 42), .mov (.tmp 2), (some (40, true))⟩,
        ⟨(some 43), .len .slice (.tmp 42), (some (40, true))⟩,
        ⟨(some 44), .bin .eql (.tmp 41) (.tmp 43), (some (40, true))⟩,
        ⟨(some 45), .pick (.tmp 40) (.tmp 44) (.const (.bool false)), none⟩,
        ⟨(some 46), .mov (.tmp 45), none⟩,
        ⟨(some 47), .buildSlice 5 1 9 [(.int .u8 0), (.int .u8 0), (.int .u8 0), (.int .u8 0), (.int .u8 0), (.int .u8 0), (.int .u8 0), (.int .u8 0), (.int .u8 0)] [(0, 1, (.const (.int .u8 49))), (1, 1, (.const (.int .u8 50))), (2, 1, (.const (.int .u8 51))), (3, 1, (.const (.int .u8 52))), (4, 1, (.const (.int .u8 53))), (5, 1, (.const (.int .u8 54))), (6, 1, (.const (.int .u8 55))), (7, 1, (.const (.int .u8 56))), (8, 1, (.const (.int .u8 57)))], (some (46, true))⟩,
        ⟨(some 48), .conv .sameB (.tmp 47), (some (46, true))⟩,
        ⟨(some 49), .call (.func 28) [(.tmp 48)], (some (46, true))⟩,
        ⟨(some 50), .bin .eql (.tmp 49) (.const (.int .u32 3421780262)), (some (46, true))⟩,
        ⟨(some 51), .pick (.tmp 46) (.tmp 50) (.const (.bool false)), none⟩,
        ⟨(some 52), .mov (.tmp 51), none⟩,
        ⟨(some 53), .call (.func 29) [(.const (.slice none 0 0))], (some (52, true))⟩,
        ⟨(some 54), .bin .eql (.tmp 53) (.const (.int .u32 0)), (some (52, true))⟩,
        ⟨(some 55), .pick (.tmp 52) (.tmp 54) (.const (.bool false)), none⟩,
        ⟨(some 0), .mov (.tmp 55), none⟩]
       none)
     (
      .ret)))))
def fun23 : AFun := ⟨0, code23, [.tmp 0]⟩
theorem comp23 : FunOK Try.prog 23 fun23 :=
  FunOK.of Try.func23 [] [⟨[(2, 7)], []⟩] (by kernel_rfl) (by kernel_rfl) (by decide +kernel) (by kernel_rfl)

/- decorum/frame.Encode -/
def code24 : ACode :=
 .seq (
  .region [
    ⟨(some 1), .box 50 (.tmp 0), none⟩,
    ⟨(some 2), .mov (.const (.slice none 0 0)), none⟩,
    ⟨(some 3), .mov (.const (.int .i64 0)), none⟩]
   none)
 (
  .seq (
   .seq (
    .region [
      ⟨(some 5), .load (some 6) (.tmp 1), none⟩,
      ⟨(some 6), .call (.func 33) [(.tmp 5)], none⟩,
      ⟨(some 7), .un .not (.tmp 6), none⟩]
     none)
   (
    .cond (.tmp 7) (
     .seq (
      .region [
        ⟨(some 2), .mov (.const (.slice none 0 0)), none⟩,
        ⟨(some 3), .mov (.const (.int .i64 2)), none⟩]
       none)
     (
      .ret))
    (
     .skip)))
  (
   .seq (
    .region [
      ⟨(some 8), .load (some 6) (.tmp 1), none⟩,
      ⟨(some 9), .call (.func 34) [(.tmp 8)], none⟩,
      ⟨(some 4), .mov (.tmp 9), none⟩]
     none)
   (
    .seq (
     .region [
       ⟨(some 10), .mov (.tmp 4), none⟩,
       ⟨(some 11), .len .slice (.tmp 10), none⟩,
       ⟨(some 12), .conv (.int .u64) (.tmp 11), none⟩,
       ⟨(some 13), .call (.func 36) [(.tmp 12), (.const (.int .i64 2))], none⟩,
       ⟨(some 14), .mov (.tmp 4), none⟩,
       ⟨(some 15), .call (.func 28) [(.tmp 14)], none⟩,
       ⟨(some 16), .conv (.int .u64) (.tmp 15), none⟩,
       ⟨(some 17), .call (.func 36) [(.tmp 16), (.const (.int .i64 4))], none⟩,
       ⟨(some 18), .mov (.tmp 4), none⟩,
       ⟨(some 19), .buildSlice 33 1 3 [(.slice none 0 0), (.slice none 0 0), (.slice none 0 0)] [(0, 1, (.tmp 13)), (1, 1, (.tmp 17)), (2, 1, (.tmp 18))], none⟩,
       ⟨(some 20), .call (.func 35) [(.tmp 19)], none⟩,
       ⟨(some 2), .mov (.tmp 20), none⟩,
       ⟨(some 3), .mov (.const (.int .i64 0)), none⟩]
      none)
    (
     .ret))))
def fun24 : AFun := ⟨1, code24, [.tmp 2, .tmp 3]⟩
theorem comp24 : FunOK Try.prog 24 fun24 :=
  FunOK.of Try.func24 [] [] (by kernel_rfl) (by kernel_rfl) (by decide +kernel) (by kernel_rfl)

/- decorum/decorumref13.Sound -/
def code25 : ACode :=
 .seq (
  .region [
    ⟨(some 3), .box 48 (.tmp 1), none⟩,
    ⟨(some 4), .mov (.const (.bool false)), none⟩]
   none)
 (
  .seq (
   .region [
     ⟨(some 5), .mov (.tmp 0), none⟩,
     ⟨(some 6), .bin .geq (.tmp 5) (.const (.int .i64 1)), none⟩,
     ⟨(some 7), .mov (.tmp 6), none⟩,
     ⟨(some 8), .mov (.tmp 0), (some (7, true))⟩,
     ⟨(some 9), .bin .leq (.tmp 8) (.const (.int .i64 3)), (some (7, true))⟩,
     ⟨(some 10), .pick (.tmp 7) (.tmp 9) (.const (.bool false)), none⟩,
     ⟨(some 11), .mov (.tmp 10), none⟩,
     ⟨(some 12), .fieldAddr 0 (.tmp 3), (some (11, true))⟩,
     ⟨(some 13), .load none (.tmp 12), (some (11, true))⟩,
     ⟨(some 14), .bin .geq (.tmp 13) (.const (.int .i64 0)), (some (11, true))⟩,
     ⟨(some 15), .pick (.tmp 11) (.tmp 14) (.const (.bool false)), none⟩,
     ⟨(some 16), .mov (.tmp 15), none⟩,
     ⟨(some 17), .fieldAddr 4 (.tmp 3), (some (16, true))⟩,
     ⟨(some 18), .load none (.tmp 17), (some (16, true))⟩,
     ⟨(some 19), .bin .geq (.tmp 18) (.const (.int .i64 0)), (some (16, true))⟩,
     ⟨(some 20), .pick (.tmp 16) (.tmp 19) (.const (.bool false)), none⟩,
     ⟨(some 21), .mov (.tmp 20), none⟩,
     ⟨(some 22), .fieldAddr 3 (.tmp 3), (some (21, true))⟩,
     ⟨(some 23), .load none (.tmp 22), (some (21, true))⟩,
     ⟨(some 24), .bin .geq (.tmp 23) (.const (.int .i64 0)), (some (21, true))⟩,
     ⟨(some 25), .pick (.tmp 21) (.tmp 24) (.const (.bool false)), none⟩,
     ⟨(some 26), .mov (.tmp 25), none⟩,
     ⟨(some 27), .fieldAddr 3 (.tmp 3), (some (26, true))⟩,
     ⟨(some 28), .load none (.tmp 27), (some (26, true))⟩,
     ⟨(some 29), .bin .leq (.tmp 28) (.const (.int .i64 7)), (some (26, true))⟩,
     ⟨(some 30), .pick (.tmp 26) (.tmp 29) (.const (.bool false)), none⟩,
     ⟨(some 31), .mov (.tmp 30), none⟩,
     ⟨(some 32), .fieldAddr 1 (.tmp 3), (some (31, true))⟩,
     ⟨(some 33), .load none (.tmp 32), (some (31, true))⟩,
     ⟨(some 34), .len .string (.tmp 33), (some (31, true))⟩,
     ⟨(some 35), .bin .leq (.tmp 34) (.const (.int .i64 256)), (some (31, true))⟩,
     ⟨(some 36), .pick (.tmp 31) (.tmp 35) (.const (.bool false)), none⟩,
     ⟨(some 37), .mov (.tmp 36), none⟩,
     ⟨(some 38), .fieldAddr 2 (.tmp 3), (some (37, true))⟩,
     ⟨(some 39), .load none (.tmp 38), (some (37, true))⟩,
     ⟨(some 40), .len .string (.tmp 39), (some (37, true))⟩,
     ⟨(some 41), .bin .leq (.tmp 40) (.const (.int .i64 768)), (some (37, true))⟩,
     ⟨(some 42), .pick (.tmp 37) (.tmp 41) (.const (.bool false)), none⟩,
     ⟨(some 4), .mov (.tmp 42), none⟩]
    none)
  (
   .ret))
def fun25 : AFun := ⟨2, code25, [.tmp 4]⟩
theorem comp25 : FunOK Try.prog 25 fun25 :=
  FunOK.of Try.func25 [] [] (by kernel_rfl) (by kernel_rfl) (by decide +kernel) (by kernel_rfl)

/- decorum/frame.Scan -/
def code26 : ACode :=
 .seq (
  .region [
    ⟨(some 2), .mov (.const (.slice none 0 0)), none⟩,
    ⟨(some 3), .mov (.const (.int .i64 0)), none⟩]
   none)
 (
  .seq (
   .region [
     ⟨(some 4), .mov (.const (.slice none 0 0)), none⟩]
    none)
  (
   .seq (
    .region [
      ⟨(some 5), .mov (.const (.int .i64 0)), none⟩]
     none)
   (
    .seq (
     .block 0 (
      .loop [0, 4, 5] (
       .seq (
        .seq (
         .region [
           ⟨(some 10), .mov (.tmp 0), none⟩,
           ⟨(some 11), .len .slice (.tmp 10), none⟩,
           ⟨(some 12), .mov (.tmp 5), none⟩,
           ⟨(some 13), .bin .sub (.tmp 11) (.tmp 12), none⟩,
           ⟨(some 14), .bin .geq (.tmp 13) (.const (.int .i64 6)), none⟩]
          none)
        (
         .cond (.tmp 14) (
          .skip)
         (
          .exit 0)))
       (
        .block 1 (
         .seq (
          .region [
            ⟨(some 15), .mov (.tmp 0), none⟩,
            ⟨(some 16), .mov (.tmp 5), none⟩,
            ⟨(some 17), .mov (.tmp 5), none⟩,
            ⟨(some 18), .bin .add (.tmp 17) (.const (.int .i64 2)), none⟩,
            ⟨(some 19), .slice (.slice 1) (.tmp 15) (some (.tmp 16)) (some (.tmp 18)) none, none⟩,
            ⟨(some 20), .call (.func 37) [(.tmp 19)], none⟩,
            ⟨(some 21), .conv (.int .i64) (.tmp 20), none⟩,
            ⟨(some 6), .mov (.tmp 21), none⟩]
           none)
         (
          .seq (
           .seq (
            .region [
              ⟨(some 22), .mov (.tmp 6), none⟩,
              ⟨(some 23), .mov (.tmp 0), none⟩,
              ⟨(some 24), .len .slice (.tmp 23), none⟩,
              ⟨(some 25), .mov (.tmp 5), none⟩,
              ⟨(some 26), .bin .sub (.tmp 24) (.tmp 25), none⟩,
              ⟨(some 27), .bin .sub (.tmp 26) (.const (.int .i64 6)), none⟩,
              ⟨(some 28), .bin .gtr (.tmp 22) (.tmp 27), none⟩]
             none)
           (
            .cond (.tmp 28) (
             .exit 0)
            (
             .skip)))
          (
           .seq (
            .region [
              ⟨(some 29), .mov (.tmp 0), none⟩,
              ⟨(some 30), .mov (.tmp 5), none⟩,
              ⟨(some 31), .bin .add (.tmp 30) (.const (.int .i64 6)), none⟩,
              ⟨(some 32), .mov (.tmp 5), none⟩,
              ⟨(some 33), .bin .add (.tmp 32) (.const (.int .i64 6)), none⟩,
              ⟨(some 34), .mov (.tmp 6), none⟩,
              ⟨(some 35), .bin .add (.tmp 33) (.tmp 34), none⟩,
              ⟨(some 36), .slice (.slice 1) (.tmp 29) (some (.tmp 31)) (some (.tmp 35)) none, none⟩,
              ⟨(some 7), .mov (.tmp 36), none⟩]
             none)
           (
            .seq (
             .region [
               ⟨(some 38), .mov (.tmp 7), none⟩,
               ⟨(some 39), .call (.func 38) [(.tmp 38)], none⟩,
               ⟨(some 37), .mov (.tmp 39), none⟩,
               ⟨(some 40), .extract (.tmp 37) 0, none⟩,
               ⟨(some 41), .extract (.tmp 37) 1, none⟩,
               ⟨(some 8), .alloc 50 [(.int .i64 0), (.int .i64 0), (.string ⟨#[]⟩), (.string ⟨#[]⟩), (.int .i64 0), (.int .i64 0)], none⟩,
               ⟨none, .store 6 (.tmp 8) (.tmp 40), none⟩,
               ⟨(some 9), .mov (.tmp 41), none⟩]
              none)
            (
             .seq (
              .seq (
               .region [
                 ⟨(some 42), .mov (.tmp 7), none⟩,
                 ⟨(some 43), .call (.func 28) [(.tmp 42)], none⟩,
                 ⟨(some 44), .conv (.int .u64) (.tmp 43), none⟩,
                 ⟨(some 45), .mov (.tmp 0), none⟩,
                 ⟨(some 46), .mov (.tmp 5), none⟩,
                 ⟨(some 47), .bin .add (.tmp 46) (.const (.int .i64 2)), none⟩,
                 ⟨(some 48), .mov (.tmp 5), none⟩,
                 ⟨(some 49), .bin .add (.tmp 48) (.const (.int .i64 6)), none⟩,
                 ⟨(some 50), .slice (.slice 1) (.tmp 45) (some (.tmp 47)) (some (.tmp 49)) none, none⟩,
                 ⟨(some 51), .call (.func 37) [(.tmp 50)], none⟩,
                 ⟨(some 52), .bin .neq (.tmp 44) (.tmp 51), none⟩,
                 ⟨(some 53), .mov (.tmp 52), none⟩,
                 ⟨(some 54), .mov (.tmp 9), (some (53, false))⟩,
                 ⟨(some 55), .un .not (.tmp 54), (some (53, false))⟩,
                 ⟨(some 56), .pick (.tmp 53) (.const (.bool true)) (.tmp 55), none⟩]
                (some ⟨[], [1]⟩))
              (
               .cond (.tmp 56) (
                .exit 0)
               (
                .skip)))
             (
              .seq (
               .region [
                 ⟨(some 57), .mov (.tmp 4), none⟩,
                 ⟨(some 58), .load (some 6) (.tmp 8), none⟩,
                 ⟨(some 59), .buildSlice 50 6 1 [(.int .i64 0), (.int .i64 0), (.string ⟨#[]⟩), (.string ⟨#[]⟩), (.int .i64 0), (.int .i64 0)] [(0, 6, (.tmp 58))], none⟩,
                 ⟨(some 60), .append 50 6 64 (.tmp 57) (.tmp 59), none⟩,
                 ⟨(some 4), .mov (.tmp 60), none⟩]
                none)
              (
               .region [
                 ⟨(some 61), .mov (.tmp 5), none⟩,
                 ⟨(some 62), .mov (.tmp 6), none⟩,
                 ⟨(some 63), .bin .add (.const (.int .i64 6)) (.tmp 62), none⟩,
                 ⟨(some 64), .bin .add (.tmp 61) (.tmp 63), none⟩,
                 ⟨(some 5), .mov (.tmp 64), none⟩]
                none)))))))))))
    (
     .seq (
      .region [
        ⟨(some 65), .mov (.tmp 4), none⟩,
        ⟨(some 66), .mov (.tmp 5), none⟩,
        ⟨(some 2), .mov (.tmp 65), none⟩,
        ⟨(some 3), .mov (.tmp 66), none⟩]
       none)
     (
      .ret)))))
def fun26 : AFun := ⟨1, code26, [.tmp 2, .tmp 3]⟩
theorem comp26 : FunOK Try.prog 26 fun26 :=
  FunOK.of Try.func26 [[0, 4, 5]] [⟨[], [1]⟩] (by kernel_rfl) (by kernel_rfl) (by decide +kernel) (by kernel_rfl)

/- decorum/decorumref13.Record -/
def code27 : ACode :=
 .seq (
  .region [
    ⟨(some 3), .box 48 (.tmp 1), none⟩,
    ⟨(some 4), .mov (.const (.slice none 0 0)), none⟩]
   none)
 (
  .seq (
   .region [
     ⟨(some 6), .mov (.tmp 0), none⟩,
     ⟨(some 7), .conv (.int .u8) (.tmp 6), none⟩,
     ⟨(some 8), .fieldAddr 3 (.tmp 3), none⟩,
     ⟨(some 9), .load none (.tmp 8), none⟩,
     ⟨(some 10), .conv (.int .u8) (.tmp 9), none⟩,
     ⟨(some 11), .buildSlice 5 1 2 [(.int .u8 0), (.int .u8 0)] [(0, 1, (.tmp 7)), (1, 1, (.tmp 10))], none⟩,
     ⟨(some 12), .fieldAddr 0 (.tmp 3), none⟩,
     ⟨(some 13), .load none (.tmp 12), none⟩,
     ⟨(some 14), .call (.func 39) [(.tmp 13), (.const (.int .i64 8))], none⟩,
     ⟨(some 15), .append 5 1 1 (.tmp 11) (.tmp 14), none⟩,
     ⟨(some 5), .mov (.tmp 15), none⟩]
    (some ⟨[], [8]⟩))
  (
   .seq (
    .region [
      ⟨(some 16), .mov (.tmp 5), none⟩,
      ⟨(some 17), .fieldAddr 4 (.tmp 3), none⟩,
      ⟨(some 18), .load none (.tmp 17), none⟩,
      ⟨(some 19), .call (.func 39) [(.tmp 18), (.const (.int .i64 8))], none⟩,
      ⟨(some 20), .append 5 1 1 (.tmp 16) (.tmp 19), none⟩,
      ⟨(some 21), .fieldAddr 1 (.tmp 3), none⟩,
      ⟨(some 22), .load none (.tmp 21), none⟩,
      ⟨(some 23), .len .string (.tmp 22), none⟩,
      ⟨(some 24), .call (.func 39) [(.tmp 23), (.const (.int .i64 2))], none⟩,
      ⟨(some 25), .append 5 1 1 (.tmp 20) (.tmp 24), none⟩,
      ⟨(some 5), .mov (.tmp 25), none⟩]
     (some ⟨[(4, 6)], [3]⟩))
   (
    .seq (
     .region [
       ⟨(some 26), .mov (.tmp 5), none⟩,
       ⟨(some 27), .fieldAddr 1 (.tmp 3), none⟩,
       ⟨(some 28), .load none (.tmp 27), none⟩,
       ⟨(some 29), .append 5 1 1 (.tmp 26) (.tmp 28), none⟩,
       ⟨(some 30), .fieldAddr 2 (.tmp 3), none⟩,
       ⟨(some 31), .load none (.tmp 30), none⟩,
       ⟨(some 32), .append 5 1 1 (.tmp 29) (.tmp 31), none⟩,
       ⟨(some 5), .mov (.tmp 32), none⟩]
      (some ⟨[(3, 5)], []⟩))
    (
     .seq (
      .region [
        ⟨(some 33), .mov (.tmp 5), none⟩,
        ⟨(some 34), .len .slice (.tmp 33), none⟩,
        ⟨(some 35), .call (.func 39) [(.tmp 34), (.const (.int .i64 2))], none⟩,
        ⟨(some 36), .mov (.tmp 5), none⟩,
        ⟨(some 37), .call (.func 29) [(.tmp 36)], none⟩,
        ⟨(some 38), .conv (.int .i64) (.tmp 37), none⟩,
        ⟨(some 39), .call (.func 39) [(.tmp 38), (.const (.int .i64 4))], none⟩,
        ⟨(some 40), .append 5 1 1 (.tmp 35) (.tmp 39), none⟩,
        ⟨(some 41), .mov (.tmp 5), none⟩,
        ⟨(some 42), .append 5 1 1 (.tmp 40) (.tmp 41), none⟩,
        ⟨(some 4), .mov (.tmp 42), none⟩]
       none)
     (
      .ret)))))
def fun27 : AFun := ⟨2, code27, [.tmp 4]⟩
theorem comp27 : FunOK Try.prog 27 fun27 :=
  FunOK.of Try.func27 [] [⟨[], [8]⟩, ⟨[(4, 6)], [3]⟩, ⟨[(3, 5)], []⟩] (by kernel_rfl) (by kernel_rfl) (by decide +kernel) (by kernel_rfl)

/- decorum/frame.Sum -/
def code28 : ACode :=
 .seq (
  .region [
    ⟨(some 2), .mov (.const (.int .u32 0)), none⟩]
   none)
 (
  .seq (
   .region [
     ⟨(some 3), .mov (.const (.int .u32 4294967295)), none⟩]
    none)
  (
   .seq (
    .seq (
     .region [
       ⟨(some 6), .mov (.tmp 0), none⟩,
       ⟨(some 7), .len .slice (.tmp 6), none⟩,
       ⟨(some 8), .mov (.const (.int .i64 0)), none⟩]
      none)
    (
     .block 0 (
      .loop [3, 6, 7, 8] (
       .seq (
        .region [
          ⟨(some 9), .bin .lss (.tmp 8) (.tmp 7), none⟩]
         none)
       (
        .seq (
         .cond (.tmp 9) (
          .skip)
         (
          .exit 0))
        (
         .seq (
          .block 1 (
           .seq (
            .region [
              ⟨(some 10), .indexAddr 1 (.tmp 6) (.tmp 8), none⟩,
              ⟨(some 11), .load none (.tmp 10), none⟩,
              ⟨(some 5), .mov (.tmp 11), none⟩]
             none)
           (
            .seq (
             .region [
               ⟨(some 12), .mov (.tmp 3), none⟩,
               ⟨(some 13), .mov (.tmp 5), none⟩,
               ⟨(some 14), .conv (.int .u32) (.tmp 13), none⟩,
               ⟨(some 15), .bin .xor (.tmp 12) (.tmp 14), none⟩,
               ⟨(some 3), .mov (.tmp 15), none⟩]
              none)
            (
             .seq (
              .region [
                ⟨(some 16), .mov (.const (.int .i64 0)), none⟩]
               none)
             (
              .block 2 (
               .loop [3, 6, 7, 8, 16] (
                .seq (
                 .region [
                   ⟨(some 17), .bin .lss (.tmp 16) (.const (.int .i64 8)), none⟩]
                  none)
                (
                 .seq (
                  .cond (.tmp 17) (
                   .skip)
                  (
                   .exit 2))
                 (
                  .seq (
                   .block 3 (
                    .region [
                      ⟨(some 18), .mov (.tmp 3), none⟩,
                      ⟨(some 19), .bin .shr (.tmp 18) (.const (.int .u64 1)), none⟩,
                      ⟨(some 20), .mov (.tmp 3), none⟩,
                      ⟨(some 21), .bin .and (.tmp 20) (.const (.int .u32 1)), none⟩,
                      ⟨(some 22), .un .neg (.tmp 21), none⟩,
                      ⟨(some 23), .bin .and (.const (.int .u32 3988292384)) (.tmp 22), none⟩,
                      ⟨(some 24), .bin .xor (.tmp 19) (.tmp 23), none⟩,
                      ⟨(some 3), .mov (.tmp 24), none⟩]
                     none))
                  (
                   .region [
                     ⟨(some 25), .bin .add (.tmp 16) (.const (.int .i64 1)), none⟩,
                     ⟨(some 16), .mov (.tmp 25), none⟩]
                    none))))))))))
         (
          .region [
            ⟨(some 26), .bin .add (.tmp 8) (.const (.int .i64 1)), none⟩,
            ⟨(some 8), .mov (.tmp 26), none⟩]
           none)))))))
   (
    .seq (
     .region [
       ⟨(some 27), .mov (.tmp 3), none⟩,
       ⟨(some 28), .un .xor (.tmp 27), none⟩,
       ⟨(some 2), .mov (.tmp 28), none⟩]
      none)
    (
     .ret))))
def fun28 : AFun := ⟨1, code28, [.tmp 2]⟩
theorem comp28 : FunOK Try.prog 28 fun28 :=
  FunOK.of Try.func28 [[3, 6, 7, 8], [3, 6, 7, 8, 16]] [] (by kernel_rfl) (by kernel_rfl) (by decide +kernel) (by kernel_rfl)

/- decorum/decorumref13.Sum -/
def code29 : ACode :=
 .seq (
  .region [
    ⟨(some 2), .mov (.const (.int .u32 0)), none⟩]
   none)
 (
  .seq (
   .region [
     ⟨(some 3), .mov (.const (.int .u32 4294967295)), none⟩]
    none)
  (
   .seq (
    .seq (
     .region [
       ⟨(some 4), .mov (.const (.int .i64 0)), none⟩]
      none)
    (
     .block 0 (
      .loop [0, 3, 4] (
       .seq (
        .seq (
         .region [
           ⟨(some 7), .mov (.tmp 4), none⟩,
           ⟨(some 8), .mov (.tmp 0), none⟩,
           ⟨(some 9), .len .slice (.tmp 8), none⟩,
           ⟨(some 10), .bin .lss (.tmp 7) (.tmp 9), none⟩]
          none)
        (
         .cond (.tmp 10) (
          .skip)
         (
          .exit 0)))
       (
        .seq (
         .block 1 (
          .seq (
           .region [
             ⟨(some 5), .mov (.const (.int .i64 0)), none⟩]
            none)
          (
           .block 2 (
            .loop [0, 3, 4, 5] (
             .seq (
              .seq (
               .region [
                 ⟨(some 13), .mov (.tmp 5), none⟩,
                 ⟨(some 14), .bin .lss (.tmp 13) (.const (.int .i64 8)), none⟩]
                none)
              (
               .cond (.tmp 14) (
                .skip)
               (
                .exit 2)))
             (
              .seq (
               .block 3 (
                .seq (
                 .region [
                   ⟨(some 17), .mov (.tmp 3), none⟩,
                   ⟨(some 18), .mov (.tmp 0), none⟩,
                   ⟨(some 19), .mov (.tmp 4), none⟩,
                   ⟨(some 20), .indexAddr 1 (.tmp 18) (.tmp 19), none⟩,
                   ⟨(some 21), .load none (.tmp 20), none⟩,
                   ⟨(some 22), .mov (.tmp 5), none⟩,
                   ⟨(some 23), .conv (.int .u64) (.tmp 22), none⟩,
                   ⟨(some 24), .bin .shr (.tmp 21) (.tmp 23), none⟩,
                   ⟨(some 25), .conv (.int .u32) (.tmp 24), none⟩,
                   ⟨(some 26), .bin .xor (.tmp 17) (.tmp 25), none⟩,
                   ⟨(some 27), .bin .rem (.tmp 26) (.const (.int .u32 2)), none⟩,
                   ⟨(some 6), .mov (.tmp 27), none⟩]
                  none)
                (
                 .seq (
                  .region [
                    ⟨(some 28), .mov (.tmp 3), none⟩,
                    ⟨(some 29), .bin .quo (.tmp 28) (.const (.int .u32 2)), none⟩,
                    ⟨(some 3), .mov (.tmp 29), none⟩]
                   none)
                 (
                  .seq (
                   .region [
                     ⟨(some 30), .mov (.tmp 6), none⟩,
                     ⟨(some 31), .bin .eql (.tmp 30) (.const (.int .u32 1)), none⟩]
                    none)
                  (
                   .cond (.tmp 31) (
                    .region [
                      ⟨(some 32), .mov (.tmp 3), none⟩,
                      ⟨(some 33), .bin .xor (.tmp 32) (.const (.int .u32 3988292384)), none⟩,
                      ⟨(some 3), .mov (.tmp 33), none⟩]
                     none)
                   (
                    .skip))))))
              (
               .region [
                 ⟨(some 15), .mov (.tmp 5), none⟩,
                 ⟨(some 16), .bin .add (.tmp 15) (.const (.int .i64 1)), none⟩,
                 ⟨(some 5), .mov (.tmp 16), none⟩]
                none)))))))
        (
         .region [
           ⟨(some 11), .mov (.tmp 4), none⟩,
           ⟨(some 12), .bin .add (.tmp 11) (.const (.int .i64 1)), none⟩,
           ⟨(some 4), .mov (.tmp 12), none⟩]
          none))))))
   (
    .seq (
     .region [
       ⟨(some 34), .mov (.tmp 3), none⟩,
       ⟨(some 35), .bin .xor (.tmp 34) (.const (.int .u32 4294967295)), none⟩,
       ⟨(some 2), .mov (.tmp 35), none⟩]
      none)
    (
     .ret))))
def fun29 : AFun := ⟨1, code29, [.tmp 2]⟩
theorem comp29 : FunOK Try.prog 29 fun29 :=
  FunOK.of Try.func29 [[0, 3, 4], [0, 3, 4, 5]] [] (by kernel_rfl) (by kernel_rfl) (by decide +kernel) (by kernel_rfl)

/- decorum/frame.sound -/
def code33 : ACode :=
 .seq (
  .region [
    ⟨(some 1), .box 50 (.tmp 0), none⟩,
    ⟨(some 2), .mov (.const (.bool false)), none⟩]
   none)
 (
  .seq (
   .region [
     ⟨(some 5), .fieldAddr 1 (.tmp 1), none⟩,
     ⟨(some 6), .load (some 5) (.tmp 5), none⟩,
     ⟨(some 3), .alloc 48 [(.int .i64 0), (.string ⟨#[]⟩), (.string ⟨#[]⟩), (.int .i64 0), (.int .i64 0)], none⟩,
     ⟨none, .store 5 (.tmp 3) (.tmp 6), none⟩]
    none)
  (
   .seq (
    .region [
      ⟨(some 7), .fieldAddr 1 (.tmp 3), none⟩,
      ⟨(some 8), .load none (.tmp 7), none⟩,
      ⟨(some 9), .len .string (.tmp 8), none⟩,
      ⟨(some 10), .bin .leq (.tmp 9) (.const (.int .i64 256)), none⟩,
      ⟨(some 11), .mov (.tmp 10), none⟩,
      ⟨(some 12), .fieldAddr 2 (.tmp 3), (some (11, true))⟩,
      ⟨(some 13), .load none (.tmp 12), (some (11, true))⟩,
      ⟨(some 14), .len .string (.tmp 13), (some (11, true))⟩,
      ⟨(some 15), .bin .leq (.tmp 14) (.const (.int .i64 768)), (some (11, true))⟩,
      ⟨(some 16), .pick (.tmp 11) (.tmp 15) (.const (.bool false)), none⟩,
      ⟨(some 17), .mov (.tmp 16), none⟩,
      ⟨(some 18), .fieldAddr 0 (.tmp 3), (some (17, true))⟩,
      ⟨(some 19), .load none (.tmp 18), (some (17, true))⟩,
      ⟨(some 20), .bin .geq (.tmp 19) (.const (.int .i64 0)), (some (17, true))⟩,
      ⟨(some 21), .pick (.tmp 17) (.tmp 20) (.const (.bool false)), none⟩,
      ⟨(some 22), .mov (.tmp 21), none⟩,
      ⟨(some 23), .fieldAddr 4 (.tmp 3), (some (22, true))⟩,
      ⟨(some 24), .load none (.tmp 23), (some (22, true))⟩,
      ⟨(some 25), .bin .geq (.tmp 24) (.const (.int .i64 0)), (some (22, true))⟩,
      ⟨(some 26), .pick (.tmp 22) (.tmp 25) (.const (.bool false)), none⟩,
      ⟨(some 4), .mov (.tmp 26), none⟩]
     none)
   (
    .seq (
     .region [
       ⟨(some 27), .mov (.tmp 4), none⟩,
       ⟨(some 28), .mov (.tmp 27), none⟩,
       ⟨(some 29), .fieldAddr 0 (.tmp 1), (some (28, true))⟩,
       ⟨(some 30), .load none (.tmp 29), (some (28, true))⟩,
       ⟨(some 31), .bin .geq (.tmp 30) (.const (.int .i64 1)), (some (28, true))⟩,
       ⟨(some 32), .pick (.tmp 28) (.tmp 31) (.const (.bool false)), none⟩,
       ⟨(some 33), .mov (.tmp 32), none⟩,
       ⟨(some 34), .fieldAddr 0 (.tmp 1), (some (33, true))⟩,
       ⟨(some 35), .load none (.tmp 34), (some (33, true))⟩,
       ⟨(some 36), .bin .leq (.tmp 35) (.const (.int .i64 3)), (some (33, true))⟩,
       ⟨(some 37), .pick (.tmp 33) (.tmp 36) (.const (.bool false)), none⟩,
       ⟨(some 38), .mov (.tmp 37), none⟩,
       ⟨(some 39), .fieldAddr 3 (.tmp 3), (some (38, true))⟩,
       ⟨(some 40), .load none (.tmp 39), (some (38, true))⟩,
       ⟨(some 41), .bin .geq (.tmp 40) (.const (.int .i64 0)), (some (38, true))⟩,
       ⟨(some 42), .pick (.tmp 38) (.tmp 41) (.const (.bool false)), none⟩,
       ⟨(some 43), .mov (.tmp 42), none⟩,
       ⟨(some 44), .fieldAddr 3 (.tmp 3), (some (43, true))⟩,
       ⟨(some 45), .load none (.tmp 44), (some (43, true))⟩,
       ⟨(some 46), .bin .leq (.tmp 45) (.const (.int .i64 7)), (some (43, true))⟩,
       ⟨(some 47), .pick (.tmp 43) (.tmp 46) (.const (.bool false)), none⟩,
       ⟨(some 2), .mov (.tmp 47), none⟩]
      none)
    (
     .ret))))
def fun33 : AFun := ⟨1, code33, [.tmp 2]⟩
theorem comp33 : FunOK Try.prog 33 fun33 :=
  FunOK.of Try.func33 [] [] (by kernel_rfl) (by kernel_rfl) (by decide +kernel) (by kernel_rfl)

/- decorum/frame.body -/
def code34 : ACode :=
 .seq (
  .region [
    ⟨(some 1), .box 50 (.tmp 0), none⟩,
    ⟨(some 2), .mov (.const (.slice none 0 0)), none⟩]
   none)
 (
  .seq (
   .region [
     ⟨(some 5), .fieldAddr 1 (.tmp 1), none⟩,
     ⟨(some 6), .load (some 5) (.tmp 5), none⟩,
     ⟨(some 3), .alloc 48 [(.int .i64 0), (.string ⟨#[]⟩), (.string ⟨#[]⟩), (.int .i64 0), (.int .i64 0)], none⟩,
     ⟨none, .store 5 (.tmp 3) (.tmp 6), none⟩]
    none)
  (
   .seq (
    .region [
      ⟨(some 7), .fieldAddr 0 (.tmp 1), none⟩,
      ⟨(some 8), .load none (.tmp 7), none⟩,
      ⟨(some 9), .conv (.int .u8) (.tmp 8), none⟩,
      ⟨(some 10), .fieldAddr 3 (.tmp 3), none⟩,
      ⟨(some 11), .load none (.tmp 10), none⟩,
      ⟨(some 12), .conv (.int .u8) (.tmp 11), none⟩,
      ⟨(some 13), .buildSlice 5 1 2 [(.int .u8 0), (.int .u8 0)] [(0, 1, (.tmp 9)), (1, 1, (.tmp 12))], none⟩,
      ⟨(some 4), .mov (.tmp 13), none⟩]
     none)
   (
    .seq (
     .region [
       ⟨(some 14), .mov (.tmp 4), none⟩,
       ⟨(some 15), .fieldAddr 0 (.tmp 3), none⟩,
       ⟨(some 16), .load none (.tmp 15), none⟩,
       ⟨(some 17), .conv (.int .u64) (.tmp 16), none⟩,
       ⟨(some 18), .call (.func 36) [(.tmp 17), (.const (.int .i64 8))], none⟩,
       ⟨(some 19), .append 5 1 1 (.tmp 14) (.tmp 18), none⟩,
       ⟨(some 4), .mov (.tmp 19), none⟩]
      none)
    (
     .seq (
      .region [
        ⟨(some 20), .mov (.tmp 4), none⟩,
        ⟨(some 21), .fieldAddr 4 (.tmp 3), none⟩,
        ⟨(some 22), .load none (.tmp 21), none⟩,
        ⟨(some 23), .conv (.int .u64) (.tmp 22), none⟩,
        ⟨(some 24), .call (.func 36) [(.tmp 23), (.const (.int .i64 8))], none⟩,
        ⟨(some 25), .append 5 1 1 (.tmp 20) (.tmp 24), none⟩,
        ⟨(some 4), .mov (.tmp 25), none⟩]
       none)
     (
      .seq (
       .region [
         ⟨(some 26), .mov (.tmp 4), none⟩,
         ⟨(some 27), .fieldAddr 1 (.tmp 3), none⟩,
         ⟨(some 28), .load none (.tmp 27), none⟩,
         ⟨(some 29), .len .string (.tmp 28), none⟩,
         ⟨(some 30), .conv (.int .u64) (.tmp 29), none⟩,
         ⟨(some 31), .call (.func 36) [(.tmp 30), (.const (.int .i64 2))], none⟩,
         ⟨(some 32), .append 5 1 1 (.tmp 26) (.tmp 31), none⟩,
         ⟨(some 4), .mov (.tmp 32), none⟩]
        none)
      (
       .seq (
        .region [
          ⟨(some 33), .mov (.tmp 4), none⟩,
          ⟨(some 34), .fieldAddr 1 (.tmp 3), none⟩,
          ⟨(some 35), .load none (.tmp 34), none⟩,
          ⟨(some 36), .append 5 1 1 (.tmp 33) (.tmp 35), none⟩,
          ⟨(some 37), .fieldAddr 2 (.tmp 3), none⟩,
          ⟨(some 38), .load none (.tmp 37), none⟩,
          ⟨(some 39), .append 5 1 1 (.tmp 36) (.tmp 38), none⟩,
          ⟨(some 2), .mov (.tmp 39), none⟩]
         (some ⟨[(3, 5)], []⟩))
       (
        .ret)))))))
def fun34 : AFun := ⟨1, code34, [.tmp 2]⟩
theorem comp34 : FunOK Try.prog 34 fun34 :=
  FunOK.of Try.func34 [] [⟨[(3, 5)], []⟩] (by kernel_rfl) (by kernel_rfl) (by decide +kernel) (by kernel_rfl)

/- slices.Concat[[]byte,byte] -/
def code35 : ACode :=
 .seq (
  .region [
    ⟨(some 2), .mov (.const (.slice none 0 0)), none⟩]
   none)
 (
  .seq (
   .region [
     ⟨(some 3), .mov (.const (.int .i64 0)), none⟩]
    none)
  (
   .seq (
    .seq (
     .region [
       ⟨(some 9), .mov (.tmp 0), none⟩,
       ⟨(some 10), .len .slice (.tmp 9), none⟩,
       ⟨(some 11), .mov (.const (.int .i64 0)), none⟩]
      none)
    (
     .block 0 (
      .loop [0, 3, 9, 10, 11] (
       .seq (
        .region [
          ⟨(some 12), .bin .lss (.tmp 11) (.tmp 10), none⟩]
         none)
       (
        .seq (
         .cond (.tmp 12) (
          .skip)
         (
          .exit 0))
        (
         .seq (
          .block 1 (
           .seq (
            .region [
              ⟨(some 13), .indexAddr 1 (.tmp 9) (.tmp 11), none⟩,
              ⟨(some 14), .load none (.tmp 13), none⟩,
              ⟨(some 5), .mov (.tmp 14), none⟩]
             none)
           (
            .seq (
             .region [
               ⟨(some 15), .mov (.tmp 3), none⟩,
               ⟨(some 16), .mov (.tmp 5), none⟩,
               ⟨(some 17), .len .slice (.tmp 16), none⟩,
               ⟨(some 18), .bin .add (.tmp 15) (.tmp 17), none⟩,
               ⟨(some 3), .mov (.tmp 18), none⟩]
              none)
            (
             .seq (
              .region [
                ⟨(some 19), .mov (.tmp 3), none⟩,
                ⟨(some 20), .bin .lss (.tmp 19) (.const (.int .i64 0)), none⟩]
               none)
             (
              .cond (.tmp 20) (
               .region [
                 ⟨(some 21), .mkIface 9 (.const (.string ⟨#[108, 101, 110, 32, 111, 117, 116, 32, 111, 102, 32, 114, 97, 110, 103, 101]⟩)), none⟩,
                 ⟨none, .cap (.const (.bool false)), none⟩]
                none)
              (
               .skip))))))
         (
          .region [
            ⟨(some 22), .bin .add (.tmp 11) (.const (.int .i64 1)), none⟩,
            ⟨(some 11), .mov (.tmp 22), none⟩]
           none)))))))
   (
    .seq (
     .region [
       ⟨(some 23), .mov (.tmp 3), none⟩,
       ⟨(some 24), .call (.func 41) [(.const (.slice none 0 0)), (.tmp 23)], none⟩,
       ⟨(some 6), .mov (.tmp 24), none⟩]
      none)
    (
     .seq (
      .seq (
       .region [
         ⟨(some 25), .mov (.tmp 0), none⟩,
         ⟨(some 26), .len .slice (.tmp 25), none⟩,
         ⟨(some 27), .mov (.const (.int .i64 0)), none⟩]
        none)
      (
       .block 2 (
        .loop [6, 25, 26, 27] (
         .seq (
          .region [
            ⟨(some 28), .bin .lss (.tmp 27) (.tmp 26), none⟩]
           none)
         (
          .seq (
           .cond (.tmp 28) (
            .skip)
           (
            .exit 2))
          (
           .seq (
            .block 3 (
             .seq (
              .region [
                ⟨(some 29), .indexAddr 1 (.tmp 25) (.tmp 27), none⟩,
                ⟨(some 30), .load none (.tmp 29), none⟩,
                ⟨(some 8), .mov (.tmp 30), none⟩]
               none)
             (
              .region [
                ⟨(some 31), .mov (.tmp 6), none⟩,
                ⟨(some 32), .mov (.tmp 8), none⟩,
                ⟨(some 33), .append 5 1 1 (.tmp 31) (.tmp 32), none⟩,
                ⟨(some 6), .mov (.tmp 33), none⟩]
               none)))
           (
            .region [
              ⟨(some 34), .bin .add (.tmp 27) (.const (.int .i64 1)), none⟩,
              ⟨(some 27), .mov (.tmp 34), none⟩]
             none)))))))
     (
      .seq (
       .region [
         ⟨(some 35), .mov (.tmp 6), none⟩,
         ⟨(some 2), .mov (.tmp 35), none⟩]
        none)
      (
       .ret))))))
def fun35 : AFun := ⟨1, code35, [.tmp 2]⟩
theorem comp35 : FunOK Try.prog 35 fun35 :=
  FunOK.of Try.func35 [[0, 3, 9, 10, 11], [6, 25, 26, 27]] [] (by kernel_rfl) (by kernel_rfl) (by decide +kernel) (by kernel_rfl)

/- decorum/frame.number -/
def code36 : ACode :=
 .seq (
  .region [
    ⟨(some 4), .mov (.const (.slice none 0 0)), none⟩]
   none)
 (
  .seq (
   .region [
     ⟨(some 7), .mov (.tmp 1), none⟩,
     ⟨(some 8), .mkSlice 5 1 1 [(.int .u8 0)] (.tmp 7) (.tmp 7), none⟩,
     ⟨(some 5), .mov (.tmp 8), none⟩]
    none)
  (
   .seq (
    .seq (
     .region [
       ⟨(some 9), .mov (.tmp 5), none⟩,
       ⟨(some 10), .len .slice (.tmp 9), none⟩,
       ⟨(some 11), .mov (.const (.int .i64 0)), none⟩]
      none)
    (
     .block 0 (
      .loop [0, 1, 5, 10, 11] (
       .seq (
        .region [
          ⟨(some 12), .bin .lss (.tmp 11) (.tmp 10), none⟩]
         none)
       (
        .seq (
         .cond (.tmp 12) (
          .skip)
         (
          .exit 0))
        (
         .seq (
          .block 1 (
           .seq (
            .region [
              ⟨(some 13), .mov (.tmp 11), none⟩,
              ⟨(some 6), .mov (.tmp 13), none⟩]
             none)
           (
            .region [
              ⟨(some 14), .mov (.tmp 5), none⟩,
              ⟨(some 15), .mov (.tmp 1), none⟩,
              ⟨(some 16), .bin .sub (.tmp 15) (.const (.int .i64 1)), none⟩,
              ⟨(some 17), .mov (.tmp 6), none⟩,
              ⟨(some 18), .bin .sub (.tmp 16) (.tmp 17), none⟩,
              ⟨(some 19), .mov (.tmp 0), none⟩,
              ⟨(some 20), .mov (.tmp 6), none⟩,
              ⟨(some 21), .bin .mul (.const (.int .i64 8)) (.tmp 20), none⟩,
              ⟨(some 22), .bin .shr (.tmp 19) (.tmp 21), none⟩,
              ⟨(some 23), .conv (.int .u8) (.tmp 22), none⟩,
              ⟨(some 24), .indexAddr 1 (.tmp 14) (.tmp 18), none⟩,
              ⟨none, .store 1 (.tmp 24) (.tmp 23), none⟩]
             none)))
         (
          .region [
            ⟨(some 25), .bin .add (.tmp 11) (.const (.int .i64 1)), none⟩,
            ⟨(some 11), .mov (.tmp 25), none⟩]
           none)))))))
   (
    .seq (
     .region [
       ⟨(some 26), .mov (.tmp 5), none⟩,
       ⟨(some 4), .mov (.tmp 26), none⟩]
      none)
    (
     .ret))))
def fun36 : AFun := ⟨2, code36, [.tmp 4]⟩
theorem comp36 : FunOK Try.prog 36 fun36 :=
  FunOK.of Try.func36 [[0, 1, 5, 10, 11]] [] (by kernel_rfl) (by kernel_rfl) (by decide +kernel) (by kernel_rfl)

/- decorum/frame.read -/
def code37 : ACode :=
 .seq (
  .region [
    ⟨(some 2), .mov (.const (.int .u64 0)), none⟩]
   none)
 (
  .seq (
   .region [
     ⟨(some 3), .mov (.const (.int .u64 0)), none⟩]
    none)
  (
   .seq (
    .seq (
     .region [
       ⟨(some 6), .mov (.tmp 0), none⟩,
       ⟨(some 7), .len .slice (.tmp 6), none⟩,
       ⟨(some 8), .mov (.const (.int .i64 0)), none⟩]
      none)
    (
     .block 0 (
      .loop [3, 6, 7, 8] (
       .seq (
        .region [
          ⟨(some 9), .bin .lss (.tmp 8) (.tmp 7), none⟩]
         none)
       (
        .seq (
         .cond (.tmp 9) (
          .skip)
         (
          .exit 0))
        (
         .seq (
          .block 1 (
           .seq (
            .region [
              ⟨(some 10), .indexAddr 1 (.tmp 6) (.tmp 8), none⟩,
              ⟨(some 11), .load none (.tmp 10), none⟩,
              ⟨(some 5), .mov (.tmp 11), none⟩]
             none)
           (
            .region [
              ⟨(some 12), .mov (.tmp 3), none⟩,
              ⟨(some 13), .bin .shl (.tmp 12) (.const (.int .u64 8)), none⟩,
              ⟨(some 14), .mov (.tmp 5), none⟩,
              ⟨(some 15), .conv (.int .u64) (.tmp 14), none⟩,
              ⟨(some 16), .bin .or (.tmp 13) (.tmp 15), none⟩,
              ⟨(some 3), .mov (.tmp 16), none⟩]
             none)))
         (
          .region [
            ⟨(some 17), .bin .add (.tmp 8) (.const (.int .i64 1)), none⟩,
            ⟨(some 8), .mov (.tmp 17), none⟩]
           none)))))))
   (
    .seq (
     .region [
       ⟨(some 18), .mov (.tmp 3), none⟩,
       ⟨(some 2), .mov (.tmp 18), none⟩]
      none)
    (
     .ret))))
def fun37 : AFun := ⟨1, code37, [.tmp 2]⟩
theorem comp37 : FunOK Try.prog 37 fun37 :=
  FunOK.of Try.func37 [[3, 6, 7, 8]] [] (by kernel_rfl) (by kernel_rfl) (by decide +kernel) (by kernel_rfl)

/- decorum/frame.decode -/
def code38 : ACode :=
 .seq (
  .region [
    ⟨(some 2), .alloc 50 [(.int .i64 0), (.int .i64 0), (.string ⟨#[]⟩), (.string ⟨#[]⟩), (.int .i64 0), (.int .i64 0)], none⟩,
    ⟨(some 3), .mov (.const (.bool false)), none⟩]
   none)
 (
  .seq (
   .seq (
    .region [
      ⟨(some 6), .mov (.tmp 0), none⟩,
      ⟨(some 7), .len .slice (.tmp 6), none⟩,
      ⟨(some 8), .bin .lss (.tmp 7) (.const (.int .i64 20)), none⟩]
     none)
   (
    .cond (.tmp 8) (
     .seq (
      .region [
        ⟨(some 9), .build [(.int .i64 0), (.int .i64 0), (.string ⟨#[]⟩), (.string ⟨#[]⟩), (.int .i64 0), (.int .i64 0)] [], none⟩,
        ⟨none, .store 6 (.tmp 2) (.tmp 9), none⟩,
        ⟨(some 3), .mov (.const (.bool false)), none⟩]
       none)
     (
      .ret))
    (
     .skip)))
  (
   .seq (
    .region [
      ⟨(some 10), .mov (.tmp 0), none⟩,
      ⟨(some 11), .slice (.slice 1) (.tmp 10) (some (.const (.int .i64 18))) (some (.const (.int .i64 20))) none, none⟩,
      ⟨(some 12), .call (.func 37) [(.tmp 11)], none⟩,
      ⟨(some 13), .conv (.int .i64) (.tmp 12), none⟩,
      ⟨(some 4), .mov (.tmp 13), none⟩]
     none)
   (
    .seq (
     .seq (
      .region [
        ⟨(some 14), .mov (.tmp 4), none⟩,
        ⟨(some 15), .mov (.tmp 0), none⟩,
        ⟨(some 16), .len .slice (.tmp 15), none⟩,
        ⟨(some 17), .bin .sub (.tmp 16) (.const (.int .i64 20)), none⟩,
        ⟨(some 18), .bin .gtr (.tmp 14) (.tmp 17), none⟩]
       none)
     (
      .cond (.tmp 18) (
       .seq (
        .region [
          ⟨(some 19), .build [(.int .i64 0), (.int .i64 0), (.string ⟨#[]⟩), (.string ⟨#[]⟩), (.int .i64 0), (.int .i64 0)] [], none⟩,
          ⟨none, .store 6 (.tmp 2) (.tmp 19), none⟩,
          ⟨(some 3), .mov (.const (.bool false)), none⟩]
         none)
       (
        .ret))
      (
       .skip)))
    (
     .seq (
      .region [
        ⟨(some 20), .mov (.tmp 0), none⟩,
        ⟨(some 21), .indexAddr 1 (.tmp 20) (.const (.int .i64 0)), none⟩,
        ⟨(some 22), .load none (.tmp 21), none⟩,
        ⟨(some 23), .conv (.int .i64) (.tmp 22), none⟩,
        ⟨(some 24), .mov (.tmp 0), none⟩,
        ⟨(some 25), .slice (.slice 1) (.tmp 24) (some (.const (.int .i64 2))) (some (.const (.int .i64 10))) none, none⟩,
        ⟨(some 26), .call (.func 37) [(.tmp 25)], none⟩,
        ⟨(some 27), .conv (.int .i64) (.tmp 26), none⟩,
        ⟨(some 28), .mov (.tmp 0), none⟩,
        ⟨(some 29), .indexAddr 1 (.tmp 28) (.const (.int .i64 1)), none⟩,
        ⟨(some 30), .load none (.tmp 29), none⟩,
        ⟨(some 31), .conv (.int .i64) (.tmp 30), none⟩,
        ⟨(some 32), .mov (.tmp 0), none⟩,
        ⟨(some 33), .slice (.slice 1) (.tmp 32) (some (.const (.int .i64 10))) (some (.const (.int .i64 18))) none, none⟩,
        ⟨(some 34), .call (.func 37) [(.tmp 33)], none⟩,
        ⟨(some 35), .conv (.int .i64) (.tmp 34), none⟩,
        ⟨(some 36), .mov (.tmp 0), none⟩,
        ⟨(some 37), .mov (.tmp 4), none⟩,
        ⟨(some 38), .bin .add (.const (.int .i64 20)) (.tmp 37), none⟩,
        ⟨(some 39), .slice (.slice 1) (.tmp 36) (some (.const (.int .i64 20))) (some (.tmp 38)) none, none⟩,
        ⟨(some 40), .conv .toString (.tmp 39), none⟩,
        ⟨(some 41), .mov (.tmp 0), none⟩,
        ⟨(some 42), .mov (.tmp 4), none⟩,
        ⟨(some 43), .bin .add (.const (.int .i64 20)) (.tmp 42), none⟩,
        ⟨(some 44), .slice (.slice 1) (.tmp 41) (some (.tmp 43)) none none, none⟩,
        ⟨(some 45), .conv .toString (.tmp 44), none⟩,
        ⟨(some 46), .build [(.int .i64 0), (.string ⟨#[]⟩), (.string ⟨#[]⟩), (.int .i64 0), (.int .i64 0)] [(0, 1, (.tmp 27)), (3, 1, (.tmp 31)), (4, 1, (.tmp 35)), (1, 1, (.tmp 40)), (2, 1, (.tmp 45))], none⟩,
        ⟨(some 47), .build [(.int .i64 0), (.int .i64 0), (.string ⟨#[]⟩), (.string ⟨#[]⟩), (.int .i64 0), (.int .i64 0)] [(0, 1, (.tmp 23)), (1, 5, (.tmp 46))], none⟩,
        ⟨(some 5), .alloc 50 [(.int .i64 0), (.int .i64 0), (.string ⟨#[]⟩), (.string ⟨#[]⟩), (.int .i64 0), (.int .i64 0)], none⟩,
        ⟨none, .store 6 (.tmp 5) (.tmp 47), none⟩]
       (some ⟨[], [6, 14]⟩))
     (
      .seq (
       .region [
         ⟨(some 48), .load (some 6) (.tmp 5), none⟩,
         ⟨(some 49), .load (some 6) (.tmp 5), none⟩,
         ⟨(some 50), .call (.func 33) [(.tmp 49)], none⟩,
         ⟨none, .store 6 (.tmp 2) (.tmp 48), none⟩,
         ⟨(some 3), .mov (.tmp 50), none⟩]
        (some ⟨[], [2]⟩))
      (
       .ret))))))
def fun38 : AFun := ⟨1, code38, [.cell 2 (some 6), .tmp 3]⟩
theorem comp38 : FunOK Try.prog 38 fun38 :=
  FunOK.of Try.func38 [] [⟨[], [6, 14]⟩, ⟨[], [2]⟩] (by kernel_rfl) (by kernel_rfl) (by decide +kernel) (by kernel_rfl)

/- decorum/decorumref13.big -/
def code39 : ACode :=
 .seq (
  .region [
    ⟨(some 4), .mov (.const (.slice none 0 0)), none⟩]
   none)
 (
  .seq (
   .region [
     ⟨(some 7), .buildSlice 5 1 0 [] [], none⟩,
     ⟨(some 5), .mov (.tmp 7), none⟩]
    none)
  (
   .seq (
    .seq (
     .region [
       ⟨(some 8), .mov (.tmp 1), none⟩,
       ⟨(some 9), .bin .sub (.tmp 8) (.const (.int .i64 1)), none⟩,
       ⟨(some 6), .mov (.tmp 9), none⟩]
      none)
    (
     .block 0 (
      .loop [0, 5, 6] (
       .seq (
        .seq (
         .region [
           ⟨(some 10), .mov (.tmp 6), none⟩,
           ⟨(some 11), .bin .geq (.tmp 10) (.const (.int .i64 0)), none⟩]
          none)
        (
         .cond (.tmp 11) (
          .skip)
         (
          .exit 0)))
       (
        .seq (
         .block 1 (
          .region [
            ⟨(some 14), .mov (.tmp 5), none⟩,
            ⟨(some 15), .mov (.tmp 0), none⟩,
            ⟨(some 16), .mov (.tmp 6), none⟩,
            ⟨(some 17), .bin .mul (.const (.int .i64 8)) (.tmp 16), none⟩,
            ⟨(some 18), .conv (.int .u64) (.tmp 17), none⟩,
            ⟨(some 19), .bin .shr (.tmp 15) (.tmp 18), none⟩,
            ⟨(some 20), .conv (.int .u8) (.tmp 19), none⟩,
            ⟨(some 21), .buildSlice 5 1 1 [(.int .u8 0)] [(0, 1, (.tmp 20))], none⟩,
            ⟨(some 22), .append 5 1 1 (.tmp 14) (.tmp 21), none⟩,
            ⟨(some 5), .mov (.tmp 22), none⟩]
           none))
        (
         .region [
           ⟨(some 12), .mov (.tmp 6), none⟩,
           ⟨(some 13), .bin .sub (.tmp 12) (.const (.int .i64 1)), none⟩,
           ⟨(some 6), .mov (.tmp 13), none⟩]
          none))))))
   (
    .seq (
     .region [
       ⟨(some 23), .mov (.tmp 5), none⟩,
       ⟨(some 4), .mov (.tmp 23), none⟩]
      none)
    (
     .ret))))
def fun39 : AFun := ⟨2, code39, [.tmp 4]⟩
theorem comp39 : FunOK Try.prog 39 fun39 :=
  FunOK.of Try.func39 [[0, 5, 6]] [] (by kernel_rfl) (by kernel_rfl) (by decide +kernel) (by kernel_rfl)

/- slices.Grow[[]byte,byte] -/
def code41 : ACode :=
 .seq (
  .region [
    ⟨(some 4), .mov (.const (.slice none 0 0)), none⟩]
   none)
 (
  .seq (
   .seq (
    .region [
      ⟨(some 5), .mov (.tmp 1), none⟩,
      ⟨(some 6), .bin .lss (.tmp 5) (.const (.int .i64 0)), none⟩]
     none)
   (
    .cond (.tmp 6) (
     .region [
       ⟨(some 7), .mkIface 9 (.const (.string ⟨#[99, 97, 110, 110, 111, 116, 32, 98, 101, 32, 110, 101, 103, 97, 116, 105, 118, 101]⟩)), none⟩,
       ⟨none, .cap (.const (.bool false)), none⟩]
      none)
    (
     .skip)))
  (
   .seq (
    .seq (
     .region [
       ⟨(some 8), .mov (.tmp 1), none⟩,
       ⟨(some 9), .mov (.tmp 0), none⟩,
       ⟨(some 10), .cap (.tmp 9), none⟩,
       ⟨(some 11), .mov (.tmp 0), none⟩,
       ⟨(some 12), .len .slice (.tmp 11), none⟩,
       ⟨(some 13), .bin .sub (.tmp 10) (.tmp 12), none⟩,
       ⟨(some 14), .bin .sub (.tmp 8) (.tmp 13), none⟩,
       ⟨(some 1), .mov (.tmp 14), none⟩]
      none)
    (
     .seq (
      .region [
        ⟨(some 15), .mov (.tmp 1), none⟩,
        ⟨(some 16), .bin .gtr (.tmp 15) (.const (.int .i64 0)), none⟩]
       none)
     (
      .cond (.tmp 16) (
       .region [
         ⟨(some 17), .mov (.tmp 0), none⟩,
         ⟨(some 18), .mov (.tmp 0), none⟩,
         ⟨(some 19), .cap (.tmp 18), none⟩,
         ⟨(some 20), .slice (.slice 1) (.tmp 17) none (some (.tmp 19)) none, none⟩,
         ⟨(some 21), .mov (.tmp 1), none⟩,
         ⟨(some 22), .appendMake 5 1 1 [(.int .u8 0)] (.tmp 20) (.tmp 21), none⟩,
         ⟨(some 23), .mov (.tmp 0), none⟩,
         ⟨(some 24), .len .slice (.tmp 23), none⟩,
         ⟨(some 25), .slice (.slice 1) (.tmp 22) none (some (.tmp 24)) none, none⟩,
         ⟨(some 0), .mov (.tmp 25), none⟩]
        none)
      (
       .skip))))
   (
    .seq (
     .region [
       ⟨(some 26), .mov (.tmp 0), none⟩,
       ⟨(some 4), .mov (.tmp 26), none⟩]
      none)
    (
     .ret))))
def fun41 : AFun := ⟨2, code41, [.tmp 4]⟩
theorem comp41 : FunOK Try.prog 41 fun41 :=
  FunOK.of Try.func41 [] [] (by kernel_rfl) (by kernel_rfl) (by decide +kernel) (by kernel_rfl)

end Go.Proofs.Ytaigiehdnhehnaa
