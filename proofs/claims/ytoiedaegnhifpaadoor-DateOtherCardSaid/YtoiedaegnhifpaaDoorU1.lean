/-
  The functions as abstract code: printed by a program of mine.
-/
import Derived.Test.YtoiedaegnhifpaaDoorProg
import Derived.Test.YtoiedaegnhifpaaDoorA53
import Derived.WalkKit
set_option maxRecDepth 100000
namespace Go.Proofs.YtoiedaegnhifpaaDoor
open Go Go.Abs Go.Abs.K

/- decorum/decorumlaw03.DateForms -/
/- decorum/decorumlaw03.DateWrites -/
/- decorum/decorumlaw03.DateOther -/
def code5 : ACode :=
 .seq (R [o 12 (.mov ff)])
 (.seq (R [o 21 (.mov (v 0)), o 22 (.mov (v 1)), o 23 (.mov (v 2)), o 24 (.mov (v 3)), o 25 (.call (.func 11) [(v 21), (v 22), (v 23), (v 24)]), o 20 (.mov (v 25)), o 26 (.extract (v 20) 0), o 27 (.extract (v 20) 1), o 28 (.extract (v 20) 2), o 13 (.alloc 24 [(.int .i64 0), (.int .i64 0), (.int .i64 0), (.int .i64 0), (.int .i64 0), (.int .i64 0)]), on (.store 6 (v 13) (v 26)), o 14 (.mov (v 27)), o 15 (.mov (v 28))])
 (.seq (.seq (R [o 29 (.mov (v 15)), o 30 (.un .not (v 29))])
  (.cond (v 30) (.seq (R [o 31 (.call (.func 12) []), o 12 (.mov (v 31))])
   (.ret))
  (.skip)))
 (.seq (R [o 32 (.load (some 6) (v 13)), o 33 (.call (.func 14) [(v 32)]), o 34 (.conv (.toBytes 5) (v 33)), o 16 (.mov (v 34))])
 (.seq (R [o 35 (.mov (v 4)), o 36 (.conv (.int .i64) (v 35)), o 37 (.mov (v 16)), o 38 (.len .slice (v 37)), o 39 (.bin .rem (v 36) (v 38)), o 17 (.mov (v 39))])
 (.seq (.seq (R [o 40 (.mov (v 16)), o 41 (.mov (v 17)), o 42 (.indexAddr 1 (v 40) (v 41)), o 43 (.load none (v 42)), o 44 (.mov (v 5)), o 45 (.bin .eql (v 43) (v 44))])
  (.cond (v 45) (.seq (R [o 46 (.call (.func 12) []), o 12 (.mov (v 46))])
   (.ret))
  (.skip)))
 (.seq (R [o 47 (.mov (v 16)), o 48 (.mov (v 17)), o 49 (.mov (v 5)), o 50 (.indexAddr 1 (v 47) (v 48)), on (.store 1 (v 50) (v 49))])
 (.seq (R [o 52 (.mov (v 16)), o 53 (.conv .toString (v 52)), o 54 (.call (.func 13) [(v 53), (i 0)]), o 51 (.mov (v 54)), o 55 (.extract (v 51) 0), o 56 (.extract (v 51) 1), o 18 (.mov (v 55)), o 19 (.mov (v 56))])
 (.seq (R [o 57 (.call (.func 12) []), o 58 (.mov (v 57)), ot 58 59 (.mov (v 19)), ot 58 60 (.un .not (v 59)), ot 58 61 (.mov (v 60)), of 61 62 (.mov (v 18)), of 61 63 (.mov (v 14)), of 61 64 (.bin .neq (v 62) (v 63)), of 61 65 (.mov (v 64)), ot 65 66 (.mov (v 17)), ot 65 67 (.bin .gtr (v 66) (i 4)), of 61 68 (.pick (v 65) (v 67) ff), ot 58 69 (.pick (v 61) tt (v 68)), o 70 (.pick (v 58) (v 69) ff), o 12 (.mov (v 70))])
 (.ret)))))))))
def fun5 : AFun := ⟨6, code5, [.tmp 12], 0⟩
theorem comp5 : FunOK Tryd.prog 5 fun5 :=
  FunOK.of Tryd.func5 [] [] (by kernel_rfl) (by kernel_rfl) (by decide +kernel) (by kernel_rfl)

/- decorum/decorumlaw03.DateThree -/
/- decorum/decorumlaw03.moment -/
def code11 : ACode :=
 .seq (R [o 8 (.alloc 24 [(.int .i64 0), (.int .i64 0), (.int .i64 0), (.int .i64 0), (.int .i64 0), (.int .i64 0)]), o 9 (.mov (i 0)), o 10 (.mov ff)])
 (.seq (R [o 14 (.mov (v 0)), o 15 (.mov (v 1)), o 16 (.mov (v 2)), o 17 (.mov (v 3)), o 18 (.bin .quo (v 17) (i 3600)), o 19 (.mov (v 3)), o 20 (.bin .quo (v 19) (i 60)), o 21 (.bin .rem (v 20) (i 60)), o 22 (.mov (v 3)), o 23 (.bin .rem (v 22) (i 60)), o 24 (.build [(.int .i64 0), (.int .i64 0), (.int .i64 0), (.int .i64 0), (.int .i64 0), (.int .i64 0)] [(0, 1, (v 14)), (1, 1, (v 15)), (2, 1, (v 16)), (3, 1, (v 18)), (4, 1, (v 21)), (5, 1, (v 23))]), o 11 (.alloc 24 [(.int .i64 0), (.int .i64 0), (.int .i64 0), (.int .i64 0), (.int .i64 0), (.int .i64 0)]), on (.store 6 (v 11) (v 24))])
 (.seq (.seq (R [o 25 (.mov (v 3)), o 26 (.bin .lss (v 25) (i 0))])
  (.cond (v 26) (.seq (R [o 27 (.load (some 6) (v 11)), on (.store 6 (v 8) (v 27)), o 9 (.mov (i 0)), o 10 (.mov ff)])
   (.ret))
  (.skip)))
 (.seq (R [o 29 (.load (some 6) (v 11)), o 30 (.call (.func 30) [(v 29)]), o 28 (.mov (v 30)), o 31 (.extract (v 28) 0), o 32 (.extract (v 28) 1), o 12 (.mov (v 31)), o 13 (.mov (v 32))])
 (.seq (R [o 33 (.load (some 6) (v 11)), o 34 (.mov (v 12)), o 35 (.mov (v 13)), on (.store 6 (v 8) (v 33)), o 9 (.mov (v 34)), o 10 (.mov (v 35))])
 (.ret)))))
def fun11 : AFun := ⟨4, code11, [.cell 8 (some 6), .tmp 9, .tmp 10], 0⟩
theorem comp11 : FunOK Tryd.prog 11 fun11 :=
  FunOK.of Tryd.func11 [] [] (by kernel_rfl) (by kernel_rfl) (by decide +kernel) (by kernel_rfl)

/- decorum/decorumlaw03.awake -/
def code12 : ACode :=
 .seq (R [o 0 (.mov ff)])
 (.seq (R [o 10 (.call (.func 13) [(.const (.string ⟨#[83, 117, 110, 44, 32, 48, 54, 32, 78, 111, 118, 32, 49, 57, 57, 52, 32, 48, 56, 58, 52, 57, 58, 51, 55, 32, 71, 77, 84]⟩)), (i 0)]), o 9 (.mov (v 10)), o 11 (.extract (v 9) 0), o 12 (.extract (v 9) 1), o 1 (.mov (v 11)), o 2 (.mov (v 12))])
 (.seq (R [o 14 (.call (.func 13) [(.const (.string ⟨#[83, 117, 110, 100, 97, 121, 44, 32, 48, 54, 45, 78, 111, 118, 45, 57, 52, 32, 48, 56, 58, 52, 57, 58, 51, 55, 32, 71, 77, 84]⟩)), (i 800000000)]), o 13 (.mov (v 14)), o 15 (.extract (v 13) 0), o 16 (.extract (v 13) 1), o 3 (.mov (v 15)), o 4 (.mov (v 16))])
 (.seq (R [o 18 (.call (.func 13) [(.const (.string ⟨#[83, 117, 110, 32, 78, 111, 118, 32, 32, 54, 32, 48, 56, 58, 52, 57, 58, 51, 55, 32, 49, 57, 57, 52]⟩)), (i 0)]), o 17 (.mov (v 18)), o 19 (.extract (v 17) 0), o 20 (.extract (v 17) 1), o 5 (.mov (v 19)), o 6 (.mov (v 20))])
 (.seq (R [o 22 (.call (.func 16) [(i 784111777)]), o 21 (.mov (v 22)), o 23 (.extract (v 21) 0), o 24 (.extract (v 21) 1), o 7 (.mov (v 23)), o 8 (.mov (v 24))])
 (.seq (R [o 25 (.mov (v 2)), o 26 (.mov (v 25)), ot 26 27 (.mov (v 4)), o 28 (.pick (v 26) (v 27) ff), o 29 (.mov (v 28)), ot 29 30 (.mov (v 6)), o 31 (.pick (v 29) (v 30) ff), o 32 (.mov (v 31)), ot 32 33 (.mov (v 8)), o 34 (.pick (v 32) (v 33) ff), o 35 (.mov (v 34)), ot 35 36 (.mov (v 1)), ot 35 37 (.bin .eql (v 36) (i 784111777)), o 38 (.pick (v 35) (v 37) ff), o 39 (.mov (v 38)), ot 39 40 (.mov (v 3)), ot 39 41 (.mov (v 1)), ot 39 42 (.bin .eql (v 40) (v 41)), o 43 (.pick (v 39) (v 42) ff), o 44 (.mov (v 43)), ot 44 45 (.mov (v 5)), ot 44 46 (.mov (v 1)), ot 44 47 (.bin .eql (v 45) (v 46)), o 48 (.pick (v 44) (v 47) ff), o 49 (.mov (v 48)), ot 49 50 (.mov (v 7)), ot 49 51 (.bin .eql (v 50) (.const (.string ⟨#[83, 117, 110, 44, 32, 48, 54, 32, 78, 111, 118, 32, 49, 57, 57, 52, 32, 48, 56, 58, 52, 57, 58, 51, 55, 32, 71, 77, 84]⟩))), o 52 (.pick (v 49) (v 51) ff), o 53 (.mov (v 52)), ot 53 54 (.call (.func 31) [(i 4)]), o 55 (.pick (v 53) (v 54) ff), o 0 (.mov (v 55))])
 (.ret))))))
def fun12 : AFun := ⟨0, code12, [.tmp 0], 0⟩
theorem comp12 : FunOK Tryd.prog 12 fun12 :=
  FunOK.of Tryd.func12 [] [] (by kernel_rfl) (by kernel_rfl) (by decide +kernel) (by kernel_rfl)

/- decorum/date.Parse -/
def code13 : ACode :=
 .seq (R [o 4 (.mov (i 0)), o 5 (.mov ff)])
 (.seq (R [o 12 (.mov (v 1)), o 13 (.minmax false [(v 12), (i 220752000000)]), o 14 (.minmax true [(i 0), (v 13)]), o 1 (.mov (v 14))])
 (.seq (.seq (R [o 16 (.mov (v 0)), o 17 (.call (.func 32) [(v 16)]), o 15 (.mov (v 17)), o 18 (.extract (v 15) 0), o 19 (.extract (v 15) 1), o 6 (.alloc 54 [(.int .i64 0), (.int .i64 0), (.int .i64 0), (.int .i64 0), (.int .i64 0)]), on (.store 5 (v 6) (v 18)), o 7 (.mov (v 19))])
  (.seq (R [o 20 (.mov (v 7))])
  (.cond (v 20) (.seq (R [o 21 (.load (some 5) (v 6)), o 22 (.call (.func 33) [(v 21)]), o 23 (.extract (v 22) 0), o 24 (.extract (v 22) 1), o 4 (.mov (v 23)), o 5 (.mov (v 24))])
   (.ret))
  (.skip))))
 (.seq (.seq (R [o 26 (.mov (v 0)), o 27 (.mov (v 1)), o 28 (.call (.func 34) [(v 26), (v 27)]), o 25 (.mov (v 28)), o 29 (.extract (v 25) 0), o 30 (.extract (v 25) 1), o 8 (.alloc 54 [(.int .i64 0), (.int .i64 0), (.int .i64 0), (.int .i64 0), (.int .i64 0)]), on (.store 5 (v 8) (v 29)), o 9 (.mov (v 30))])
  (.seq (R [o 31 (.mov (v 9))])
  (.cond (v 31) (.seq (R [o 32 (.load (some 5) (v 8)), o 33 (.call (.func 33) [(v 32)]), o 34 (.extract (v 33) 0), o 35 (.extract (v 33) 1), o 4 (.mov (v 34)), o 5 (.mov (v 35))])
   (.ret))
  (.skip))))
 (.seq (.seq (R [o 37 (.mov (v 0)), o 38 (.call (.func 35) [(v 37)]), o 36 (.mov (v 38)), o 39 (.extract (v 36) 0), o 40 (.extract (v 36) 1), o 10 (.alloc 54 [(.int .i64 0), (.int .i64 0), (.int .i64 0), (.int .i64 0), (.int .i64 0)]), on (.store 5 (v 10) (v 39)), o 11 (.mov (v 40))])
  (.seq (R [o 41 (.mov (v 11))])
  (.cond (v 41) (.seq (R [o 42 (.load (some 5) (v 10)), o 43 (.call (.func 33) [(v 42)]), o 44 (.extract (v 43) 0), o 45 (.extract (v 43) 1), o 4 (.mov (v 44)), o 5 (.mov (v 45))])
   (.ret))
  (.skip))))
 (.seq (R [o 4 (.mov (i 0)), o 5 (.mov ff)])
 (.ret))))))
def fun13 : AFun := ⟨2, code13, [.tmp 4, .tmp 5], 0⟩
theorem comp13 : FunOK Tryd.prog 13 fun13 :=
  FunOK.of Tryd.func13 [] [] (by kernel_rfl) (by kernel_rfl) (by decide +kernel) (by kernel_rfl)

/- (decorum/decorumref03.Moment).First -/
def code14 : ACode :=
 .seq (R [o 1 (.box 24 (v 0)), o 2 (.mov (.const (.string ⟨#[]⟩)))])
 (.seq (D [o 3 (.load (some 6) (v 1)), o 4 (.call (.func 36) [(v 3)]), o 5 (.slice .string (v 4) none (some (i 3)) none), o 6 (.bin .add (v 5) (.const (.string ⟨#[44, 32]⟩))), o 7 (.fieldAddr 2 (v 1)), o 8 (.load none (v 7)), o 9 (.call (.func 37) [(v 8), (i 2)]), o 10 (.bin .add (v 6) (v 9)), o 11 (.bin .add (v 10) (.const (.string ⟨#[32]⟩))), o 12 (.call (.func 38) []), o 13 (.fieldAddr 1 (v 1)), o 14 (.load none (v 13)), o 15 (.indexAddr 1 (v 12) (v 14)), o 16 (.load none (v 15)), o 17 (.bin .add (v 11) (v 16)), o 18 (.bin .add (v 17) (.const (.string ⟨#[32]⟩))), o 19 (.fieldAddr 0 (v 1)), o 20 (.load none (v 19)), o 21 (.call (.func 37) [(v 20), (i 4)]), o 22 (.bin .add (v 18) (v 21)), o 23 (.bin .add (v 22) (.const (.string ⟨#[32]⟩))), o 24 (.load (some 6) (v 1)), o 25 (.call (.func 39) [(v 24)]), o 26 (.bin .add (v 23) (v 25)), o 27 (.bin .add (v 26) (.const (.string ⟨#[32, 71, 77, 84]⟩))), o 2 (.mov (v 27))] ⟨[], [1, 6, 9, 18, 22], []⟩)
 (.ret))
def fun14 : AFun := ⟨1, code14, [.tmp 2], 0⟩
theorem comp14 : FunOK Tryd.prog 14 fun14 :=
  FunOK.of Tryd.func14 [] [⟨[], [1, 6, 9, 18, 22], []⟩] (by kernel_rfl) (by kernel_rfl) (by decide +kernel) (by kernel_rfl)

/- (decorum/decorumref03.Moment).Third -/
/- decorum/date.Format -/
def code16 : ACode :=
 .seq (R [o 2 (.mov (.const (.string ⟨#[]⟩))), o 3 (.mov ff)])
 (.seq (R [o 11 (.mov (v 0)), o 12 (.bin .quo (v 11) (i 86400)), o 4 (.mov (v 12))])
 (.seq (R [o 13 (.mov (v 0)), o 14 (.bin .rem (v 13) (i 86400)), o 5 (.mov (v 14))])
 (.seq (.seq (R [o 15 (.mov (v 5)), o 16 (.bin .lss (v 15) (i 0))])
  (.cond (v 16) (R [o 17 (.mov (v 4)), o 18 (.bin .sub (v 17) (i 1)), o 19 (.mov (v 5)), o 20 (.bin .add (v 19) (i 86400)), o 4 (.mov (v 18)), o 5 (.mov (v 20))])
  (.skip)))
 (.seq (R [o 22 (.mov (v 4)), o 23 (.call (.func 40) [(v 22)]), o 21 (.mov (v 23)), o 24 (.extract (v 21) 0), o 25 (.extract (v 21) 1), o 26 (.extract (v 21) 2), o 27 (.extract (v 21) 3), o 6 (.mov (v 24)), o 7 (.mov (v 25)), o 8 (.mov (v 26)), o 9 (.mov (v 27))])
 (.seq (.seq (R [o 28 (.mov (v 9)), o 29 (.un .not (v 28))])
  (.cond (v 29) (.seq (R [o 2 (.mov (.const (.string ⟨#[]⟩))), o 3 (.mov ff)])
   (.ret))
  (.skip)))
 (.seq (R [o 30 (.mov (v 5)), o 31 (.bin .quo (v 30) (i 3600)), o 32 (.call (.func 41) [(v 31), (i 2)]), o 33 (.bin .add (v 32) (.const (.string ⟨#[58]⟩))), o 34 (.mov (v 5)), o 35 (.bin .quo (v 34) (i 60)), o 36 (.bin .rem (v 35) (i 60)), o 37 (.call (.func 41) [(v 36), (i 2)]), o 38 (.bin .add (v 33) (v 37)), o 39 (.bin .add (v 38) (.const (.string ⟨#[58]⟩))), o 40 (.mov (v 5)), o 41 (.bin .rem (v 40) (i 60)), o 42 (.call (.func 41) [(v 41), (i 2)]), o 43 (.bin .add (v 39) (v 42)), o 10 (.mov (v 43))])
 (.seq (D [o 44 (.call (.func 42) [(.const (.string ⟨#[77, 111, 110, 32, 84, 117, 101, 32, 87, 101, 100, 32, 84, 104, 117, 32, 70, 114, 105, 32, 83, 97, 116, 32, 83, 117, 110]⟩))]), o 45 (.mov (v 4)), o 46 (.call (.func 43) [(v 45)]), o 47 (.indexAddr 1 (v 44) (v 46)), o 48 (.load none (v 47)), o 49 (.bin .add (v 48) (.const (.string ⟨#[44, 32]⟩))), o 50 (.mov (v 8)), o 51 (.call (.func 41) [(v 50), (i 2)]), o 52 (.bin .add (v 49) (v 51)), o 53 (.bin .add (v 52) (.const (.string ⟨#[32]⟩))), o 54 (.call (.func 42) [(.const (.string ⟨#[74, 97, 110, 32, 70, 101, 98, 32, 77, 97, 114, 32, 65, 112, 114, 32, 77, 97, 121, 32, 74, 117, 110, 32, 74, 117, 108, 32, 65, 117, 103, 32, 83, 101, 112, 32, 79, 99, 116, 32, 78, 111, 118, 32, 68, 101, 99]⟩))]), o 55 (.mov (v 7)), o 56 (.bin .sub (v 55) (i 1)), o 57 (.indexAddr 1 (v 54) (v 56)), o 58 (.load none (v 57)), o 59 (.bin .add (v 53) (v 58)), o 60 (.bin .add (v 59) (.const (.string ⟨#[32]⟩))), o 61 (.mov (v 6)), o 62 (.call (.func 41) [(v 61), (i 4)]), o 63 (.bin .add (v 60) (v 62)), o 64 (.bin .add (v 63) (.const (.string ⟨#[32]⟩))), o 65 (.mov (v 10)), o 66 (.bin .add (v 64) (v 65)), o 67 (.bin .add (v 66) (.const (.string ⟨#[32, 71, 77, 84]⟩))), o 2 (.mov (v 67)), o 3 (.mov tt)] ⟨[], [7, 10, 18], []⟩)
 (.ret))))))))
def fun16 : AFun := ⟨1, code16, [.tmp 2, .tmp 3], 0⟩
theorem comp16 : FunOK Tryd.prog 16 fun16 :=
  FunOK.of Tryd.func16 [] [⟨[], [7, 10, 18], []⟩] (by kernel_rfl) (by kernel_rfl) (by decide +kernel) (by kernel_rfl)

/- (decorum/decorumref03.Moment).Second -/
/- decorum/decorumref03.Parse -/
/- decorum/decorumref03.Year -/
/- decorum/decorumref03.At -/
/- (decorum/decorumref03.Moment).Sec -/
def code30 : ACode :=
 .seq (R [o 1 (.box 24 (v 0)), o 2 (.mov (i 0)), o 3 (.mov ff)])
 (.seq (R [o 7 (.fieldAddr 0 (v 1)), o 8 (.load none (v 7)), o 9 (.fieldAddr 1 (v 1)), o 10 (.load none (v 9)), o 11 (.fieldAddr 2 (v 1)), o 12 (.load none (v 11)), o 13 (.call (.func 60) [(v 8), (v 10), (v 12)]), o 6 (.mov (v 13)), o 14 (.extract (v 6) 0), o 15 (.extract (v 6) 1), o 4 (.mov (v 14)), o 5 (.mov (v 15))])
 (.seq (.seq (R [o 16 (.mov (v 5)), o 17 (.un .not (v 16)), o 18 (.mov (v 17)), of 18 19 (.fieldAddr 3 (v 1)), of 18 20 (.load none (v 19)), of 18 21 (.bin .lss (v 20) (i 0)), o 22 (.pick (v 18) tt (v 21)), o 23 (.mov (v 22)), of 23 24 (.fieldAddr 3 (v 1)), of 23 25 (.load none (v 24)), of 23 26 (.bin .gtr (v 25) (i 23)), o 27 (.pick (v 23) tt (v 26)), o 28 (.mov (v 27)), of 28 29 (.fieldAddr 4 (v 1)), of 28 30 (.load none (v 29)), of 28 31 (.bin .lss (v 30) (i 0)), o 32 (.pick (v 28) tt (v 31)), o 33 (.mov (v 32)), of 33 34 (.fieldAddr 4 (v 1)), of 33 35 (.load none (v 34)), of 33 36 (.bin .gtr (v 35) (i 59)), o 37 (.pick (v 33) tt (v 36)), o 38 (.mov (v 37)), of 38 39 (.fieldAddr 5 (v 1)), of 38 40 (.load none (v 39)), of 38 41 (.bin .lss (v 40) (i 0)), o 42 (.pick (v 38) tt (v 41)), o 43 (.mov (v 42)), of 43 44 (.fieldAddr 5 (v 1)), of 43 45 (.load none (v 44)), of 43 46 (.bin .gtr (v 45) (i 59)), o 47 (.pick (v 43) tt (v 46))])
  (.cond (v 47) (.seq (R [o 2 (.mov (i 0)), o 3 (.mov ff)])
   (.ret))
  (.skip)))
 (.seq (R [o 48 (.mov (v 4)), o 49 (.bin .mul (v 48) (i 86400)), o 50 (.fieldAddr 3 (v 1)), o 51 (.load none (v 50)), o 52 (.bin .mul (v 51) (i 3600)), o 53 (.bin .add (v 49) (v 52)), o 54 (.fieldAddr 4 (v 1)), o 55 (.load none (v 54)), o 56 (.bin .mul (v 55) (i 60)), o 57 (.bin .add (v 53) (v 56)), o 58 (.fieldAddr 5 (v 1)), o 59 (.load none (v 58)), o 60 (.bin .add (v 57) (v 59)), o 2 (.mov (v 60)), o 3 (.mov tt)])
 (.ret))))
def fun30 : AFun := ⟨1, code30, [.tmp 2, .tmp 3], 0⟩
theorem comp30 : FunOK Tryd.prog 30 fun30 :=
  FunOK.of Tryd.func30 [] [] (by kernel_rfl) (by kernel_rfl) (by decide +kernel) (by kernel_rfl)

/- decorum/decorumref01.Leap -/
def code31 : ACode :=
 .seq (R [o 2 (.mov ff)])
 (.seq (.seq (R [o 3 (.mov (v 0)), o 4 (.bin .rem (v 3) (i 400)), o 5 (.bin .eql (v 4) (i 0))])
  (.cond (v 5) (.seq (R [o 2 (.mov tt)])
   (.ret))
  (.skip)))
 (.seq (R [o 6 (.mov (v 0)), o 7 (.bin .rem (v 6) (i 4)), o 8 (.bin .eql (v 7) (i 0)), o 9 (.mov (v 8)), ot 9 10 (.mov (v 0)), ot 9 11 (.bin .rem (v 10) (i 100)), ot 9 12 (.bin .neq (v 11) (i 0)), o 13 (.pick (v 9) (v 12) ff), o 2 (.mov (v 13))])
 (.ret)))
def fun31 : AFun := ⟨1, code31, [.tmp 2], 0⟩
theorem comp31 : FunOK Tryd.prog 31 fun31 :=
  FunOK.of Tryd.func31 [] [] (by kernel_rfl) (by kernel_rfl) (by decide +kernel) (by kernel_rfl)

/- decorum/date.first -/
def code32 : ACode :=
 .seq (R [o 2 (.alloc 54 [(.int .i64 0), (.int .i64 0), (.int .i64 0), (.int .i64 0), (.int .i64 0)]), o 3 (.mov ff)])
 (.seq (R [o 5 (.mov (v 0)), o 6 (.call (.func 51) [(v 5), (.const (.string ⟨#[32]⟩))]), o 4 (.mov (v 6))])
 (.seq (.seq (R [o 7 (.mov (v 4)), o 8 (.len .slice (v 7)), o 9 (.bin .neq (v 8) (i 6)), o 10 (.mov (v 9)), of 10 11 (.mov (v 4)), of 10 12 (.indexAddr 1 (v 11) (i 5)), of 10 13 (.load none (v 12)), of 10 14 (.bin .neq (v 13) (.const (.string ⟨#[71, 77, 84]⟩))), o 15 (.pick (v 10) tt (v 14)), o 16 (.mov (v 15)), of 16 17 (.mov (v 4)), of 16 18 (.indexAddr 1 (v 17) (i 0)), of 16 19 (.load none (v 18)), of 16 20 (.call (.func 61) [(v 19), (.const (.string ⟨#[44]⟩))]), of 16 21 (.un .not (v 20)), o 22 (.pick (v 16) tt (v 21))])
  (.cond (v 22) (.seq (R [o 23 (.build [(.int .i64 0), (.int .i64 0), (.int .i64 0), (.int .i64 0), (.int .i64 0)] []), on (.store 5 (v 2) (v 23)), o 3 (.mov ff)])
   (.ret))
  (.skip)))
 (.seq (D [o 24 (.mov (v 4)), o 25 (.indexAddr 1 (v 24) (i 0)), o 26 (.load none (v 25)), o 27 (.call (.func 63) [(v 26), (.const (.string ⟨#[44]⟩))]), o 28 (.call (.func 62) [(.const (.string ⟨#[77, 111, 110, 32, 84, 117, 101, 32, 87, 101, 100, 32, 84, 104, 117, 32, 70, 114, 105, 32, 83, 97, 116, 32, 83, 117, 110]⟩)), (v 27)]), o 29 (.mov (v 4)), o 30 (.indexAddr 1 (v 29) (i 3)), o 31 (.load none (v 30)), o 32 (.call (.func 64) [(v 31), (i 4)]), o 33 (.mov (v 4)), o 34 (.indexAddr 1 (v 33) (i 2)), o 35 (.load none (v 34)), o 36 (.call (.func 62) [(.const (.string ⟨#[74, 97, 110, 32, 70, 101, 98, 32, 77, 97, 114, 32, 65, 112, 114, 32, 77, 97, 121, 32, 74, 117, 110, 32, 74, 117, 108, 32, 65, 117, 103, 32, 83, 101, 112, 32, 79, 99, 116, 32, 78, 111, 118, 32, 68, 101, 99]⟩)), (v 35)]), o 37 (.bin .add (i 1) (v 36)), o 38 (.mov (v 4)), o 39 (.indexAddr 1 (v 38) (i 1)), o 40 (.load none (v 39)), o 41 (.call (.func 64) [(v 40), (i 2)]), o 42 (.mov (v 4)), o 43 (.indexAddr 1 (v 42) (i 4)), o 44 (.load none (v 43)), o 45 (.call (.func 65) [(v 44)]), o 46 (.build [(.int .i64 0), (.int .i64 0), (.int .i64 0), (.int .i64 0), (.int .i64 0)] [(0, 1, (v 28)), (1, 1, (v 32)), (2, 1, (v 37)), (3, 1, (v 41)), (4, 1, (v 45))]), on (.store 5 (v 2) (v 46)), o 3 (.mov tt)] ⟨[], [3, 4, 8, 12, 17], []⟩)
 (.ret))))
def fun32 : AFun := ⟨1, code32, [.cell 2 (some 5), .tmp 3], 0⟩
theorem comp32 : FunOK Tryd.prog 32 fun32 :=
  FunOK.of Tryd.func32 [] [⟨[], [3, 4, 8, 12, 17], []⟩] (by kernel_rfl) (by kernel_rfl) (by decide +kernel) (by kernel_rfl)

/- (decorum/date.parts).seconds -/
def code33 : ACode :=
 .seq (R [o 1 (.box 54 (v 0)), o 2 (.mov (i 0)), o 3 (.mov ff)])
 (.seq (R [o 7 (.fieldAddr 1 (v 1)), o 8 (.load none (v 7)), o 9 (.fieldAddr 2 (v 1)), o 10 (.load none (v 9)), o 11 (.fieldAddr 3 (v 1)), o 12 (.load none (v 11)), o 13 (.call (.func 66) [(v 8), (v 10), (v 12)]), o 6 (.mov (v 13)), o 14 (.extract (v 6) 0), o 15 (.extract (v 6) 1), o 4 (.mov (v 14)), o 5 (.mov (v 15))])
 (.seq (.seq (D [o 16 (.mov (v 5)), o 17 (.un .not (v 16)), o 18 (.mov (v 17)), of 18 19 (.fieldAddr 4 (v 1)), of 18 20 (.load none (v 19)), of 18 21 (.bin .lss (v 20) (i 0)), o 22 (.pick (v 18) tt (v 21)), o 23 (.mov (v 22)), of 23 24 (.mov (v 4)), of 23 25 (.call (.func 43) [(v 24)]), of 23 26 (.fieldAddr 0 (v 1)), of 23 27 (.load none (v 26)), of 23 28 (.bin .neq (v 25) (v 27)), o 29 (.pick (v 23) tt (v 28))] ⟨[], [9], []⟩)
  (.cond (v 29) (.seq (R [o 2 (.mov (i 0)), o 3 (.mov ff)])
   (.ret))
  (.skip)))
 (.seq (R [o 30 (.mov (v 4)), o 31 (.bin .mul (v 30) (i 86400)), o 32 (.fieldAddr 4 (v 1)), o 33 (.load none (v 32)), o 34 (.bin .add (v 31) (v 33)), o 2 (.mov (v 34)), o 3 (.mov tt)])
 (.ret))))
def fun33 : AFun := ⟨1, code33, [.tmp 2, .tmp 3], 0⟩
theorem comp33 : FunOK Tryd.prog 33 fun33 :=
  FunOK.of Tryd.func33 [] [⟨[], [9], []⟩] (by kernel_rfl) (by kernel_rfl) (by decide +kernel) (by kernel_rfl)

/- decorum/date.second -/
def code34 : ACode :=
 .seq (R [o 4 (.alloc 54 [(.int .i64 0), (.int .i64 0), (.int .i64 0), (.int .i64 0), (.int .i64 0)]), o 5 (.mov ff)])
 (.seq (R [o 8 (.mov (v 0)), o 9 (.call (.func 51) [(v 8), (.const (.string ⟨#[32]⟩))]), o 6 (.mov (v 9))])
 (.seq (.seq (R [o 10 (.mov (v 6)), o 11 (.len .slice (v 10)), o 12 (.bin .neq (v 11) (i 4)), o 13 (.mov (v 12)), of 13 14 (.mov (v 6)), of 13 15 (.indexAddr 1 (v 14) (i 3)), of 13 16 (.load none (v 15)), of 13 17 (.bin .neq (v 16) (.const (.string ⟨#[71, 77, 84]⟩))), o 18 (.pick (v 13) tt (v 17)), o 19 (.mov (v 18)), of 19 20 (.mov (v 6)), of 19 21 (.indexAddr 1 (v 20) (i 0)), of 19 22 (.load none (v 21)), of 19 23 (.call (.func 61) [(v 22), (.const (.string ⟨#[44]⟩))]), of 19 24 (.un .not (v 23)), o 25 (.pick (v 19) tt (v 24))])
  (.cond (v 25) (.seq (R [o 26 (.build [(.int .i64 0), (.int .i64 0), (.int .i64 0), (.int .i64 0), (.int .i64 0)] []), on (.store 5 (v 4) (v 26)), o 5 (.mov ff)])
   (.ret))
  (.skip)))
 (.seq (R [o 27 (.mov (v 6)), o 28 (.indexAddr 1 (v 27) (i 1)), o 29 (.load none (v 28)), o 30 (.call (.func 51) [(v 29), (.const (.string ⟨#[45]⟩))]), o 7 (.mov (v 30))])
 (.seq (.seq (R [o 31 (.mov (v 7)), o 32 (.len .slice (v 31)), o 33 (.bin .neq (v 32) (i 3))])
  (.cond (v 33) (.seq (R [o 34 (.build [(.int .i64 0), (.int .i64 0), (.int .i64 0), (.int .i64 0), (.int .i64 0)] []), on (.store 5 (v 4) (v 34)), o 5 (.mov ff)])
   (.ret))
  (.skip)))
 (.seq (D [o 35 (.mov (v 6)), o 36 (.indexAddr 1 (v 35) (i 0)), o 37 (.load none (v 36)), o 38 (.call (.func 63) [(v 37), (.const (.string ⟨#[44]⟩))]), o 39 (.call (.func 62) [(.const (.string ⟨#[77, 111, 110, 100, 97, 121, 32, 84, 117, 101, 115, 100, 97, 121, 32, 87, 101, 100, 110, 101, 115, 100, 97, 121, 32, 84, 104, 117, 114, 115, 100, 97, 121, 32, 70, 114, 105, 100, 97, 121, 32, 83, 97, 116, 117, 114, 100, 97, 121, 32, 83, 117, 110, 100, 97, 121]⟩)), (v 38)]), o 40 (.mov (v 7)), o 41 (.indexAddr 1 (v 40) (i 2)), o 42 (.load none (v 41)), o 43 (.call (.func 64) [(v 42), (i 2)]), o 44 (.mov (v 1)), o 45 (.call (.func 67) [(v 43), (v 44)]), o 46 (.mov (v 7)), o 47 (.indexAddr 1 (v 46) (i 1)), o 48 (.load none (v 47)), o 49 (.call (.func 62) [(.const (.string ⟨#[74, 97, 110, 32, 70, 101, 98, 32, 77, 97, 114, 32, 65, 112, 114, 32, 77, 97, 121, 32, 74, 117, 110, 32, 74, 117, 108, 32, 65, 117, 103, 32, 83, 101, 112, 32, 79, 99, 116, 32, 78, 111, 118, 32, 68, 101, 99]⟩)), (v 48)]), o 50 (.bin .add (i 1) (v 49)), o 51 (.mov (v 7)), o 52 (.indexAddr 1 (v 51) (i 0)), o 53 (.load none (v 52)), o 54 (.call (.func 64) [(v 53), (i 2)]), o 55 (.mov (v 6)), o 56 (.indexAddr 1 (v 55) (i 2)), o 57 (.load none (v 56)), o 58 (.call (.func 65) [(v 57)]), o 59 (.build [(.int .i64 0), (.int .i64 0), (.int .i64 0), (.int .i64 0), (.int .i64 0)] [(0, 1, (v 39)), (1, 1, (v 45)), (2, 1, (v 50)), (3, 1, (v 54)), (4, 1, (v 58))]), on (.store 5 (v 4) (v 59)), o 5 (.mov tt)] ⟨[], [3, 4, 8, 10, 14, 19], []⟩)
 (.ret))))))
def fun34 : AFun := ⟨2, code34, [.cell 4 (some 5), .tmp 5], 0⟩
theorem comp34 : FunOK Tryd.prog 34 fun34 :=
  FunOK.of Tryd.func34 [] [⟨[], [3, 4, 8, 10, 14, 19], []⟩] (by kernel_rfl) (by kernel_rfl) (by decide +kernel) (by kernel_rfl)

/- decorum/date.third -/
def code35 : ACode :=
 .seq (R [o 2 (.alloc 54 [(.int .i64 0), (.int .i64 0), (.int .i64 0), (.int .i64 0), (.int .i64 0)]), o 3 (.mov ff)])
 (.seq (.seq (R [o 6 (.mov (v 0)), o 7 (.len .string (v 6)), o 8 (.bin .neq (v 7) (i 24)), o 9 (.mov (v 8)), of 9 10 (.mov (v 0)), of 9 11 (.index (v 10) (i 3)), of 9 12 (.bin .neq (v 11) (.const (.int .u8 32))), o 13 (.pick (v 9) tt (v 12)), o 14 (.mov (v 13)), of 14 15 (.mov (v 0)), of 14 16 (.index (v 15) (i 7)), of 14 17 (.bin .neq (v 16) (.const (.int .u8 32))), o 18 (.pick (v 14) tt (v 17)), o 19 (.mov (v 18)), of 19 20 (.mov (v 0)), of 19 21 (.index (v 20) (i 10)), of 19 22 (.bin .neq (v 21) (.const (.int .u8 32))), o 23 (.pick (v 19) tt (v 22)), o 24 (.mov (v 23)), of 24 25 (.mov (v 0)), of 24 26 (.index (v 25) (i 19)), of 24 27 (.bin .neq (v 26) (.const (.int .u8 32))), o 28 (.pick (v 24) tt (v 27))])
  (.cond (v 28) (.seq (R [o 29 (.build [(.int .i64 0), (.int .i64 0), (.int .i64 0), (.int .i64 0), (.int .i64 0)] []), on (.store 5 (v 2) (v 29)), o 3 (.mov ff)])
   (.ret))
  (.skip)))
 (.seq (R [o 30 (.mov (v 0)), o 31 (.slice .string (v 30) (some (i 8)) (some (i 10)) none), o 4 (.mov (v 31))])
 (.seq (R [o 32 (.mov (v 4)), o 33 (.call (.func 64) [(v 32), (i 2)]), o 5 (.mov (v 33))])
 (.seq (.block 0 (.seq (R [o 35 (.mov (v 4)), o 36 (.index (v 35) (i 0)), o 37 (.bin .eql (v 36) (.const (.int .u8 32))), o 34 (.mov (v 37))])
   (.cond (v 34) (R [o 38 (.mov (v 4)), o 39 (.slice .string (v 38) (some (i 1)) none none), o 40 (.call (.func 64) [(v 39), (i 1)]), o 5 (.mov (v 40))])
   (.seq (R [o 42 (.mov (v 4)), o 43 (.index (v 42) (i 0)), o 44 (.bin .eql (v 43) (.const (.int .u8 48))), o 41 (.mov (v 44))])
    (.cond (v 41) (R [o 5 (.mov (i (-1)))])
    (.skip))))))
 (.seq (R [o 45 (.mov (v 0)), o 46 (.slice .string (v 45) none (some (i 3)) none), o 47 (.call (.func 62) [(.const (.string ⟨#[77, 111, 110, 32, 84, 117, 101, 32, 87, 101, 100, 32, 84, 104, 117, 32, 70, 114, 105, 32, 83, 97, 116, 32, 83, 117, 110]⟩)), (v 46)]), o 48 (.mov (v 0)), o 49 (.slice .string (v 48) (some (i 20)) none none), o 50 (.call (.func 64) [(v 49), (i 4)]), o 51 (.mov (v 0)), o 52 (.slice .string (v 51) (some (i 4)) (some (i 7)) none), o 53 (.call (.func 62) [(.const (.string ⟨#[74, 97, 110, 32, 70, 101, 98, 32, 77, 97, 114, 32, 65, 112, 114, 32, 77, 97, 121, 32, 74, 117, 110, 32, 74, 117, 108, 32, 65, 117, 103, 32, 83, 101, 112, 32, 79, 99, 116, 32, 78, 111, 118, 32, 68, 101, 99]⟩)), (v 52)]), o 54 (.bin .add (i 1) (v 53)), o 55 (.mov (v 5)), o 56 (.mov (v 0)), o 57 (.slice .string (v 56) (some (i 11)) (some (i 19)) none), o 58 (.call (.func 65) [(v 57)]), o 59 (.build [(.int .i64 0), (.int .i64 0), (.int .i64 0), (.int .i64 0), (.int .i64 0)] [(0, 1, (v 47)), (1, 1, (v 50)), (2, 1, (v 54)), (3, 1, (v 55)), (4, 1, (v 58))]), on (.store 5 (v 2) (v 59)), o 3 (.mov tt)])
 (.ret))))))
def fun35 : AFun := ⟨1, code35, [.cell 2 (some 5), .tmp 3], 0⟩
theorem comp35 : FunOK Tryd.prog 35 fun35 :=
  FunOK.of Tryd.func35 [] [] (by kernel_rfl) (by kernel_rfl) (by decide +kernel) (by kernel_rfl)

/- (decorum/decorumref03.Moment).day -/
def code36 : ACode :=
 .seq (R [o 1 (.box 24 (v 0)), o 2 (.mov (.const (.string ⟨#[]⟩)))])
 (.seq (R [o 7 (.fieldAddr 0 (v 1)), o 8 (.load none (v 7)), o 9 (.fieldAddr 1 (v 1)), o 10 (.load none (v 9)), o 11 (.fieldAddr 2 (v 1)), o 12 (.load none (v 11)), o 13 (.call (.func 60) [(v 8), (v 10), (v 12)]), o 6 (.mov (v 13)), o 14 (.extract (v 6) 0), o 15 (.extract (v 6) 1), o 3 (.mov (v 14)), o 4 (.mov (v 15))])
 (.seq (R [o 16 (.mov (v 3)), o 17 (.bin .add (v 16) (i 3)), o 18 (.bin .rem (v 17) (i 7)), o 5 (.mov (v 18))])
 (.seq (.seq (R [o 19 (.mov (v 5)), o 20 (.bin .lss (v 19) (i 0))])
  (.cond (v 20) (R [o 21 (.mov (v 5)), o 22 (.bin .add (v 21) (i 7)), o 5 (.mov (v 22))])
  (.skip)))
 (.seq (R [o 23 (.call (.func 68) []), o 24 (.mov (v 5)), o 25 (.indexAddr 1 (v 23) (v 24)), o 26 (.load none (v 25)), o 2 (.mov (v 26))])
 (.ret)))))
def fun36 : AFun := ⟨1, code36, [.tmp 2], 0⟩
theorem comp36 : FunOK Tryd.prog 36 fun36 :=
  FunOK.of Tryd.func36 [] [] (by kernel_rfl) (by kernel_rfl) (by decide +kernel) (by kernel_rfl)

/- decorum/decorumref03.pad -/
def code37 : ACode :=
 .seq (R [o 4 (.mov (.const (.string ⟨#[]⟩)))])
 (.seq (R [o 5 (.mov (.const (.string ⟨#[]⟩)))])
 (.seq (.seq (R [o 6 (.mov (i 0))])
  (.block 0 (.loop [0, 1, 5, 6] (.seq (.seq (R [o 7 (.mov (v 6)), o 8 (.mov (v 1)), o 9 (.bin .lss (v 7) (v 8))])
     (.cond (v 9) (.skip)
     (.exit 0)))
    (.seq (.block 1 (.seq (R [o 12 (.mov (v 0)), o 13 (.bin .rem (v 12) (i 10)), o 14 (.bin .add (i 48) (v 13)), o 15 (.conv (.int .u8) (v 14)), o 16 (.buildSlice 5 1 1 [(.int .u8 0)] [(0, 1, (v 15))]), o 17 (.conv .toString (v 16)), o 18 (.mov (v 5)), o 19 (.bin .add (v 17) (v 18)), o 5 (.mov (v 19))])
      (R [o 20 (.mov (v 0)), o 21 (.bin .quo (v 20) (i 10)), o 0 (.mov (v 21))])))
    (R [o 10 (.mov (v 6)), o 11 (.bin .add (v 10) (i 1)), o 6 (.mov (v 11))]))))))
 (.seq (R [o 22 (.mov (v 5)), o 4 (.mov (v 22))])
 (.ret))))
def fun37 : AFun := ⟨2, code37, [.tmp 4], 0⟩
theorem comp37 : FunOK Tryd.prog 37 fun37 :=
  FunOK.of Tryd.func37 [[0, 1, 5, 6]] [] (by kernel_rfl) (by kernel_rfl) (by decide +kernel) (by kernel_rfl)

/- decorum/decorumref03.months -/
def code38 : ACode :=
 .seq (R [o 0 (.mov (.const (.slice none 0 0)))])
 (.seq (R [o 1 (.buildSlice 9 1 13 [(.string ⟨#[]⟩), (.string ⟨#[]⟩), (.string ⟨#[]⟩), (.string ⟨#[]⟩), (.string ⟨#[]⟩), (.string ⟨#[]⟩), (.string ⟨#[]⟩), (.string ⟨#[]⟩), (.string ⟨#[]⟩), (.string ⟨#[]⟩), (.string ⟨#[]⟩), (.string ⟨#[]⟩), (.string ⟨#[]⟩)] [(0, 1, (.const (.string ⟨#[]⟩))), (1, 1, (.const (.string ⟨#[74, 97, 110]⟩))), (2, 1, (.const (.string ⟨#[70, 101, 98]⟩))), (3, 1, (.const (.string ⟨#[77, 97, 114]⟩))), (4, 1, (.const (.string ⟨#[65, 112, 114]⟩))), (5, 1, (.const (.string ⟨#[77, 97, 121]⟩))), (6, 1, (.const (.string ⟨#[74, 117, 110]⟩))), (7, 1, (.const (.string ⟨#[74, 117, 108]⟩))), (8, 1, (.const (.string ⟨#[65, 117, 103]⟩))), (9, 1, (.const (.string ⟨#[83, 101, 112]⟩))), (10, 1, (.const (.string ⟨#[79, 99, 116]⟩))), (11, 1, (.const (.string ⟨#[78, 111, 118]⟩))), (12, 1, (.const (.string ⟨#[68, 101, 99]⟩)))]), o 0 (.mov (v 1))])
 (.ret))
def fun38 : AFun := ⟨0, code38, [.tmp 0], 0⟩
theorem comp38 : FunOK Tryd.prog 38 fun38 :=
  FunOK.of Tryd.func38 [] [] (by kernel_rfl) (by kernel_rfl) (by decide +kernel) (by kernel_rfl)

/- (decorum/decorumref03.Moment).clock -/
def code39 : ACode :=
 .seq (R [o 1 (.box 24 (v 0)), o 2 (.mov (.const (.string ⟨#[]⟩)))])
 (.seq (D [o 3 (.fieldAddr 3 (v 1)), o 4 (.load none (v 3)), o 5 (.call (.func 37) [(v 4), (i 2)]), o 6 (.bin .add (v 5) (.const (.string ⟨#[58]⟩))), o 7 (.fieldAddr 4 (v 1)), o 8 (.load none (v 7)), o 9 (.call (.func 37) [(v 8), (i 2)]), o 10 (.bin .add (v 6) (v 9)), o 11 (.bin .add (v 10) (.const (.string ⟨#[58]⟩))), o 12 (.fieldAddr 5 (v 1)), o 13 (.load none (v 12)), o 14 (.call (.func 37) [(v 13), (i 2)]), o 15 (.bin .add (v 11) (v 14)), o 2 (.mov (v 15))] ⟨[], [2, 6], []⟩)
 (.ret))
def fun39 : AFun := ⟨1, code39, [.tmp 2], 0⟩
theorem comp39 : FunOK Tryd.prog 39 fun39 :=
  FunOK.of Tryd.func39 [] [⟨[], [2, 6], []⟩] (by kernel_rfl) (by kernel_rfl) (by decide +kernel) (by kernel_rfl)

/- decorum/civil.Date -/
def code40 : ACode :=
 .seq (R [o 2 (.mov (i 0)), o 3 (.mov (i 0)), o 4 (.mov (i 0)), o 5 (.mov ff)])
 (.seq (R [o 9 (.call (.func 69) [(i 1970)]), o 10 (.un .neg (v 9)), o 11 (.call (.func 69) [(i 10000)]), o 12 (.call (.func 69) [(i 1970)]), o 13 (.bin .sub (v 11) (v 12)), o 14 (.bin .sub (v 13) (i 1)), o 6 (.mov (v 10)), o 7 (.mov (v 14))])
 (.seq (.seq (R [o 15 (.mov (v 0)), o 16 (.mov (v 6)), o 17 (.bin .lss (v 15) (v 16)), o 18 (.mov (v 17)), of 18 19 (.mov (v 0)), of 18 20 (.mov (v 7)), of 18 21 (.bin .gtr (v 19) (v 20)), o 22 (.pick (v 18) tt (v 21))])
  (.cond (v 22) (.seq (R [o 2 (.mov (i 0)), o 3 (.mov (i 0)), o 4 (.mov (i 0)), o 5 (.mov ff)])
   (.ret))
  (.skip)))
 (.seq (R [o 23 (.mov (v 0)), o 24 (.mov (v 6)), o 25 (.bin .sub (v 23) (v 24)), o 8 (.mov (v 25))])
 (.seq (R [o 26 (.mov (v 8)), o 27 (.bin .quo (v 26) (i 366)), o 2 (.mov (v 27))])
 (.seq (.block 0 (.loop [2, 8] (.seq (.seq (R [o 28 (.mov (v 2)), o 29 (.bin .add (v 28) (i 1)), o 30 (.call (.func 69) [(v 29)]), o 31 (.mov (v 8)), o 32 (.bin .leq (v 30) (v 31))])
     (.cond (v 32) (.skip)
     (.exit 0)))
    (.block 1 (R [o 33 (.mov (v 2)), o 34 (.bin .add (v 33) (i 1)), o 2 (.mov (v 34))])))))
 (.seq (R [o 35 (.mov (v 8)), o 36 (.mov (v 2)), o 37 (.call (.func 69) [(v 36)]), o 38 (.bin .sub (v 35) (v 37)), o 8 (.mov (v 38))])
 (.seq (.seq (R [o 3 (.mov (i 1))])
  (.block 2 (.loop [2, 3, 8] (.seq (.seq (R [o 39 (.mov (v 8)), o 40 (.mov (v 2)), o 41 (.mov (v 3)), o 42 (.call (.func 70) [(v 40), (v 41)]), o 43 (.bin .geq (v 39) (v 42))])
     (.cond (v 43) (.skip)
     (.exit 2)))
    (.seq (.block 3 (R [o 46 (.mov (v 8)), o 47 (.mov (v 2)), o 48 (.mov (v 3)), o 49 (.call (.func 70) [(v 47), (v 48)]), o 50 (.bin .sub (v 46) (v 49)), o 8 (.mov (v 50))]))
    (R [o 44 (.mov (v 3)), o 45 (.bin .add (v 44) (i 1)), o 3 (.mov (v 45))]))))))
 (.seq (R [o 51 (.mov (v 2)), o 52 (.mov (v 3)), o 53 (.mov (v 8)), o 54 (.bin .add (v 53) (i 1)), o 2 (.mov (v 51)), o 3 (.mov (v 52)), o 4 (.mov (v 54)), o 5 (.mov tt)])
 (.ret)))))))))
def fun40 : AFun := ⟨1, code40, [.tmp 2, .tmp 3, .tmp 4, .tmp 5], 0⟩
theorem comp40 : FunOK Tryd.prog 40 fun40 :=
  FunOK.of Tryd.func40 [[2, 8], [2, 3, 8]] [] (by kernel_rfl) (by kernel_rfl) (by decide +kernel) (by kernel_rfl)

/- decorum/date.padded -/
def code41 : ACode :=
 .seq (R [o 4 (.mov (.const (.string ⟨#[]⟩)))])
 (.seq (R [o 6 (.mov (v 0)), o 7 (.call (.func 49) [(v 6)]), o 5 (.mov (v 7))])
 (.seq (R [o 8 (.mov (v 1)), o 9 (.mov (v 5)), o 10 (.len .string (v 9)), o 11 (.bin .sub (v 8) (v 10)), o 12 (.minmax true [(v 11), (i 0)]), o 13 (.call (.func 71) [(.const (.string ⟨#[48]⟩)), (v 12)]), o 14 (.mov (v 5)), o 15 (.bin .add (v 13) (v 14)), o 4 (.mov (v 15))])
 (.ret)))
def fun41 : AFun := ⟨2, code41, [.tmp 4], 0⟩
theorem comp41 : FunOK Tryd.prog 41 fun41 :=
  FunOK.of Tryd.func41 [] [] (by kernel_rfl) (by kernel_rfl) (by decide +kernel) (by kernel_rfl)

/- decorum/civil.Weekday -/
def code43 : ACode :=
 .seq (R [o 2 (.mov (i 0))])
 (.seq (R [o 3 (.mov (v 0)), o 4 (.bin .rem (v 3) (i 7)), o 5 (.bin .add (v 4) (i 7)), o 6 (.bin .rem (v 5) (i 7)), o 7 (.bin .add (v 6) (i 3)), o 8 (.bin .rem (v 7) (i 7)), o 2 (.mov (v 8))])
 (.ret))
def fun43 : AFun := ⟨1, code43, [.tmp 2], 0⟩
theorem comp43 : FunOK Tryd.prog 43 fun43 :=
  FunOK.of Tryd.func43 [] [] (by kernel_rfl) (by kernel_rfl) (by decide +kernel) (by kernel_rfl)

/- decorum/decorumref03.clocked -/
/- decorum/decorumref03.num -/
/- decorum/decorumref03.cut -/
/- decorum/decorumref03.month -/
/- strings.Split -/
def code51 : ACode :=
 .seq (R [o 4 (.mov (.const (.slice none 0 0)))])
 (.seq (R [o 5 (.mov (v 0)), o 6 (.mov (v 1)), o 7 (.call (.func 75) [(v 5), (v 6), (i 0), (i (-1))]), o 4 (.mov (v 7))])
 (.ret))
def fun51 : AFun := ⟨2, code51, [.tmp 4], 0⟩
theorem comp51 : FunOK Tryd.prog 51 fun51 :=
  FunOK.of Tryd.func51 [] [] (by kernel_rfl) (by kernel_rfl) (by decide +kernel) (by kernel_rfl)

/- decorum/decorumref01.Days -/
def code60 : ACode :=
 .seq (R [o 6 (.mov (i 0)), o 7 (.mov ff)])
 (.seq (.seq (R [o 12 (.mov (v 0)), o 13 (.bin .lss (v 12) (i 0)), o 14 (.mov (v 13)), of 14 15 (.mov (v 0)), of 14 16 (.bin .gtr (v 15) (i 9999)), o 17 (.pick (v 14) tt (v 16)), o 18 (.mov (v 17)), of 18 19 (.mov (v 2)), of 18 20 (.bin .lss (v 19) (i 1)), o 21 (.pick (v 18) tt (v 20)), o 22 (.mov (v 21)), of 22 23 (.mov (v 2)), of 22 24 (.mov (v 0)), of 22 25 (.mov (v 1)), of 22 26 (.call (.func 91) [(v 24), (v 25)]), of 22 27 (.bin .gtr (v 23) (v 26)), o 28 (.pick (v 22) tt (v 27))])
  (.cond (v 28) (.seq (R [o 6 (.mov (i 0)), o 7 (.mov ff)])
   (.ret))
  (.skip)))
 (.seq (R [o 8 (.mov (i 0))])
 (.seq (.seq (R [o 9 (.mov (i 1970))])
  (.block 0 (.loop [0, 1, 2, 8, 9] (.seq (.seq (R [o 29 (.mov (v 9)), o 30 (.mov (v 0)), o 31 (.bin .lss (v 29) (v 30))])
     (.cond (v 31) (.skip)
     (.exit 0)))
    (.seq (.block 1 (.seq (R [o 34 (.mov (v 8)), o 35 (.bin .add (v 34) (i 365)), o 8 (.mov (v 35))])
      (.seq (R [o 36 (.mov (v 9)), o 37 (.call (.func 31) [(v 36)])])
      (.cond (v 37) (R [o 38 (.mov (v 8)), o 39 (.bin .add (v 38) (i 1)), o 8 (.mov (v 39))])
      (.skip)))))
    (R [o 32 (.mov (v 9)), o 33 (.bin .add (v 32) (i 1)), o 9 (.mov (v 33))]))))))
 (.seq (.seq (R [o 40 (.mov (v 0)), o 10 (.mov (v 40))])
  (.block 2 (.loop [0, 1, 2, 8, 10] (.seq (.seq (R [o 41 (.mov (v 10)), o 42 (.bin .lss (v 41) (i 1970))])
     (.cond (v 42) (.skip)
     (.exit 2)))
    (.seq (.block 3 (.seq (R [o 45 (.mov (v 8)), o 46 (.bin .sub (v 45) (i 365)), o 8 (.mov (v 46))])
      (.seq (R [o 47 (.mov (v 10)), o 48 (.call (.func 31) [(v 47)])])
      (.cond (v 48) (R [o 49 (.mov (v 8)), o 50 (.bin .sub (v 49) (i 1)), o 8 (.mov (v 50))])
      (.skip)))))
    (R [o 43 (.mov (v 10)), o 44 (.bin .add (v 43) (i 1)), o 10 (.mov (v 44))]))))))
 (.seq (.seq (R [o 11 (.mov (i 1))])
  (.block 4 (.loop [0, 1, 2, 8, 11] (.seq (.seq (R [o 51 (.mov (v 11)), o 52 (.mov (v 1)), o 53 (.bin .lss (v 51) (v 52))])
     (.cond (v 53) (.skip)
     (.exit 4)))
    (.seq (.block 5 (R [o 56 (.mov (v 8)), o 57 (.mov (v 0)), o 58 (.mov (v 11)), o 59 (.call (.func 91) [(v 57), (v 58)]), o 60 (.bin .add (v 56) (v 59)), o 8 (.mov (v 60))]))
    (R [o 54 (.mov (v 11)), o 55 (.bin .add (v 54) (i 1)), o 11 (.mov (v 55))]))))))
 (.seq (R [o 61 (.mov (v 8)), o 62 (.mov (v 2)), o 63 (.bin .add (v 61) (v 62)), o 64 (.bin .sub (v 63) (i 1)), o 6 (.mov (v 64)), o 7 (.mov tt)])
 (.ret)))))))
def fun60 : AFun := ⟨3, code60, [.tmp 6, .tmp 7], 0⟩
theorem comp60 : FunOK Tryd.prog 60 fun60 :=
  FunOK.of Tryd.func60 [[0, 1, 2, 8, 9], [0, 1, 2, 8, 10], [0, 1, 2, 8, 11]] [] (by kernel_rfl) (by kernel_rfl) (by decide +kernel) (by kernel_rfl)

/- strings.HasSuffix -/
def code61 : ACode :=
 .seq (R [o 4 (.mov ff)])
 (.seq (R [o 5 (.mov (v 0)), o 6 (.mov (v 1)), o 7 (.call (.func 92) [(v 5), (v 6)]), o 4 (.mov (v 7))])
 (.ret))
def fun61 : AFun := ⟨2, code61, [.tmp 4], 0⟩
theorem comp61 : FunOK Tryd.prog 61 fun61 :=
  FunOK.of Tryd.func61 [] [] (by kernel_rfl) (by kernel_rfl) (by decide +kernel) (by kernel_rfl)

/- decorum/date.among -/
def code62 : ACode :=
 .seq (R [o 4 (.mov (i 0))])
 (.seq (R [o 5 (.mov (v 0)), o 6 (.call (.func 42) [(v 5)]), o 7 (.mov (v 1)), o 8 (.call (.func 93) [(v 6), (v 7)]), o 4 (.mov (v 8))])
 (.ret))
def fun62 : AFun := ⟨2, code62, [.tmp 4], 0⟩
theorem comp62 : FunOK Tryd.prog 62 fun62 :=
  FunOK.of Tryd.func62 [] [] (by kernel_rfl) (by kernel_rfl) (by decide +kernel) (by kernel_rfl)

/- strings.TrimSuffix -/
def code63 : ACode :=
 .seq (R [o 4 (.mov (.const (.string ⟨#[]⟩)))])
 (.seq (R [o 5 (.mov (v 0)), o 6 (.mov (v 1)), o 7 (.call (.func 94) [(v 5), (v 6)]), o 4 (.mov (v 7))])
 (.ret))
def fun63 : AFun := ⟨2, code63, [.tmp 4], 0⟩
theorem comp63 : FunOK Tryd.prog 63 fun63 :=
  FunOK.of Tryd.func63 [] [] (by kernel_rfl) (by kernel_rfl) (by decide +kernel) (by kernel_rfl)

/- decorum/date.number -/
def code64 : ACode :=
 .seq (R [o 4 (.mov (i 0))])
 (.seq (.seq (R [o 8 (.mov (v 0)), o 9 (.len .string (v 8)), o 10 (.mov (v 1)), o 11 (.bin .neq (v 9) (v 10))])
  (.cond (v 11) (.seq (R [o 4 (.mov (i (-1)))])
   (.ret))
  (.skip)))
 (.seq (R [o 5 (.mov (i 0))])
 (.seq (.seq (R [o 12 (.mov (v 0)), o 13 (.rangeStr (v 12))])
  (.block 0 (.loop [5, 13] (.seq (R [o 14 (.nextStr (v 13)), o 15 (.extract (v 14) 0)])
    (.seq (.cond (v 15) (.skip)
     (.exit 0))
    (.block 1 (.seq (R [o 16 (.extract (v 14) 2), o 7 (.mov (v 16))])
     (.seq (.seq (R [o 17 (.mov (v 7)), o 18 (.bin .lss (v 17) (.const (.int .i32 48))), o 19 (.mov (v 18)), of 19 20 (.mov (v 7)), of 19 21 (.bin .gtr (v 20) (.const (.int .i32 57))), o 22 (.pick (v 19) tt (v 21))])
      (.cond (v 22) (.seq (R [o 4 (.mov (i (-1)))])
       (.ret))
      (.skip)))
     (R [o 23 (.mov (v 5)), o 24 (.bin .mul (i 10) (v 23)), o 25 (.mov (v 7)), o 26 (.bin .sub (v 25) (.const (.int .i32 48))), o 27 (.conv (.int .i64) (v 26)), o 28 (.bin .add (v 24) (v 27)), o 5 (.mov (v 28))])))))))))
 (.seq (R [o 29 (.mov (v 5)), o 4 (.mov (v 29))])
 (.ret)))))
def fun64 : AFun := ⟨2, code64, [.tmp 4], 0⟩
theorem comp64 : FunOK Tryd.prog 64 fun64 :=
  FunOK.of Tryd.func64 [[5, 13]] [] (by kernel_rfl) (by kernel_rfl) (by decide +kernel) (by kernel_rfl)

/- decorum/date.clock -/
def code65 : ACode :=
 .seq (R [o 2 (.mov (i 0))])
 (.seq (R [o 7 (.mov (v 0)), o 8 (.call (.func 51) [(v 7), (.const (.string ⟨#[58]⟩))]), o 3 (.mov (v 8))])
 (.seq (.seq (R [o 9 (.mov (v 3)), o 10 (.len .slice (v 9)), o 11 (.bin .neq (v 10) (i 3))])
  (.cond (v 11) (.seq (R [o 2 (.mov (i (-1)))])
   (.ret))
  (.skip)))
 (.seq (D [o 12 (.mov (v 3)), o 13 (.indexAddr 1 (v 12) (i 0)), o 14 (.load none (v 13)), o 15 (.call (.func 64) [(v 14), (i 2)]), o 16 (.mov (v 3)), o 17 (.indexAddr 1 (v 16) (i 1)), o 18 (.load none (v 17)), o 19 (.call (.func 64) [(v 18), (i 2)]), o 20 (.mov (v 3)), o 21 (.indexAddr 1 (v 20) (i 2)), o 22 (.load none (v 21)), o 23 (.call (.func 64) [(v 22), (i 2)]), o 4 (.mov (v 15)), o 5 (.mov (v 19)), o 6 (.mov (v 23))] ⟨[], [3, 7], []⟩)
 (.seq (.seq (R [o 24 (.mov (v 4)), o 25 (.bin .lss (v 24) (i 0)), o 26 (.mov (v 25)), of 26 27 (.mov (v 4)), of 26 28 (.bin .gtr (v 27) (i 23)), o 29 (.pick (v 26) tt (v 28)), o 30 (.mov (v 29)), of 30 31 (.mov (v 5)), of 30 32 (.bin .lss (v 31) (i 0)), o 33 (.pick (v 30) tt (v 32)), o 34 (.mov (v 33)), of 34 35 (.mov (v 5)), of 34 36 (.bin .gtr (v 35) (i 59)), o 37 (.pick (v 34) tt (v 36)), o 38 (.mov (v 37)), of 38 39 (.mov (v 6)), of 38 40 (.bin .lss (v 39) (i 0)), o 41 (.pick (v 38) tt (v 40)), o 42 (.mov (v 41)), of 42 43 (.mov (v 6)), of 42 44 (.bin .gtr (v 43) (i 59)), o 45 (.pick (v 42) tt (v 44))])
  (.cond (v 45) (.seq (R [o 2 (.mov (i (-1)))])
   (.ret))
  (.skip)))
 (.seq (R [o 46 (.mov (v 4)), o 47 (.bin .mul (v 46) (i 60)), o 48 (.mov (v 5)), o 49 (.bin .add (v 47) (v 48)), o 50 (.bin .mul (v 49) (i 60)), o 51 (.mov (v 6)), o 52 (.bin .add (v 50) (v 51)), o 2 (.mov (v 52))])
 (.ret))))))
def fun65 : AFun := ⟨1, code65, [.tmp 2], 0⟩
theorem comp65 : FunOK Tryd.prog 65 fun65 :=
  FunOK.of Tryd.func65 [] [⟨[], [3, 7], []⟩] (by kernel_rfl) (by kernel_rfl) (by decide +kernel) (by kernel_rfl)

/- decorum/civil.Days -/
def code66 : ACode :=
 .seq (R [o 6 (.mov (i 0)), o 7 (.mov ff)])
 (.seq (.seq (R [o 10 (.mov (v 0)), o 11 (.bin .lss (v 10) (i 0)), o 12 (.mov (v 11)), of 12 13 (.mov (v 0)), of 12 14 (.bin .gtr (v 13) (i 9999)), o 15 (.pick (v 12) tt (v 14)), o 16 (.mov (v 15)), of 16 17 (.mov (v 2)), of 16 18 (.bin .lss (v 17) (i 1)), o 19 (.pick (v 16) tt (v 18)), o 20 (.mov (v 19)), of 20 21 (.mov (v 2)), of 20 22 (.mov (v 0)), of 20 23 (.mov (v 1)), of 20 24 (.call (.func 70) [(v 22), (v 23)]), of 20 25 (.bin .gtr (v 21) (v 24)), o 26 (.pick (v 20) tt (v 25))])
  (.cond (v 26) (.seq (R [o 6 (.mov (i 0)), o 7 (.mov ff)])
   (.ret))
  (.skip)))
 (.seq (R [o 27 (.mov (v 0)), o 28 (.call (.func 69) [(v 27)]), o 29 (.call (.func 69) [(i 1970)]), o 30 (.bin .sub (v 28) (v 29)), o 31 (.mov (v 2)), o 32 (.bin .add (v 30) (v 31)), o 33 (.bin .sub (v 32) (i 1)), o 8 (.mov (v 33))])
 (.seq (.seq (R [o 9 (.mov (i 1))])
  (.block 0 (.loop [0, 1, 8, 9] (.seq (.seq (R [o 34 (.mov (v 9)), o 35 (.mov (v 1)), o 36 (.bin .lss (v 34) (v 35))])
     (.cond (v 36) (.skip)
     (.exit 0)))
    (.seq (.block 1 (R [o 39 (.mov (v 8)), o 40 (.mov (v 0)), o 41 (.mov (v 9)), o 42 (.call (.func 70) [(v 40), (v 41)]), o 43 (.bin .add (v 39) (v 42)), o 8 (.mov (v 43))]))
    (R [o 37 (.mov (v 9)), o 38 (.bin .add (v 37) (i 1)), o 9 (.mov (v 38))]))))))
 (.seq (R [o 44 (.mov (v 8)), o 6 (.mov (v 44)), o 7 (.mov tt)])
 (.ret)))))
def fun66 : AFun := ⟨3, code66, [.tmp 6, .tmp 7], 0⟩
theorem comp66 : FunOK Tryd.prog 66 fun66 :=
  FunOK.of Tryd.func66 [[0, 1, 8, 9]] [] (by kernel_rfl) (by kernel_rfl) (by decide +kernel) (by kernel_rfl)

/- decorum/date.year -/
def code67 : ACode :=
 .seq (R [o 4 (.mov (i 0))])
 (.seq (.seq (R [o 10 (.mov (v 0)), o 11 (.bin .lss (v 10) (i 0))])
  (.cond (v 11) (.seq (R [o 12 (.mov (v 0)), o 4 (.mov (v 12))])
   (.ret))
  (.skip)))
 (.seq (R [o 14 (.mov (v 1)), o 15 (.bin .quo (v 14) (i 86400)), o 16 (.call (.func 40) [(v 15)]), o 13 (.mov (v 16)), o 17 (.extract (v 13) 0), o 18 (.extract (v 13) 1), o 19 (.extract (v 13) 2), o 20 (.extract (v 13) 3), o 5 (.mov (v 17)), o 6 (.mov (v 18)), o 7 (.mov (v 19)), o 8 (.mov (v 20))])
 (.seq (R [o 21 (.mov (v 5)), o 22 (.bin .add (v 21) (i 50)), o 9 (.mov (v 22))])
 (.seq (R [o 23 (.mov (v 9)), o 24 (.mov (v 9)), o 25 (.mov (v 0)), o 26 (.bin .sub (v 24) (v 25)), o 27 (.bin .rem (v 26) (i 100)), o 28 (.bin .sub (v 23) (v 27)), o 4 (.mov (v 28))])
 (.ret)))))
def fun67 : AFun := ⟨2, code67, [.tmp 4], 0⟩
theorem comp67 : FunOK Tryd.prog 67 fun67 :=
  FunOK.of Tryd.func67 [] [] (by kernel_rfl) (by kernel_rfl) (by decide +kernel) (by kernel_rfl)

/- decorum/decorumref03.days -/
def code68 : ACode :=
 .seq (R [o 0 (.mov (.const (.slice none 0 0)))])
 (.seq (R [o 1 (.buildSlice 9 1 7 [(.string ⟨#[]⟩), (.string ⟨#[]⟩), (.string ⟨#[]⟩), (.string ⟨#[]⟩), (.string ⟨#[]⟩), (.string ⟨#[]⟩), (.string ⟨#[]⟩)] [(0, 1, (.const (.string ⟨#[77, 111, 110, 100, 97, 121]⟩))), (1, 1, (.const (.string ⟨#[84, 117, 101, 115, 100, 97, 121]⟩))), (2, 1, (.const (.string ⟨#[87, 101, 100, 110, 101, 115, 100, 97, 121]⟩))), (3, 1, (.const (.string ⟨#[84, 104, 117, 114, 115, 100, 97, 121]⟩))), (4, 1, (.const (.string ⟨#[70, 114, 105, 100, 97, 121]⟩))), (5, 1, (.const (.string ⟨#[83, 97, 116, 117, 114, 100, 97, 121]⟩))), (6, 1, (.const (.string ⟨#[83, 117, 110, 100, 97, 121]⟩)))]), o 0 (.mov (v 1))])
 (.ret))
def fun68 : AFun := ⟨0, code68, [.tmp 0], 0⟩
theorem comp68 : FunOK Tryd.prog 68 fun68 :=
  FunOK.of Tryd.func68 [] [] (by kernel_rfl) (by kernel_rfl) (by decide +kernel) (by kernel_rfl)

/- decorum/civil.before -/
def code69 : ACode :=
 .seq (R [o 2 (.mov (i 0))])
 (.seq (.seq (R [o 4 (.mov (v 0)), o 5 (.bin .eql (v 4) (i 0))])
  (.cond (v 5) (.seq (R [o 2 (.mov (i 0))])
   (.ret))
  (.skip)))
 (.seq (R [o 6 (.mov (v 0)), o 7 (.bin .sub (v 6) (i 1)), o 3 (.mov (v 7))])
 (.seq (R [o 8 (.mov (v 0)), o 9 (.bin .mul (i 365) (v 8)), o 10 (.mov (v 3)), o 11 (.bin .quo (v 10) (i 4)), o 12 (.bin .add (v 9) (v 11)), o 13 (.mov (v 3)), o 14 (.bin .quo (v 13) (i 100)), o 15 (.bin .sub (v 12) (v 14)), o 16 (.mov (v 3)), o 17 (.bin .quo (v 16) (i 400)), o 18 (.bin .add (v 15) (v 17)), o 19 (.bin .add (v 18) (i 1)), o 2 (.mov (v 19))])
 (.ret))))
def fun69 : AFun := ⟨1, code69, [.tmp 2], 0⟩
theorem comp69 : FunOK Tryd.prog 69 fun69 :=
  FunOK.of Tryd.func69 [] [] (by kernel_rfl) (by kernel_rfl) (by decide +kernel) (by kernel_rfl)

/- decorum/civil.Length -/
def code70 : ACode :=
 .seq (R [o 4 (.mov (i 0))])
 (.seq (.seq (R [o 5 (.mov (v 1))])
  (.block 0 (.seq (R [o 7 (.bin .eql (v 5) (i 2)), o 6 (.mov (v 7))])
   (.cond (v 6) (.seq (.seq (R [o 8 (.mov (v 0)), o 9 (.call (.func 95) [(v 8)])])
     (.cond (v 9) (.seq (R [o 4 (.mov (i 29))])
      (.ret))
     (.skip)))
    (.seq (R [o 4 (.mov (i 28))])
    (.ret)))
   (.seq (.seq (R [o 11 (.bin .eql (v 5) (i 4)), o 10 (.mov (v 11))])
     (.cond (v 10) (.skip)
     (.seq (R [o 12 (.bin .eql (v 5) (i 6)), o 10 (.mov (v 12))])
      (.cond (v 10) (.skip)
      (.seq (R [o 13 (.bin .eql (v 5) (i 9)), o 10 (.mov (v 13))])
       (.cond (v 10) (.skip)
       (R [o 14 (.bin .eql (v 5) (i 11)), o 10 (.mov (v 14))])))))))
    (.cond (v 10) (.seq (R [o 4 (.mov (i 30))])
     (.ret))
    (.seq (.seq (R [o 16 (.bin .eql (v 5) (i 1)), o 15 (.mov (v 16))])
      (.cond (v 15) (.skip)
      (.seq (R [o 17 (.bin .eql (v 5) (i 3)), o 15 (.mov (v 17))])
       (.cond (v 15) (.skip)
       (.seq (R [o 18 (.bin .eql (v 5) (i 5)), o 15 (.mov (v 18))])
        (.cond (v 15) (.skip)
        (.seq (R [o 19 (.bin .eql (v 5) (i 7)), o 15 (.mov (v 19))])
         (.cond (v 15) (.skip)
         (.seq (R [o 20 (.bin .eql (v 5) (i 8)), o 15 (.mov (v 20))])
          (.cond (v 15) (.skip)
          (.seq (R [o 21 (.bin .eql (v 5) (i 10)), o 15 (.mov (v 21))])
           (.cond (v 15) (.skip)
           (R [o 22 (.bin .eql (v 5) (i 12)), o 15 (.mov (v 22))])))))))))))))
     (.cond (v 15) (.seq (R [o 4 (.mov (i 31))])
      (.ret))
     (.skip)))))))))
 (.seq (R [o 4 (.mov (i 0))])
 (.ret)))
def fun70 : AFun := ⟨2, code70, [.tmp 4], 0⟩
theorem comp70 : FunOK Tryd.prog 70 fun70 :=
  FunOK.of Tryd.func70 [] [] (by kernel_rfl) (by kernel_rfl) (by decide +kernel) (by kernel_rfl)

/- decorum/decorumref01.Length -/
def code91 : ACode :=
 .seq (R [o 4 (.mov (i 0))])
 (.seq (R [o 6 (.buildSlice 3 1 13 [(.int .i64 0), (.int .i64 0), (.int .i64 0), (.int .i64 0), (.int .i64 0), (.int .i64 0), (.int .i64 0), (.int .i64 0), (.int .i64 0), (.int .i64 0), (.int .i64 0), (.int .i64 0), (.int .i64 0)] [(0, 1, (i 0)), (1, 1, (i 31)), (2, 1, (i 28)), (3, 1, (i 31)), (4, 1, (i 30)), (5, 1, (i 31)), (6, 1, (i 30)), (7, 1, (i 31)), (8, 1, (i 31)), (9, 1, (i 30)), (10, 1, (i 31)), (11, 1, (i 30)), (12, 1, (i 31))]), o 5 (.mov (v 6))])
 (.seq (.seq (R [o 7 (.mov (v 1)), o 8 (.bin .lss (v 7) (i 1)), o 9 (.mov (v 8)), of 9 10 (.mov (v 1)), of 9 11 (.bin .gtr (v 10) (i 12)), o 12 (.pick (v 9) tt (v 11))])
  (.cond (v 12) (.seq (R [o 4 (.mov (i 0))])
   (.ret))
  (.skip)))
 (.seq (.seq (R [o 13 (.mov (v 1)), o 14 (.bin .eql (v 13) (i 2)), o 15 (.mov (v 14)), ot 15 16 (.mov (v 0)), ot 15 17 (.call (.func 31) [(v 16)]), o 18 (.pick (v 15) (v 17) ff)])
  (.cond (v 18) (.seq (R [o 4 (.mov (i 29))])
   (.ret))
  (.skip)))
 (.seq (R [o 19 (.mov (v 5)), o 20 (.mov (v 1)), o 21 (.indexAddr 1 (v 19) (v 20)), o 22 (.load none (v 21)), o 4 (.mov (v 22))])
 (.ret)))))
def fun91 : AFun := ⟨2, code91, [.tmp 4], 0⟩
theorem comp91 : FunOK Tryd.prog 91 fun91 :=
  FunOK.of Tryd.func91 [] [] (by kernel_rfl) (by kernel_rfl) (by decide +kernel) (by kernel_rfl)

/- internal/stringslite.HasSuffix -/
def code92 : ACode :=
 .seq (R [o 4 (.mov ff)])
 (.seq (R [o 5 (.mov (v 0)), o 6 (.len .string (v 5)), o 7 (.mov (v 1)), o 8 (.len .string (v 7)), o 9 (.bin .geq (v 6) (v 8)), o 10 (.mov (v 9)), ot 10 11 (.mov (v 0)), ot 10 12 (.mov (v 0)), ot 10 13 (.len .string (v 12)), ot 10 14 (.mov (v 1)), ot 10 15 (.len .string (v 14)), ot 10 16 (.bin .sub (v 13) (v 15)), ot 10 17 (.slice .string (v 11) (some (v 16)) none none), ot 10 18 (.mov (v 1)), ot 10 19 (.bin .eql (v 17) (v 18)), o 20 (.pick (v 10) (v 19) ff), o 4 (.mov (v 20))])
 (.ret))
def fun92 : AFun := ⟨2, code92, [.tmp 4], 0⟩
theorem comp92 : FunOK Tryd.prog 92 fun92 :=
  FunOK.of Tryd.func92 [] [] (by kernel_rfl) (by kernel_rfl) (by decide +kernel) (by kernel_rfl)

/- slices.Index[[]string,string] -/
def code93 : ACode :=
 .seq (R [o 4 (.mov (i 0))])
 (.seq (.seq (R [o 6 (.mov (v 0)), o 7 (.len .slice (v 6)), o 8 (.mov (i 0))])
  (.block 0 (.loop [0, 1, 7, 8] (.seq (R [o 9 (.bin .lss (v 8) (v 7))])
    (.seq (.cond (v 9) (.skip)
     (.exit 0))
    (.seq (.block 1 (.seq (R [o 10 (.mov (v 8)), o 5 (.mov (v 10))])
      (.seq (R [o 11 (.mov (v 1)), o 12 (.mov (v 0)), o 13 (.mov (v 5)), o 14 (.indexAddr 1 (v 12) (v 13)), o 15 (.load none (v 14)), o 16 (.bin .eql (v 11) (v 15))])
      (.cond (v 16) (.seq (R [o 17 (.mov (v 5)), o 4 (.mov (v 17))])
       (.ret))
      (.skip)))))
    (R [o 18 (.bin .add (v 8) (i 1)), o 8 (.mov (v 18))])))))))
 (.seq (R [o 4 (.mov (i (-1)))])
 (.ret)))
def fun93 : AFun := ⟨2, code93, [.tmp 4], 0⟩
theorem comp93 : FunOK Tryd.prog 93 fun93 :=
  FunOK.of Tryd.func93 [[0, 1, 7, 8]] [] (by kernel_rfl) (by kernel_rfl) (by decide +kernel) (by kernel_rfl)

/- internal/stringslite.TrimSuffix -/
def code94 : ACode :=
 .seq (R [o 4 (.mov (.const (.string ⟨#[]⟩)))])
 (.seq (.seq (R [o 5 (.mov (v 0)), o 6 (.mov (v 1)), o 7 (.call (.func 92) [(v 5), (v 6)])])
  (.cond (v 7) (.seq (R [o 8 (.mov (v 0)), o 9 (.mov (v 0)), o 10 (.len .string (v 9)), o 11 (.mov (v 1)), o 12 (.len .string (v 11)), o 13 (.bin .sub (v 10) (v 12)), o 14 (.slice .string (v 8) none (some (v 13)) none), o 4 (.mov (v 14))])
   (.ret))
  (.skip)))
 (.seq (R [o 15 (.mov (v 0)), o 4 (.mov (v 15))])
 (.ret)))
def fun94 : AFun := ⟨2, code94, [.tmp 4], 0⟩
theorem comp94 : FunOK Tryd.prog 94 fun94 :=
  FunOK.of Tryd.func94 [] [] (by kernel_rfl) (by kernel_rfl) (by decide +kernel) (by kernel_rfl)

/- decorum/civil.Leap -/
def code95 : ACode :=
 .seq (R [o 2 (.mov ff)])
 (.seq (R [o 3 (.mov (v 0)), o 4 (.bin .rem (v 3) (i 4)), o 5 (.bin .eql (v 4) (i 0)), o 6 (.mov (v 5)), ot 6 7 (.mov (v 0)), ot 6 8 (.bin .rem (v 7) (i 100)), ot 6 9 (.bin .neq (v 8) (i 0)), ot 6 10 (.mov (v 9)), of 10 11 (.mov (v 0)), of 10 12 (.bin .rem (v 11) (i 400)), of 10 13 (.bin .eql (v 12) (i 0)), ot 6 14 (.pick (v 10) tt (v 13)), o 15 (.pick (v 6) (v 14) ff), o 2 (.mov (v 15))])
 (.ret))
def fun95 : AFun := ⟨1, code95, [.tmp 2], 0⟩
theorem comp95 : FunOK Tryd.prog 95 fun95 :=
  FunOK.of Tryd.func95 [] [] (by kernel_rfl) (by kernel_rfl) (by decide +kernel) (by kernel_rfl)

end Go.Proofs.YtoiedaegnhifpaaDoor
