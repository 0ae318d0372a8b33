/-
  The functions as abstract code: printed by a program of mine.
-/
import Derived.Test.YtgnpafmhdmmmhaaProg
import Derived.Test.YtgnpafmhdmmmhaaA41
import Derived.WalkKit
set_option maxRecDepth 100000
namespace Go.Proofs.Ytgnpafmhdmmmhaa
open Go Go.Abs Go.Abs.K

/- decorum/decorumlaw16.QueueOrder -/
def code3 : ACode :=
 .seq (R [o 2 (.mov ff)])
 (.seq (R [o 12 (.call (.func 11) [(i 200)]), o 3 (.mov (v 12))])
 (.seq (R [o 13 (.mov (v 0)), o 14 (.len .slice (v 13)), o 4 (.mov (v 14))])
 (.seq (.seq (R [o 15 (.mov (v 4)), o 16 (.bin .gtr (v 15) (i 80))])
  (.cond (v 16) (R [o 4 (.mov (i 80))])
  (.skip)))
 (.seq (.seq (R [o 5 (.mov (i 0))])
  (.block 0 (.loop [0, 3, 4, 5] (.seq (.seq (R [o 17 (.mov (v 5)), o 18 (.mov (v 4)), o 19 (.bin .lss (v 17) (v 18))])
     (.cond (v 19) (.skip)
     (.exit 0)))
    (.seq (.block 1 (.seq (R [o 22 (.mov (v 3)), o 23 (.mov (v 5)), o 24 (.bin .add (v 23) (i 1)), o 25 (.mov (v 0)), o 26 (.mov (v 5)), o 27 (.indexAddr 1 (v 25) (v 26)), o 28 (.load none (v 27)), o 29 (.bin .rem (v 28) (.const (.int .u8 8))), o 30 (.conv (.int .i64) (v 29)), o 31 (.build [(.int .i64 0), (.string ⟨#[]⟩), (.string ⟨#[]⟩), (.int .i64 0), (.int .i64 0)] [(0, 1, (v 24)), (3, 1, (v 30))]), o 32 (.call (.func 12) [(v 22), (v 31)]), o 33 (.bin .neq (v 32) (i 0))])
      (.cond (v 33) (.seq (R [o 2 (.mov ff)])
       (.ret))
      (.skip))))
    (R [o 20 (.mov (v 5)), o 21 (.bin .add (v 20) (i 1)), o 5 (.mov (v 21))]))))))
 (.seq (R [o 34 (.build [(.int .i64 0), (.string ⟨#[]⟩), (.string ⟨#[]⟩), (.int .i64 0), (.int .i64 0)] [(3, 1, (i (-1)))]), o 6 (.alloc 28 [(.int .i64 0), (.string ⟨#[]⟩), (.string ⟨#[]⟩), (.int .i64 0), (.int .i64 0)]), on (.store 5 (v 6) (v 34))])
 (.seq (.seq (R [o 7 (.mov (i 0))])
  (.block 2 (.loop [3, 4, 6, 7] (.seq (.seq (R [o 35 (.mov (v 7)), o 36 (.mov (v 4)), o 37 (.bin .lss (v 35) (v 36))])
     (.cond (v 37) (.skip)
     (.exit 2)))
    (.seq (.block 3 (.seq (R [o 41 (.mov (v 3)), o 42 (.call (.func 13) [(v 41)]), o 40 (.mov (v 42)), o 43 (.extract (v 40) 0), o 44 (.extract (v 40) 1), o 8 (.alloc 28 [(.int .i64 0), (.string ⟨#[]⟩), (.string ⟨#[]⟩), (.int .i64 0), (.int .i64 0)]), on (.store 5 (v 8) (v 43)), o 9 (.mov (v 44))])
      (.seq (.seq (R [o 45 (.mov (v 9)), o 46 (.un .not (v 45)), o 47 (.mov (v 46)), of 47 48 (.fieldAddr 3 (v 8)), of 47 49 (.load none (v 48)), of 47 50 (.fieldAddr 3 (v 6)), of 47 51 (.load none (v 50)), of 47 52 (.bin .lss (v 49) (v 51)), o 53 (.pick (v 47) tt (v 52)), o 54 (.mov (v 53)), of 54 55 (.fieldAddr 3 (v 8)), of 54 56 (.load none (v 55)), of 54 57 (.fieldAddr 3 (v 6)), of 54 58 (.load none (v 57)), of 54 59 (.bin .eql (v 56) (v 58)), of 54 60 (.mov (v 59)), ot 60 61 (.fieldAddr 0 (v 8)), ot 60 62 (.load none (v 61)), ot 60 63 (.fieldAddr 0 (v 6)), ot 60 64 (.load none (v 63)), ot 60 65 (.bin .lss (v 62) (v 64)), of 54 66 (.pick (v 60) (v 65) ff), o 67 (.pick (v 54) tt (v 66)), o 68 (.mov (v 67)), of 68 69 (.mov (v 3)), of 68 70 (.fieldAddr 0 (v 8)), of 68 71 (.load none (v 70)), of 68 72 (.call (.func 14) [(v 69), (v 71)]), of 68 73 (.un .not (v 72)), o 74 (.pick (v 68) tt (v 73))])
       (.cond (v 74) (.seq (R [o 2 (.mov ff)])
        (.ret))
       (.skip)))
      (R [o 75 (.load (some 5) (v 8)), on (.store 5 (v 6) (v 75))]))))
    (R [o 38 (.mov (v 7)), o 39 (.bin .add (v 38) (i 1)), o 7 (.mov (v 39))]))))))
 (.seq (R [o 77 (.mov (v 3)), o 78 (.call (.func 13) [(v 77)]), o 76 (.mov (v 78)), o 79 (.extract (v 76) 0), o 80 (.extract (v 76) 1), o 10 (.alloc 28 [(.int .i64 0), (.string ⟨#[]⟩), (.string ⟨#[]⟩), (.int .i64 0), (.int .i64 0)]), on (.store 5 (v 10) (v 79)), o 11 (.mov (v 80))])
 (.seq (R [o 81 (.call (.func 15) []), o 82 (.mov (v 81)), ot 82 83 (.mov (v 11)), ot 82 84 (.un .not (v 83)), o 85 (.pick (v 82) (v 84) ff), o 2 (.mov (v 85))])
 (.ret)))))))))
def fun3 : AFun := ⟨1, code3, [.tmp 2], 0⟩
theorem comp3 : FunOK Try.prog 3 fun3 :=
  FunOK.of Try.func3 [[0, 3, 4, 5], [3, 4, 6, 7]] [] (by kernel_rfl) (by kernel_rfl) (by decide +kernel) (by kernel_rfl)

/- decorum/decorumlaw16.QueuePlays -/
def code4 : ACode :=
 .seq (R [o 4 (.mov ff)])
 (.seq (R [o 17 (.mov (v 0)), o 18 (.call (.func 11) [(v 17)]), o 5 (.mov (v 18))])
 (.seq (R [o 19 (.buildSlice 28 5 0 [] []), o 6 (.mov (v 19))])
 (.seq (.seq (R [o 7 (.mov (i 0))])
  (.block 0 (.loop [0, 1, 5, 6, 7] (.seq (.seq (R [o 20 (.mov (v 7)), o 21 (.mov (v 1)), o 22 (.len .slice (v 21)), o 23 (.bin .lss (v 20) (v 22)), o 24 (.mov (v 23)), ot 24 25 (.mov (v 7)), ot 24 26 (.bin .lss (v 25) (i 80)), o 27 (.pick (v 24) (v 26) ff)])
     (.cond (v 27) (.skip)
     (.exit 0)))
    (.seq (.block 1 (.seq (R [o 30 (.mov (v 1)), o 31 (.mov (v 7)), o 32 (.indexAddr 7 (v 30) (v 31)), o 33 (.load (some 7) (v 32)), o 8 (.alloc 37 [(.int .i64 0), (.int .i64 0), (.int .i64 0), (.string ⟨#[]⟩), (.string ⟨#[]⟩), (.int .i64 0), (.int .i64 0)]), on (.store 7 (v 8) (v 33))])
      (.seq (R [o 34 (.mov (v 6)), o 35 (.fieldAddr 2 (v 8)), o 36 (.fieldAddr 0 (v 35)), o 37 (.load none (v 36)), o 38 (.call (.func 16) [(v 34), (v 37)]), o 39 (.bin .geq (v 38) (i 0)), o 9 (.mov (v 39))])
      (.seq (.seq (R [o 40 (.fieldAddr 0 (v 8)), o 41 (.load none (v 40))])
       (.block 2 (.seq (R [o 43 (.bin .eql (v 41) (i 0)), o 42 (.mov (v 43))])
        (.cond (v 42) (.seq (R [o 10 (.mov (i 0))])
         (.seq (.seq (R [o 44 (.mov (v 9))])
          (.cond (v 44) (R [o 10 (.mov (i 10))])
          (.seq (R [o 45 (.mov (v 6)), o 46 (.len .slice (v 45)), o 47 (.mov (v 0)), o 48 (.bin .geq (v 46) (v 47))])
           (.cond (v 48) (R [o 10 (.mov (i 5))])
           (.skip)))))
         (.seq (.seq (R [o 49 (.mov (v 5)), o 50 (.fieldAddr 2 (v 8)), o 51 (.load (some 5) (v 50)), o 52 (.call (.func 12) [(v 49), (v 51)]), o 53 (.mov (v 10)), o 54 (.bin .neq (v 52) (v 53))])
          (.cond (v 54) (.seq (R [o 4 (.mov ff)])
           (.ret))
          (.skip)))
         (.seq (R [o 55 (.mov (v 10)), o 56 (.bin .eql (v 55) (i 0))])
         (.cond (v 56) (R [o 57 (.mov (v 6)), o 58 (.fieldAddr 2 (v 8)), o 59 (.load (some 5) (v 58)), o 60 (.call (.func 17) [(v 57), (v 59)]), o 6 (.mov (v 60))])
         (.skip))))))
        (.seq (R [o 62 (.bin .eql (v 41) (i 1)), o 61 (.mov (v 62))])
         (.cond (v 61) (.seq (.seq (R [o 63 (.mov (v 5)), o 64 (.fieldAddr 2 (v 8)), o 65 (.load (some 5) (v 64)), o 66 (.call (.func 18) [(v 63), (v 65)]), o 67 (.mov (v 9)), o 68 (.eq false .scalar (v 66) (v 67))])
           (.cond (v 68) (.seq (R [o 4 (.mov ff)])
            (.ret))
           (.skip)))
          (.seq (R [o 69 (.mov (v 9)), o 70 (.un .not (v 69))])
          (.cond (v 70) (R [o 71 (.mov (v 6)), o 72 (.fieldAddr 2 (v 8)), o 73 (.load (some 5) (v 72)), o 74 (.call (.func 17) [(v 71), (v 73)]), o 6 (.mov (v 74))])
          (.skip))))
         (.seq (R [o 76 (.bin .eql (v 41) (i 2)), o 75 (.mov (v 76))])
          (.cond (v 75) (.seq (R [o 77 (.mov (v 6)), o 78 (.fieldAddr 1 (v 8)), o 79 (.load none (v 78)), o 80 (.call (.func 16) [(v 77), (v 79)]), o 11 (.mov (v 80))])
           (.seq (.seq (R [o 81 (.mov (v 5)), o 82 (.fieldAddr 1 (v 8)), o 83 (.load none (v 82)), o 84 (.call (.func 14) [(v 81), (v 83)]), o 85 (.mov (v 11)), o 86 (.bin .geq (v 85) (i 0)), o 87 (.eq true .scalar (v 84) (v 86))])
            (.cond (v 87) (.seq (R [o 4 (.mov ff)])
             (.ret))
            (.skip)))
           (.seq (R [o 88 (.mov (v 11)), o 89 (.bin .geq (v 88) (i 0))])
           (.cond (v 89) (R [o 90 (.mov (v 6)), o 91 (.mov (v 11)), o 92 (.call (.func 19) [(v 90), (v 91)]), o 6 (.mov (v 92))])
           (.skip)))))
          (.seq (R [o 94 (.bin .eql (v 41) (i 3)), o 93 (.mov (v 94))])
           (.cond (v 93) (.seq (R [o 95 (.buildSlice 28 5 0 [] []), o 96 (.buildSlice 28 5 0 [] []), o 12 (.mov (v 95)), o 13 (.mov (v 96))])
            (.seq (.seq (R [o 14 (.mov (i 0))])
             (.block 3 (.loop [0, 1, 5, 6, 7, 8, 12, 13, 14] (.seq (.seq (R [o 97 (.mov (v 14)), o 98 (.mov (v 6)), o 99 (.len .slice (v 98)), o 100 (.bin .lss (v 97) (v 99))])
                (.cond (v 100) (.skip)
                (.exit 3)))
               (.seq (.block 4 (.seq (R [o 103 (.mov (v 6)), o 104 (.mov (v 14)), o 105 (.indexAddr 5 (v 103) (v 104)), o 106 (.fieldAddr 4 (v 105)), o 107 (.load none (v 106)), o 108 (.bin .gtr (v 107) (i 0)), o 109 (.mov (v 108)), ot 109 110 (.mov (v 6)), ot 109 111 (.mov (v 14)), ot 109 112 (.indexAddr 5 (v 110) (v 111)), ot 109 113 (.fieldAddr 4 (v 112)), ot 109 114 (.load none (v 113)), ot 109 115 (.fieldAddr 1 (v 8)), ot 109 116 (.load none (v 115)), ot 109 117 (.bin .lss (v 114) (v 116)), o 118 (.pick (v 109) (v 117) ff)])
                 (.cond (v 118) (R [o 119 (.mov (v 12)), o 120 (.mov (v 6)), o 121 (.mov (v 14)), o 122 (.indexAddr 5 (v 120) (v 121)), o 123 (.load (some 5) (v 122)), o 124 (.buildSlice 28 5 1 [(.int .i64 0), (.string ⟨#[]⟩), (.string ⟨#[]⟩), (.int .i64 0), (.int .i64 0)] [(0, 5, (v 123))]), o 125 (.append 28 5 56 (v 119) (v 124)), o 12 (.mov (v 125))])
                 (R [o 126 (.mov (v 13)), o 127 (.mov (v 6)), o 128 (.mov (v 14)), o 129 (.indexAddr 5 (v 127) (v 128)), o 130 (.load (some 5) (v 129)), o 131 (.buildSlice 28 5 1 [(.int .i64 0), (.string ⟨#[]⟩), (.string ⟨#[]⟩), (.int .i64 0), (.int .i64 0)] [(0, 5, (v 130))]), o 132 (.append 28 5 56 (v 126) (v 131)), o 13 (.mov (v 132))]))))
               (R [o 101 (.mov (v 14)), o 102 (.bin .add (v 101) (i 1)), o 14 (.mov (v 102))]))))))
            (.seq (.seq (R [o 133 (.mov (v 5)), o 134 (.fieldAddr 1 (v 8)), o 135 (.load none (v 134)), o 136 (.call (.func 21) [(v 133), (v 135)]), o 137 (.mov (v 12)), o 138 (.call (.func 20) [(v 136), (v 137)]), o 139 (.un .not (v 138))])
             (.cond (v 139) (.seq (R [o 4 (.mov ff)])
              (.ret))
             (.skip)))
            (R [o 140 (.mov (v 13)), o 6 (.mov (v 140))]))))
           (.skip)))))))))))
      (.seq (R [o 142 (.mov (v 5)), o 143 (.call (.func 13) [(v 142)]), o 141 (.mov (v 143)), o 144 (.extract (v 141) 0), o 145 (.extract (v 141) 1), o 15 (.alloc 28 [(.int .i64 0), (.string ⟨#[]⟩), (.string ⟨#[]⟩), (.int .i64 0), (.int .i64 0)]), on (.store 5 (v 15) (v 144)), o 16 (.mov (v 145))])
      (.seq (R [o 146 (.mov (v 16)), o 147 (.mov (v 6)), o 148 (.len .slice (v 147)), o 149 (.bin .gtr (v 148) (i 0)), o 150 (.eq true .scalar (v 146) (v 149)), o 151 (.mov (v 150)), of 151 152 (.mov (v 16)), of 151 153 (.mov (v 152)), ot 153 154 (.load (some 5) (v 15)), ot 153 155 (.mov (v 6)), ot 153 156 (.indexAddr 5 (v 155) (i 0)), ot 153 157 (.load (some 5) (v 156)), ot 153 158 (.eq true (.plain [.int, .string, .string, .int, .int]) (v 154) (v 157)), of 151 159 (.pick (v 153) (v 158) ff), o 160 (.pick (v 151) tt (v 159)), o 161 (.mov (v 160)), of 161 162 (.mov (v 5)), of 161 163 (.call (.func 22) [(v 162)]), of 161 164 (.mov (v 6)), of 161 165 (.len .slice (v 164)), of 161 166 (.bin .neq (v 163) (v 165)), o 167 (.pick (v 161) tt (v 166)), o 168 (.mov (v 167)), of 168 169 (.mov (v 5)), of 168 170 (.call (.func 23) [(v 169)]), of 168 171 (.mov (v 6)), of 168 172 (.call (.func 20) [(v 170), (v 171)]), of 168 173 (.un .not (v 172)), o 174 (.pick (v 168) tt (v 173))])
      (.cond (v 174) (.seq (R [o 4 (.mov ff)])
       (.ret))
      (.skip))))))))
    (R [o 28 (.mov (v 7)), o 29 (.bin .add (v 28) (i 1)), o 7 (.mov (v 29))]))))))
 (.seq (R [o 175 (.call (.func 15) []), o 4 (.mov (v 175))])
 (.ret)))))
def fun4 : AFun := ⟨2, code4, [.tmp 4], 0⟩
theorem comp4 : FunOK Try.prog 4 fun4 :=
  FunOK.of Try.func4 [[0, 1, 5, 6, 7], [0, 1, 5, 6, 7, 8, 12, 13, 14]] [] (by kernel_rfl) (by kernel_rfl) (by decide +kernel) (by kernel_rfl)

/- decorum/decorumlaw16.QueueNone -/
def code5 : ACode :=
 .seq (R [o 2 (.box 28 (v 0)), o 4 (.mov ff)])
 (.seq (R [o 5 (.mov (.const (.pointer none)))])
 (.seq (R [o 9 (.mov (v 5)), o 10 (.call (.func 13) [(v 9)]), o 8 (.mov (v 10)), o 11 (.extract (v 8) 0), o 12 (.extract (v 8) 1), o 6 (.alloc 28 [(.int .i64 0), (.string ⟨#[]⟩), (.string ⟨#[]⟩), (.int .i64 0), (.int .i64 0)]), on (.store 5 (v 6) (v 11)), o 7 (.mov (v 12))])
 (.seq (R [o 13 (.call (.func 15) []), o 14 (.mov (v 13)), ot 14 15 (.mov (v 5)), ot 14 16 (.load (some 5) (v 2)), ot 14 17 (.call (.func 12) [(v 15), (v 16)]), ot 14 18 (.bin .eql (v 17) (i 1)), o 19 (.pick (v 14) (v 18) ff), o 20 (.mov (v 19)), ot 20 21 (.mov (v 5)), ot 20 22 (.load (some 5) (v 2)), ot 20 23 (.call (.func 18) [(v 21), (v 22)]), ot 20 24 (.un .not (v 23)), o 25 (.pick (v 20) (v 24) ff), o 26 (.mov (v 25)), ot 26 27 (.mov (v 7)), ot 26 28 (.un .not (v 27)), o 29 (.pick (v 26) (v 28) ff), o 30 (.mov (v 29)), ot 30 31 (.mov (v 5)), ot 30 32 (.mov (v 1)), ot 30 33 (.call (.func 14) [(v 31), (v 32)]), ot 30 34 (.un .not (v 33)), o 35 (.pick (v 30) (v 34) ff), o 36 (.mov (v 35)), ot 36 37 (.mov (v 5)), ot 36 38 (.mov (v 1)), ot 36 39 (.call (.func 21) [(v 37), (v 38)]), ot 36 40 (.len .slice (v 39)), ot 36 41 (.mov (v 5)), ot 36 42 (.call (.func 23) [(v 41)]), ot 36 43 (.len .slice (v 42)), ot 36 44 (.bin .add (v 40) (v 43)), ot 36 45 (.mov (v 5)), ot 36 46 (.call (.func 22) [(v 45)]), ot 36 47 (.bin .add (v 44) (v 46)), ot 36 48 (.bin .eql (v 47) (i 0)), o 49 (.pick (v 36) (v 48) ff), o 4 (.mov (v 49))])
 (.ret))))
def fun5 : AFun := ⟨2, code5, [.tmp 4], 0⟩
theorem comp5 : FunOK Try.prog 5 fun5 :=
  FunOK.of Try.func5 [] [] (by kernel_rfl) (by kernel_rfl) (by decide +kernel) (by kernel_rfl)

/- decorum/decorumlaw16.QueueLate -/
def code6 : ACode :=
 .seq (R [o 4 (.mov ff)])
 (.seq (R [o 12 (.call (.func 11) [(i 100)]), o 5 (.mov (v 12))])
 (.seq (R [o 6 (.mov (i 0))])
 (.seq (.seq (R [o 7 (.mov (i 0))])
  (.block 0 (.loop [0, 1, 5, 6, 7] (.seq (.seq (R [o 13 (.mov (v 7)), o 14 (.mov (v 0)), o 15 (.len .slice (v 14)), o 16 (.bin .lss (v 13) (v 15)), o 17 (.mov (v 16)), ot 17 18 (.mov (v 7)), ot 17 19 (.bin .lss (v 18) (i 60)), o 20 (.pick (v 17) (v 19) ff)])
     (.cond (v 20) (.skip)
     (.exit 0)))
    (.seq (.block 1 (.seq (R [o 23 (.mov (v 5)), o 24 (.mov (v 0)), o 25 (.mov (v 7)), o 26 (.indexAddr 5 (v 24) (v 25)), o 27 (.load (some 5) (v 26)), o 28 (.call (.func 12) [(v 23), (v 27)]), o 29 (.bin .eql (v 28) (i 0))])
      (.cond (v 29) (R [o 30 (.mov (v 6)), o 31 (.bin .add (v 30) (i 1)), o 6 (.mov (v 31))])
      (.skip))))
    (R [o 21 (.mov (v 7)), o 22 (.bin .add (v 21) (i 1)), o 7 (.mov (v 22))]))))))
 (.seq (R [o 32 (.mov (v 5)), o 33 (.mov (v 1)), o 34 (.call (.func 21) [(v 32), (v 33)]), o 8 (.mov (v 34))])
 (.seq (.seq (R [o 9 (.mov (i 0))])
  (.block 2 (.loop [1, 5, 6, 8, 9] (.seq (.seq (R [o 35 (.mov (v 9)), o 36 (.mov (v 8)), o 37 (.len .slice (v 36)), o 38 (.bin .lss (v 35) (v 37))])
     (.cond (v 38) (.skip)
     (.exit 2)))
    (.seq (.block 3 (.seq (R [o 41 (.mov (v 8)), o 42 (.mov (v 9)), o 43 (.indexAddr 5 (v 41) (v 42)), o 44 (.fieldAddr 4 (v 43)), o 45 (.load none (v 44)), o 46 (.bin .leq (v 45) (i 0)), o 47 (.mov (v 46)), of 47 48 (.mov (v 8)), of 47 49 (.mov (v 9)), of 47 50 (.indexAddr 5 (v 48) (v 49)), of 47 51 (.fieldAddr 4 (v 50)), of 47 52 (.load none (v 51)), of 47 53 (.mov (v 1)), of 47 54 (.bin .geq (v 52) (v 53)), o 55 (.pick (v 47) tt (v 54)), o 56 (.mov (v 55)), of 56 57 (.mov (v 5)), of 56 58 (.mov (v 8)), of 56 59 (.mov (v 9)), of 56 60 (.indexAddr 5 (v 58) (v 59)), of 56 61 (.fieldAddr 0 (v 60)), of 56 62 (.load none (v 61)), of 56 63 (.call (.func 14) [(v 57), (v 62)]), o 64 (.pick (v 56) tt (v 63))])
      (.cond (v 64) (.seq (R [o 4 (.mov ff)])
       (.ret))
      (.skip))))
    (R [o 39 (.mov (v 9)), o 40 (.bin .add (v 39) (i 1)), o 9 (.mov (v 40))]))))))
 (.seq (R [o 65 (.mov (v 5)), o 66 (.call (.func 23) [(v 65)]), o 10 (.mov (v 66))])
 (.seq (.seq (R [o 11 (.mov (i 0))])
  (.block 4 (.loop [1, 5, 6, 8, 10, 11] (.seq (.seq (R [o 67 (.mov (v 11)), o 68 (.mov (v 10)), o 69 (.len .slice (v 68)), o 70 (.bin .lss (v 67) (v 69))])
     (.cond (v 70) (.skip)
     (.exit 4)))
    (.seq (.block 5 (.seq (R [o 73 (.mov (v 10)), o 74 (.mov (v 11)), o 75 (.indexAddr 5 (v 73) (v 74)), o 76 (.fieldAddr 4 (v 75)), o 77 (.load none (v 76)), o 78 (.bin .gtr (v 77) (i 0)), o 79 (.mov (v 78)), ot 79 80 (.mov (v 10)), ot 79 81 (.mov (v 11)), ot 79 82 (.indexAddr 5 (v 80) (v 81)), ot 79 83 (.fieldAddr 4 (v 82)), ot 79 84 (.load none (v 83)), ot 79 85 (.mov (v 1)), ot 79 86 (.bin .lss (v 84) (v 85)), o 87 (.pick (v 79) (v 86) ff), o 88 (.mov (v 87)), of 88 89 (.mov (v 11)), of 88 90 (.bin .gtr (v 89) (i 0)), of 88 91 (.mov (v 90)), ot 91 92 (.mov (v 10)), ot 91 93 (.mov (v 11)), ot 91 94 (.bin .sub (v 93) (i 1)), ot 91 95 (.indexAddr 5 (v 92) (v 94)), ot 91 96 (.load (some 5) (v 95)), ot 91 97 (.mov (v 10)), ot 91 98 (.mov (v 11)), ot 91 99 (.indexAddr 5 (v 97) (v 98)), ot 91 100 (.load (some 5) (v 99)), ot 91 101 (.call (.func 24) [(v 96), (v 100)]), ot 91 102 (.un .not (v 101)), of 88 103 (.pick (v 91) (v 102) ff), o 104 (.pick (v 88) tt (v 103))])
      (.cond (v 104) (.seq (R [o 4 (.mov ff)])
       (.ret))
      (.skip))))
    (R [o 71 (.mov (v 11)), o 72 (.bin .add (v 71) (i 1)), o 11 (.mov (v 72))]))))))
 (.seq (R [o 105 (.call (.func 15) []), o 106 (.mov (v 105)), ot 106 107 (.mov (v 8)), ot 106 108 (.len .slice (v 107)), ot 106 109 (.mov (v 10)), ot 106 110 (.len .slice (v 109)), ot 106 111 (.bin .add (v 108) (v 110)), ot 106 112 (.mov (v 6)), ot 106 113 (.bin .eql (v 111) (v 112)), o 114 (.pick (v 106) (v 113) ff), o 115 (.mov (v 114)), ot 115 116 (.mov (v 5)), ot 115 117 (.mov (v 1)), ot 115 118 (.call (.func 21) [(v 116), (v 117)]), ot 115 119 (.len .slice (v 118)), ot 115 120 (.bin .eql (v 119) (i 0)), o 121 (.pick (v 115) (v 120) ff), o 122 (.mov (v 121)), ot 122 123 (.mov (v 5)), ot 122 124 (.call (.func 23) [(v 123)]), ot 122 125 (.mov (v 10)), ot 122 126 (.call (.func 20) [(v 124), (v 125)]), o 127 (.pick (v 122) (v 126) ff), o 4 (.mov (v 127))])
 (.ret)))))))))
def fun6 : AFun := ⟨2, code6, [.tmp 4], 0⟩
theorem comp6 : FunOK Try.prog 6 fun6 :=
  FunOK.of Try.func6 [[0, 1, 5, 6, 7], [1, 5, 6, 8, 9], [1, 5, 6, 8, 10, 11]] [] (by kernel_rfl) (by kernel_rfl) (by decide +kernel) (by kernel_rfl)

/- decorum/queue.New -/
def code11 : ACode :=
 .seq (R [o 2 (.mov (.const (.pointer none)))])
 (.seq (R [o 3 (.mov (v 0)), o 4 (.minmax true [(v 3), (i 0)]), o 5 (.build [(.int .i64 0), (.slice none 0 0)] [(0, 1, (v 4))]), o 6 (.box 80 (v 5)), o 2 (.mov (v 6))])
 (.ret))
def fun11 : AFun := ⟨1, code11, [.tmp 2], 0⟩
theorem comp11 : FunOK Try.prog 11 fun11 :=
  FunOK.of Try.func11 [] [] (by kernel_rfl) (by kernel_rfl) (by decide +kernel) (by kernel_rfl)

/- (*decorum/queue.Queue).Push -/
def code12 : ACode :=
 .seq (R [o 3 (.box 28 (v 1)), o 4 (.mov (i 0))])
 (.seq (.block 0 (.seq (R [o 6 (.mov (v 0)), o 7 (.eq false .pointer (v 6) (.const (.pointer none))), o 5 (.mov (v 7))])
   (.cond (v 5) (.seq (R [o 4 (.mov (i 1))])
    (.ret))
   (.seq (R [o 9 (.mov (v 0)), o 10 (.nilCheck (v 9)), o 11 (.fieldAddr 1 (v 10)), o 12 (.fieldAddr 0 (v 3)), o 13 (.load none (v 12)), o 14 (.call (.func 40) [(v 11), (v 13)]), o 15 (.bin .geq (v 14) (i 0)), o 8 (.mov (v 15))])
    (.cond (v 8) (.seq (R [o 4 (.mov (i 10))])
     (.ret))
    (.seq (R [o 17 (.mov (v 0)), o 18 (.nilCheck (v 17)), o 19 (.fieldAddr 1 (v 18)), o 20 (.fieldAddr 0 (v 19)), o 21 (.load none (v 20)), o 22 (.len .slice (v 21)), o 23 (.mov (v 0)), o 24 (.nilCheck (v 23)), o 25 (.fieldAddr 0 (v 24)), o 26 (.load none (v 25)), o 27 (.bin .geq (v 22) (v 26)), o 16 (.mov (v 27))])
     (.cond (v 16) (.seq (R [o 4 (.mov (i 5))])
      (.ret))
     (.skip))))))))
 (.seq (R [o 28 (.mov (v 0)), o 29 (.load (some 5) (v 3)), o 30 (.call (.func 18) [(v 28), (v 29)])])
 (.seq (R [o 4 (.mov (i 0))])
 (.ret))))
def fun12 : AFun := ⟨2, code12, [.tmp 4], 0⟩
theorem comp12 : FunOK Try.prog 12 fun12 :=
  FunOK.of Try.func12 [] [] (by kernel_rfl) (by kernel_rfl) (by decide +kernel) (by kernel_rfl)

/- (*decorum/queue.Queue).First -/
def code13 : ACode :=
 .seq (R [o 2 (.alloc 28 [(.int .i64 0), (.string ⟨#[]⟩), (.string ⟨#[]⟩), (.int .i64 0), (.int .i64 0)]), o 3 (.mov ff)])
 (.seq (.seq (R [o 4 (.mov (v 0)), o 5 (.call (.func 22) [(v 4)]), o 6 (.bin .eql (v 5) (i 0))])
  (.cond (v 6) (.seq (R [o 7 (.build [(.int .i64 0), (.string ⟨#[]⟩), (.string ⟨#[]⟩), (.int .i64 0), (.int .i64 0)] []), on (.store 5 (v 2) (v 7)), o 3 (.mov ff)])
   (.ret))
  (.skip)))
 (.seq (R [o 8 (.mov (v 0)), o 9 (.nilCheck (v 8)), o 10 (.fieldAddr 1 (v 9)), o 11 (.fieldAddr 0 (v 10)), o 12 (.load none (v 11)), o 13 (.indexAddr 5 (v 12) (i 0)), o 14 (.load (some 5) (v 13)), on (.store 5 (v 2) (v 14)), o 3 (.mov tt)])
 (.ret)))
def fun13 : AFun := ⟨1, code13, [.cell 2 (some 5), .tmp 3], 1⟩
theorem comp13 : FunOK Try.prog 13 fun13 :=
  FunOK.of Try.func13 [] [] (by kernel_rfl) (by kernel_rfl) (by decide +kernel) (by kernel_rfl)

/- (*decorum/queue.Queue).Drop -/
def code14 : ACode :=
 .seq (R [o 4 (.mov ff)])
 (.seq (.seq (R [o 6 (.mov (v 0)), o 7 (.eq false .pointer (v 6) (.const (.pointer none))), o 8 (.mov (v 7)), of 8 9 (.mov (v 0)), of 8 10 (.nilCheck (v 9)), of 8 11 (.fieldAddr 1 (v 10)), of 8 12 (.mov (v 1)), of 8 13 (.call (.func 40) [(v 11), (v 12)]), of 8 14 (.bin .lss (v 13) (i 0)), o 15 (.pick (v 8) tt (v 14))])
  (.cond (v 15) (.seq (R [o 4 (.mov ff)])
   (.ret))
  (.skip)))
 (.seq (R [o 16 (.mov (v 0)), o 17 (.nilCheck (v 16)), o 18 (.fieldAddr 1 (v 17)), o 19 (.mov (v 1)), o 20 (.call (.func 40) [(v 18), (v 19)]), o 5 (.mov (v 20))])
 (.seq (R [o 21 (.mov (v 0)), o 22 (.mov (v 0)), o 23 (.nilCheck (v 22)), o 24 (.fieldAddr 1 (v 23)), o 25 (.fieldAddr 0 (v 24)), o 26 (.load none (v 25)), o 27 (.mov (v 5)), o 28 (.mov (v 5)), o 29 (.bin .add (v 28) (i 1)), o 30 (.call (.func 41) [(v 26), (v 27), (v 29)]), o 31 (.nilCheck (v 21)), o 32 (.fieldAddr 1 (v 31)), o 33 (.fieldAddr 0 (v 32)), on (.store 1 (v 33) (v 30))])
 (.seq (R [o 4 (.mov tt)])
 (.ret)))))
def fun14 : AFun := ⟨2, code14, [.tmp 4], 0⟩
theorem comp14 : FunOK Try.prog 14 fun14 :=
  FunOK.of Try.func14 [] [] (by kernel_rfl) (by kernel_rfl) (by decide +kernel) (by kernel_rfl)

/- decorum/decorumlaw16.awake -/
def code15 : ACode :=
 .seq (R [o 0 (.mov ff)])
 (.seq (R [o 10 (.call (.func 11) [(i 2)]), o 1 (.mov (v 10))])
 (.seq (R [o 11 (.mov (v 1)), o 12 (.build [(.int .i64 0), (.string ⟨#[]⟩), (.string ⟨#[]⟩), (.int .i64 0), (.int .i64 0)] [(0, 1, (i 5)), (3, 1, (i 1))]), o 13 (.call (.func 12) [(v 11), (v 12)]), o 2 (.mov (v 13))])
 (.seq (R [o 14 (.mov (v 1)), o 15 (.build [(.int .i64 0), (.string ⟨#[]⟩), (.string ⟨#[]⟩), (.int .i64 0), (.int .i64 0)] [(0, 1, (i 7))]), o 16 (.call (.func 12) [(v 14), (v 15)]), o 3 (.mov (v 16))])
 (.seq (R [o 17 (.mov (v 1)), o 18 (.build [(.int .i64 0), (.string ⟨#[]⟩), (.string ⟨#[]⟩), (.int .i64 0), (.int .i64 0)] [(0, 1, (i 8))]), o 19 (.call (.func 12) [(v 17), (v 18)]), o 4 (.mov (v 19))])
 (.seq (R [o 20 (.mov (v 1)), o 21 (.build [(.int .i64 0), (.string ⟨#[]⟩), (.string ⟨#[]⟩), (.int .i64 0), (.int .i64 0)] [(0, 1, (i 5))]), o 22 (.call (.func 12) [(v 20), (v 21)]), o 5 (.mov (v 22))])
 (.seq (R [o 23 (.mov (v 1)), o 24 (.build [(.int .i64 0), (.string ⟨#[]⟩), (.string ⟨#[]⟩), (.int .i64 0), (.int .i64 0)] [(0, 1, (i 1)), (3, 1, (i 1)), (4, 1, (i 3))]), o 25 (.call (.func 18) [(v 23), (v 24)]), o 6 (.mov (v 25))])
 (.seq (R [o 27 (.mov (v 1)), o 28 (.call (.func 13) [(v 27)]), o 26 (.mov (v 28)), o 29 (.extract (v 26) 0), o 30 (.extract (v 26) 1), o 7 (.alloc 28 [(.int .i64 0), (.string ⟨#[]⟩), (.string ⟨#[]⟩), (.int .i64 0), (.int .i64 0)]), on (.store 5 (v 7) (v 29)), o 8 (.mov (v 30))])
 (.seq (R [o 31 (.mov (v 1)), o 32 (.call (.func 21) [(v 31), (i 4)]), o 9 (.mov (v 32))])
 (.seq (R [o 33 (.mov (v 2)), o 34 (.bin .eql (v 33) (i 0)), o 35 (.mov (v 34)), ot 35 36 (.mov (v 3)), ot 35 37 (.bin .eql (v 36) (i 0)), o 38 (.pick (v 35) (v 37) ff), o 39 (.mov (v 38)), ot 39 40 (.mov (v 4)), ot 39 41 (.bin .eql (v 40) (i 5)), o 42 (.pick (v 39) (v 41) ff), o 43 (.mov (v 42)), ot 43 44 (.mov (v 5)), ot 43 45 (.bin .eql (v 44) (i 10)), o 46 (.pick (v 43) (v 45) ff), o 47 (.mov (v 46)), ot 47 48 (.mov (v 6)), o 49 (.pick (v 47) (v 48) ff), o 50 (.mov (v 49)), ot 50 51 (.mov (v 8)), o 52 (.pick (v 50) (v 51) ff), o 53 (.mov (v 52)), ot 53 54 (.fieldAddr 0 (v 7)), ot 53 55 (.load none (v 54)), ot 53 56 (.bin .eql (v 55) (i 7)), o 57 (.pick (v 53) (v 56) ff), o 58 (.mov (v 57)), ot 58 59 (.mov (v 9)), ot 58 60 (.len .slice (v 59)), ot 58 61 (.bin .eql (v 60) (i 1)), o 62 (.pick (v 58) (v 61) ff), o 63 (.mov (v 62)), ot 63 64 (.mov (v 9)), ot 63 65 (.indexAddr 5 (v 64) (i 0)), ot 63 66 (.fieldAddr 0 (v 65)), ot 63 67 (.load none (v 66)), ot 63 68 (.bin .eql (v 67) (i 1)), o 69 (.pick (v 63) (v 68) ff), o 70 (.mov (v 69)), ot 70 71 (.mov (v 1)), ot 70 72 (.call (.func 22) [(v 71)]), ot 70 73 (.bin .eql (v 72) (i 2)), o 74 (.pick (v 70) (v 73) ff), o 75 (.mov (v 74)), ot 75 76 (.load (some 5) (v 7)), ot 75 77 (.load (some 5) (v 7)), ot 75 78 (.call (.func 42) [(v 76), (v 77)]), o 79 (.pick (v 75) (v 78) ff), o 80 (.mov (v 79)), ot 80 81 (.load (some 5) (v 7)), ot 80 82 (.build [(.int .i64 0), (.string ⟨#[]⟩), (.string ⟨#[]⟩), (.int .i64 0), (.int .i64 0)] [(3, 1, (i 1))]), ot 80 83 (.call (.func 24) [(v 81), (v 82)]), o 84 (.pick (v 80) (v 83) ff), o 0 (.mov (v 84))])
 (.ret))))))))))
def fun15 : AFun := ⟨0, code15, [.tmp 0], 0⟩
theorem comp15 : FunOK Try.prog 15 fun15 :=
  FunOK.of Try.func15 [] [] (by kernel_rfl) (by kernel_rfl) (by decide +kernel) (by kernel_rfl)

/- decorum/decorumref16.At -/
def code16 : ACode :=
 .seq (R [o 4 (.mov (i 0))])
 (.seq (.seq (R [o 5 (.mov (i 0))])
  (.block 0 (.loop [0, 1, 5] (.seq (.seq (R [o 6 (.mov (v 5)), o 7 (.mov (v 0)), o 8 (.len .slice (v 7)), o 9 (.bin .lss (v 6) (v 8))])
     (.cond (v 9) (.skip)
     (.exit 0)))
    (.seq (.block 1 (.seq (R [o 12 (.mov (v 0)), o 13 (.mov (v 5)), o 14 (.indexAddr 5 (v 12) (v 13)), o 15 (.fieldAddr 0 (v 14)), o 16 (.load none (v 15)), o 17 (.mov (v 1)), o 18 (.bin .eql (v 16) (v 17))])
      (.cond (v 18) (.seq (R [o 19 (.mov (v 5)), o 4 (.mov (v 19))])
       (.ret))
      (.skip))))
    (R [o 10 (.mov (v 5)), o 11 (.bin .add (v 10) (i 1)), o 5 (.mov (v 11))]))))))
 (.seq (R [o 4 (.mov (i (-1)))])
 (.ret)))
def fun16 : AFun := ⟨2, code16, [.tmp 4], 0⟩
theorem comp16 : FunOK Try.prog 16 fun16 :=
  FunOK.of Try.func16 [[0, 1, 5]] [] (by kernel_rfl) (by kernel_rfl) (by decide +kernel) (by kernel_rfl)

/- decorum/decorumref16.Insert -/
def code17 : ACode :=
 .seq (R [o 3 (.box 28 (v 1)), o 4 (.mov (.const (.slice none 0 0)))])
 (.seq (R [o 5 (.mov (i 0))])
 (.seq (.block 0 (.loop [0, 3, 5] (.seq (.seq (R [o 6 (.mov (v 5)), o 7 (.mov (v 0)), o 8 (.len .slice (v 7)), o 9 (.bin .lss (v 6) (v 8)), o 10 (.mov (v 9)), ot 10 11 (.mov (v 0)), ot 10 12 (.mov (v 5)), ot 10 13 (.indexAddr 5 (v 11) (v 12)), ot 10 14 (.load (some 5) (v 13)), ot 10 15 (.load (some 5) (v 3)), ot 10 16 (.call (.func 24) [(v 14), (v 15)]), o 17 (.pick (v 10) (v 16) ff)])
     (.cond (v 17) (.skip)
     (.exit 0)))
    (.block 1 (R [o 18 (.mov (v 5)), o 19 (.bin .add (v 18) (i 1)), o 5 (.mov (v 19))])))))
 (.seq (D [o 20 (.buildSlice 28 5 0 [] []), o 21 (.mov (v 0)), o 22 (.mov (v 5)), o 23 (.slice (.slice 5) (v 21) none (some (v 22)) none), o 24 (.append 28 5 56 (v 20) (v 23)), o 25 (.load (some 5) (v 3)), o 26 (.buildSlice 28 5 1 [(.int .i64 0), (.string ⟨#[]⟩), (.string ⟨#[]⟩), (.int .i64 0), (.int .i64 0)] [(0, 5, (v 25))]), o 27 (.append 28 5 56 (v 24) (v 26)), o 28 (.mov (v 0)), o 29 (.mov (v 5)), o 30 (.slice (.slice 5) (v 28) (some (v 29)) none none), o 31 (.append 28 5 56 (v 27) (v 30)), o 4 (.mov (v 31))] ⟨[(4, 5), (4, 6), (4, 10), (7, 10)], []⟩)
 (.ret))))
def fun17 : AFun := ⟨2, code17, [.tmp 4], 0⟩
theorem comp17 : FunOK Try.prog 17 fun17 :=
  FunOK.of Try.func17 [[0, 3, 5]] [⟨[(4, 5), (4, 6), (4, 10), (7, 10)], []⟩] (by kernel_rfl) (by kernel_rfl) (by decide +kernel) (by kernel_rfl)

/- (*decorum/queue.Queue).Back -/
def code18 : ACode :=
 .seq (R [o 3 (.box 28 (v 1)), o 4 (.mov ff)])
 (.seq (.seq (R [o 7 (.mov (v 0)), o 8 (.eq false .pointer (v 7) (.const (.pointer none))), o 9 (.mov (v 8)), of 9 10 (.mov (v 0)), of 9 11 (.nilCheck (v 10)), of 9 12 (.fieldAddr 1 (v 11)), of 9 13 (.fieldAddr 0 (v 3)), of 9 14 (.load none (v 13)), of 9 15 (.call (.func 40) [(v 12), (v 14)]), of 9 16 (.bin .geq (v 15) (i 0)), o 17 (.pick (v 9) tt (v 16))])
  (.cond (v 17) (.seq (R [o 4 (.mov ff)])
   (.ret))
  (.skip)))
 (.seq (R [o 19 (.mov (v 0)), o 20 (.nilCheck (v 19)), o 21 (.fieldAddr 1 (v 20)), o 22 (.fieldAddr 0 (v 21)), o 23 (.load none (v 22)), o 24 (.load (some 5) (v 3)), o 25 (.call (.func 43) [(v 23), (v 24), (.func 44)]), o 18 (.mov (v 25)), o 26 (.extract (v 18) 0), o 27 (.extract (v 18) 1), o 5 (.mov (v 26)), o 6 (.mov (v 27))])
 (.seq (R [o 28 (.mov (v 0)), o 29 (.mov (v 0)), o 30 (.nilCheck (v 29)), o 31 (.fieldAddr 1 (v 30)), o 32 (.fieldAddr 0 (v 31)), o 33 (.load none (v 32)), o 34 (.mov (v 5)), o 35 (.load (some 5) (v 3)), o 36 (.buildSlice 28 5 1 [(.int .i64 0), (.string ⟨#[]⟩), (.string ⟨#[]⟩), (.int .i64 0), (.int .i64 0)] [(0, 5, (v 35))]), o 37 (.call (.func 45) [(v 33), (v 34), (v 36)]), o 38 (.nilCheck (v 28)), o 39 (.fieldAddr 1 (v 38)), o 40 (.fieldAddr 0 (v 39)), on (.store 1 (v 40) (v 37))])
 (.seq (R [o 4 (.mov tt)])
 (.ret)))))
def fun18 : AFun := ⟨2, code18, [.tmp 4], 0⟩
theorem comp18 : FunOK Try.prog 18 fun18 :=
  FunOK.of Try.func18 [] [] (by kernel_rfl) (by kernel_rfl) (by decide +kernel) (by kernel_rfl)

/- decorum/decorumref16.Without -/
def code19 : ACode :=
 .seq (R [o 4 (.mov (.const (.slice none 0 0)))])
 (.seq (D [o 5 (.buildSlice 28 5 0 [] []), o 6 (.mov (v 0)), o 7 (.mov (v 1)), o 8 (.slice (.slice 5) (v 6) none (some (v 7)) none), o 9 (.append 28 5 56 (v 5) (v 8)), o 10 (.mov (v 0)), o 11 (.mov (v 1)), o 12 (.bin .add (v 11) (i 1)), o 13 (.slice (.slice 5) (v 10) (some (v 12)) none none), o 14 (.append 28 5 56 (v 9) (v 13)), o 4 (.mov (v 14))] ⟨[(4, 8)], []⟩)
 (.ret))
def fun19 : AFun := ⟨2, code19, [.tmp 4], 0⟩
theorem comp19 : FunOK Try.prog 19 fun19 :=
  FunOK.of Try.func19 [] [⟨[(4, 8)], []⟩] (by kernel_rfl) (by kernel_rfl) (by decide +kernel) (by kernel_rfl)

/- decorum/decorumref13.Reqs -/
def code20 : ACode :=
 .seq (R [o 4 (.mov ff)])
 (.seq (.seq (R [o 6 (.mov (v 0)), o 7 (.len .slice (v 6)), o 8 (.mov (v 1)), o 9 (.len .slice (v 8)), o 10 (.bin .neq (v 7) (v 9))])
  (.cond (v 10) (.seq (R [o 4 (.mov ff)])
   (.ret))
  (.skip)))
 (.seq (.seq (R [o 5 (.mov (i 0))])
  (.block 0 (.loop [0, 1, 5] (.seq (.seq (R [o 11 (.mov (v 5)), o 12 (.mov (v 0)), o 13 (.len .slice (v 12)), o 14 (.bin .lss (v 11) (v 13))])
     (.cond (v 14) (.skip)
     (.exit 0)))
    (.seq (.block 1 (.seq (R [o 17 (.mov (v 0)), o 18 (.mov (v 5)), o 19 (.indexAddr 5 (v 17) (v 18)), o 20 (.load (some 5) (v 19)), o 21 (.mov (v 1)), o 22 (.mov (v 5)), o 23 (.indexAddr 5 (v 21) (v 22)), o 24 (.load (some 5) (v 23)), o 25 (.eq true (.plain [.int, .string, .string, .int, .int]) (v 20) (v 24))])
      (.cond (v 25) (.seq (R [o 4 (.mov ff)])
       (.ret))
      (.skip))))
    (R [o 15 (.mov (v 5)), o 16 (.bin .add (v 15) (i 1)), o 5 (.mov (v 16))]))))))
 (.seq (R [o 4 (.mov tt)])
 (.ret))))
def fun20 : AFun := ⟨2, code20, [.tmp 4], 0⟩
theorem comp20 : FunOK Try.prog 20 fun20 :=
  FunOK.of Try.func20 [[0, 1, 5]] [] (by kernel_rfl) (by kernel_rfl) (by decide +kernel) (by kernel_rfl)

/- (*decorum/queue.Queue).Late -/
def code21 : ACode :=
 .seq (R [o 4 (.mov (.const (.slice none 0 0)))])
 (.seq (.seq (R [o 9 (.mov (v 0)), o 10 (.eq false .pointer (v 9) (.const (.pointer none)))])
  (.cond (v 10) (.seq (R [o 4 (.mov (.const (.slice none 0 0)))])
   (.ret))
  (.skip)))
 (.seq (R [o 5 (.mov (.const (.slice none 0 0))), o 6 (.mov (.const (.slice none 0 0)))])
 (.seq (.seq (R [o 11 (.mov (v 0)), o 12 (.nilCheck (v 11)), o 13 (.fieldAddr 1 (v 12)), o 14 (.fieldAddr 0 (v 13)), o 15 (.load none (v 14)), o 16 (.len .slice (v 15)), o 17 (.mov (i 0))])
  (.block 0 (.loop [0, 1, 5, 6, 15, 16, 17] (.seq (R [o 18 (.bin .lss (v 17) (v 16))])
    (.seq (.cond (v 18) (.skip)
     (.exit 0))
    (.seq (.block 1 (.seq (R [o 19 (.indexAddr 5 (v 15) (v 17)), o 20 (.load (some 5) (v 19)), o 8 (.alloc 28 [(.int .i64 0), (.string ⟨#[]⟩), (.string ⟨#[]⟩), (.int .i64 0), (.int .i64 0)]), on (.store 5 (v 8) (v 20))])
      (.seq (R [o 21 (.fieldAddr 4 (v 8)), o 22 (.load none (v 21)), o 23 (.bin .gtr (v 22) (i 0)), o 24 (.mov (v 23)), ot 24 25 (.fieldAddr 4 (v 8)), ot 24 26 (.load none (v 25)), ot 24 27 (.mov (v 1)), ot 24 28 (.bin .lss (v 26) (v 27)), o 29 (.pick (v 24) (v 28) ff)])
      (.cond (v 29) (R [o 30 (.mov (v 5)), o 31 (.load (some 5) (v 8)), o 32 (.buildSlice 28 5 1 [(.int .i64 0), (.string ⟨#[]⟩), (.string ⟨#[]⟩), (.int .i64 0), (.int .i64 0)] [(0, 5, (v 31))]), o 33 (.append 28 5 56 (v 30) (v 32)), o 5 (.mov (v 33))])
      (R [o 34 (.mov (v 6)), o 35 (.load (some 5) (v 8)), o 36 (.buildSlice 28 5 1 [(.int .i64 0), (.string ⟨#[]⟩), (.string ⟨#[]⟩), (.int .i64 0), (.int .i64 0)] [(0, 5, (v 35))]), o 37 (.append 28 5 56 (v 34) (v 36)), o 6 (.mov (v 37))])))))
    (R [o 38 (.bin .add (v 17) (i 1)), o 17 (.mov (v 38))])))))))
 (.seq (R [o 39 (.mov (v 0)), o 40 (.mov (v 6)), o 41 (.nilCheck (v 39)), o 42 (.fieldAddr 1 (v 41)), o 43 (.fieldAddr 0 (v 42)), on (.store 1 (v 43) (v 40))])
 (.seq (R [o 44 (.mov (v 5)), o 4 (.mov (v 44))])
 (.ret))))))
def fun21 : AFun := ⟨2, code21, [.tmp 4], 0⟩
theorem comp21 : FunOK Try.prog 21 fun21 :=
  FunOK.of Try.func21 [[0, 1, 5, 6, 15, 16, 17]] [] (by kernel_rfl) (by kernel_rfl) (by decide +kernel) (by kernel_rfl)

/- (*decorum/queue.Queue).Len -/
def code22 : ACode :=
 .seq (R [o 2 (.mov (i 0))])
 (.seq (.seq (R [o 3 (.mov (v 0)), o 4 (.eq false .pointer (v 3) (.const (.pointer none)))])
  (.cond (v 4) (.seq (R [o 2 (.mov (i 0))])
   (.ret))
  (.skip)))
 (.seq (R [o 5 (.mov (v 0)), o 6 (.nilCheck (v 5)), o 7 (.fieldAddr 1 (v 6)), o 8 (.fieldAddr 0 (v 7)), o 9 (.load none (v 8)), o 10 (.len .slice (v 9)), o 2 (.mov (v 10))])
 (.ret)))
def fun22 : AFun := ⟨1, code22, [.tmp 2], 0⟩
theorem comp22 : FunOK Try.prog 22 fun22 :=
  FunOK.of Try.func22 [] [] (by kernel_rfl) (by kernel_rfl) (by decide +kernel) (by kernel_rfl)

/- (*decorum/queue.Queue).All -/
def code23 : ACode :=
 .seq (R [o 2 (.mov (.const (.slice none 0 0)))])
 (.seq (.seq (R [o 3 (.mov (v 0)), o 4 (.eq false .pointer (v 3) (.const (.pointer none)))])
  (.cond (v 4) (.seq (R [o 2 (.mov (.const (.slice none 0 0)))])
   (.ret))
  (.skip)))
 (.seq (R [o 5 (.mov (v 0)), o 6 (.nilCheck (v 5)), o 7 (.fieldAddr 1 (v 6)), o 8 (.fieldAddr 0 (v 7)), o 9 (.load none (v 8)), o 10 (.call (.func 47) [(v 9)]), o 11 (.call (.func 46) [(v 10)]), o 2 (.mov (v 11))])
 (.ret)))
def fun23 : AFun := ⟨1, code23, [.tmp 2], 0⟩
theorem comp23 : FunOK Try.prog 23 fun23 :=
  FunOK.of Try.func23 [] [] (by kernel_rfl) (by kernel_rfl) (by decide +kernel) (by kernel_rfl)

/- decorum/decorumref16.Before -/
def code24 : ACode :=
 .seq (R [o 2 (.box 28 (v 0)), o 3 (.box 28 (v 1)), o 4 (.mov ff)])
 (.seq (R [o 5 (.fieldAddr 3 (v 2)), o 6 (.load none (v 5)), o 7 (.fieldAddr 3 (v 3)), o 8 (.load none (v 7)), o 9 (.bin .lss (v 6) (v 8)), o 10 (.mov (v 9)), of 10 11 (.fieldAddr 3 (v 2)), of 10 12 (.load none (v 11)), of 10 13 (.fieldAddr 3 (v 3)), of 10 14 (.load none (v 13)), of 10 15 (.bin .eql (v 12) (v 14)), of 10 16 (.mov (v 15)), ot 16 17 (.fieldAddr 0 (v 2)), ot 16 18 (.load none (v 17)), ot 16 19 (.fieldAddr 0 (v 3)), ot 16 20 (.load none (v 19)), ot 16 21 (.bin .lss (v 18) (v 20)), of 10 22 (.pick (v 16) (v 21) ff), o 23 (.pick (v 10) tt (v 22)), o 4 (.mov (v 23))])
 (.ret))
def fun24 : AFun := ⟨2, code24, [.tmp 4], 1⟩
theorem comp24 : FunOK Try.prog 24 fun24 :=
  FunOK.of Try.func24 [] [] (by kernel_rfl) (by kernel_rfl) (by decide +kernel) (by kernel_rfl)

/- (*decorum/queue.rows).at -/
def code40 : ACode :=
 .seq (R [o 3 (.box 3 (v 1)), o 4 (.mov (i 0))])
 (.seq (R [o 5 (.mov (v 0)), o 6 (.nilCheck (v 5)), o 7 (.fieldAddr 0 (v 6)), o 8 (.load none (v 7)), o 9 (.mkFunc (.func 58) [] [(v 3)]), o 10 (.call (.func 57) [(v 8), (v 9)]), o 4 (.mov (v 10))])
 (.ret))
def fun40 : AFun := ⟨2, code40, [.tmp 4], 1⟩
theorem comp40 : FunOK Try.prog 40 fun40 :=
  FunOK.of Try.func40 [] [] (by kernel_rfl) (by kernel_rfl) (by decide +kernel) (by kernel_rfl)

/- slices.Delete[[]decorum/api.Req,decorum/api.Req] -/
def code41 : ACode :=
 .seq (R [o 6 (.mov (.const (.slice none 0 0)))])
 (.seq (R [o 8 (.mov (v 0)), o 9 (.mov (v 1)), o 10 (.mov (v 2)), o 11 (.mov (v 0)), o 12 (.len .slice (v 11)), o 13 (.slice (.slice 5) (v 8) (some (v 9)) (some (v 10)) (some (v 12)))])
 (.seq (.seq (R [o 14 (.mov (v 1)), o 15 (.mov (v 2)), o 16 (.bin .eql (v 14) (v 15))])
  (.cond (v 16) (.seq (R [o 17 (.mov (v 0)), o 6 (.mov (v 17))])
   (.ret))
  (.skip)))
 (.seq (R [o 18 (.mov (v 0)), o 19 (.len .slice (v 18)), o 7 (.mov (v 19))])
 (.seq (R [o 20 (.mov (v 0)), o 21 (.mov (v 1)), o 22 (.slice (.slice 5) (v 20) none (some (v 21)) none), o 23 (.mov (v 0)), o 24 (.mov (v 2)), o 25 (.slice (.slice 5) (v 23) (some (v 24)) none none), o 26 (.append 28 5 56 (v 22) (v 25)), o 0 (.mov (v 26))])
 (.seq (R [o 27 (.mov (v 0)), o 28 (.mov (v 0)), o 29 (.len .slice (v 28)), o 30 (.mov (v 7)), o 31 (.slice (.slice 5) (v 27) (some (v 29)) (some (v 30)) none), on (.clear 5 [(.int .i64 0), (.string ⟨#[]⟩), (.string ⟨#[]⟩), (.int .i64 0), (.int .i64 0)] (v 31))])
 (.seq (R [o 32 (.mov (v 0)), o 6 (.mov (v 32))])
 (.ret)))))))
def fun41 : AFun := ⟨3, code41, [.tmp 6], 0⟩
theorem comp41 : FunOK Try.prog 41 fun41 :=
  FunOK.of Try.func41 [] [] (by kernel_rfl) (by kernel_rfl) (by decide +kernel) (by kernel_rfl)

/- decorum/decorumref13.Req -/
def code42 : ACode :=
 .seq (R [o 2 (.box 28 (v 0)), o 3 (.box 28 (v 1)), o 4 (.mov ff)])
 (.seq (R [o 5 (.load (some 5) (v 2)), o 6 (.load (some 5) (v 3)), o 7 (.eq false (.plain [.int, .string, .string, .int, .int]) (v 5) (v 6)), o 4 (.mov (v 7))])
 (.ret))
def fun42 : AFun := ⟨2, code42, [.tmp 4], 1⟩
theorem comp42 : FunOK Try.prog 42 fun42 :=
  FunOK.of Try.func42 [] [] (by kernel_rfl) (by kernel_rfl) (by decide +kernel) (by kernel_rfl)

/- slices.BinarySearchFunc[[]decorum/api.Req,decorum/api.Req,decorum/api.Req] -/
def code43 : ACode :=
 .seq (R [o 4 (.box 28 (v 1)), o 6 (.mov (i 0)), o 7 (.mov ff)])
 (.seq (R [o 12 (.mov (v 0)), o 13 (.len .slice (v 12)), o 8 (.mov (v 13))])
 (.seq (R [o 14 (.mov (v 8)), o 9 (.mov (i 0)), o 10 (.mov (v 14))])
 (.seq (.block 0 (.loop [0, 2, 4, 8, 9, 10] (.seq (.seq (R [o 15 (.mov (v 9)), o 16 (.mov (v 10)), o 17 (.bin .lss (v 15) (v 16))])
     (.cond (v 17) (.skip)
     (.exit 0)))
    (.block 1 (.seq (R [o 18 (.mov (v 9)), o 19 (.mov (v 10)), o 20 (.bin .add (v 18) (v 19)), o 21 (.conv (.int .u64) (v 20)), o 22 (.bin .shr (v 21) (.const (.int .u64 1))), o 23 (.conv (.int .i64) (v 22)), o 11 (.mov (v 23))])
     (.seq (R [o 24 (.mov (v 2)), o 25 (.mov (v 0)), o 26 (.mov (v 11)), o 27 (.indexAddr 5 (v 25) (v 26)), o 28 (.load (some 5) (v 27)), o 29 (.load (some 5) (v 4)), o 30 (.call (v 24) [(v 28), (v 29)]), o 31 (.bin .lss (v 30) (i 0))])
     (.cond (v 31) (R [o 32 (.mov (v 11)), o 33 (.bin .add (v 32) (i 1)), o 9 (.mov (v 33))])
     (R [o 34 (.mov (v 11)), o 10 (.mov (v 34))]))))))))
 (.seq (R [o 35 (.mov (v 9)), o 36 (.mov (v 9)), o 37 (.mov (v 8)), o 38 (.bin .lss (v 36) (v 37)), o 39 (.mov (v 38)), ot 39 40 (.mov (v 2)), ot 39 41 (.mov (v 0)), ot 39 42 (.mov (v 9)), ot 39 43 (.indexAddr 5 (v 41) (v 42)), ot 39 44 (.load (some 5) (v 43)), ot 39 45 (.load (some 5) (v 4)), ot 39 46 (.call (v 40) [(v 44), (v 45)]), ot 39 47 (.bin .eql (v 46) (i 0)), o 48 (.pick (v 39) (v 47) ff), o 6 (.mov (v 35)), o 7 (.mov (v 48))])
 (.ret)))))
def fun43 : AFun := ⟨3, code43, [.tmp 6, .tmp 7], 1⟩
theorem comp43 : FunOK Try.prog 43 fun43 :=
  FunOK.of Try.func43 [[0, 2, 4, 8, 9, 10]] [] (by kernel_rfl) (by kernel_rfl) (by decide +kernel) (by kernel_rfl)

/- decorum/queue.order -/
def code44 : ACode :=
 .seq (R [o 2 (.box 28 (v 0)), o 3 (.box 28 (v 1)), o 4 (.mov (i 0))])
 (.seq (D [o 5 (.fieldAddr 3 (v 2)), o 6 (.load none (v 5)), o 7 (.fieldAddr 3 (v 3)), o 8 (.load none (v 7)), o 9 (.call (.func 60) [(v 6), (v 8)]), o 10 (.fieldAddr 0 (v 2)), o 11 (.load none (v 10)), o 12 (.fieldAddr 0 (v 3)), o 13 (.load none (v 12)), o 14 (.call (.func 60) [(v 11), (v 13)]), o 15 (.buildSlice 3 1 2 [(.int .i64 0), (.int .i64 0)] [(0, 1, (v 9)), (1, 1, (v 14))]), o 16 (.call (.func 59) [(v 15)]), o 4 (.mov (v 16))] ⟨[], [4]⟩)
 (.ret))
def fun44 : AFun := ⟨2, code44, [.tmp 4], 1⟩
theorem comp44 : FunOK Try.prog 44 fun44 :=
  FunOK.of Try.func44 [] [⟨[], [4]⟩] (by kernel_rfl) (by kernel_rfl) (by decide +kernel) (by kernel_rfl)

/- slices.Insert[[]decorum/api.Req,decorum/api.Req] -/
def code45 : ACode :=
 .seq (R [o 6 (.mov (.const (.slice none 0 0)))])
 (.seq (R [o 10 (.mov (v 0)), o 11 (.mov (v 1)), o 12 (.slice (.slice 5) (v 10) (some (v 11)) none none)])
 (.seq (R [o 13 (.mov (v 2)), o 14 (.len .slice (v 13)), o 7 (.mov (v 14))])
 (.seq (.seq (R [o 15 (.mov (v 7)), o 16 (.bin .eql (v 15) (i 0))])
  (.cond (v 16) (.seq (R [o 17 (.mov (v 0)), o 6 (.mov (v 17))])
   (.ret))
  (.skip)))
 (.seq (R [o 18 (.mov (v 0)), o 19 (.len .slice (v 18)), o 8 (.mov (v 19))])
 (.seq (.seq (R [o 20 (.mov (v 1)), o 21 (.mov (v 8)), o 22 (.bin .eql (v 20) (v 21))])
  (.cond (v 22) (.seq (R [o 23 (.mov (v 0)), o 24 (.mov (v 2)), o 25 (.append 28 5 56 (v 23) (v 24)), o 6 (.mov (v 25))])
   (.ret))
  (.skip)))
 (.seq (.seq (R [o 26 (.mov (v 8)), o 27 (.mov (v 7)), o 28 (.bin .add (v 26) (v 27)), o 29 (.mov (v 0)), o 30 (.cap (v 29)), o 31 (.bin .gtr (v 28) (v 30))])
  (.cond (v 31) (.seq (R [o 32 (.mov (v 0)), o 33 (.mov (v 1)), o 34 (.slice (.slice 5) (v 32) none (some (v 33)) none), o 35 (.mov (v 8)), o 36 (.mov (v 7)), o 37 (.bin .add (v 35) (v 36)), o 38 (.mov (v 1)), o 39 (.bin .sub (v 37) (v 38)), o 40 (.appendMake 28 5 56 [(.int .i64 0), (.string ⟨#[]⟩), (.string ⟨#[]⟩), (.int .i64 0), (.int .i64 0)] (v 34) (v 39)), o 9 (.mov (v 40))])
   (.seq (R [o 41 (.mov (v 9)), o 42 (.mov (v 1)), o 43 (.slice (.slice 5) (v 41) (some (v 42)) none none), o 44 (.mov (v 2)), o 45 (.copy 5 (v 43) (v 44))])
   (.seq (R [o 46 (.mov (v 9)), o 47 (.mov (v 1)), o 48 (.mov (v 7)), o 49 (.bin .add (v 47) (v 48)), o 50 (.slice (.slice 5) (v 46) (some (v 49)) none none), o 51 (.mov (v 0)), o 52 (.mov (v 1)), o 53 (.slice (.slice 5) (v 51) (some (v 52)) none none), o 54 (.copy 5 (v 50) (v 53))])
   (.seq (R [o 55 (.mov (v 9)), o 6 (.mov (v 55))])
   (.ret)))))
  (.skip)))
 (.seq (R [o 56 (.mov (v 0)), o 57 (.mov (v 8)), o 58 (.mov (v 7)), o 59 (.bin .add (v 57) (v 58)), o 60 (.slice (.slice 5) (v 56) none (some (v 59)) none), o 0 (.mov (v 60))])
 (.seq (.seq (R [o 61 (.mov (v 2)), o 62 (.mov (v 0)), o 63 (.mov (v 1)), o 64 (.mov (v 7)), o 65 (.bin .add (v 63) (v 64)), o 66 (.slice (.slice 5) (v 62) (some (v 65)) none none), o 67 (.call (.func 61) [(v 61), (v 66)]), o 68 (.un .not (v 67))])
  (.cond (v 68) (.seq (R [o 69 (.mov (v 0)), o 70 (.mov (v 1)), o 71 (.mov (v 7)), o 72 (.bin .add (v 70) (v 71)), o 73 (.slice (.slice 5) (v 69) (some (v 72)) none none), o 74 (.mov (v 0)), o 75 (.mov (v 1)), o 76 (.slice (.slice 5) (v 74) (some (v 75)) none none), o 77 (.copy 5 (v 73) (v 76))])
   (.seq (R [o 78 (.mov (v 0)), o 79 (.mov (v 1)), o 80 (.slice (.slice 5) (v 78) (some (v 79)) none none), o 81 (.mov (v 2)), o 82 (.copy 5 (v 80) (v 81))])
   (.seq (R [o 83 (.mov (v 0)), o 6 (.mov (v 83))])
   (.ret))))
  (.skip)))
 (.seq (R [o 84 (.mov (v 0)), o 85 (.mov (v 8)), o 86 (.slice (.slice 5) (v 84) (some (v 85)) none none), o 87 (.mov (v 2)), o 88 (.copy 5 (v 86) (v 87))])
 (.seq (R [o 89 (.mov (v 0)), o 90 (.mov (v 1)), o 91 (.slice (.slice 5) (v 89) (some (v 90)) none none), o 92 (.mov (v 7)), o 93 (.call (.func 62) [(v 91), (v 92)])])
 (.seq (R [o 94 (.mov (v 0)), o 6 (.mov (v 94))])
 (.ret))))))))))))
def fun45 : AFun := ⟨3, code45, [.tmp 6], 0⟩
theorem comp45 : FunOK Try.prog 45 fun45 :=
  FunOK.of Try.func45 [] [] (by kernel_rfl) (by kernel_rfl) (by decide +kernel) (by kernel_rfl)

/- slices.Clip[[]decorum/api.Req,decorum/api.Req] -/
def code46 : ACode :=
 .seq (R [o 2 (.mov (.const (.slice none 0 0)))])
 (.seq (R [o 3 (.mov (v 0)), o 4 (.mov (v 0)), o 5 (.len .slice (v 4)), o 6 (.mov (v 0)), o 7 (.len .slice (v 6)), o 8 (.slice (.slice 5) (v 3) none (some (v 5)) (some (v 7))), o 2 (.mov (v 8))])
 (.ret))
def fun46 : AFun := ⟨1, code46, [.tmp 2], 0⟩
theorem comp46 : FunOK Try.prog 46 fun46 :=
  FunOK.of Try.func46 [] [] (by kernel_rfl) (by kernel_rfl) (by decide +kernel) (by kernel_rfl)

/- slices.Clone[[]decorum/api.Req,decorum/api.Req] -/
def code47 : ACode :=
 .seq (R [o 2 (.mov (.const (.slice none 0 0)))])
 (.seq (.seq (R [o 3 (.mov (v 0)), o 4 (.eq false .slice (v 3) (.const (.slice none 0 0)))])
  (.cond (v 4) (.seq (R [o 2 (.mov (.const (.slice none 0 0)))])
   (.ret))
  (.skip)))
 (.seq (R [o 5 (.buildSlice 28 5 0 [] []), o 6 (.mov (v 0)), o 7 (.append 28 5 56 (v 5) (v 6)), o 2 (.mov (v 7))])
 (.ret)))
def fun47 : AFun := ⟨1, code47, [.tmp 2], 0⟩
theorem comp47 : FunOK Try.prog 47 fun47 :=
  FunOK.of Try.func47 [] [] (by kernel_rfl) (by kernel_rfl) (by decide +kernel) (by kernel_rfl)

/- slices.IndexFunc[[]decorum/api.Req,decorum/api.Req] -/
def code57 : ACode :=
 .seq (R [o 4 (.mov (i 0))])
 (.seq (.seq (R [o 6 (.mov (v 0)), o 7 (.len .slice (v 6)), o 8 (.mov (i 0))])
  (.block 0 (.loop [0, 1, 7, 8] (.seq (R [o 9 (.bin .lss (v 8) (v 7))])
    (.seq (.cond (v 9) (.skip)
     (.exit 0))
    (.seq (.block 1 (.seq (R [o 10 (.mov (v 8)), o 5 (.mov (v 10))])
      (.seq (R [o 11 (.mov (v 1)), o 12 (.mov (v 0)), o 13 (.mov (v 5)), o 14 (.indexAddr 5 (v 12) (v 13)), o 15 (.load (some 5) (v 14)), o 16 (.call (v 11) [(v 15)])])
      (.cond (v 16) (.seq (R [o 17 (.mov (v 5)), o 4 (.mov (v 17))])
       (.ret))
      (.skip)))))
    (R [o 18 (.bin .add (v 8) (i 1)), o 8 (.mov (v 18))])))))))
 (.seq (R [o 4 (.mov (i (-1)))])
 (.ret)))
def fun57 : AFun := ⟨2, code57, [.tmp 4], 1⟩
theorem comp57 : FunOK Try.prog 57 fun57 :=
  FunOK.of Try.func57 [[0, 1, 7, 8]] [] (by kernel_rfl) (by kernel_rfl) (by decide +kernel) (by kernel_rfl)

/- (*decorum/queue.rows).at$1 -/
def code58 : ACode :=
 .seq (R [o 2 (.box 28 (v 0)), o 3 (.mov ff)])
 (.seq (R [o 4 (.fieldAddr 0 (v 2)), o 5 (.load none (v 4)), o 6 (.load none (v 1)), o 7 (.bin .eql (v 5) (v 6)), o 3 (.mov (v 7))])
 (.ret))
def fun58 : AFun := ⟨2, code58, [.tmp 3], 1⟩
theorem comp58 : FunOK Try.prog 58 fun58 :=
  FunOK.of Try.func58 [] [] (by kernel_rfl) (by kernel_rfl) (by decide +kernel) (by kernel_rfl)

/- cmp.Or[int] -/
def code59 : ACode :=
 .seq (R [o 2 (.mov (i 0))])
 (.seq (R [o 3 (.mov (i 0))])
 (.seq (.seq (R [o 6 (.mov (v 0)), o 7 (.len .slice (v 6)), o 8 (.mov (i 0))])
  (.block 0 (.loop [3, 6, 7, 8] (.seq (R [o 9 (.bin .lss (v 8) (v 7))])
    (.seq (.cond (v 9) (.skip)
     (.exit 0))
    (.seq (.block 1 (.seq (R [o 10 (.indexAddr 1 (v 6) (v 8)), o 11 (.load none (v 10)), o 5 (.mov (v 11))])
      (.seq (R [o 12 (.mov (v 5)), o 13 (.mov (v 3)), o 14 (.bin .neq (v 12) (v 13))])
      (.cond (v 14) (.seq (R [o 15 (.mov (v 5)), o 2 (.mov (v 15))])
       (.ret))
      (.skip)))))
    (R [o 16 (.bin .add (v 8) (i 1)), o 8 (.mov (v 16))])))))))
 (.seq (R [o 17 (.mov (v 3)), o 2 (.mov (v 17))])
 (.ret))))
def fun59 : AFun := ⟨1, code59, [.tmp 2], 0⟩
theorem comp59 : FunOK Try.prog 59 fun59 :=
  FunOK.of Try.func59 [[3, 6, 7, 8]] [] (by kernel_rfl) (by kernel_rfl) (by decide +kernel) (by kernel_rfl)

/- cmp.Compare[int] -/
def code60 : ACode :=
 .seq (R [o 4 (.mov (i 0))])
 (.seq (R [o 7 (.mov (v 0)), o 8 (.call (.func 67) [(v 7)]), o 5 (.mov (v 8))])
 (.seq (R [o 9 (.mov (v 1)), o 10 (.call (.func 67) [(v 9)]), o 6 (.mov (v 10))])
 (.seq (.seq (R [o 11 (.mov (v 5))])
  (.cond (v 11) (.seq (.seq (R [o 12 (.mov (v 6))])
    (.cond (v 12) (.seq (R [o 4 (.mov (i 0))])
     (.ret))
    (.skip)))
   (.seq (R [o 4 (.mov (i (-1)))])
   (.ret)))
  (.skip)))
 (.seq (.seq (R [o 13 (.mov (v 6))])
  (.cond (v 13) (.seq (R [o 4 (.mov (i 1))])
   (.ret))
  (.skip)))
 (.seq (.seq (R [o 14 (.mov (v 0)), o 15 (.mov (v 1)), o 16 (.bin .lss (v 14) (v 15))])
  (.cond (v 16) (.seq (R [o 4 (.mov (i (-1)))])
   (.ret))
  (.skip)))
 (.seq (.seq (R [o 17 (.mov (v 0)), o 18 (.mov (v 1)), o 19 (.bin .gtr (v 17) (v 18))])
  (.cond (v 19) (.seq (R [o 4 (.mov (i 1))])
   (.ret))
  (.skip)))
 (.seq (R [o 4 (.mov (i 0))])
 (.ret))))))))
def fun60 : AFun := ⟨2, code60, [.tmp 4], 0⟩
theorem comp60 : FunOK Try.prog 60 fun60 :=
  FunOK.of Try.func60 [] [] (by kernel_rfl) (by kernel_rfl) (by decide +kernel) (by kernel_rfl)

/- cmp.isNaN[int] -/
def code67 : ACode :=
 .seq (R [o 2 (.mov ff)])
 (.seq (R [o 3 (.mov (v 0)), o 4 (.mov (v 0)), o 5 (.bin .neq (v 3) (v 4)), o 2 (.mov (v 5))])
 (.ret))
def fun67 : AFun := ⟨1, code67, [.tmp 2], 0⟩
theorem comp67 : FunOK Try.prog 67 fun67 :=
  FunOK.of Try.func67 [] [] (by kernel_rfl) (by kernel_rfl) (by decide +kernel) (by kernel_rfl)

end Go.Proofs.Ytgnpafmhdmmmhaa
