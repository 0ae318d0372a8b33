/-
  The functions as abstract code: printed by a program of mine.
-/
import Derived.Test.YtgnpafmhdmmmhaaProg
import Derived.Test.YtgnpafmhdmmmhaaA41
import Derived.WalkKit
set_option maxRecDepth 100000
namespace Go.Proofs.Ytgnpafmhdmmmhaa
open Go Go.Abs Go.Abs.K

/- decorum/decorumlaw13.DiskSure -/
def code7 : ACode :=
 .seq (R [o 6 (.mov ff)])
 (.seq (R [o 15 (.call (.func 25) [(i 16)]), o 7 (.mov (v 15))])
 (.seq (R [o 8 (.mov (.const (.string ⟨#[]⟩))), o 9 (.mov (.const (.string ⟨#[]⟩)))])
 (.seq (.seq (R [o 10 (.mov (i 0))])
  (.block 0 (.loop [0, 1, 2, 7, 8, 9, 10] (.seq (.seq (R [o 16 (.mov (v 10)), o 17 (.mov (v 0)), o 18 (.len .slice (v 17)), o 19 (.bin .lss (v 16) (v 18)), o 20 (.mov (v 19)), ot 20 21 (.mov (v 10)), ot 20 22 (.bin .lss (v 21) (i 12)), o 23 (.pick (v 20) (v 22) ff)])
     (.cond (v 23) (.skip)
     (.exit 0)))
    (.seq (.block 1 (.seq (.seq (R [o 26 (.mov (v 0)), o 27 (.mov (v 10)), o 28 (.indexAddr 1 (v 26) (v 27)), o 29 (.load none (v 28)), o 30 (.len .slice (v 29)), o 31 (.bin .gtr (v 30) (i 100))])
       (.cond (v 31) (.seq (R [o 32 (.call (.func 26) []), o 6 (.mov (v 32))])
        (.ret))
       (.skip)))
      (.seq (.seq (R [o 33 (.mov (v 7)), o 34 (.mov (v 0)), o 35 (.mov (v 10)), o 36 (.indexAddr 1 (v 34) (v 35)), o 37 (.load none (v 36)), o 38 (.call (.func 27) [(v 33), (i 7), (v 37)]), o 39 (.bin .neq (v 38) (i 0))])
       (.cond (v 39) (.seq (R [o 6 (.mov ff)])
        (.ret))
       (.skip)))
      (.seq (R [o 40 (.mov (v 9)), o 41 (.mov (v 0)), o 42 (.mov (v 10)), o 43 (.indexAddr 1 (v 41) (v 42)), o 44 (.load none (v 43)), o 45 (.conv .toString (v 44)), o 46 (.bin .add (v 40) (v 45)), o 9 (.mov (v 46))])
      (.seq (R [o 47 (.mov (v 10)), o 48 (.mov (v 1)), o 49 (.conv (.int .i64) (v 48)), o 50 (.bin .rem (v 49) (i 12)), o 51 (.bin .eql (v 47) (v 50))])
      (.cond (v 51) (.seq (.seq (R [o 52 (.mov (v 7)), o 53 (.call (.func 28) [(v 52)]), o 54 (.bin .neq (v 53) (i 0))])
        (.cond (v 54) (.seq (R [o 6 (.mov ff)])
         (.ret))
        (.skip)))
       (R [o 55 (.mov (v 9)), o 8 (.mov (v 55))]))
      (.skip)))))))
    (R [o 24 (.mov (v 10)), o 25 (.bin .add (v 24) (i 1)), o 10 (.mov (v 25))]))))))
 (.seq (R [o 56 (.mov (v 7)), o 57 (.mov (v 2)), o 58 (.call (.func 29) [(v 56), (v 57)])])
 (.seq (R [o 60 (.mov (v 7)), o 61 (.call (.func 30) [(v 60), (i 7)]), o 59 (.mov (v 61)), o 62 (.extract (v 59) 0), o 63 (.extract (v 59) 1), o 11 (.mov (v 62)), o 12 (.mov (v 63))])
 (.seq (R [o 64 (.mov (v 2)), o 13 (.mov (v 64))])
 (.seq (.seq (R [o 65 (.mov (v 13)), o 66 (.bin .lss (v 65) (i 0))])
  (.cond (v 66) (R [o 13 (.mov (i 0))])
  (.skip)))
 (.seq (R [o 67 (.mov (v 8)), o 68 (.len .string (v 67)), o 14 (.mov (v 68))])
 (.seq (.seq (R [o 69 (.mov (v 13)), o 70 (.mov (v 9)), o 71 (.len .string (v 70)), o 72 (.mov (v 8)), o 73 (.len .string (v 72)), o 74 (.bin .sub (v 71) (v 73)), o 75 (.bin .lss (v 69) (v 74))])
  (.cond (v 75) (R [o 76 (.mov (v 14)), o 77 (.mov (v 13)), o 78 (.bin .add (v 76) (v 77)), o 14 (.mov (v 78))])
  (R [o 79 (.mov (v 9)), o 80 (.len .string (v 79)), o 14 (.mov (v 80))])))
 (.seq (R [o 81 (.call (.func 26) []), o 82 (.mov (v 81)), ot 82 83 (.mov (v 11)), ot 82 84 (.conv .toString (v 83)), ot 82 85 (.mov (v 9)), ot 82 86 (.mov (v 14)), ot 82 87 (.slice .string (v 85) none (some (v 86)) none), ot 82 88 (.bin .eql (v 84) (v 87)), o 89 (.pick (v 82) (v 88) ff), o 6 (.mov (v 89))])
 (.ret)))))))))))
def fun7 : AFun := ⟨3, code7, [.tmp 6], 0⟩
theorem comp7 : FunOK Try.prog 7 fun7 :=
  FunOK.of Try.func7 [[0, 1, 2, 7, 8, 9, 10]] [] (by kernel_rfl) (by kernel_rfl) (by decide +kernel) (by kernel_rfl)

/- decorum/decorumlaw13.DiskPlays -/
def code8 : ACode :=
 .seq (R [o 4 (.mov ff)])
 (.seq (R [o 21 (.mov (v 0)), o 22 (.call (.func 25) [(v 21)]), o 23 (.mov (v 0)), o 24 (.call (.func 31) [(v 23)]), o 5 (.mov (v 22)), o 6 (.mov (v 24))])
 (.seq (.seq (R [o 7 (.mov (i 0))])
  (.block 0 (.loop [1, 5, 6, 7] (.seq (.seq (R [o 25 (.mov (v 7)), o 26 (.mov (v 1)), o 27 (.len .slice (v 26)), o 28 (.bin .lss (v 25) (v 27)), o 29 (.mov (v 28)), ot 29 30 (.mov (v 7)), ot 29 31 (.bin .lss (v 30) (i 60)), o 32 (.pick (v 29) (v 31) ff)])
     (.cond (v 32) (.skip)
     (.exit 0)))
    (.seq (.block 1 (.seq (R [o 35 (.mov (v 1)), o 36 (.mov (v 7)), o 37 (.indexAddr 4 (v 35) (v 36)), o 38 (.load (some 4) (v 37)), o 8 (.alloc 63 [(.int .i64 0), (.int .i64 0), (.int .i64 0), (.slice none 0 0)]), on (.store 4 (v 8) (v 38))])
      (.seq (.seq (R [o 39 (.fieldAddr 3 (v 8)), o 40 (.load none (v 39)), o 41 (.len .slice (v 40)), o 42 (.bin .gtr (v 41) (i 2500))])
       (.cond (v 42) (.exit 1)
       (.skip)))
      (.seq (R [o 9 (.mov (i 0)), o 10 (.mov (i 0))])
      (.seq (.seq (R [o 43 (.fieldAddr 0 (v 8)), o 44 (.load none (v 43))])
       (.block 2 (.seq (R [o 54 (.bin .eql (v 44) (i 0)), o 53 (.mov (v 54))])
        (.cond (v 53) (D [o 55 (.mov (v 5)), o 56 (.fieldAddr 1 (v 8)), o 57 (.load none (v 56)), o 58 (.fieldAddr 3 (v 8)), o 59 (.load none (v 58)), o 60 (.call (.func 27) [(v 55), (v 57), (v 59)]), o 61 (.mov (v 6)), o 62 (.fieldAddr 1 (v 8)), o 63 (.load none (v 62)), o 64 (.fieldAddr 3 (v 8)), o 65 (.load none (v 64)), o 66 (.call (.func 32) [(v 61), (v 63), (v 65)]), o 9 (.mov (v 60)), o 10 (.mov (v 66))] ⟨[], [], [(5, 8), (5, 10)]⟩)
        (.seq (R [o 68 (.bin .eql (v 44) (i 1)), o 67 (.mov (v 68))])
         (.cond (v 67) (R [o 69 (.mov (v 5)), o 70 (.call (.func 28) [(v 69)]), o 71 (.mov (v 6)), o 72 (.call (.func 33) [(v 71)]), o 9 (.mov (v 70)), o 10 (.mov (v 72))])
         (.seq (R [o 74 (.bin .eql (v 44) (i 2)), o 73 (.mov (v 74))])
          (.cond (v 73) (D [o 75 (.mov (v 5)), o 76 (.fieldAddr 1 (v 8)), o 77 (.load none (v 76)), o 78 (.call (.func 34) [(v 75), (v 77)]), o 79 (.mov (v 6)), o 80 (.fieldAddr 1 (v 8)), o 81 (.load none (v 80)), o 82 (.call (.func 35) [(v 79), (v 81)]), o 9 (.mov (v 78)), o 10 (.mov (v 82))] ⟨[], [], [(3, 6)]⟩)
          (.seq (R [o 84 (.bin .eql (v 44) (i 3)), o 83 (.mov (v 84))])
           (.cond (v 83) (.seq (R [o 85 (.mov (v 5)), o 86 (.fieldAddr 1 (v 8)), o 87 (.load none (v 86)), o 88 (.fieldAddr 2 (v 8)), o 89 (.load none (v 88)), o 90 (.call (.func 36) [(v 85), (v 87), (v 89)])])
            (.seq (D [o 91 (.mov (v 6)), o 92 (.mov (v 6)), o 93 (.fieldAddr 1 (v 8)), o 94 (.load none (v 93)), o 95 (.fieldAddr 2 (v 8)), o 96 (.load none (v 95)), o 97 (.nilCheck (v 91)), o 98 (.fieldAddr 3 (v 97)), on (.store 1 (v 98) (v 94)), o 99 (.nilCheck (v 92)), o 100 (.fieldAddr 4 (v 99)), on (.store 1 (v 100) (v 96))] ⟨[(8, 5)], [], []⟩)
            (.seq (.seq (R [o 101 (.fieldAddr 1 (v 8)), o 102 (.load none (v 101)), o 103 (.bin .lss (v 102) (i 0))])
             (.cond (v 103) (R [o 104 (.mov (v 6)), o 105 (.nilCheck (v 104)), o 106 (.fieldAddr 3 (v 105)), on (.store 1 (v 106) (i 0))])
             (.skip)))
            (.seq (R [o 107 (.fieldAddr 2 (v 8)), o 108 (.load none (v 107)), o 109 (.bin .lss (v 108) (i 0))])
            (.cond (v 109) (R [o 110 (.mov (v 6)), o 111 (.nilCheck (v 110)), o 112 (.fieldAddr 4 (v 111)), on (.store 1 (v 112) (i 0))])
            (.skip))))))
           (.seq (R [o 45 (.mov (v 5)), o 46 (.fieldAddr 1 (v 8)), o 47 (.load none (v 46)), o 48 (.call (.func 29) [(v 45), (v 47)])])
            (R [o 49 (.mov (v 6)), o 50 (.fieldAddr 1 (v 8)), o 51 (.load none (v 50)), o 52 (.call (.func 37) [(v 49), (v 51)])]))))))))))))
      (.seq (R [o 113 (.mov (v 5)), o 114 (.call (.func 38) [(v 113)]), o 11 (.mov (v 114))])
      (.seq (.seq (R [o 115 (.mov (v 9)), o 116 (.mov (v 10)), o 117 (.bin .neq (v 115) (v 116)), o 118 (.mov (v 117)), of 118 119 (.mov (v 11)), of 118 120 (.len .slice (v 119)), of 118 121 (.mov (v 6)), of 118 122 (.nilCheck (v 121)), of 118 123 (.fieldAddr 1 (v 122)), of 118 124 (.load none (v 123)), of 118 125 (.len .slice (v 124)), of 118 126 (.bin .neq (v 120) (v 125)), o 127 (.pick (v 118) tt (v 126))])
       (.cond (v 127) (.seq (R [o 4 (.mov ff)])
        (.ret))
       (.skip)))
      (.seq (.seq (R [o 12 (.mov (i 0))])
       (.block 3 (.loop [1, 5, 6, 7, 8, 11, 12] (.seq (.seq (R [o 128 (.mov (v 12)), o 129 (.mov (v 11)), o 130 (.len .slice (v 129)), o 131 (.bin .lss (v 128) (v 130))])
          (.cond (v 131) (.skip)
          (.exit 3)))
         (.seq (.block 4 (.seq (R [o 135 (.mov (v 5)), o 136 (.mov (v 11)), o 137 (.mov (v 12)), o 138 (.indexAddr 1 (v 136) (v 137)), o 139 (.load none (v 138)), o 140 (.call (.func 30) [(v 135), (v 139)]), o 134 (.mov (v 140)), o 141 (.extract (v 134) 0), o 142 (.extract (v 134) 1), o 13 (.mov (v 141)), o 14 (.mov (v 142))])
           (.seq (R [o 144 (.mov (v 6)), o 145 (.mov (v 11)), o 146 (.mov (v 12)), o 147 (.indexAddr 1 (v 145) (v 146)), o 148 (.load none (v 147)), o 149 (.call (.func 39) [(v 144), (v 148)]), o 143 (.mov (v 149)), o 150 (.extract (v 143) 0), o 151 (.extract (v 143) 1), o 15 (.mov (v 150)), o 16 (.mov (v 151))])
           (.seq (R [o 152 (.mov (v 11)), o 153 (.mov (v 12)), o 154 (.indexAddr 1 (v 152) (v 153)), o 155 (.load none (v 154)), o 156 (.mov (v 6)), o 157 (.nilCheck (v 156)), o 158 (.fieldAddr 1 (v 157)), o 159 (.load none (v 158)), o 160 (.mov (v 12)), o 161 (.indexAddr 2 (v 159) (v 160)), o 162 (.fieldAddr 0 (v 161)), o 163 (.load none (v 162)), o 164 (.bin .neq (v 155) (v 163)), o 165 (.mov (v 164)), of 165 166 (.mov (v 14)), of 165 167 (.bin .neq (v 166) (i 0)), o 168 (.pick (v 165) tt (v 167)), o 169 (.mov (v 168)), of 169 170 (.mov (v 16)), of 169 171 (.bin .neq (v 170) (i 0)), o 172 (.pick (v 169) tt (v 171)), o 173 (.mov (v 172)), of 173 174 (.mov (v 13)), of 173 175 (.conv .toString (v 174)), of 173 176 (.mov (v 15)), of 173 177 (.conv .toString (v 176)), of 173 178 (.bin .neq (v 175) (v 177)), o 179 (.pick (v 173) tt (v 178))])
           (.cond (v 179) (.seq (R [o 4 (.mov ff)])
            (.ret))
           (.skip))))))
         (R [o 132 (.mov (v 12)), o 133 (.bin .add (v 132) (i 1)), o 12 (.mov (v 133))]))))))
      (.seq (R [o 181 (.mov (v 5)), o 182 (.fieldAddr 1 (v 8)), o 183 (.load none (v 182)), o 184 (.call (.func 30) [(v 181), (v 183)]), o 180 (.mov (v 184)), o 185 (.extract (v 180) 0), o 186 (.extract (v 180) 1), o 17 (.mov (v 185)), o 18 (.mov (v 186))])
      (.seq (R [o 188 (.mov (v 6)), o 189 (.fieldAddr 1 (v 8)), o 190 (.load none (v 189)), o 191 (.call (.func 39) [(v 188), (v 190)]), o 187 (.mov (v 191)), o 192 (.extract (v 187) 0), o 193 (.extract (v 187) 1), o 19 (.mov (v 192)), o 20 (.mov (v 193))])
      (.seq (R [o 194 (.mov (v 18)), o 195 (.mov (v 20)), o 196 (.bin .neq (v 194) (v 195))])
      (.cond (v 196) (.seq (R [o 4 (.mov ff)])
       (.ret))
      (.skip)))))))))))))
    (R [o 33 (.mov (v 7)), o 34 (.bin .add (v 33) (i 1)), o 7 (.mov (v 34))]))))))
 (.seq (R [o 197 (.call (.func 26) []), o 4 (.mov (v 197))])
 (.ret))))
def fun8 : AFun := ⟨2, code8, [.tmp 4], 0⟩
theorem comp8 : FunOK Try.prog 8 fun8 :=
  FunOK.of Try.func8 [[1, 5, 6, 7], [1, 5, 6, 7, 8, 11, 12]] [⟨[], [], [(5, 8), (5, 10)]⟩, ⟨[], [], [(3, 6)]⟩, ⟨[(8, 5)], [], []⟩] (by kernel_rfl) (by kernel_rfl) (by decide +kernel) (by kernel_rfl)

/- decorum/decorumlaw13.DiskNone -/
def code9 : ACode :=
 .seq (R [o 4 (.mov ff)])
 (.seq (R [o 5 (.mov (.const (.pointer none)))])
 (.seq (R [o 8 (.mov (v 5)), o 9 (.mov (v 1)), o 10 (.mov (v 1)), o 11 (.call (.func 36) [(v 8), (v 9), (v 10)])])
 (.seq (R [o 12 (.mov (v 5)), o 13 (.mov (v 1)), o 14 (.call (.func 29) [(v 12), (v 13)])])
 (.seq (R [o 16 (.mov (v 5)), o 17 (.mov (v 1)), o 18 (.call (.func 30) [(v 16), (v 17)]), o 15 (.mov (v 18)), o 19 (.extract (v 15) 0), o 20 (.extract (v 15) 1), o 6 (.mov (v 19)), o 7 (.mov (v 20))])
 (.seq (R [o 21 (.call (.func 26) []), o 22 (.mov (v 21)), ot 22 23 (.mov (v 5)), ot 22 24 (.mov (v 1)), ot 22 25 (.mov (v 0)), ot 22 26 (.call (.func 27) [(v 23), (v 24), (v 25)]), ot 22 27 (.bin .eql (v 26) (i 1)), o 28 (.pick (v 22) (v 27) ff), o 29 (.mov (v 28)), ot 29 30 (.mov (v 5)), ot 29 31 (.call (.func 28) [(v 30)]), ot 29 32 (.bin .eql (v 31) (i 1)), o 33 (.pick (v 29) (v 32) ff), o 34 (.mov (v 33)), ot 34 35 (.mov (v 5)), ot 34 36 (.mov (v 1)), ot 34 37 (.call (.func 34) [(v 35), (v 36)]), ot 34 38 (.bin .eql (v 37) (i 1)), o 39 (.pick (v 34) (v 38) ff), o 40 (.mov (v 39)), ot 40 41 (.mov (v 7)), ot 40 42 (.bin .eql (v 41) (i 1)), o 43 (.pick (v 40) (v 42) ff), o 44 (.mov (v 43)), ot 44 45 (.mov (v 5)), ot 44 46 (.call (.func 38) [(v 45)]), ot 44 47 (.len .slice (v 46)), ot 44 48 (.bin .eql (v 47) (i 0)), o 49 (.pick (v 44) (v 48) ff), o 4 (.mov (v 49))])
 (.ret))))))
def fun9 : AFun := ⟨2, code9, [.tmp 4], 0⟩
theorem comp9 : FunOK Try.prog 9 fun9 :=
  FunOK.of Try.func9 [] [] (by kernel_rfl) (by kernel_rfl) (by decide +kernel) (by kernel_rfl)

/- decorum/decorumlaw13.DiskBounds -/
def code10 : ACode :=
 .seq (R [o 4 (.mov ff)])
 (.seq (R [o 16 (.mov (v 0)), o 17 (.bin .rem (v 16) (.const (.int .u8 18))), o 18 (.conv (.int .i64) (v 17)), o 5 (.mov (v 18))])
 (.seq (R [o 19 (.mov (v 5)), o 20 (.call (.func 25) [(v 19)]), o 6 (.mov (v 20))])
 (.seq (.seq (R [o 21 (.mov (v 5)), o 22 (.bin .gtr (v 21) (i 16))])
  (.cond (v 22) (R [o 5 (.mov (i 16))])
  (.skip)))
 (.seq (.seq (R [o 7 (.mov (i 0))])
  (.block 0 (.loop [1, 5, 6, 7] (.seq (.seq (R [o 23 (.mov (v 7)), o 24 (.mov (v 1)), o 25 (.len .slice (v 24)), o 26 (.bin .lss (v 23) (v 25)), o 27 (.mov (v 26)), ot 27 28 (.mov (v 7)), ot 27 29 (.bin .lss (v 28) (i 60)), o 30 (.pick (v 27) (v 29) ff)])
     (.cond (v 30) (.skip)
     (.exit 0)))
    (.seq (.block 1 (.seq (R [o 33 (.mov (v 1)), o 34 (.mov (v 7)), o 35 (.indexAddr 4 (v 33) (v 34)), o 36 (.load (some 4) (v 35)), o 8 (.alloc 63 [(.int .i64 0), (.int .i64 0), (.int .i64 0), (.slice none 0 0)]), on (.store 4 (v 8) (v 36))])
      (.seq (.seq (R [o 37 (.fieldAddr 3 (v 8)), o 38 (.load none (v 37)), o 39 (.len .slice (v 38)), o 40 (.bin .gtr (v 39) (i 2500))])
       (.cond (v 40) (.exit 1)
       (.skip)))
      (.seq (R [o 41 (.mov (v 6)), o 42 (.call (.func 38) [(v 41)]), o 9 (.mov (v 42))])
      (.seq (R [o 44 (.mov (v 6)), o 45 (.fieldAddr 1 (v 8)), o 46 (.load none (v 45)), o 47 (.call (.func 30) [(v 44), (v 46)]), o 43 (.mov (v 47)), o 48 (.extract (v 43) 0), o 49 (.extract (v 43) 1), o 10 (.mov (v 48)), o 11 (.mov (v 49))])
      (.seq (R [o 12 (.mov (i 0))])
      (.seq (.seq (R [o 50 (.fieldAddr 0 (v 8)), o 51 (.load none (v 50))])
       (.block 2 (.seq (R [o 55 (.bin .eql (v 51) (i 0)), o 54 (.mov (v 55))])
        (.cond (v 54) (R [o 56 (.mov (v 6)), o 57 (.fieldAddr 1 (v 8)), o 58 (.load none (v 57)), o 59 (.fieldAddr 3 (v 8)), o 60 (.load none (v 59)), o 61 (.call (.func 27) [(v 56), (v 58), (v 60)]), o 12 (.mov (v 61))])
        (.seq (R [o 63 (.bin .eql (v 51) (i 2)), o 62 (.mov (v 63))])
         (.cond (v 62) (R [o 64 (.mov (v 6)), o 65 (.fieldAddr 1 (v 8)), o 66 (.load none (v 65)), o 67 (.call (.func 34) [(v 64), (v 66)]), o 12 (.mov (v 67))])
         (.seq (R [o 69 (.bin .eql (v 51) (i 3)), o 68 (.mov (v 69))])
          (.cond (v 68) (.seq (R [o 70 (.mov (v 6)), o 71 (.fieldAddr 1 (v 8)), o 72 (.load none (v 71)), o 73 (.fieldAddr 2 (v 8)), o 74 (.load none (v 73)), o 75 (.call (.func 36) [(v 70), (v 72), (v 74)])])
           (.exit 1))
          (R [o 52 (.mov (v 6)), o 53 (.call (.func 28) [(v 52)]), o 12 (.mov (v 53))])))))))))
      (.seq (R [o 76 (.mov (v 6)), o 77 (.call (.func 38) [(v 76)]), o 13 (.mov (v 77))])
      (.seq (R [o 79 (.mov (v 6)), o 80 (.fieldAddr 1 (v 8)), o 81 (.load none (v 80)), o 82 (.call (.func 30) [(v 79), (v 81)]), o 78 (.mov (v 82)), o 83 (.extract (v 78) 0), o 84 (.extract (v 78) 1), o 14 (.mov (v 83)), o 15 (.mov (v 84))])
      (.seq (.seq (R [o 85 (.mov (v 13)), o 86 (.len .slice (v 85)), o 87 (.mov (v 5)), o 88 (.bin .gtr (v 86) (v 87)), o 89 (.mov (v 88)), of 89 90 (.mov (v 14)), of 89 91 (.len .slice (v 90)), of 89 92 (.bin .gtr (v 91) (i 2048)), o 93 (.pick (v 89) tt (v 92))])
       (.cond (v 93) (.seq (R [o 4 (.mov ff)])
        (.ret))
       (.skip)))
      (.seq (R [o 94 (.mov (v 12)), o 95 (.bin .neq (v 94) (i 0)), o 96 (.mov (v 95)), ot 96 97 (.mov (v 9)), ot 96 98 (.len .slice (v 97)), ot 96 99 (.mov (v 13)), ot 96 100 (.len .slice (v 99)), ot 96 101 (.bin .neq (v 98) (v 100)), ot 96 102 (.mov (v 101)), of 102 103 (.mov (v 11)), of 102 104 (.mov (v 15)), of 102 105 (.bin .neq (v 103) (v 104)), ot 96 106 (.pick (v 102) tt (v 105)), ot 96 107 (.mov (v 106)), of 107 108 (.mov (v 10)), of 107 109 (.conv .toString (v 108)), of 107 110 (.mov (v 14)), of 107 111 (.conv .toString (v 110)), of 107 112 (.bin .neq (v 109) (v 111)), ot 96 113 (.pick (v 107) tt (v 112)), o 114 (.pick (v 96) (v 113) ff)])
      (.cond (v 114) (.seq (R [o 4 (.mov ff)])
       (.ret))
      (.skip)))))))))))))
    (R [o 31 (.mov (v 7)), o 32 (.bin .add (v 31) (i 1)), o 7 (.mov (v 32))]))))))
 (.seq (R [o 115 (.call (.func 26) []), o 4 (.mov (v 115))])
 (.ret))))))
def fun10 : AFun := ⟨2, code10, [.tmp 4], 0⟩
theorem comp10 : FunOK Try.prog 10 fun10 :=
  FunOK.of Try.func10 [[1, 5, 6, 7]] [] (by kernel_rfl) (by kernel_rfl) (by decide +kernel) (by kernel_rfl)

/- decorum/disk.New -/
def code25 : ACode :=
 .seq (R [o 2 (.mov (.const (.pointer none)))])
 (.seq (R [o 3 (.mov (v 0)), o 4 (.minmax false [(v 3), (i 16)]), o 5 (.minmax true [(i 0), (v 4)]), o 6 (.mkMap none), o 7 (.build [(.int .i64 0), (.map none), (.slice none 0 0), (.int .i64 0), (.int .i64 0)] [(0, 1, (v 5)), (1, 1, (v 6))]), o 8 (.box 91 (v 7)), o 2 (.mov (v 8))])
 (.ret))
def fun25 : AFun := ⟨1, code25, [.tmp 2], 0⟩
theorem comp25 : FunOK Try.prog 25 fun25 :=
  FunOK.of Try.func25 [] [] (by kernel_rfl) (by kernel_rfl) (by decide +kernel) (by kernel_rfl)

/- decorum/decorumlaw13.awake -/
def code26 : ACode :=
 .seq (R [o 0 (.mov ff)])
 (.seq (R [o 11 (.call (.func 25) [(i 2)]), o 1 (.mov (v 11))])
 (.seq (R [o 12 (.mov (v 1)), o 13 (.buildSlice 5 1 2 [(.int .u8 0), (.int .u8 0)] [(0, 1, (.const (.int .u8 97))), (1, 1, (.const (.int .u8 98)))]), o 14 (.conv .sameB (v 13)), o 15 (.call (.func 27) [(v 12), (i 3), (v 14)]), o 2 (.mov (v 15))])
 (.seq (R [o 16 (.mov (v 1)), o 17 (.call (.func 28) [(v 16)]), o 3 (.mov (v 17))])
 (.seq (R [o 18 (.mov (v 1)), o 19 (.buildSlice 5 1 2 [(.int .u8 0), (.int .u8 0)] [(0, 1, (.const (.int .u8 99))), (1, 1, (.const (.int .u8 100)))]), o 20 (.conv .sameB (v 19)), o 21 (.call (.func 27) [(v 18), (i 3), (v 20)]), o 4 (.mov (v 21))])
 (.seq (R [o 22 (.mov (v 1)), o 23 (.buildSlice 5 1 2 [(.int .u8 0), (.int .u8 0)] [(0, 1, (.const (.int .u8 101))), (1, 1, (.const (.int .u8 102)))]), o 24 (.conv .sameB (v 23)), o 25 (.call (.func 27) [(v 22), (i 1), (v 24)]), o 5 (.mov (v 25))])
 (.seq (R [o 26 (.mov (v 1)), o 27 (.call (.func 27) [(v 26), (i 2), (.const (.slice none 0 0))]), o 6 (.mov (v 27))])
 (.seq (R [o 28 (.mov (v 1)), o 29 (.call (.func 29) [(v 28), (i 3)])])
 (.seq (R [o 31 (.mov (v 1)), o 32 (.call (.func 30) [(v 31), (i 3)]), o 30 (.mov (v 32)), o 33 (.extract (v 30) 0), o 34 (.extract (v 30) 1), o 7 (.mov (v 33)), o 8 (.mov (v 34))])
 (.seq (R [o 36 (.mov (v 1)), o 37 (.call (.func 30) [(v 36), (i 1)]), o 35 (.mov (v 37)), o 38 (.extract (v 35) 0), o 39 (.extract (v 35) 1), o 9 (.mov (v 38)), o 10 (.mov (v 39))])
 (.seq (R [o 40 (.mov (v 2)), o 41 (.bin .eql (v 40) (i 0)), o 42 (.mov (v 41)), ot 42 43 (.mov (v 3)), ot 42 44 (.bin .eql (v 43) (i 0)), o 45 (.pick (v 42) (v 44) ff), o 46 (.mov (v 45)), ot 46 47 (.mov (v 4)), ot 46 48 (.bin .eql (v 47) (i 0)), o 49 (.pick (v 46) (v 48) ff), o 50 (.mov (v 49)), ot 50 51 (.mov (v 5)), ot 50 52 (.bin .eql (v 51) (i 0)), o 53 (.pick (v 50) (v 52) ff), o 54 (.mov (v 53)), ot 54 55 (.mov (v 6)), ot 54 56 (.bin .eql (v 55) (i 5)), o 57 (.pick (v 54) (v 56) ff), o 58 (.mov (v 57)), ot 58 59 (.mov (v 8)), ot 58 60 (.bin .eql (v 59) (i 0)), o 61 (.pick (v 58) (v 60) ff), o 62 (.mov (v 61)), ot 62 63 (.mov (v 10)), ot 62 64 (.bin .eql (v 63) (i 0)), o 65 (.pick (v 62) (v 64) ff), o 66 (.mov (v 65)), ot 66 67 (.mov (v 7)), ot 66 68 (.conv .toString (v 67)), ot 66 69 (.bin .eql (v 68) (.const (.string ⟨#[97, 98, 99, 100]⟩))), o 70 (.pick (v 66) (v 69) ff), o 71 (.mov (v 70)), ot 71 72 (.mov (v 9)), ot 71 73 (.conv .toString (v 72)), ot 71 74 (.bin .eql (v 73) (.const (.string ⟨#[101]⟩))), o 75 (.pick (v 71) (v 74) ff), o 76 (.mov (v 75)), ot 76 77 (.mov (v 1)), ot 76 78 (.call (.func 38) [(v 77)]), ot 76 79 (.len .slice (v 78)), ot 76 80 (.bin .eql (v 79) (i 2)), o 81 (.pick (v 76) (v 80) ff), o 0 (.mov (v 81))])
 (.ret)))))))))))
def fun26 : AFun := ⟨0, code26, [.tmp 0], 0⟩
theorem comp26 : FunOK Try.prog 26 fun26 :=
  FunOK.of Try.func26 [] [] (by kernel_rfl) (by kernel_rfl) (by decide +kernel) (by kernel_rfl)

/- (*decorum/disk.Disk).Append -/
def code27 : ACode :=
 .seq (R [o 6 (.mov (i 0))])
 (.seq (.seq (R [o 10 (.mov (v 0)), o 11 (.eq false .pointer (v 10) (.const (.pointer none))), o 12 (.mov (v 11)), of 12 13 (.mov (v 1)), of 12 14 (.bin .lss (v 13) (i 0)), o 15 (.pick (v 12) tt (v 14))])
  (.cond (v 15) (.seq (R [o 6 (.mov (i 1))])
   (.ret))
  (.skip)))
 (.seq (R [o 17 (.mov (v 0)), o 18 (.nilCheck (v 17)), o 19 (.fieldAddr 1 (v 18)), o 20 (.load none (v 19)), o 21 (.mov (v 1)), o 22 (.lookup .int (.slice none 0 0) true (v 20) (v 21)), o 16 (.mov (v 22)), o 23 (.extract (v 16) 0), o 24 (.extract (v 16) 1), o 7 (.mov (v 23)), o 8 (.mov (v 24))])
 (.seq (.block 0 (.seq (R [o 26 (.mov (v 8)), o 27 (.un .not (v 26)), o 28 (.mov (v 27)), ot 28 29 (.mov (v 0)), ot 28 30 (.nilCheck (v 29)), ot 28 31 (.fieldAddr 1 (v 30)), ot 28 32 (.load none (v 31)), ot 28 33 (.len .map (v 32)), ot 28 34 (.mov (v 0)), ot 28 35 (.nilCheck (v 34)), ot 28 36 (.fieldAddr 0 (v 35)), ot 28 37 (.load none (v 36)), ot 28 38 (.bin .geq (v 33) (v 37)), o 39 (.pick (v 28) (v 38) ff), o 40 (.mov (v 39)), of 40 41 (.mov (v 2)), of 40 42 (.len .slice (v 41)), of 40 43 (.mov (v 7)), of 40 44 (.len .slice (v 43)), of 40 45 (.bin .sub (i 2048) (v 44)), of 40 46 (.bin .gtr (v 42) (v 45)), o 47 (.pick (v 40) tt (v 46)), o 25 (.mov (v 47))])
   (.cond (v 25) (.seq (R [o 6 (.mov (i 5))])
    (.ret))
   (.seq (R [o 49 (.mov (v 0)), o 50 (.call (.func 48) [(v 49)]), o 51 (.un .not (v 50)), o 48 (.mov (v 51))])
    (.cond (v 48) (.seq (R [o 6 (.mov (i 7))])
     (.ret))
    (.skip))))))
 (.seq (R [o 52 (.mov (v 7)), o 53 (.len .slice (v 52)), o 54 (.mov (v 2)), o 55 (.len .slice (v 54)), o 56 (.bin .add (v 53) (v 55)), o 57 (.mkSlice 5 1 1 [(.int .u8 0)] (v 56) (v 56)), o 9 (.mov (v 57))])
 (.seq (R [o 58 (.mov (v 9)), o 59 (.mov (v 7)), o 60 (.copy 1 (v 58) (v 59))])
 (.seq (R [o 61 (.mov (v 9)), o 62 (.mov (v 7)), o 63 (.len .slice (v 62)), o 64 (.slice (.slice 1) (v 61) (some (v 63)) none none), o 65 (.mov (v 2)), o 66 (.copy 1 (v 64) (v 65))])
 (.seq (R [o 67 (.mov (v 0)), o 68 (.nilCheck (v 67)), o 69 (.fieldAddr 1 (v 68)), o 70 (.load none (v 69)), o 71 (.mov (v 1)), o 72 (.mov (v 9)), on (.mapUpdate .int (v 70) (v 71) (v 72))])
 (.seq (R [o 73 (.mov (v 0)), o 74 (.mov (v 0)), o 75 (.nilCheck (v 74)), o 76 (.fieldAddr 2 (v 75)), o 77 (.load none (v 76)), o 78 (.mov (v 1)), o 79 (.mov (v 2)), o 80 (.len .slice (v 79)), o 81 (.build [(.int .i64 0), (.int .i64 0)] [(0, 1, (v 78)), (1, 1, (v 80))]), o 82 (.buildSlice 94 2 1 [(.int .i64 0), (.int .i64 0)] [(0, 2, (v 81))]), o 83 (.append 94 2 16 (v 77) (v 82)), o 84 (.nilCheck (v 73)), o 85 (.fieldAddr 2 (v 84)), on (.store 1 (v 85) (v 83))])
 (.seq (R [o 6 (.mov (i 0))])
 (.ret))))))))))
def fun27 : AFun := ⟨3, code27, [.tmp 6], 0⟩
theorem comp27 : FunOK Try.prog 27 fun27 :=
  FunOK.of Try.func27 [] [] (by kernel_rfl) (by kernel_rfl) (by decide +kernel) (by kernel_rfl)

/- (*decorum/disk.Disk).Sync -/
def code28 : ACode :=
 .seq (R [o 2 (.mov (i 0))])
 (.seq (.block 0 (.seq (R [o 4 (.mov (v 0)), o 5 (.eq false .pointer (v 4) (.const (.pointer none))), o 3 (.mov (v 5))])
   (.cond (v 3) (.seq (R [o 2 (.mov (i 1))])
    (.ret))
   (.seq (R [o 7 (.mov (v 0)), o 8 (.call (.func 48) [(v 7)]), o 9 (.un .not (v 8)), o 6 (.mov (v 9))])
    (.cond (v 6) (.seq (R [o 2 (.mov (i 7))])
     (.ret))
    (.skip))))))
 (.seq (R [o 10 (.mov (v 0)), o 11 (.nilCheck (v 10)), o 12 (.fieldAddr 2 (v 11)), on (.store 1 (v 12) (.const (.slice none 0 0)))])
 (.seq (R [o 2 (.mov (i 0))])
 (.ret))))
def fun28 : AFun := ⟨1, code28, [.tmp 2], 0⟩
theorem comp28 : FunOK Try.prog 28 fun28 :=
  FunOK.of Try.func28 [] [] (by kernel_rfl) (by kernel_rfl) (by decide +kernel) (by kernel_rfl)

/- (*decorum/disk.Disk).Crash -/
def code29 : ACode :=
 .seq (.seq (R [o 8 (.mov (v 0)), o 9 (.eq false .pointer (v 8) (.const (.pointer none)))])
  (.cond (v 9) (.ret)
  (.skip)))
 (.seq (R [o 10 (.mov (v 1)), o 11 (.minmax true [(v 10), (i 0)]), o 1 (.mov (v 11))])
 (.seq (.seq (R [o 12 (.mov (v 0)), o 13 (.nilCheck (v 12)), o 14 (.fieldAddr 2 (v 13)), o 15 (.load none (v 14)), o 16 (.len .slice (v 15)), o 17 (.mov (i 0))])
  (.block 0 (.loop [0, 1, 15, 16, 17] (.seq (R [o 18 (.bin .lss (v 17) (v 16))])
    (.seq (.cond (v 18) (.skip)
     (.exit 0))
    (.seq (.block 1 (.seq (R [o 19 (.indexAddr 2 (v 15) (v 17)), o 20 (.load (some 2) (v 19)), o 5 (.alloc 94 [(.int .i64 0), (.int .i64 0)]), on (.store 2 (v 5) (v 20))])
      (.seq (R [o 21 (.fieldAddr 1 (v 5)), o 22 (.load none (v 21)), o 23 (.mov (v 1)), o 24 (.bin .sub (v 22) (v 23)), o 25 (.minmax true [(v 24), (i 0)]), o 6 (.mov (v 25))])
      (.seq (R [o 26 (.mov (v 1)), o 27 (.fieldAddr 1 (v 5)), o 28 (.load none (v 27)), o 29 (.bin .sub (v 26) (v 28)), o 30 (.minmax true [(v 29), (i 0)]), o 1 (.mov (v 30))])
      (.seq (R [o 31 (.mov (v 0)), o 32 (.nilCheck (v 31)), o 33 (.fieldAddr 1 (v 32)), o 34 (.load none (v 33)), o 35 (.fieldAddr 0 (v 5)), o 36 (.load none (v 35)), o 37 (.lookup .int (.slice none 0 0) false (v 34) (v 36)), o 7 (.mov (v 37))])
      (R [o 38 (.mov (v 0)), o 39 (.nilCheck (v 38)), o 40 (.fieldAddr 1 (v 39)), o 41 (.load none (v 40)), o 42 (.fieldAddr 0 (v 5)), o 43 (.load none (v 42)), o 44 (.mov (v 7)), o 45 (.mov (v 7)), o 46 (.len .slice (v 45)), o 47 (.mov (v 6)), o 48 (.bin .sub (v 46) (v 47)), o 49 (.slice (.slice 1) (v 44) none (some (v 48)) none), on (.mapUpdate .int (v 41) (v 43) (v 49))]))))))
    (R [o 50 (.bin .add (v 17) (i 1)), o 17 (.mov (v 50))])))))))
 (R [o 51 (.mov (v 0)), o 52 (.mov (v 0)), o 53 (.mov (v 0)), o 54 (.nilCheck (v 51)), o 55 (.fieldAddr 2 (v 54)), on (.store 1 (v 55) (.const (.slice none 0 0))), o 56 (.nilCheck (v 52)), o 57 (.fieldAddr 3 (v 56)), on (.store 1 (v 57) (i 0)), o 58 (.nilCheck (v 53)), o 59 (.fieldAddr 4 (v 58)), on (.store 1 (v 59) (i 0))])))
def fun29 : AFun := ⟨2, code29, [], 0⟩
theorem comp29 : FunOK Try.prog 29 fun29 :=
  FunOK.of Try.func29 [[0, 1, 15, 16, 17]] [] (by kernel_rfl) (by kernel_rfl) (by decide +kernel) (by kernel_rfl)

/- (*decorum/disk.Disk).Read -/
def code30 : ACode :=
 .seq (R [o 4 (.mov (.const (.slice none 0 0))), o 5 (.mov (i 0))])
 (.seq (.seq (R [o 8 (.mov (v 0)), o 9 (.eq false .pointer (v 8) (.const (.pointer none)))])
  (.cond (v 9) (.seq (R [o 4 (.mov (.const (.slice none 0 0))), o 5 (.mov (i 1))])
   (.ret))
  (.skip)))
 (.seq (R [o 11 (.mov (v 0)), o 12 (.nilCheck (v 11)), o 13 (.fieldAddr 1 (v 12)), o 14 (.load none (v 13)), o 15 (.mov (v 1)), o 16 (.lookup .int (.slice none 0 0) true (v 14) (v 15)), o 10 (.mov (v 16)), o 17 (.extract (v 10) 0), o 18 (.extract (v 10) 1), o 6 (.mov (v 17)), o 7 (.mov (v 18))])
 (.seq (.seq (R [o 19 (.mov (v 7)), o 20 (.un .not (v 19))])
  (.cond (v 20) (.seq (R [o 4 (.mov (.const (.slice none 0 0))), o 5 (.mov (i 4))])
   (.ret))
  (.skip)))
 (.seq (R [o 21 (.mov (v 6)), o 22 (.call (.func 50) [(v 21)]), o 23 (.call (.func 49) [(v 22)]), o 4 (.mov (v 23)), o 5 (.mov (i 0))])
 (.ret)))))
def fun30 : AFun := ⟨2, code30, [.tmp 4, .tmp 5], 0⟩
theorem comp30 : FunOK Try.prog 30 fun30 :=
  FunOK.of Try.func30 [] [] (by kernel_rfl) (by kernel_rfl) (by decide +kernel) (by kernel_rfl)

/- decorum/decorumref13.New -/
def code31 : ACode :=
 .seq (R [o 2 (.mov (.const (.pointer none)))])
 (.seq (.seq (R [o 3 (.mov (v 0)), o 4 (.bin .lss (v 3) (i 0))])
  (.cond (v 4) (R [o 0 (.mov (i 0))])
  (.skip)))
 (.seq (.seq (R [o 5 (.mov (v 0)), o 6 (.bin .gtr (v 5) (i 16))])
  (.cond (v 6) (R [o 0 (.mov (i 16))])
  (.skip)))
 (.seq (R [o 7 (.mov (v 0)), o 8 (.build [(.int .i64 0), (.slice none 0 0), (.int .i64 0), (.int .i64 0), (.int .i64 0)] [(0, 1, (v 7))]), o 9 (.box 68 (v 8)), o 2 (.mov (v 9))])
 (.ret))))
def fun31 : AFun := ⟨1, code31, [.tmp 2], 0⟩
theorem comp31 : FunOK Try.prog 31 fun31 :=
  FunOK.of Try.func31 [] [] (by kernel_rfl) (by kernel_rfl) (by decide +kernel) (by kernel_rfl)

/- (*decorum/decorumref13.Disk).Append -/
def code32 : ACode :=
 .seq (R [o 6 (.mov (i 0))])
 (.seq (.seq (R [o 9 (.mov (v 1)), o 10 (.bin .lss (v 9) (i 0))])
  (.cond (v 10) (.seq (R [o 6 (.mov (i 1))])
   (.ret))
  (.skip)))
 (.seq (R [o 11 (.mov (v 0)), o 12 (.mov (v 1)), o 13 (.call (.func 51) [(v 11), (v 12)]), o 7 (.mov (v 13))])
 (.seq (.seq (R [o 14 (.mov (v 7)), o 15 (.bin .lss (v 14) (i 0)), o 16 (.mov (v 15)), ot 16 17 (.mov (v 0)), ot 16 18 (.nilCheck (v 17)), ot 16 19 (.fieldAddr 1 (v 18)), ot 16 20 (.load none (v 19)), ot 16 21 (.len .slice (v 20)), ot 16 22 (.mov (v 0)), ot 16 23 (.nilCheck (v 22)), ot 16 24 (.fieldAddr 0 (v 23)), ot 16 25 (.load none (v 24)), ot 16 26 (.bin .geq (v 21) (v 25)), o 27 (.pick (v 16) (v 26) ff), o 28 (.mov (v 27)), of 28 29 (.mov (v 7)), of 28 30 (.bin .lss (v 29) (i 0)), of 28 31 (.mov (v 30)), ot 31 32 (.mov (v 2)), ot 31 33 (.len .slice (v 32)), ot 31 34 (.bin .gtr (v 33) (i 2048)), of 28 35 (.pick (v 31) (v 34) ff), o 36 (.pick (v 28) tt (v 35)), o 37 (.mov (v 36)), of 37 38 (.mov (v 7)), of 37 39 (.bin .geq (v 38) (i 0)), of 37 40 (.mov (v 39)), ot 40 41 (.mov (v 0)), ot 40 42 (.nilCheck (v 41)), ot 40 43 (.fieldAddr 1 (v 42)), ot 40 44 (.load none (v 43)), ot 40 45 (.mov (v 7)), ot 40 46 (.indexAddr 2 (v 44) (v 45)), ot 40 47 (.fieldAddr 1 (v 46)), ot 40 48 (.load none (v 47)), ot 40 49 (.len .slice (v 48)), ot 40 50 (.mov (v 2)), ot 40 51 (.len .slice (v 50)), ot 40 52 (.bin .add (v 49) (v 51)), ot 40 53 (.bin .gtr (v 52) (i 2048)), of 37 54 (.pick (v 40) (v 53) ff), o 55 (.pick (v 37) tt (v 54))])
  (.cond (v 55) (.seq (R [o 6 (.mov (i 5))])
   (.ret))
  (.skip)))
 (.seq (.seq (R [o 56 (.mov (v 0)), o 57 (.call (.func 52) [(v 56)])])
  (.cond (v 57) (.seq (R [o 6 (.mov (i 7))])
   (.ret))
  (.skip)))
 (.seq (.seq (R [o 58 (.mov (v 7)), o 59 (.bin .lss (v 58) (i 0))])
  (.cond (v 59) (.seq (R [o 7 (.mov (i 0))])
   (.seq (.block 0 (.loop [0, 1, 2, 7] (.seq (.seq (R [o 60 (.mov (v 7)), o 61 (.mov (v 0)), o 62 (.nilCheck (v 61)), o 63 (.fieldAddr 1 (v 62)), o 64 (.load none (v 63)), o 65 (.len .slice (v 64)), o 66 (.bin .lss (v 60) (v 65)), o 67 (.mov (v 66)), ot 67 68 (.mov (v 0)), ot 67 69 (.nilCheck (v 68)), ot 67 70 (.fieldAddr 1 (v 69)), ot 67 71 (.load none (v 70)), ot 67 72 (.mov (v 7)), ot 67 73 (.indexAddr 2 (v 71) (v 72)), ot 67 74 (.fieldAddr 0 (v 73)), ot 67 75 (.load none (v 74)), ot 67 76 (.mov (v 1)), ot 67 77 (.bin .lss (v 75) (v 76)), o 78 (.pick (v 67) (v 77) ff)])
       (.cond (v 78) (.skip)
       (.exit 0)))
      (.block 1 (R [o 79 (.mov (v 7)), o 80 (.bin .add (v 79) (i 1)), o 7 (.mov (v 80))])))))
   (D [o 81 (.mov (v 0)), o 82 (.buildSlice 73 2 0 [] []), o 83 (.mov (v 0)), o 84 (.nilCheck (v 83)), o 85 (.fieldAddr 1 (v 84)), o 86 (.load none (v 85)), o 87 (.mov (v 7)), o 88 (.slice (.slice 2) (v 86) none (some (v 87)) none), o 89 (.append 73 2 32 (v 82) (v 88)), o 90 (.mov (v 1)), o 91 (.build [(.int .i64 0), (.slice none 0 0)] [(0, 1, (v 90))]), o 92 (.buildSlice 73 2 1 [(.int .i64 0), (.slice none 0 0)] [(0, 2, (v 91))]), o 93 (.append 73 2 32 (v 89) (v 92)), o 94 (.mov (v 0)), o 95 (.nilCheck (v 94)), o 96 (.fieldAddr 1 (v 95)), o 97 (.load none (v 96)), o 98 (.mov (v 7)), o 99 (.slice (.slice 2) (v 97) (some (v 98)) none none), o 100 (.append 73 2 32 (v 93) (v 99)), o 101 (.nilCheck (v 81)), o 102 (.fieldAddr 1 (v 101)), on (.store 1 (v 102) (v 100))] ⟨[(8, 11), (8, 16), (12, 16), (8, 18), (12, 18)], [], []⟩)))
  (.skip)))
 (.seq (.seq (R [o 8 (.mov (i 0))])
  (.block 2 (.loop [0, 2, 7, 8] (.seq (.seq (R [o 103 (.mov (v 8)), o 104 (.mov (v 2)), o 105 (.len .slice (v 104)), o 106 (.bin .lss (v 103) (v 105))])
     (.cond (v 106) (.skip)
     (.exit 2)))
    (.seq (.block 3 (.seq (D [o 109 (.mov (v 0)), o 110 (.nilCheck (v 109)), o 111 (.fieldAddr 1 (v 110)), o 112 (.load none (v 111)), o 113 (.mov (v 7)), o 114 (.mov (v 0)), o 115 (.nilCheck (v 114)), o 116 (.fieldAddr 1 (v 115)), o 117 (.load none (v 116)), o 118 (.mov (v 7)), o 119 (.indexAddr 2 (v 117) (v 118)), o 120 (.fieldAddr 1 (v 119)), o 121 (.load none (v 120)), o 122 (.mov (v 2)), o 123 (.mov (v 8)), o 124 (.indexAddr 1 (v 122) (v 123)), o 125 (.load none (v 124)), o 126 (.mov (v 0)), o 127 (.nilCheck (v 126)), o 128 (.fieldAddr 2 (v 127)), o 129 (.load none (v 128)), o 130 (.build [(.int .u8 0), (.int .i64 0)] [(0, 1, (v 125)), (1, 1, (v 129))]), o 131 (.buildSlice 97 2 1 [(.int .u8 0), (.int .i64 0)] [(0, 2, (v 130))]), o 132 (.append 97 2 16 (v 121) (v 131)), o 133 (.indexAddr 2 (v 112) (v 113)), o 134 (.fieldAddr 1 (v 133)), on (.store 1 (v 134) (v 132))] ⟨[(23, 3)], [], []⟩)
      (R [o 135 (.mov (v 0)), o 136 (.nilCheck (v 135)), o 137 (.fieldAddr 2 (v 136)), o 138 (.load none (v 137)), o 139 (.bin .add (v 138) (i 1)), o 140 (.nilCheck (v 135)), o 141 (.fieldAddr 2 (v 140)), on (.store 1 (v 141) (v 139))])))
    (R [o 107 (.mov (v 8)), o 108 (.bin .add (v 107) (i 1)), o 8 (.mov (v 108))]))))))
 (.seq (R [o 6 (.mov (i 0))])
 (.ret))))))))
def fun32 : AFun := ⟨3, code32, [.tmp 6], 0⟩
theorem comp32 : FunOK Try.prog 32 fun32 :=
  FunOK.of Try.func32 [[0, 1, 2, 7], [0, 2, 7, 8]] [⟨[(8, 11), (8, 16), (12, 16), (8, 18), (12, 18)], [], []⟩, ⟨[(23, 3)], [], []⟩] (by kernel_rfl) (by kernel_rfl) (by decide +kernel) (by kernel_rfl)

/- (*decorum/decorumref13.Disk).Sync -/
def code33 : ACode :=
 .seq (R [o 2 (.mov (i 0))])
 (.seq (.seq (R [o 5 (.mov (v 0)), o 6 (.call (.func 52) [(v 5)])])
  (.cond (v 6) (.seq (R [o 2 (.mov (i 7))])
   (.ret))
  (.skip)))
 (.seq (.seq (R [o 3 (.mov (i 0))])
  (.block 0 (.loop [0, 3] (.seq (.seq (R [o 7 (.mov (v 3)), o 8 (.mov (v 0)), o 9 (.nilCheck (v 8)), o 10 (.fieldAddr 1 (v 9)), o 11 (.load none (v 10)), o 12 (.len .slice (v 11)), o 13 (.bin .lss (v 7) (v 12))])
     (.cond (v 13) (.skip)
     (.exit 0)))
    (.seq (.block 1 (.seq (R [o 4 (.mov (i 0))])
      (.block 2 (.loop [0, 3, 4] (.seq (.seq (R [o 16 (.mov (v 4)), o 17 (.mov (v 0)), o 18 (.nilCheck (v 17)), o 19 (.fieldAddr 1 (v 18)), o 20 (.load none (v 19)), o 21 (.mov (v 3)), o 22 (.indexAddr 2 (v 20) (v 21)), o 23 (.fieldAddr 1 (v 22)), o 24 (.load none (v 23)), o 25 (.len .slice (v 24)), o 26 (.bin .lss (v 16) (v 25))])
         (.cond (v 26) (.skip)
         (.exit 2)))
        (.seq (.block 3 (R [o 29 (.mov (v 0)), o 30 (.nilCheck (v 29)), o 31 (.fieldAddr 1 (v 30)), o 32 (.load none (v 31)), o 33 (.mov (v 3)), o 34 (.indexAddr 2 (v 32) (v 33)), o 35 (.fieldAddr 1 (v 34)), o 36 (.load none (v 35)), o 37 (.mov (v 4)), o 38 (.indexAddr 2 (v 36) (v 37)), o 39 (.fieldAddr 1 (v 38)), on (.store 1 (v 39) (i (-1)))]))
        (R [o 27 (.mov (v 4)), o 28 (.bin .add (v 27) (i 1)), o 4 (.mov (v 28))])))))))
    (R [o 14 (.mov (v 3)), o 15 (.bin .add (v 14) (i 1)), o 3 (.mov (v 15))]))))))
 (.seq (R [o 2 (.mov (i 0))])
 (.ret))))
def fun33 : AFun := ⟨1, code33, [.tmp 2], 0⟩
theorem comp33 : FunOK Try.prog 33 fun33 :=
  FunOK.of Try.func33 [[0, 3], [0, 3, 4]] [] (by kernel_rfl) (by kernel_rfl) (by decide +kernel) (by kernel_rfl)

/- (*decorum/disk.Disk).Drop -/
def code34 : ACode :=
 .seq (R [o 3 (.box 3 (v 1)), o 4 (.mov (i 0))])
 (.seq (.seq (R [o 7 (.mov (v 0)), o 8 (.eq false .pointer (v 7) (.const (.pointer none)))])
  (.cond (v 8) (.seq (R [o 4 (.mov (i 1))])
   (.ret))
  (.skip)))
 (.seq (.seq (R [o 10 (.mov (v 0)), o 11 (.nilCheck (v 10)), o 12 (.fieldAddr 1 (v 11)), o 13 (.load none (v 12)), o 14 (.load none (v 3)), o 15 (.lookup .int (.slice none 0 0) true (v 13) (v 14)), o 9 (.mov (v 15)), o 16 (.extract (v 9) 0), o 17 (.extract (v 9) 1), o 5 (.mov (v 16)), o 6 (.mov (v 17))])
  (.seq (R [o 18 (.mov (v 6)), o 19 (.un .not (v 18))])
  (.cond (v 19) (.seq (R [o 4 (.mov (i 4))])
   (.ret))
  (.skip))))
 (.seq (.seq (R [o 20 (.mov (v 0)), o 21 (.call (.func 48) [(v 20)]), o 22 (.un .not (v 21))])
  (.cond (v 22) (.seq (R [o 4 (.mov (i 7))])
   (.ret))
  (.skip)))
 (.seq (R [o 23 (.mov (v 0)), o 24 (.nilCheck (v 23)), o 25 (.fieldAddr 1 (v 24)), o 26 (.load none (v 25)), o 27 (.load none (v 3)), on (.delete .int (v 26) (v 27))])
 (.seq (R [o 28 (.mov (v 0)), o 29 (.mov (v 0)), o 30 (.nilCheck (v 29)), o 31 (.fieldAddr 2 (v 30)), o 32 (.load none (v 31)), o 33 (.mkFunc (.func 54) [] [(v 3)]), o 34 (.call (.func 53) [(v 32), (v 33)]), o 35 (.nilCheck (v 28)), o 36 (.fieldAddr 2 (v 35)), on (.store 1 (v 36) (v 34))])
 (.seq (R [o 4 (.mov (i 0))])
 (.ret)))))))
def fun34 : AFun := ⟨2, code34, [.tmp 4], 0⟩
theorem comp34 : FunOK Try.prog 34 fun34 :=
  FunOK.of Try.func34 [] [] (by kernel_rfl) (by kernel_rfl) (by decide +kernel) (by kernel_rfl)

/- (*decorum/decorumref13.Disk).Drop -/
def code35 : ACode :=
 .seq (R [o 4 (.mov (i 0))])
 (.seq (R [o 6 (.mov (v 0)), o 7 (.mov (v 1)), o 8 (.call (.func 51) [(v 6), (v 7)]), o 5 (.mov (v 8))])
 (.seq (.seq (R [o 9 (.mov (v 5)), o 10 (.bin .lss (v 9) (i 0))])
  (.cond (v 10) (.seq (R [o 4 (.mov (i 4))])
   (.ret))
  (.skip)))
 (.seq (.seq (R [o 11 (.mov (v 0)), o 12 (.call (.func 52) [(v 11)])])
  (.cond (v 12) (.seq (R [o 4 (.mov (i 7))])
   (.ret))
  (.skip)))
 (.seq (D [o 13 (.mov (v 0)), o 14 (.buildSlice 73 2 0 [] []), o 15 (.mov (v 0)), o 16 (.nilCheck (v 15)), o 17 (.fieldAddr 1 (v 16)), o 18 (.load none (v 17)), o 19 (.mov (v 5)), o 20 (.slice (.slice 2) (v 18) none (some (v 19)) none), o 21 (.append 73 2 32 (v 14) (v 20)), o 22 (.mov (v 0)), o 23 (.nilCheck (v 22)), o 24 (.fieldAddr 1 (v 23)), o 25 (.load none (v 24)), o 26 (.mov (v 5)), o 27 (.bin .add (v 26) (i 1)), o 28 (.slice (.slice 2) (v 25) (some (v 27)) none none), o 29 (.append 73 2 32 (v 21) (v 28)), o 30 (.nilCheck (v 13)), o 31 (.fieldAddr 1 (v 30)), on (.store 1 (v 31) (v 29))] ⟨[(8, 12), (8, 15)], [], []⟩)
 (.seq (R [o 4 (.mov (i 0))])
 (.ret))))))
def fun35 : AFun := ⟨2, code35, [.tmp 4], 0⟩
theorem comp35 : FunOK Try.prog 35 fun35 :=
  FunOK.of Try.func35 [] [⟨[(8, 12), (8, 15)], [], []⟩] (by kernel_rfl) (by kernel_rfl) (by decide +kernel) (by kernel_rfl)

/- (*decorum/disk.Disk).Fault -/
def code36 : ACode :=
 .seq (R [o 6 (.mov (v 0)), o 7 (.eq true .pointer (v 6) (.const (.pointer none)))])
 (.cond (v 7) (R [o 8 (.mov (v 0)), o 9 (.mov (v 0)), o 10 (.mov (v 1)), o 11 (.minmax true [(v 10), (i 0)]), o 12 (.mov (v 2)), o 13 (.minmax true [(v 12), (i 0)]), o 14 (.nilCheck (v 8)), o 15 (.fieldAddr 3 (v 14)), on (.store 1 (v 15) (v 11)), o 16 (.nilCheck (v 9)), o 17 (.fieldAddr 4 (v 16)), on (.store 1 (v 17) (v 13))])
 (.skip))
def fun36 : AFun := ⟨3, code36, [], 0⟩
theorem comp36 : FunOK Try.prog 36 fun36 :=
  FunOK.of Try.func36 [] [] (by kernel_rfl) (by kernel_rfl) (by decide +kernel) (by kernel_rfl)

/- (*decorum/decorumref13.Disk).Crash -/
def code37 : ACode :=
 .seq (R [o 13 (.buildSlice 3 1 0 [] []), o 4 (.mov (v 13))])
 (.seq (.seq (R [o 5 (.mov (i 0))])
  (.block 0 (.loop [0, 1, 4, 5] (.seq (.seq (R [o 14 (.mov (v 5)), o 15 (.mov (v 0)), o 16 (.nilCheck (v 15)), o 17 (.fieldAddr 1 (v 16)), o 18 (.load none (v 17)), o 19 (.len .slice (v 18)), o 20 (.bin .lss (v 14) (v 19))])
     (.cond (v 20) (.skip)
     (.exit 0)))
    (.seq (.block 1 (.seq (R [o 6 (.mov (i 0))])
      (.block 2 (.loop [0, 1, 4, 5, 6] (.seq (.seq (R [o 23 (.mov (v 6)), o 24 (.mov (v 0)), o 25 (.nilCheck (v 24)), o 26 (.fieldAddr 1 (v 25)), o 27 (.load none (v 26)), o 28 (.mov (v 5)), o 29 (.indexAddr 2 (v 27) (v 28)), o 30 (.fieldAddr 1 (v 29)), o 31 (.load none (v 30)), o 32 (.len .slice (v 31)), o 33 (.bin .lss (v 23) (v 32))])
         (.cond (v 33) (.skip)
         (.exit 2)))
        (.seq (.block 3 (.seq (R [o 36 (.mov (v 0)), o 37 (.nilCheck (v 36)), o 38 (.fieldAddr 1 (v 37)), o 39 (.load none (v 38)), o 40 (.mov (v 5)), o 41 (.indexAddr 2 (v 39) (v 40)), o 42 (.fieldAddr 1 (v 41)), o 43 (.load none (v 42)), o 44 (.mov (v 6)), o 45 (.indexAddr 2 (v 43) (v 44)), o 46 (.fieldAddr 1 (v 45)), o 47 (.load none (v 46)), o 48 (.bin .geq (v 47) (i 0))])
          (.cond (v 48) (R [o 49 (.mov (v 4)), o 50 (.mov (v 0)), o 51 (.nilCheck (v 50)), o 52 (.fieldAddr 1 (v 51)), o 53 (.load none (v 52)), o 54 (.mov (v 5)), o 55 (.indexAddr 2 (v 53) (v 54)), o 56 (.fieldAddr 1 (v 55)), o 57 (.load none (v 56)), o 58 (.mov (v 6)), o 59 (.indexAddr 2 (v 57) (v 58)), o 60 (.fieldAddr 1 (v 59)), o 61 (.load none (v 60)), o 62 (.buildSlice 3 1 1 [(.int .i64 0)] [(0, 1, (v 61))]), o 63 (.append 3 1 8 (v 49) (v 62)), o 4 (.mov (v 63))])
          (.skip))))
        (R [o 34 (.mov (v 6)), o 35 (.bin .add (v 34) (i 1)), o 6 (.mov (v 35))])))))))
    (R [o 21 (.mov (v 5)), o 22 (.bin .add (v 21) (i 1)), o 5 (.mov (v 22))]))))))
 (.seq (.seq (R [o 7 (.mov (i 0))])
  (.block 4 (.loop [0, 1, 4, 7] (.seq (.seq (R [o 64 (.mov (v 7)), o 65 (.mov (v 0)), o 66 (.nilCheck (v 65)), o 67 (.fieldAddr 1 (v 66)), o 68 (.load none (v 67)), o 69 (.len .slice (v 68)), o 70 (.bin .lss (v 64) (v 69))])
     (.cond (v 70) (.skip)
     (.exit 4)))
    (.seq (.block 5 (.seq (R [o 73 (.buildSlice 97 2 0 [] []), o 8 (.mov (v 73))])
      (.seq (.seq (R [o 9 (.mov (i 0))])
       (.block 6 (.loop [0, 1, 4, 7, 8, 9] (.seq (.seq (R [o 74 (.mov (v 9)), o 75 (.mov (v 0)), o 76 (.nilCheck (v 75)), o 77 (.fieldAddr 1 (v 76)), o 78 (.load none (v 77)), o 79 (.mov (v 7)), o 80 (.indexAddr 2 (v 78) (v 79)), o 81 (.fieldAddr 1 (v 80)), o 82 (.load none (v 81)), o 83 (.len .slice (v 82)), o 84 (.bin .lss (v 74) (v 83))])
          (.cond (v 84) (.skip)
          (.exit 6)))
         (.seq (.block 7 (.seq (R [o 87 (.mov (v 0)), o 88 (.nilCheck (v 87)), o 89 (.fieldAddr 1 (v 88)), o 90 (.load none (v 89)), o 91 (.mov (v 7)), o 92 (.indexAddr 2 (v 90) (v 91)), o 93 (.fieldAddr 1 (v 92)), o 94 (.load none (v 93)), o 95 (.mov (v 9)), o 96 (.indexAddr 2 (v 94) (v 95)), o 97 (.load (some 2) (v 96)), o 10 (.alloc 97 [(.int .u8 0), (.int .i64 0)]), on (.store 2 (v 10) (v 97))])
           (.seq (.seq (R [o 98 (.fieldAddr 1 (v 10)), o 99 (.load none (v 98)), o 100 (.bin .geq (v 99) (i 0))])
            (.cond (v 100) (.seq (R [o 11 (.mov (i 0))])
             (.seq (.seq (R [o 12 (.mov (i 0))])
              (.block 8 (.loop [0, 1, 4, 7, 8, 9, 10, 11, 12] (.seq (.seq (R [o 101 (.mov (v 12)), o 102 (.mov (v 4)), o 103 (.len .slice (v 102)), o 104 (.bin .lss (v 101) (v 103))])
                 (.cond (v 104) (.skip)
                 (.exit 8)))
                (.seq (.block 9 (.seq (R [o 107 (.mov (v 4)), o 108 (.mov (v 12)), o 109 (.indexAddr 1 (v 107) (v 108)), o 110 (.load none (v 109)), o 111 (.fieldAddr 1 (v 10)), o 112 (.load none (v 111)), o 113 (.bin .lss (v 110) (v 112))])
                  (.cond (v 113) (R [o 114 (.mov (v 11)), o 115 (.bin .add (v 114) (i 1)), o 11 (.mov (v 115))])
                  (.skip))))
                (R [o 105 (.mov (v 12)), o 106 (.bin .add (v 105) (i 1)), o 12 (.mov (v 106))]))))))
             (.seq (R [o 116 (.mov (v 11)), o 117 (.mov (v 1)), o 118 (.bin .geq (v 116) (v 117))])
             (.cond (v 118) (.exit 7)
             (.skip)))))
            (.skip)))
           (R [o 119 (.mov (v 8)), o 120 (.fieldAddr 0 (v 10)), o 121 (.load none (v 120)), o 122 (.build [(.int .u8 0), (.int .i64 0)] [(0, 1, (v 121)), (1, 1, (i (-1)))]), o 123 (.buildSlice 97 2 1 [(.int .u8 0), (.int .i64 0)] [(0, 2, (v 122))]), o 124 (.append 97 2 16 (v 119) (v 123)), o 8 (.mov (v 124))]))))
         (R [o 85 (.mov (v 9)), o 86 (.bin .add (v 85) (i 1)), o 9 (.mov (v 86))]))))))
      (R [o 125 (.mov (v 0)), o 126 (.nilCheck (v 125)), o 127 (.fieldAddr 1 (v 126)), o 128 (.load none (v 127)), o 129 (.mov (v 7)), o 130 (.mov (v 8)), o 131 (.indexAddr 2 (v 128) (v 129)), o 132 (.fieldAddr 1 (v 131)), on (.store 1 (v 132) (v 130))]))))
    (R [o 71 (.mov (v 7)), o 72 (.bin .add (v 71) (i 1)), o 7 (.mov (v 72))]))))))
 (R [o 133 (.mov (v 0)), o 134 (.mov (v 0)), o 135 (.nilCheck (v 133)), o 136 (.fieldAddr 3 (v 135)), on (.store 1 (v 136) (i 0)), o 137 (.nilCheck (v 134)), o 138 (.fieldAddr 4 (v 137)), on (.store 1 (v 138) (i 0))])))
def fun37 : AFun := ⟨2, code37, [], 0⟩
theorem comp37 : FunOK Try.prog 37 fun37 :=
  FunOK.of Try.func37 [[0, 1, 4, 5], [0, 1, 4, 5, 6], [0, 1, 4, 7], [0, 1, 4, 7, 8, 9], [0, 1, 4, 7, 8, 9, 10, 11, 12]] [] (by kernel_rfl) (by kernel_rfl) (by decide +kernel) (by kernel_rfl)

/- (*decorum/disk.Disk).Segs -/
def code38 : ACode :=
 .seq (R [o 2 (.mov (.const (.slice none 0 0)))])
 (.seq (.seq (R [o 3 (.mov (v 0)), o 4 (.eq false .pointer (v 3) (.const (.pointer none)))])
  (.cond (v 4) (.seq (R [o 2 (.mov (.const (.slice none 0 0)))])
   (.ret))
  (.skip)))
 (.seq (R [o 5 (.mov (v 0)), o 6 (.nilCheck (v 5)), o 7 (.fieldAddr 1 (v 6)), o 8 (.load none (v 7)), o 9 (.call (.func 56) [(v 8)]), o 10 (.call (.func 55) [(v 9)]), o 2 (.mov (v 10))])
 (.ret)))
def fun38 : AFun := ⟨1, code38, [.tmp 2], 0⟩
theorem comp38 : FunOK Try.prog 38 fun38 :=
  FunOK.of Try.func38 [] [] (by kernel_rfl) (by kernel_rfl) (by decide +kernel) (by kernel_rfl)

/- (*decorum/decorumref13.Disk).Read -/
def code39 : ACode :=
 .seq (R [o 4 (.mov (.const (.slice none 0 0))), o 5 (.mov (i 0))])
 (.seq (R [o 9 (.mov (v 0)), o 10 (.mov (v 1)), o 11 (.call (.func 51) [(v 9), (v 10)]), o 6 (.mov (v 11))])
 (.seq (.seq (R [o 12 (.mov (v 6)), o 13 (.bin .lss (v 12) (i 0))])
  (.cond (v 13) (.seq (R [o 4 (.mov (.const (.slice none 0 0))), o 5 (.mov (i 4))])
   (.ret))
  (.skip)))
 (.seq (R [o 14 (.buildSlice 5 1 0 [] []), o 7 (.mov (v 14))])
 (.seq (.seq (R [o 8 (.mov (i 0))])
  (.block 0 (.loop [0, 6, 7, 8] (.seq (.seq (R [o 15 (.mov (v 8)), o 16 (.mov (v 0)), o 17 (.nilCheck (v 16)), o 18 (.fieldAddr 1 (v 17)), o 19 (.load none (v 18)), o 20 (.mov (v 6)), o 21 (.indexAddr 2 (v 19) (v 20)), o 22 (.fieldAddr 1 (v 21)), o 23 (.load none (v 22)), o 24 (.len .slice (v 23)), o 25 (.bin .lss (v 15) (v 24))])
     (.cond (v 25) (.skip)
     (.exit 0)))
    (.seq (.block 1 (R [o 28 (.mov (v 7)), o 29 (.mov (v 0)), o 30 (.nilCheck (v 29)), o 31 (.fieldAddr 1 (v 30)), o 32 (.load none (v 31)), o 33 (.mov (v 6)), o 34 (.indexAddr 2 (v 32) (v 33)), o 35 (.fieldAddr 1 (v 34)), o 36 (.load none (v 35)), o 37 (.mov (v 8)), o 38 (.indexAddr 2 (v 36) (v 37)), o 39 (.fieldAddr 0 (v 38)), o 40 (.load none (v 39)), o 41 (.buildSlice 5 1 1 [(.int .u8 0)] [(0, 1, (v 40))]), o 42 (.append 5 1 1 (v 28) (v 41)), o 7 (.mov (v 42))]))
    (R [o 26 (.mov (v 8)), o 27 (.bin .add (v 26) (i 1)), o 8 (.mov (v 27))]))))))
 (.seq (R [o 43 (.mov (v 7)), o 4 (.mov (v 43)), o 5 (.mov (i 0))])
 (.ret))))))
def fun39 : AFun := ⟨2, code39, [.tmp 4, .tmp 5], 0⟩
theorem comp39 : FunOK Try.prog 39 fun39 :=
  FunOK.of Try.func39 [[0, 6, 7, 8]] [] (by kernel_rfl) (by kernel_rfl) (by decide +kernel) (by kernel_rfl)

/- (*decorum/disk.Disk).work -/
def code48 : ACode :=
 .seq (R [o 2 (.mov ff)])
 (.seq (.block 0 (.seq (R [o 4 (.mov (v 0)), o 5 (.nilCheck (v 4)), o 6 (.fieldAddr 3 (v 5)), o 7 (.load none (v 6)), o 8 (.bin .gtr (v 7) (i 0)), o 3 (.mov (v 8))])
   (.cond (v 3) (R [o 9 (.mov (v 0)), o 10 (.nilCheck (v 9)), o 11 (.fieldAddr 3 (v 10)), o 12 (.load none (v 11)), o 13 (.bin .sub (v 12) (i 1)), o 14 (.nilCheck (v 9)), o 15 (.fieldAddr 3 (v 14)), on (.store 1 (v 15) (v 13))])
   (.seq (R [o 17 (.mov (v 0)), o 18 (.nilCheck (v 17)), o 19 (.fieldAddr 4 (v 18)), o 20 (.load none (v 19)), o 21 (.bin .gtr (v 20) (i 0)), o 16 (.mov (v 21))])
    (.cond (v 16) (.seq (R [o 22 (.mov (v 0)), o 23 (.nilCheck (v 22)), o 24 (.fieldAddr 4 (v 23)), o 25 (.load none (v 24)), o 26 (.bin .sub (v 25) (i 1)), o 27 (.nilCheck (v 22)), o 28 (.fieldAddr 4 (v 27)), on (.store 1 (v 28) (v 26))])
     (.seq (R [o 2 (.mov ff)])
     (.ret)))
    (.skip))))))
 (.seq (R [o 2 (.mov tt)])
 (.ret)))
def fun48 : AFun := ⟨1, code48, [.tmp 2], 0⟩
theorem comp48 : FunOK Try.prog 48 fun48 :=
  FunOK.of Try.func48 [] [] (by kernel_rfl) (by kernel_rfl) (by decide +kernel) (by kernel_rfl)

/- slices.Clip[[]byte,byte] -/
def code49 : ACode :=
 .seq (R [o 2 (.mov (.const (.slice none 0 0)))])
 (.seq (R [o 3 (.mov (v 0)), o 4 (.mov (v 0)), o 5 (.len .slice (v 4)), o 6 (.mov (v 0)), o 7 (.len .slice (v 6)), o 8 (.slice (.slice 1) (v 3) none (some (v 5)) (some (v 7))), o 2 (.mov (v 8))])
 (.ret))
def fun49 : AFun := ⟨1, code49, [.tmp 2], 0⟩
theorem comp49 : FunOK Try.prog 49 fun49 :=
  FunOK.of Try.func49 [] [] (by kernel_rfl) (by kernel_rfl) (by decide +kernel) (by kernel_rfl)

/- slices.Clone[[]byte,byte] -/
def code50 : ACode :=
 .seq (R [o 2 (.mov (.const (.slice none 0 0)))])
 (.seq (.seq (R [o 3 (.mov (v 0)), o 4 (.eq false .slice (v 3) (.const (.slice none 0 0)))])
  (.cond (v 4) (.seq (R [o 2 (.mov (.const (.slice none 0 0)))])
   (.ret))
  (.skip)))
 (.seq (R [o 5 (.buildSlice 5 1 0 [] []), o 6 (.mov (v 0)), o 7 (.append 5 1 1 (v 5) (v 6)), o 2 (.mov (v 7))])
 (.ret)))
def fun50 : AFun := ⟨1, code50, [.tmp 2], 0⟩
theorem comp50 : FunOK Try.prog 50 fun50 :=
  FunOK.of Try.func50 [] [] (by kernel_rfl) (by kernel_rfl) (by decide +kernel) (by kernel_rfl)

/- (*decorum/decorumref13.Disk).at -/
def code51 : ACode :=
 .seq (R [o 4 (.mov (i 0))])
 (.seq (.seq (R [o 5 (.mov (i 0))])
  (.block 0 (.loop [0, 1, 5] (.seq (.seq (R [o 6 (.mov (v 5)), o 7 (.mov (v 0)), o 8 (.nilCheck (v 7)), o 9 (.fieldAddr 1 (v 8)), o 10 (.load none (v 9)), o 11 (.len .slice (v 10)), o 12 (.bin .lss (v 6) (v 11))])
     (.cond (v 12) (.skip)
     (.exit 0)))
    (.seq (.block 1 (.seq (R [o 15 (.mov (v 0)), o 16 (.nilCheck (v 15)), o 17 (.fieldAddr 1 (v 16)), o 18 (.load none (v 17)), o 19 (.mov (v 5)), o 20 (.indexAddr 2 (v 18) (v 19)), o 21 (.fieldAddr 0 (v 20)), o 22 (.load none (v 21)), o 23 (.mov (v 1)), o 24 (.bin .eql (v 22) (v 23))])
      (.cond (v 24) (.seq (R [o 25 (.mov (v 5)), o 4 (.mov (v 25))])
       (.ret))
      (.skip))))
    (R [o 13 (.mov (v 5)), o 14 (.bin .add (v 13) (i 1)), o 5 (.mov (v 14))]))))))
 (.seq (R [o 4 (.mov (i (-1)))])
 (.ret)))
def fun51 : AFun := ⟨2, code51, [.tmp 4], 0⟩
theorem comp51 : FunOK Try.prog 51 fun51 :=
  FunOK.of Try.func51 [[0, 1, 5]] [] (by kernel_rfl) (by kernel_rfl) (by decide +kernel) (by kernel_rfl)

/- (*decorum/decorumref13.Disk).fails -/
def code52 : ACode :=
 .seq (R [o 2 (.mov ff)])
 (.seq (.seq (R [o 3 (.mov (v 0)), o 4 (.nilCheck (v 3)), o 5 (.fieldAddr 3 (v 4)), o 6 (.load none (v 5)), o 7 (.bin .gtr (v 6) (i 0))])
  (.cond (v 7) (.seq (R [o 8 (.mov (v 0)), o 9 (.nilCheck (v 8)), o 10 (.fieldAddr 3 (v 9)), o 11 (.load none (v 10)), o 12 (.bin .sub (v 11) (i 1)), o 13 (.nilCheck (v 8)), o 14 (.fieldAddr 3 (v 13)), on (.store 1 (v 14) (v 12))])
   (.seq (R [o 2 (.mov ff)])
   (.ret)))
  (.skip)))
 (.seq (.seq (R [o 15 (.mov (v 0)), o 16 (.nilCheck (v 15)), o 17 (.fieldAddr 4 (v 16)), o 18 (.load none (v 17)), o 19 (.bin .gtr (v 18) (i 0))])
  (.cond (v 19) (.seq (R [o 20 (.mov (v 0)), o 21 (.nilCheck (v 20)), o 22 (.fieldAddr 4 (v 21)), o 23 (.load none (v 22)), o 24 (.bin .sub (v 23) (i 1)), o 25 (.nilCheck (v 20)), o 26 (.fieldAddr 4 (v 25)), on (.store 1 (v 26) (v 24))])
   (.seq (R [o 2 (.mov tt)])
   (.ret)))
  (.skip)))
 (.seq (R [o 2 (.mov ff)])
 (.ret))))
def fun52 : AFun := ⟨1, code52, [.tmp 2], 0⟩
theorem comp52 : FunOK Try.prog 52 fun52 :=
  FunOK.of Try.func52 [] [] (by kernel_rfl) (by kernel_rfl) (by decide +kernel) (by kernel_rfl)

/- slices.DeleteFunc[[]decorum/disk.write,decorum/disk.write] -/
def code53 : ACode :=
 .seq (R [o 4 (.mov (.const (.slice none 0 0)))])
 (.seq (R [o 8 (.mov (v 0)), o 9 (.mov (v 1)), o 10 (.call (.func 63) [(v 8), (v 9)]), o 5 (.mov (v 10))])
 (.seq (.seq (R [o 11 (.mov (v 5)), o 12 (.bin .eql (v 11) (i (-1)))])
  (.cond (v 12) (.seq (R [o 13 (.mov (v 0)), o 4 (.mov (v 13))])
   (.ret))
  (.skip)))
 (.seq (.seq (R [o 14 (.mov (v 5)), o 15 (.bin .add (v 14) (i 1)), o 6 (.mov (v 15))])
  (.block 0 (.loop [0, 1, 5, 6] (.seq (.seq (R [o 16 (.mov (v 6)), o 17 (.mov (v 0)), o 18 (.len .slice (v 17)), o 19 (.bin .lss (v 16) (v 18))])
     (.cond (v 19) (.skip)
     (.exit 0)))
    (.seq (.block 1 (.seq (R [o 22 (.mov (v 0)), o 23 (.mov (v 6)), o 24 (.indexAddr 2 (v 22) (v 23)), o 25 (.load (some 2) (v 24)), o 7 (.alloc 94 [(.int .i64 0), (.int .i64 0)]), on (.store 2 (v 7) (v 25))])
      (.seq (R [o 26 (.mov (v 1)), o 27 (.load (some 2) (v 7)), o 28 (.call (v 26) [(v 27)]), o 29 (.un .not (v 28))])
      (.cond (v 29) (.seq (R [o 30 (.mov (v 0)), o 31 (.mov (v 5)), o 32 (.load (some 2) (v 7)), o 33 (.indexAddr 2 (v 30) (v 31)), on (.store 2 (v 33) (v 32))])
       (R [o 34 (.mov (v 5)), o 35 (.bin .add (v 34) (i 1)), o 5 (.mov (v 35))]))
      (.skip)))))
    (R [o 20 (.mov (v 6)), o 21 (.bin .add (v 20) (i 1)), o 6 (.mov (v 21))]))))))
 (.seq (R [o 36 (.mov (v 0)), o 37 (.mov (v 5)), o 38 (.slice (.slice 2) (v 36) (some (v 37)) none none), on (.clear 2 [(.int .i64 0), (.int .i64 0)] (v 38))])
 (.seq (R [o 39 (.mov (v 0)), o 40 (.mov (v 5)), o 41 (.slice (.slice 2) (v 39) none (some (v 40)) none), o 4 (.mov (v 41))])
 (.ret))))))
def fun53 : AFun := ⟨2, code53, [.tmp 4], 0⟩
theorem comp53 : FunOK Try.prog 53 fun53 :=
  FunOK.of Try.func53 [[0, 1, 5, 6]] [] (by kernel_rfl) (by kernel_rfl) (by decide +kernel) (by kernel_rfl)

/- (*decorum/disk.Disk).Drop$1 -/
def code54 : ACode :=
 .seq (R [o 2 (.box 94 (v 0)), o 3 (.mov ff)])
 (.seq (R [o 4 (.fieldAddr 0 (v 2)), o 5 (.load none (v 4)), o 6 (.load none (v 1)), o 7 (.bin .eql (v 5) (v 6)), o 3 (.mov (v 7))])
 (.ret))
def fun54 : AFun := ⟨2, code54, [.tmp 3], 1⟩
theorem comp54 : FunOK Try.prog 54 fun54 :=
  FunOK.of Try.func54 [] [] (by kernel_rfl) (by kernel_rfl) (by decide +kernel) (by kernel_rfl)

/- maps.Keys[map[int][]byte,int,[]byte] -/
def code56 : ACode :=
 .seq (R [o 1 (.box 88 (v 0)), o 2 (.mov (.const .nilFunc))])
 (.seq (R [o 3 (.mkFunc (.func 66) [] [(v 1)]), o 2 (.mov (v 3))])
 (.ret))
def fun56 : AFun := ⟨1, code56, [.tmp 2], 0⟩
theorem comp56 : FunOK Try.prog 56 fun56 :=
  FunOK.of Try.func56 [] [] (by kernel_rfl) (by kernel_rfl) (by decide +kernel) (by kernel_rfl)

/- slices.IndexFunc[[]decorum/disk.write,decorum/disk.write] -/
def code63 : ACode :=
 .seq (R [o 4 (.mov (i 0))])
 (.seq (.seq (R [o 6 (.mov (v 0)), o 7 (.len .slice (v 6)), o 8 (.mov (i 0))])
  (.block 0 (.loop [0, 1, 7, 8] (.seq (R [o 9 (.bin .lss (v 8) (v 7))])
    (.seq (.cond (v 9) (.skip)
     (.exit 0))
    (.seq (.block 1 (.seq (R [o 10 (.mov (v 8)), o 5 (.mov (v 10))])
      (.seq (R [o 11 (.mov (v 1)), o 12 (.mov (v 0)), o 13 (.mov (v 5)), o 14 (.indexAddr 2 (v 12) (v 13)), o 15 (.load (some 2) (v 14)), o 16 (.call (v 11) [(v 15)])])
      (.cond (v 16) (.seq (R [o 17 (.mov (v 5)), o 4 (.mov (v 17))])
       (.ret))
      (.skip)))))
    (R [o 18 (.bin .add (v 8) (i 1)), o 8 (.mov (v 18))])))))))
 (.seq (R [o 4 (.mov (i (-1)))])
 (.ret)))
def fun63 : AFun := ⟨2, code63, [.tmp 4], 1⟩
theorem comp63 : FunOK Try.prog 63 fun63 :=
  FunOK.of Try.func63 [[0, 1, 7, 8]] [] (by kernel_rfl) (by kernel_rfl) (by decide +kernel) (by kernel_rfl)

end Go.Proofs.Ytgnpafmhdmmmhaa
