/-
  The functions as abstract code: printed by a program of mine.
-/
import Derived.Test.YtlcfmfljmabaeaaProg
import Derived.Test.YtlcfmfljmabaeaaA49
import Derived.WalkKit
set_option maxRecDepth 100000
namespace Go.Proofs.Ytlcfmfljmabaeaa
open Go Go.Abs Go.Abs.K

/- decorum/decorumlaw15.SpillLasts -/
def code6 : ACode :=
 .seq (R [o 4 (.mov ff)])
 (.seq (R [o 25 (.call (.func 8) [(i 9)]), o 5 (.mov (v 25))])
 (.seq (R [o 27 (.mov (v 5)), o 28 (.call (.func 9) [(v 27), (i 4)]), o 26 (.mov (v 28)), o 29 (.extract (v 26) 0), o 30 (.extract (v 26) 1), o 6 (.mov (v 29)), o 7 (.mov (v 30))])
 (.seq (.seq (R [o 31 (.mov (v 7)), o 32 (.bin .neq (v 31) (i 0)), o 33 (.mov (v 32)), of 33 34 (.mov (v 6)), of 33 35 (.eq false .pointer (v 34) (.const (.pointer none))), o 36 (.pick (v 33) tt (v 35))])
  (.cond (v 36) (.seq (R [o 4 (.mov ff)])
   (.ret))
  (.skip)))
 (.seq (R [o 37 (.buildSlice 32 5 0 [] []), o 8 (.mov (v 37))])
 (.seq (R [o 38 (.buildSlice 32 5 0 [] []), o 9 (.mov (v 38))])
 (.seq (.seq (R [o 10 (.mov (i 0))])
  (.block 0 (.loop [0, 1, 5, 6, 8, 9, 10] (.seq (.seq (R [o 39 (.mov (v 10)), o 40 (.mov (v 0)), o 41 (.len .slice (v 40)), o 42 (.bin .lss (v 39) (v 41)), o 43 (.mov (v 42)), ot 43 44 (.mov (v 10)), ot 43 45 (.bin .lss (v 44) (i 60)), o 46 (.pick (v 43) (v 45) ff)])
     (.cond (v 46) (.skip)
     (.exit 0)))
    (.seq (.block 1 (.seq (R [o 49 (.mov (v 0)), o 50 (.mov (v 10)), o 51 (.indexAddr 9 (v 49) (v 50)), o 52 (.load (some 9) (v 51)), o 11 (.alloc 52 [(.int .i64 0), (.int .i64 0), (.int .i64 0), (.int .i64 0), (.string ⟨#[]⟩), (.string ⟨#[]⟩), (.int .i64 0), (.int .i64 0), (.string ⟨#[]⟩)]), on (.store 9 (v 11) (v 52))])
      (.seq (.seq (R [o 53 (.fieldAddr 3 (v 11)), o 54 (.load (some 5) (v 53)), o 55 (.call (.func 21) [(v 54)]), o 56 (.un .not (v 55))])
       (.cond (v 56) (.exit 1)
       (.skip)))
      (.seq (.seq (R [o 57 (.fieldAddr 0 (v 11)), o 58 (.load none (v 57))])
       (.block 2 (.seq (R [o 79 (.bin .eql (v 58) (i 0)), o 78 (.mov (v 79))])
        (.cond (v 78) (.seq (R [o 80 (.fieldAddr 3 (v 11)), o 81 (.load (some 5) (v 80)), o 12 (.alloc 32 [(.int .i64 0), (.string ⟨#[]⟩), (.string ⟨#[]⟩), (.int .i64 0), (.int .i64 0)]), on (.store 5 (v 12) (v 81))])
         (.seq (R [o 82 (.mov (v 6)), o 83 (.call (.func 10) [(v 82)]), o 84 (.fieldAddr 0 (v 12)), on (.store 1 (v 84) (v 83))])
         (.seq (.seq (R [o 85 (.fieldAddr 0 (v 12)), o 86 (.load none (v 85)), o 87 (.bin .lss (v 86) (i 0)), o 88 (.mov (v 87)), of 88 89 (.fieldAddr 0 (v 12)), of 88 90 (.load none (v 89)), of 88 91 (.bin .gtr (v 90) (i 1152921504606846976)), o 92 (.pick (v 88) tt (v 91))])
          (.cond (v 92) (.seq (R [o 93 (.call (.func 14) []), o 4 (.mov (v 93))])
           (.ret))
          (.skip)))
         (.seq (R [o 94 (.mov (v 8)), o 95 (.load (some 5) (v 12)), o 96 (.buildSlice 32 5 1 [(.int .i64 0), (.string ⟨#[]⟩), (.string ⟨#[]⟩), (.int .i64 0), (.int .i64 0)] [(0, 5, (v 95))]), o 97 (.append 32 5 56 (v 94) (v 96)), o 8 (.mov (v 97))])
         (.seq (R [o 98 (.mov (v 6)), o 99 (.load (some 5) (v 12)), o 100 (.call (.func 11) [(v 98), (v 99)]), o 101 (.bin .eql (v 100) (i 0))])
         (.cond (v 101) (R [o 102 (.mov (v 9)), o 103 (.load (some 5) (v 12)), o 104 (.buildSlice 32 5 1 [(.int .i64 0), (.string ⟨#[]⟩), (.string ⟨#[]⟩), (.int .i64 0), (.int .i64 0)] [(0, 5, (v 103))]), o 105 (.append 32 5 56 (v 102) (v 104)), o 9 (.mov (v 105))])
         (.skip)))))))
        (.seq (R [o 107 (.bin .eql (v 58) (i 1)), o 106 (.mov (v 107))])
         (.cond (v 106) (.seq (R [o 108 (.mov (v 6)), o 109 (.fieldAddr 1 (v 11)), o 110 (.load none (v 109)), o 111 (.call (.func 12) [(v 108), (v 110)])])
          (.seq (R [o 112 (.buildSlice 32 5 0 [] []), o 13 (.mov (v 112))])
          (.seq (.seq (R [o 14 (.mov (i 0))])
           (.block 3 (.loop [0, 1, 5, 6, 8, 9, 10, 11, 13, 14] (.seq (.seq (R [o 113 (.mov (v 14)), o 114 (.mov (v 9)), o 115 (.len .slice (v 114)), o 116 (.bin .lss (v 113) (v 115))])
              (.cond (v 116) (.skip)
              (.exit 3)))
             (.seq (.block 4 (.seq (R [o 119 (.mov (v 9)), o 120 (.mov (v 14)), o 121 (.indexAddr 5 (v 119) (v 120)), o 122 (.fieldAddr 0 (v 121)), o 123 (.load none (v 122)), o 124 (.fieldAddr 1 (v 11)), o 125 (.load none (v 124)), o 126 (.bin .neq (v 123) (v 125))])
               (.cond (v 126) (R [o 127 (.mov (v 13)), o 128 (.mov (v 9)), o 129 (.mov (v 14)), o 130 (.indexAddr 5 (v 128) (v 129)), o 131 (.load (some 5) (v 130)), o 132 (.buildSlice 32 5 1 [(.int .i64 0), (.string ⟨#[]⟩), (.string ⟨#[]⟩), (.int .i64 0), (.int .i64 0)] [(0, 5, (v 131))]), o 133 (.append 32 5 56 (v 127) (v 132)), o 13 (.mov (v 133))])
               (.skip))))
             (R [o 117 (.mov (v 14)), o 118 (.bin .add (v 117) (i 1)), o 14 (.mov (v 118))]))))))
          (R [o 134 (.mov (v 13)), o 9 (.mov (v 134))]))))
         (.seq (R [o 136 (.bin .eql (v 58) (i 2)), o 135 (.mov (v 136))])
          (.cond (v 135) (R [o 137 (.mov (v 6)), o 138 (.fieldAddr 8 (v 11)), o 139 (.load none (v 138)), o 140 (.fieldAddr 1 (v 11)), o 141 (.load none (v 140)), o 142 (.call (.func 16) [(v 137), (v 139), (v 141)])])
          (.seq (R [o 144 (.bin .eql (v 58) (i 3)), o 143 (.mov (v 144))])
           (.cond (v 143) (R [o 145 (.mov (v 6)), o 146 (.call (.func 13) [(v 145)])])
           (.seq (R [o 148 (.bin .eql (v 58) (i 4)), o 147 (.mov (v 148))])
            (.cond (v 147) (R [o 149 (.mov (v 5)), o 150 (.fieldAddr 1 (v 11)), o 151 (.load none (v 150)), o 152 (.fieldAddr 2 (v 11)), o 153 (.load none (v 152)), o 154 (.call (.func 22) [(v 149), (v 151), (v 153)])])
            (.seq (.seq (R [o 59 (.fieldAddr 0 (v 11)), o 60 (.load none (v 59)), o 61 (.bin .eql (v 60) (i 5))])
              (.cond (v 61) (R [o 62 (.mov (v 5)), o 63 (.fieldAddr 1 (v 11)), o 64 (.load none (v 63)), o 65 (.call (.func 20) [(v 62), (v 64)])])
              (.skip)))
             (.seq (R [o 67 (.mov (v 5)), o 68 (.call (.func 9) [(v 67), (i 4)]), o 66 (.mov (v 68)), o 69 (.extract (v 66) 0), o 70 (.extract (v 66) 1), o 15 (.mov (v 69)), o 16 (.mov (v 70))])
             (.seq (.seq (R [o 71 (.mov (v 16)), o 72 (.bin .neq (v 71) (i 0)), o 73 (.mov (v 72)), of 73 74 (.mov (v 15)), of 73 75 (.eq false .pointer (v 74) (.const (.pointer none))), o 76 (.pick (v 73) tt (v 75))])
              (.cond (v 76) (.seq (R [o 4 (.mov ff)])
               (.ret))
              (.skip)))
             (R [o 77 (.mov (v 15)), o 6 (.mov (v 77))]))))))))))))))))
      (.seq (R [o 155 (.mov (v 6)), o 156 (.call (.func 17) [(v 155)]), o 17 (.mov (v 156))])
      (.seq (.seq (R [o 18 (.mov (i 0))])
       (.block 5 (.loop [0, 1, 5, 6, 8, 9, 10, 17, 18] (.seq (.seq (R [o 157 (.mov (v 18)), o 158 (.mov (v 9)), o 159 (.len .slice (v 158)), o 160 (.bin .lss (v 157) (v 159))])
          (.cond (v 160) (.skip)
          (.exit 5)))
         (.seq (.block 6 (.seq (R [o 163 (.mov (v 17)), o 164 (.mov (v 9)), o 165 (.mov (v 18)), o 166 (.indexAddr 5 (v 164) (v 165)), o 167 (.load (some 5) (v 166)), o 168 (.call (.func 23) [(v 163), (v 167)]), o 169 (.un .not (v 168))])
           (.cond (v 169) (.seq (R [o 4 (.mov ff)])
            (.ret))
           (.skip))))
         (R [o 161 (.mov (v 18)), o 162 (.bin .add (v 161) (i 1)), o 18 (.mov (v 162))]))))))
      (.seq (R [o 19 (.mov (i 0))])
      (.block 7 (.loop [0, 1, 5, 6, 8, 9, 10, 17, 19] (.seq (.seq (R [o 170 (.mov (v 19)), o 171 (.mov (v 17)), o 172 (.len .slice (v 171)), o 173 (.bin .lss (v 170) (v 172))])
         (.cond (v 173) (.skip)
         (.exit 7)))
        (.seq (.block 8 (.seq (R [o 176 (.mov (v 8)), o 177 (.mov (v 17)), o 178 (.mov (v 19)), o 179 (.indexAddr 5 (v 177) (v 178)), o 180 (.load (some 5) (v 179)), o 181 (.call (.func 23) [(v 176), (v 180)]), o 182 (.un .not (v 181)), o 183 (.mov (v 182)), of 183 184 (.mov (v 19)), of 183 185 (.bin .gtr (v 184) (i 0)), of 183 186 (.mov (v 185)), ot 186 187 (.mov (v 17)), ot 186 188 (.mov (v 19)), ot 186 189 (.bin .sub (v 188) (i 1)), ot 186 190 (.indexAddr 5 (v 187) (v 189)), ot 186 191 (.fieldAddr 0 (v 190)), ot 186 192 (.load none (v 191)), ot 186 193 (.mov (v 17)), ot 186 194 (.mov (v 19)), ot 186 195 (.indexAddr 5 (v 193) (v 194)), ot 186 196 (.fieldAddr 0 (v 195)), ot 186 197 (.load none (v 196)), ot 186 198 (.bin .geq (v 192) (v 197)), of 183 199 (.pick (v 186) (v 198) ff), o 200 (.pick (v 183) tt (v 199))])
          (.cond (v 200) (.seq (R [o 4 (.mov ff)])
           (.ret))
          (.skip))))
        (R [o 174 (.mov (v 19)), o 175 (.bin .add (v 174) (i 1)), o 19 (.mov (v 175))]))))))))))))
    (R [o 47 (.mov (v 10)), o 48 (.bin .add (v 47) (i 1)), o 10 (.mov (v 48))]))))))
 (.seq (R [o 201 (.mov (v 5)), o 202 (.mov (v 1)), o 203 (.call (.func 20) [(v 201), (v 202)])])
 (.seq (R [o 205 (.mov (v 5)), o 206 (.call (.func 9) [(v 205), (i 4)]), o 204 (.mov (v 206)), o 207 (.extract (v 204) 0), o 208 (.extract (v 204) 1), o 20 (.mov (v 207)), o 21 (.mov (v 208))])
 (.seq (.seq (R [o 209 (.mov (v 21)), o 210 (.bin .neq (v 209) (i 0)), o 211 (.mov (v 210)), of 211 212 (.mov (v 20)), of 211 213 (.eq false .pointer (v 212) (.const (.pointer none))), o 214 (.pick (v 211) tt (v 213))])
  (.cond (v 214) (.seq (R [o 4 (.mov ff)])
   (.ret))
  (.skip)))
 (.seq (R [o 215 (.mov (v 20)), o 216 (.call (.func 17) [(v 215)]), o 22 (.mov (v 216))])
 (.seq (.seq (R [o 23 (.mov (i 0))])
  (.block 9 (.loop [8, 9, 22, 23] (.seq (.seq (R [o 217 (.mov (v 23)), o 218 (.mov (v 9)), o 219 (.len .slice (v 218)), o 220 (.bin .lss (v 217) (v 219))])
     (.cond (v 220) (.skip)
     (.exit 9)))
    (.seq (.block 10 (.seq (R [o 223 (.mov (v 22)), o 224 (.mov (v 9)), o 225 (.mov (v 23)), o 226 (.indexAddr 5 (v 224) (v 225)), o 227 (.load (some 5) (v 226)), o 228 (.call (.func 23) [(v 223), (v 227)]), o 229 (.un .not (v 228))])
      (.cond (v 229) (.seq (R [o 4 (.mov ff)])
       (.ret))
      (.skip))))
    (R [o 221 (.mov (v 23)), o 222 (.bin .add (v 221) (i 1)), o 23 (.mov (v 222))]))))))
 (.seq (.seq (R [o 24 (.mov (i 0))])
  (.block 11 (.loop [8, 22, 24] (.seq (.seq (R [o 230 (.mov (v 24)), o 231 (.mov (v 22)), o 232 (.len .slice (v 231)), o 233 (.bin .lss (v 230) (v 232))])
     (.cond (v 233) (.skip)
     (.exit 11)))
    (.seq (.block 12 (.seq (R [o 236 (.mov (v 8)), o 237 (.mov (v 22)), o 238 (.mov (v 24)), o 239 (.indexAddr 5 (v 237) (v 238)), o 240 (.load (some 5) (v 239)), o 241 (.call (.func 23) [(v 236), (v 240)]), o 242 (.un .not (v 241))])
      (.cond (v 242) (.seq (R [o 4 (.mov ff)])
       (.ret))
      (.skip))))
    (R [o 234 (.mov (v 24)), o 235 (.bin .add (v 234) (i 1)), o 24 (.mov (v 235))]))))))
 (.seq (R [o 243 (.call (.func 14) []), o 4 (.mov (v 243))])
 (.ret))))))))))))))
def fun6 : AFun := ⟨2, code6, [.tmp 4], 0⟩
theorem comp6 : FunOK Try.prog 6 fun6 :=
  FunOK.of Try.func6 [[0, 1, 5, 6, 8, 9, 10], [0, 1, 5, 6, 8, 9, 10, 11, 13, 14], [0, 1, 5, 6, 8, 9, 10, 17, 18], [0, 1, 5, 6, 8, 9, 10, 17, 19], [8, 9, 22, 23], [8, 22, 24]] [] (by kernel_rfl) (by kernel_rfl) (by decide +kernel) (by kernel_rfl)

/- decorum/decorumlaw15.SpillCompacts -/
def code7 : ACode :=
 .seq (R [o 8 (.mov ff)])
 (.seq (R [o 20 (.call (.func 8) [(i 16)]), o 9 (.mov (v 20))])
 (.seq (R [o 22 (.mov (v 9)), o 23 (.call (.func 9) [(v 22), (i 7)]), o 21 (.mov (v 23)), o 24 (.extract (v 21) 0), o 25 (.extract (v 21) 1), o 10 (.mov (v 24)), o 11 (.mov (v 25))])
 (.seq (.seq (R [o 26 (.mov (v 11)), o 27 (.bin .neq (v 26) (i 0)), o 28 (.mov (v 27)), of 28 29 (.mov (v 10)), of 28 30 (.eq false .pointer (v 29) (.const (.pointer none))), o 31 (.pick (v 28) tt (v 30))])
  (.cond (v 31) (.seq (R [o 8 (.mov ff)])
   (.ret))
  (.skip)))
 (.seq (.seq (R [o 12 (.mov (i 0))])
  (.block 0 (.loop [0, 1, 2, 3, 9, 10, 12] (.seq (.seq (R [o 32 (.mov (v 12)), o 33 (.mov (v 0)), o 34 (.len .slice (v 33)), o 35 (.bin .lss (v 32) (v 34)), o 36 (.mov (v 35)), ot 36 37 (.mov (v 12)), ot 36 38 (.bin .lss (v 37) (i 25)), o 39 (.pick (v 36) (v 38) ff)])
     (.cond (v 39) (.skip)
     (.exit 0)))
    (.seq (.block 1 (.seq (R [o 42 (.mov (v 0)), o 43 (.mov (v 12)), o 44 (.indexAddr 9 (v 42) (v 43)), o 45 (.load (some 9) (v 44)), o 13 (.alloc 52 [(.int .i64 0), (.int .i64 0), (.int .i64 0), (.int .i64 0), (.string ⟨#[]⟩), (.string ⟨#[]⟩), (.int .i64 0), (.int .i64 0), (.string ⟨#[]⟩)]), on (.store 9 (v 13) (v 45))])
      (.seq (.seq (R [o 46 (.fieldAddr 3 (v 13)), o 47 (.fieldAddr 1 (v 46)), o 48 (.load none (v 47)), o 49 (.len .string (v 48)), o 50 (.fieldAddr 3 (v 13)), o 51 (.fieldAddr 2 (v 50)), o 52 (.load none (v 51)), o 53 (.len .string (v 52)), o 54 (.bin .add (v 49) (v 53)), o 55 (.bin .gtr (v 54) (i 150)), o 56 (.mov (v 55)), of 56 57 (.fieldAddr 8 (v 13)), of 56 58 (.load none (v 57)), of 56 59 (.len .string (v 58)), of 56 60 (.bin .gtr (v 59) (i 100)), o 61 (.pick (v 56) tt (v 60))])
       (.cond (v 61) (.exit 1)
       (.skip)))
      (.seq (R [o 62 (.fieldAddr 0 (v 13)), o 63 (.load none (v 62))])
      (.block 2 (.seq (R [o 65 (.bin .eql (v 63) (i 0)), o 64 (.mov (v 65))])
       (.cond (v 64) (.seq (R [o 66 (.mov (v 10)), o 67 (.call (.func 10) [(v 66)]), o 68 (.fieldAddr 3 (v 13)), o 69 (.fieldAddr 0 (v 68)), on (.store 1 (v 69) (v 67))])
        (R [o 70 (.mov (v 10)), o 71 (.fieldAddr 3 (v 13)), o 72 (.load (some 5) (v 71)), o 73 (.call (.func 11) [(v 70), (v 72)])]))
       (.seq (R [o 75 (.bin .eql (v 63) (i 1)), o 74 (.mov (v 75))])
        (.cond (v 74) (R [o 76 (.mov (v 10)), o 77 (.fieldAddr 1 (v 13)), o 78 (.load none (v 77)), o 79 (.call (.func 12) [(v 76), (v 78)])])
        (.seq (R [o 81 (.bin .eql (v 63) (i 2)), o 80 (.mov (v 81))])
         (.cond (v 80) (R [o 82 (.mov (v 10)), o 83 (.fieldAddr 8 (v 13)), o 84 (.load none (v 83)), o 85 (.fieldAddr 1 (v 13)), o 86 (.load none (v 85)), o 87 (.call (.func 16) [(v 82), (v 84), (v 86)])])
         (.skip))))))))))))
    (R [o 40 (.mov (v 12)), o 41 (.bin .add (v 40) (i 1)), o 12 (.mov (v 41))]))))))
 (.seq (R [o 88 (.mov (v 10)), o 89 (.call (.func 17) [(v 88)]), o 90 (.mov (v 10)), o 91 (.call (.func 18) [(v 90), (.const (.string ⟨#[104, 116, 116, 112, 58, 47, 47, 97]⟩))]), o 92 (.mov (v 10)), o 93 (.call (.func 10) [(v 92)]), o 14 (.mov (v 89)), o 15 (.mov (v 91)), o 16 (.mov (v 93))])
 (.seq (R [o 94 (.mov (v 9)), o 95 (.mov (v 1)), o 96 (.bin .rem (v 95) (.const (.int .u8 12))), o 97 (.conv (.int .i64) (v 96)), o 98 (.mov (v 2)), o 99 (.bin .rem (v 98) (.const (.int .u8 4))), o 100 (.conv (.int .i64) (v 99)), o 101 (.call (.func 22) [(v 94), (v 97), (v 100)])])
 (.seq (R [o 102 (.mov (v 10)), o 103 (.call (.func 13) [(v 102)]), o 17 (.mov (v 103))])
 (.seq (.seq (R [o 104 (.mov (v 17)), o 105 (.bin .neq (v 104) (i 0)), o 106 (.mov (v 105)), ot 106 107 (.mov (v 17)), ot 106 108 (.bin .neq (v 107) (i 7)), o 109 (.pick (v 106) (v 108) ff), o 110 (.mov (v 109)), of 110 111 (.mov (v 17)), of 110 112 (.bin .eql (v 111) (i 7)), of 110 113 (.mov (v 112)), ot 113 114 (.mov (v 2)), ot 113 115 (.bin .rem (v 114) (.const (.int .u8 4))), ot 113 116 (.bin .eql (v 115) (.const (.int .u8 0))), of 110 117 (.pick (v 113) (v 116) ff), o 118 (.pick (v 110) tt (v 117))])
  (.cond (v 118) (.seq (R [o 8 (.mov ff)])
   (.ret))
  (.skip)))
 (.seq (.seq (R [o 119 (.mov (v 10)), o 120 (.call (.func 17) [(v 119)]), o 121 (.mov (v 14)), o 122 (.call (.func 24) [(v 120), (v 121)]), o 123 (.un .not (v 122)), o 124 (.mov (v 123)), of 124 125 (.mov (v 10)), of 124 126 (.call (.func 18) [(v 125), (.const (.string ⟨#[104, 116, 116, 112, 58, 47, 47, 97]⟩))]), of 124 127 (.mov (v 15)), of 124 128 (.bin .neq (v 126) (v 127)), o 129 (.pick (v 124) tt (v 128)), o 130 (.mov (v 129)), of 130 131 (.mov (v 10)), of 130 132 (.call (.func 10) [(v 131)]), of 130 133 (.mov (v 16)), of 130 134 (.bin .neq (v 132) (v 133)), o 135 (.pick (v 130) tt (v 134))])
  (.cond (v 135) (.seq (R [o 8 (.mov ff)])
   (.ret))
  (.skip)))
 (.seq (R [o 136 (.mov (v 9)), o 137 (.mov (v 3)), o 138 (.call (.func 20) [(v 136), (v 137)])])
 (.seq (R [o 140 (.mov (v 9)), o 141 (.call (.func 9) [(v 140), (i 7)]), o 139 (.mov (v 141)), o 142 (.extract (v 139) 0), o 143 (.extract (v 139) 1), o 18 (.mov (v 142)), o 19 (.mov (v 143))])
 (.seq (R [o 144 (.call (.func 14) []), o 145 (.mov (v 144)), ot 145 146 (.mov (v 19)), ot 145 147 (.bin .eql (v 146) (i 0)), o 148 (.pick (v 145) (v 147) ff), o 149 (.mov (v 148)), ot 149 150 (.mov (v 18)), ot 149 151 (.eq true .pointer (v 150) (.const (.pointer none))), o 152 (.pick (v 149) (v 151) ff), o 153 (.mov (v 152)), ot 153 154 (.mov (v 18)), ot 153 155 (.call (.func 17) [(v 154)]), ot 153 156 (.mov (v 14)), ot 153 157 (.call (.func 24) [(v 155), (v 156)]), o 158 (.pick (v 153) (v 157) ff), o 159 (.mov (v 158)), ot 159 160 (.mov (v 18)), ot 159 161 (.call (.func 18) [(v 160), (.const (.string ⟨#[104, 116, 116, 112, 58, 47, 47, 97]⟩))]), ot 159 162 (.mov (v 15)), ot 159 163 (.bin .eql (v 161) (v 162)), o 164 (.pick (v 159) (v 163) ff), o 165 (.mov (v 164)), ot 165 166 (.mov (v 18)), ot 165 167 (.call (.func 10) [(v 166)]), ot 165 168 (.mov (v 16)), ot 165 169 (.bin .eql (v 167) (v 168)), o 170 (.pick (v 165) (v 169) ff), o 8 (.mov (v 170))])
 (.ret)))))))))))))
def fun7 : AFun := ⟨4, code7, [.tmp 8], 0⟩
theorem comp7 : FunOK Try.prog 7 fun7 :=
  FunOK.of Try.func7 [[0, 1, 2, 3, 9, 10, 12]] [] (by kernel_rfl) (by kernel_rfl) (by decide +kernel) (by kernel_rfl)

/- decorum/disk.New -/
def code8 : ACode :=
 .seq (R [o 2 (.mov (.const (.pointer none)))])
 (.seq (R [o 3 (.mov (v 0)), o 4 (.minmax false [(v 3), (i 16)]), o 5 (.minmax true [(i 0), (v 4)]), o 6 (.mkMap none), o 7 (.build [(.int .i64 0), (.map none), (.slice none 0 0), (.int .i64 0), (.int .i64 0)] [(0, 1, (v 5)), (1, 1, (v 6))]), o 8 (.box 62 (v 7)), o 2 (.mov (v 8))])
 (.ret))
def fun8 : AFun := ⟨1, code8, [.tmp 2], 0⟩
theorem comp8 : FunOK Try.prog 8 fun8 :=
  FunOK.of Try.func8 [] [] (by kernel_rfl) (by kernel_rfl) (by decide +kernel) (by kernel_rfl)

/- decorum/spill.Open -/
def code9 : ACode :=
 .seq (R [o 4 (.mov (.const (.pointer none))), o 5 (.mov (i 0))])
 (.seq (.seq (R [o 15 (.mov (v 0)), o 16 (.eq false .pointer (v 15) (.const (.pointer none)))])
  (.cond (v 16) (.seq (R [o 4 (.mov (.const (.pointer none))), o 5 (.mov (i 1))])
   (.ret))
  (.skip)))
 (.seq (R [o 17 (.mov (v 0)), o 18 (.mov (v 1)), o 19 (.mkMap none), o 20 (.mkMap none), o 21 (.build [(.pointer none), (.int .i64 0), (.int .i64 0), (.map none), (.map none), (.int .i64 0)] [(0, 1, (v 17)), (1, 1, (v 18)), (3, 1, (v 19)), (4, 1, (v 20)), (5, 1, (i 1))]), o 22 (.box 66 (v 21)), o 6 (.mov (v 22))])
 (.seq (.seq (R [o 23 (.mov (v 0)), o 24 (.call (.func 25) [(v 23)]), o 25 (.len .slice (v 24)), o 26 (.mov (i 0))])
  (.block 0 (.loop [0, 6, 24, 25, 26] (.seq (R [o 27 (.bin .lss (v 26) (v 25))])
    (.seq (.cond (v 27) (.skip)
     (.exit 0))
    (.seq (.block 1 (.seq (R [o 28 (.indexAddr 1 (v 24) (v 26)), o 29 (.load none (v 28)), o 8 (.mov (v 29))])
      (.seq (R [o 31 (.mov (v 0)), o 32 (.mov (v 8)), o 33 (.call (.func 26) [(v 31), (v 32)]), o 30 (.mov (v 33)), o 34 (.extract (v 30) 0), o 35 (.extract (v 30) 1), o 9 (.mov (v 34)), o 10 (.mov (v 35))])
      (.seq (R [o 37 (.mov (v 9)), o 38 (.call (.func 27) [(v 37)]), o 36 (.mov (v 38)), o 39 (.extract (v 36) 0), o 40 (.extract (v 36) 1), o 11 (.mov (v 39)), o 12 (.mov (v 40))])
      (.seq (.seq (R [o 41 (.mov (v 11)), o 42 (.len .slice (v 41)), o 43 (.mov (i 0))])
       (.block 2 (.loop [0, 6, 8, 9, 12, 24, 25, 26, 41, 42, 43] (.seq (R [o 44 (.bin .lss (v 43) (v 42))])
         (.seq (.cond (v 44) (.skip)
          (.exit 2))
         (.seq (.block 3 (.seq (R [o 45 (.indexAddr 6 (v 41) (v 43)), o 46 (.load (some 6) (v 45)), o 14 (.alloc 74 [(.int .i64 0), (.int .i64 0), (.string ⟨#[]⟩), (.string ⟨#[]⟩), (.int .i64 0), (.int .i64 0)]), on (.store 6 (v 14) (v 46))])
           (R [o 47 (.mov (v 6)), o 48 (.load (some 6) (v 14)), o 49 (.call (.func 28) [(v 47), (v 48)])])))
         (R [o 50 (.bin .add (v 43) (i 1)), o 43 (.mov (v 50))])))))))
      (.seq (R [o 51 (.mov (v 6)), o 52 (.mov (v 8)), o 53 (.nilCheck (v 51)), o 54 (.fieldAddr 2 (v 53)), on (.store 1 (v 54) (v 52))])
      (.seq (R [o 55 (.mov (v 12)), o 56 (.mov (v 9)), o 57 (.len .slice (v 56)), o 58 (.bin .lss (v 55) (v 57))])
      (.cond (v 58) (R [o 59 (.mov (v 6)), o 60 (.mov (v 8)), o 61 (.bin .add (v 60) (i 1)), o 62 (.nilCheck (v 59)), o 63 (.fieldAddr 2 (v 62)), on (.store 1 (v 63) (v 61))])
      (.skip)))))))))
    (R [o 64 (.bin .add (v 26) (i 1)), o 26 (.mov (v 64))])))))))
 (.seq (R [o 65 (.mov (v 6)), o 4 (.mov (v 65)), o 5 (.mov (i 0))])
 (.ret)))))
def fun9 : AFun := ⟨2, code9, [.tmp 4, .tmp 5], 0⟩
theorem comp9 : FunOK Try.prog 9 fun9 :=
  FunOK.of Try.func9 [[0, 6, 24, 25, 26], [0, 6, 8, 9, 12, 24, 25, 26, 41, 42, 43]] [] (by kernel_rfl) (by kernel_rfl) (by decide +kernel) (by kernel_rfl)

/- (*decorum/spill.Log).Next -/
def code10 : ACode :=
 .seq (R [o 2 (.mov (i 0))])
 (.seq (.seq (R [o 3 (.mov (v 0)), o 4 (.eq false .pointer (v 3) (.const (.pointer none)))])
  (.cond (v 4) (.seq (R [o 2 (.mov (i 0))])
   (.ret))
  (.skip)))
 (.seq (R [o 5 (.mov (v 0)), o 6 (.nilCheck (v 5)), o 7 (.fieldAddr 5 (v 6)), o 8 (.load none (v 7)), o 2 (.mov (v 8))])
 (.ret)))
def fun10 : AFun := ⟨1, code10, [.tmp 2], 0⟩
theorem comp10 : FunOK Try.prog 10 fun10 :=
  FunOK.of Try.func10 [] [] (by kernel_rfl) (by kernel_rfl) (by decide +kernel) (by kernel_rfl)

/- (*decorum/spill.Log).Put -/
def code11 : ACode :=
 .seq (R [o 3 (.box 32 (v 1)), o 4 (.mov (i 0))])
 (.seq (.seq (R [o 6 (.mov (v 0)), o 7 (.eq false .pointer (v 6) (.const (.pointer none)))])
  (.cond (v 7) (.seq (R [o 4 (.mov (i 1))])
   (.ret))
  (.skip)))
 (.seq (R [o 8 (.mov (v 0)), o 9 (.load (some 5) (v 3)), o 10 (.build [(.int .i64 0), (.int .i64 0), (.string ⟨#[]⟩), (.string ⟨#[]⟩), (.int .i64 0), (.int .i64 0)] [(0, 1, (i 1)), (1, 5, (v 9))]), o 11 (.call (.func 29) [(v 8), (v 10)]), o 5 (.mov (v 11))])
 (.seq (.seq (R [o 12 (.mov (v 5)), o 13 (.bin .neq (v 12) (i 2))])
  (.cond (v 13) (R [o 14 (.mov (v 0)), o 15 (.mov (v 0)), o 16 (.nilCheck (v 15)), o 17 (.fieldAddr 5 (v 16)), o 18 (.load none (v 17)), o 19 (.fieldAddr 0 (v 3)), o 20 (.load none (v 19)), o 21 (.bin .add (v 20) (i 1)), o 22 (.minmax true [(v 18), (v 21)]), o 23 (.nilCheck (v 14)), o 24 (.fieldAddr 5 (v 23)), on (.store 1 (v 24) (v 22))])
  (.skip)))
 (.seq (.seq (R [o 25 (.mov (v 5)), o 26 (.bin .eql (v 25) (i 0))])
  (.cond (v 26) (R [o 27 (.mov (v 0)), o 28 (.nilCheck (v 27)), o 29 (.fieldAddr 3 (v 28)), o 30 (.load none (v 29)), o 31 (.fieldAddr 0 (v 3)), o 32 (.load none (v 31)), o 33 (.load (some 5) (v 3)), on (.mapUpdate .int (v 30) (v 32) (v 33))])
  (.skip)))
 (.seq (R [o 34 (.mov (v 5)), o 4 (.mov (v 34))])
 (.ret))))))
def fun11 : AFun := ⟨2, code11, [.tmp 4], 0⟩
theorem comp11 : FunOK Try.prog 11 fun11 :=
  FunOK.of Try.func11 [] [] (by kernel_rfl) (by kernel_rfl) (by decide +kernel) (by kernel_rfl)

/- (*decorum/spill.Log).Done -/
def code12 : ACode :=
 .seq (R [o 4 (.mov (i 0))])
 (.seq (.seq (R [o 7 (.mov (v 0)), o 8 (.eq false .pointer (v 7) (.const (.pointer none)))])
  (.cond (v 8) (.seq (R [o 4 (.mov (i 1))])
   (.ret))
  (.skip)))
 (.seq (.seq (R [o 10 (.mov (v 0)), o 11 (.nilCheck (v 10)), o 12 (.fieldAddr 3 (v 11)), o 13 (.load none (v 12)), o 14 (.mov (v 1)), o 15 (.lookup .int (.agg #[(.int .i64 0), (.string ⟨#[]⟩), (.string ⟨#[]⟩), (.int .i64 0), (.int .i64 0)]) true (v 13) (v 14)), o 9 (.mov (v 15)), o 16 (.extract (v 9) 0), o 17 (.extract (v 9) 1), o 5 (.alloc 32 [(.int .i64 0), (.string ⟨#[]⟩), (.string ⟨#[]⟩), (.int .i64 0), (.int .i64 0)]), on (.store 5 (v 5) (v 16)), o 6 (.mov (v 17))])
  (.seq (R [o 18 (.mov (v 6)), o 19 (.un .not (v 18))])
  (.cond (v 19) (.seq (R [o 4 (.mov (i 4))])
   (.ret))
  (.skip))))
 (.seq (R [o 20 (.mov (v 0)), o 21 (.nilCheck (v 20)), o 22 (.fieldAddr 3 (v 21)), o 23 (.load none (v 22)), o 24 (.mov (v 1)), on (.delete .int (v 23) (v 24))])
 (.seq (R [o 25 (.mov (v 0)), o 26 (.mov (v 1)), o 27 (.build [(.int .i64 0), (.string ⟨#[]⟩), (.string ⟨#[]⟩), (.int .i64 0), (.int .i64 0)] [(0, 1, (v 26))]), o 28 (.build [(.int .i64 0), (.int .i64 0), (.string ⟨#[]⟩), (.string ⟨#[]⟩), (.int .i64 0), (.int .i64 0)] [(0, 1, (i 2)), (1, 5, (v 27))]), o 29 (.call (.func 29) [(v 25), (v 28)]), o 4 (.mov (v 29))])
 (.ret)))))
def fun12 : AFun := ⟨2, code12, [.tmp 4], 0⟩
theorem comp12 : FunOK Try.prog 12 fun12 :=
  FunOK.of Try.func12 [] [] (by kernel_rfl) (by kernel_rfl) (by decide +kernel) (by kernel_rfl)

/- (*decorum/spill.Log).Compact -/
def code13 : ACode :=
 .seq (R [o 2 (.mov (i 0))])
 (.seq (.seq (R [o 6 (.mov (v 0)), o 7 (.eq false .pointer (v 6) (.const (.pointer none)))])
  (.cond (v 7) (.seq (R [o 2 (.mov (i 1))])
   (.ret))
  (.skip)))
 (.seq (R [o 8 (.mov (v 0)), o 9 (.nilCheck (v 8)), o 10 (.fieldAddr 0 (v 9)), o 11 (.load none (v 10)), o 12 (.call (.func 25) [(v 11)]), o 3 (.mov (v 12))])
 (.seq (R [o 14 (.mov (v 0)), o 15 (.mov (v 0)), o 16 (.call (.func 31) [(v 15)]), o 17 (.call (.func 30) [(v 14), (v 16)]), o 13 (.mov (v 17)), o 18 (.extract (v 13) 0), o 19 (.extract (v 13) 1), o 4 (.mov (v 18)), o 5 (.mov (v 19))])
 (.seq (R [o 20 (.mov (v 0)), o 21 (.mov (v 4)), o 22 (.mov (v 4)), o 23 (.len .slice (v 22)), o 24 (.bin .sub (v 23) (i 1)), o 25 (.indexAddr 1 (v 21) (v 24)), o 26 (.load none (v 25)), o 27 (.nilCheck (v 20)), o 28 (.fieldAddr 2 (v 27)), on (.store 1 (v 28) (v 26))])
 (.seq (.seq (R [o 29 (.mov (v 5)), o 30 (.bin .neq (v 29) (i 0))])
  (.cond (v 30) (.seq (R [o 31 (.mov (v 4)), o 32 (.call (.func 32) [(v 31)])])
   (.seq (R [o 33 (.mov (v 0)), o 34 (.mov (v 4)), o 35 (.call (.func 33) [(v 33), (v 34)])])
   (.seq (R [o 36 (.mov (v 5)), o 2 (.mov (v 36))])
   (.ret))))
  (.skip)))
 (.seq (R [o 37 (.mov (v 0)), o 38 (.mov (v 3)), o 39 (.call (.func 33) [(v 37), (v 38)]), o 2 (.mov (v 39))])
 (.ret)))))))
def fun13 : AFun := ⟨1, code13, [.tmp 2], 0⟩
theorem comp13 : FunOK Try.prog 13 fun13 :=
  FunOK.of Try.func13 [] [] (by kernel_rfl) (by kernel_rfl) (by decide +kernel) (by kernel_rfl)

/- decorum/decorumlaw15.awake -/
def code14 : ACode :=
 .seq (R [o 0 (.mov ff)])
 (.seq (R [o 12 (.call (.func 8) [(i 5)]), o 1 (.mov (v 12))])
 (.seq (R [o 14 (.mov (v 1)), o 15 (.call (.func 9) [(v 14), (i 2)]), o 13 (.mov (v 15)), o 16 (.extract (v 13) 0), o 17 (.extract (v 13) 1), o 2 (.mov (v 16)), o 3 (.mov (v 17))])
 (.seq (R [o 18 (.mov (v 2)), o 19 (.build [(.int .i64 0), (.string ⟨#[]⟩), (.string ⟨#[]⟩), (.int .i64 0), (.int .i64 0)] [(0, 1, (i 4)), (1, 1, (.const (.string ⟨#[104]⟩))), (2, 1, (.const (.string ⟨#[47]⟩)))]), o 20 (.call (.func 11) [(v 18), (v 19)]), o 4 (.mov (v 20))])
 (.seq (R [o 21 (.mov (v 2)), o 22 (.build [(.int .i64 0), (.string ⟨#[]⟩), (.string ⟨#[]⟩), (.int .i64 0), (.int .i64 0)] [(0, 1, (i 6)), (1, 1, (.const (.string ⟨#[104]⟩))), (2, 1, (.const (.string ⟨#[47, 120]⟩)))]), o 23 (.call (.func 11) [(v 21), (v 22)]), o 5 (.mov (v 23))])
 (.seq (R [o 24 (.mov (v 2)), o 25 (.call (.func 12) [(v 24), (i 4)]), o 6 (.mov (v 25))])
 (.seq (R [o 26 (.mov (v 2)), o 27 (.call (.func 16) [(v 26), (.const (.string ⟨#[104]⟩)), (i 77)]), o 7 (.mov (v 27))])
 (.seq (R [o 28 (.mov (v 2)), o 29 (.call (.func 12) [(v 28), (i 4)]), o 8 (.mov (v 29))])
 (.seq (R [o 31 (.mov (v 1)), o 32 (.call (.func 9) [(v 31), (i 2)]), o 30 (.mov (v 32)), o 33 (.extract (v 30) 0), o 34 (.extract (v 30) 1), o 9 (.mov (v 33)), o 10 (.mov (v 34))])
 (.seq (R [o 35 (.mov (v 9)), o 36 (.call (.func 17) [(v 35)]), o 11 (.mov (v 36))])
 (.seq (R [o 37 (.mov (v 3)), o 38 (.bin .eql (v 37) (i 0)), o 39 (.mov (v 38)), ot 39 40 (.mov (v 4)), ot 39 41 (.bin .eql (v 40) (i 0)), o 42 (.pick (v 39) (v 41) ff), o 43 (.mov (v 42)), ot 43 44 (.mov (v 5)), ot 43 45 (.bin .eql (v 44) (i 0)), o 46 (.pick (v 43) (v 45) ff), o 47 (.mov (v 46)), ot 47 48 (.mov (v 6)), ot 47 49 (.bin .eql (v 48) (i 0)), o 50 (.pick (v 47) (v 49) ff), o 51 (.mov (v 50)), ot 51 52 (.mov (v 7)), ot 51 53 (.bin .eql (v 52) (i 0)), o 54 (.pick (v 51) (v 53) ff), o 55 (.mov (v 54)), ot 55 56 (.mov (v 8)), ot 55 57 (.bin .eql (v 56) (i 4)), o 58 (.pick (v 55) (v 57) ff), o 59 (.mov (v 58)), ot 59 60 (.mov (v 10)), ot 59 61 (.bin .eql (v 60) (i 0)), o 62 (.pick (v 59) (v 61) ff), o 63 (.mov (v 62)), ot 63 64 (.mov (v 11)), ot 63 65 (.len .slice (v 64)), ot 63 66 (.bin .eql (v 65) (i 1)), o 67 (.pick (v 63) (v 66) ff), o 68 (.mov (v 67)), ot 68 69 (.mov (v 11)), ot 68 70 (.indexAddr 5 (v 69) (i 0)), ot 68 71 (.fieldAddr 2 (v 70)), ot 68 72 (.load none (v 71)), ot 68 73 (.bin .eql (v 72) (.const (.string ⟨#[47, 120]⟩))), o 74 (.pick (v 68) (v 73) ff), o 75 (.mov (v 74)), ot 75 76 (.mov (v 9)), ot 75 77 (.call (.func 18) [(v 76), (.const (.string ⟨#[104]⟩))]), ot 75 78 (.bin .eql (v 77) (i 77)), o 79 (.pick (v 75) (v 78) ff), o 80 (.mov (v 79)), ot 80 81 (.mov (v 9)), ot 80 82 (.call (.func 10) [(v 81)]), ot 80 83 (.bin .eql (v 82) (i 7)), o 84 (.pick (v 80) (v 83) ff), o 85 (.mov (v 84)), ot 85 86 (.mov (v 9)), ot 85 87 (.call (.func 19) [(v 86)]), ot 85 88 (.bin .eql (v 87) (i 1)), o 89 (.pick (v 85) (v 88) ff), o 0 (.mov (v 89))])
 (.ret)))))))))))
def fun14 : AFun := ⟨0, code14, [.tmp 0], 0⟩
theorem comp14 : FunOK Try.prog 14 fun14 :=
  FunOK.of Try.func14 [] [] (by kernel_rfl) (by kernel_rfl) (by decide +kernel) (by kernel_rfl)

/- (*decorum/spill.Log).Load -/
def code15 : ACode :=
 .seq (R [o 4 (.alloc 32 [(.int .i64 0), (.string ⟨#[]⟩), (.string ⟨#[]⟩), (.int .i64 0), (.int .i64 0)]), o 5 (.mov ff)])
 (.seq (.seq (R [o 8 (.mov (v 0)), o 9 (.eq false .pointer (v 8) (.const (.pointer none)))])
  (.cond (v 9) (.seq (R [o 10 (.build [(.int .i64 0), (.string ⟨#[]⟩), (.string ⟨#[]⟩), (.int .i64 0), (.int .i64 0)] []), on (.store 5 (v 4) (v 10)), o 5 (.mov ff)])
   (.ret))
  (.skip)))
 (.seq (R [o 12 (.mov (v 0)), o 13 (.nilCheck (v 12)), o 14 (.fieldAddr 3 (v 13)), o 15 (.load none (v 14)), o 16 (.mov (v 1)), o 17 (.lookup .int (.agg #[(.int .i64 0), (.string ⟨#[]⟩), (.string ⟨#[]⟩), (.int .i64 0), (.int .i64 0)]) true (v 15) (v 16)), o 11 (.mov (v 17)), o 18 (.extract (v 11) 0), o 19 (.extract (v 11) 1), o 6 (.alloc 32 [(.int .i64 0), (.string ⟨#[]⟩), (.string ⟨#[]⟩), (.int .i64 0), (.int .i64 0)]), on (.store 5 (v 6) (v 18)), o 7 (.mov (v 19))])
 (.seq (R [o 20 (.load (some 5) (v 6)), o 21 (.mov (v 7)), on (.store 5 (v 4) (v 20)), o 5 (.mov (v 21))])
 (.ret))))
def fun15 : AFun := ⟨2, code15, [.cell 4 (some 5), .tmp 5], 0⟩
theorem comp15 : FunOK Try.prog 15 fun15 :=
  FunOK.of Try.func15 [] [] (by kernel_rfl) (by kernel_rfl) (by decide +kernel) (by kernel_rfl)

/- (*decorum/spill.Log).Wait -/
def code16 : ACode :=
 .seq (R [o 6 (.mov (i 0))])
 (.seq (.seq (R [o 10 (.mov (v 0)), o 11 (.eq false .pointer (v 10) (.const (.pointer none)))])
  (.cond (v 11) (.seq (R [o 6 (.mov (i 1))])
   (.ret))
  (.skip)))
 (.seq (R [o 12 (.mov (v 1)), o 13 (.mov (v 2)), o 14 (.build [(.int .i64 0), (.string ⟨#[]⟩), (.string ⟨#[]⟩), (.int .i64 0), (.int .i64 0)] [(1, 1, (v 12)), (4, 1, (v 13))]), o 15 (.build [(.int .i64 0), (.int .i64 0), (.string ⟨#[]⟩), (.string ⟨#[]⟩), (.int .i64 0), (.int .i64 0)] [(0, 1, (i 3)), (1, 5, (v 14))]), o 7 (.alloc 74 [(.int .i64 0), (.int .i64 0), (.string ⟨#[]⟩), (.string ⟨#[]⟩), (.int .i64 0), (.int .i64 0)]), on (.store 6 (v 7) (v 15))])
 (.seq (.seq (R [o 17 (.load (some 6) (v 7)), o 18 (.call (.func 34) [(v 17)]), o 16 (.mov (v 18)), o 19 (.extract (v 16) 0), o 20 (.extract (v 16) 1), o 8 (.mov (v 19)), o 9 (.mov (v 20))])
  (.seq (R [o 21 (.mov (v 9)), o 22 (.bin .neq (v 21) (i 0))])
  (.cond (v 22) (.seq (R [o 23 (.mov (v 9)), o 6 (.mov (v 23))])
   (.ret))
  (.skip))))
 (.seq (R [o 24 (.mov (v 0)), o 25 (.load (some 6) (v 7)), o 26 (.call (.func 28) [(v 24), (v 25)])])
 (.seq (R [o 27 (.mov (v 0)), o 28 (.load (some 6) (v 7)), o 29 (.call (.func 29) [(v 27), (v 28)]), o 6 (.mov (v 29))])
 (.ret))))))
def fun16 : AFun := ⟨3, code16, [.tmp 6], 0⟩
theorem comp16 : FunOK Try.prog 16 fun16 :=
  FunOK.of Try.func16 [] [] (by kernel_rfl) (by kernel_rfl) (by decide +kernel) (by kernel_rfl)

/- (*decorum/spill.Log).Pending -/
def code17 : ACode :=
 .seq (R [o 2 (.mov (.const (.slice none 0 0)))])
 (.seq (.seq (R [o 6 (.mov (v 0)), o 7 (.eq false .pointer (v 6) (.const (.pointer none)))])
  (.cond (v 7) (.seq (R [o 2 (.mov (.const (.slice none 0 0)))])
   (.ret))
  (.skip)))
 (.seq (R [o 3 (.mov (.const (.slice none 0 0)))])
 (.seq (.seq (R [o 8 (.mov (v 0)), o 9 (.nilCheck (v 8)), o 10 (.fieldAddr 3 (v 9)), o 11 (.load none (v 10)), o 12 (.call (.func 35) [(v 11)]), o 13 (.len .slice (v 12)), o 14 (.mov (i 0))])
  (.block 0 (.loop [0, 3, 12, 13, 14] (.seq (R [o 15 (.bin .lss (v 14) (v 13))])
    (.seq (.cond (v 15) (.skip)
     (.exit 0))
    (.seq (.block 1 (.seq (R [o 16 (.indexAddr 1 (v 12) (v 14)), o 17 (.load none (v 16)), o 5 (.mov (v 17))])
      (R [o 18 (.mov (v 3)), o 19 (.mov (v 0)), o 20 (.nilCheck (v 19)), o 21 (.fieldAddr 3 (v 20)), o 22 (.load none (v 21)), o 23 (.mov (v 5)), o 24 (.lookup .int (.agg #[(.int .i64 0), (.string ⟨#[]⟩), (.string ⟨#[]⟩), (.int .i64 0), (.int .i64 0)]) false (v 22) (v 23)), o 25 (.buildSlice 32 5 1 [(.int .i64 0), (.string ⟨#[]⟩), (.string ⟨#[]⟩), (.int .i64 0), (.int .i64 0)] [(0, 5, (v 24))]), o 26 (.append 32 5 56 (v 18) (v 25)), o 3 (.mov (v 26))])))
    (R [o 27 (.bin .add (v 14) (i 1)), o 14 (.mov (v 27))])))))))
 (.seq (R [o 28 (.mov (v 3)), o 2 (.mov (v 28))])
 (.ret)))))
def fun17 : AFun := ⟨1, code17, [.tmp 2], 0⟩
theorem comp17 : FunOK Try.prog 17 fun17 :=
  FunOK.of Try.func17 [[0, 3, 12, 13, 14]] [] (by kernel_rfl) (by kernel_rfl) (by decide +kernel) (by kernel_rfl)

/- (*decorum/spill.Log).Until -/
def code18 : ACode :=
 .seq (R [o 4 (.mov (i 0))])
 (.seq (.seq (R [o 5 (.mov (v 0)), o 6 (.eq false .pointer (v 5) (.const (.pointer none)))])
  (.cond (v 6) (.seq (R [o 4 (.mov (i 0))])
   (.ret))
  (.skip)))
 (.seq (R [o 7 (.mov (v 0)), o 8 (.nilCheck (v 7)), o 9 (.fieldAddr 4 (v 8)), o 10 (.load none (v 9)), o 11 (.mov (v 1)), o 12 (.lookup .string (.int .i64 0) false (v 10) (v 11)), o 4 (.mov (v 12))])
 (.ret)))
def fun18 : AFun := ⟨2, code18, [.tmp 4], 0⟩
theorem comp18 : FunOK Try.prog 18 fun18 :=
  FunOK.of Try.func18 [] [] (by kernel_rfl) (by kernel_rfl) (by decide +kernel) (by kernel_rfl)

/- (*decorum/spill.Log).Size -/
def code19 : ACode :=
 .seq (R [o 2 (.mov (i 0))])
 (.seq (.seq (R [o 3 (.mov (v 0)), o 4 (.eq false .pointer (v 3) (.const (.pointer none)))])
  (.cond (v 4) (.seq (R [o 2 (.mov (i 0))])
   (.ret))
  (.skip)))
 (.seq (R [o 5 (.mov (v 0)), o 6 (.nilCheck (v 5)), o 7 (.fieldAddr 0 (v 6)), o 8 (.load none (v 7)), o 9 (.call (.func 25) [(v 8)]), o 10 (.len .slice (v 9)), o 2 (.mov (v 10))])
 (.ret)))
def fun19 : AFun := ⟨1, code19, [.tmp 2], 0⟩
theorem comp19 : FunOK Try.prog 19 fun19 :=
  FunOK.of Try.func19 [] [] (by kernel_rfl) (by kernel_rfl) (by decide +kernel) (by kernel_rfl)

/- (*decorum/disk.Disk).Crash -/
def code20 : ACode :=
 .seq (.seq (R [o 8 (.mov (v 0)), o 9 (.eq false .pointer (v 8) (.const (.pointer none)))])
  (.cond (v 9) (.ret)
  (.skip)))
 (.seq (R [o 10 (.mov (v 1)), o 11 (.minmax true [(v 10), (i 0)]), o 1 (.mov (v 11))])
 (.seq (.seq (R [o 12 (.mov (v 0)), o 13 (.nilCheck (v 12)), o 14 (.fieldAddr 2 (v 13)), o 15 (.load none (v 14)), o 16 (.len .slice (v 15)), o 17 (.mov (i 0))])
  (.block 0 (.loop [0, 1, 15, 16, 17] (.seq (R [o 18 (.bin .lss (v 17) (v 16))])
    (.seq (.cond (v 18) (.skip)
     (.exit 0))
    (.seq (.block 1 (.seq (R [o 19 (.indexAddr 2 (v 15) (v 17)), o 20 (.load (some 2) (v 19)), o 5 (.alloc 85 [(.int .i64 0), (.int .i64 0)]), on (.store 2 (v 5) (v 20))])
      (.seq (R [o 21 (.fieldAddr 1 (v 5)), o 22 (.load none (v 21)), o 23 (.mov (v 1)), o 24 (.bin .sub (v 22) (v 23)), o 25 (.minmax true [(v 24), (i 0)]), o 6 (.mov (v 25))])
      (.seq (R [o 26 (.mov (v 1)), o 27 (.fieldAddr 1 (v 5)), o 28 (.load none (v 27)), o 29 (.bin .sub (v 26) (v 28)), o 30 (.minmax true [(v 29), (i 0)]), o 1 (.mov (v 30))])
      (.seq (R [o 31 (.mov (v 0)), o 32 (.nilCheck (v 31)), o 33 (.fieldAddr 1 (v 32)), o 34 (.load none (v 33)), o 35 (.fieldAddr 0 (v 5)), o 36 (.load none (v 35)), o 37 (.lookup .int (.slice none 0 0) false (v 34) (v 36)), o 7 (.mov (v 37))])
      (R [o 38 (.mov (v 0)), o 39 (.nilCheck (v 38)), o 40 (.fieldAddr 1 (v 39)), o 41 (.load none (v 40)), o 42 (.fieldAddr 0 (v 5)), o 43 (.load none (v 42)), o 44 (.mov (v 7)), o 45 (.mov (v 7)), o 46 (.len .slice (v 45)), o 47 (.mov (v 6)), o 48 (.bin .sub (v 46) (v 47)), o 49 (.slice (.slice 1) (v 44) none (some (v 48)) none), on (.mapUpdate .int (v 41) (v 43) (v 49))]))))))
    (R [o 50 (.bin .add (v 17) (i 1)), o 17 (.mov (v 50))])))))))
 (R [o 51 (.mov (v 0)), o 52 (.mov (v 0)), o 53 (.mov (v 0)), o 54 (.nilCheck (v 51)), o 55 (.fieldAddr 2 (v 54)), on (.store 1 (v 55) (.const (.slice none 0 0))), o 56 (.nilCheck (v 52)), o 57 (.fieldAddr 3 (v 56)), on (.store 1 (v 57) (i 0)), o 58 (.nilCheck (v 53)), o 59 (.fieldAddr 4 (v 58)), on (.store 1 (v 59) (i 0))])))
def fun20 : AFun := ⟨2, code20, [], 0⟩
theorem comp20 : FunOK Try.prog 20 fun20 :=
  FunOK.of Try.func20 [[0, 1, 15, 16, 17]] [] (by kernel_rfl) (by kernel_rfl) (by decide +kernel) (by kernel_rfl)

/- (*decorum/disk.Disk).Fault -/
def code22 : ACode :=
 .seq (R [o 6 (.mov (v 0)), o 7 (.eq true .pointer (v 6) (.const (.pointer none)))])
 (.cond (v 7) (R [o 8 (.mov (v 0)), o 9 (.mov (v 0)), o 10 (.mov (v 1)), o 11 (.minmax true [(v 10), (i 0)]), o 12 (.mov (v 2)), o 13 (.minmax true [(v 12), (i 0)]), o 14 (.nilCheck (v 8)), o 15 (.fieldAddr 3 (v 14)), on (.store 1 (v 15) (v 11)), o 16 (.nilCheck (v 9)), o 17 (.fieldAddr 4 (v 16)), on (.store 1 (v 17) (v 13))])
 (.skip))
def fun22 : AFun := ⟨3, code22, [], 0⟩
theorem comp22 : FunOK Try.prog 22 fun22 :=
  FunOK.of Try.func22 [] [] (by kernel_rfl) (by kernel_rfl) (by decide +kernel) (by kernel_rfl)

/- decorum/decorumref13.Reqs -/
def code24 : ACode :=
 .seq (R [o 4 (.mov ff)])
 (.seq (.seq (R [o 6 (.mov (v 0)), o 7 (.len .slice (v 6)), o 8 (.mov (v 1)), o 9 (.len .slice (v 8)), o 10 (.bin .neq (v 7) (v 9))])
  (.cond (v 10) (.seq (R [o 4 (.mov ff)])
   (.ret))
  (.skip)))
 (.seq (.seq (R [o 5 (.mov (i 0))])
  (.block 0 (.loop [0, 1, 5] (.seq (.seq (R [o 11 (.mov (v 5)), o 12 (.mov (v 0)), o 13 (.len .slice (v 12)), o 14 (.bin .lss (v 11) (v 13))])
     (.cond (v 14) (.skip)
     (.exit 0)))
    (.seq (.block 1 (.seq (R [o 17 (.mov (v 0)), o 18 (.mov (v 5)), o 19 (.indexAddr 5 (v 17) (v 18)), o 20 (.load (some 5) (v 19)), o 21 (.mov (v 1)), o 22 (.mov (v 5)), o 23 (.indexAddr 5 (v 21) (v 22)), o 24 (.load (some 5) (v 23)), o 25 (.eq true (.plain [.int, .string, .string, .int, .int]) (v 20) (v 24))])
      (.cond (v 25) (.seq (R [o 4 (.mov ff)])
       (.ret))
      (.skip))))
    (R [o 15 (.mov (v 5)), o 16 (.bin .add (v 15) (i 1)), o 5 (.mov (v 16))]))))))
 (.seq (R [o 4 (.mov tt)])
 (.ret))))
def fun24 : AFun := ⟨2, code24, [.tmp 4], 0⟩
theorem comp24 : FunOK Try.prog 24 fun24 :=
  FunOK.of Try.func24 [[0, 1, 5]] [] (by kernel_rfl) (by kernel_rfl) (by decide +kernel) (by kernel_rfl)

/- (*decorum/disk.Disk).Segs -/
def code25 : ACode :=
 .seq (R [o 2 (.mov (.const (.slice none 0 0)))])
 (.seq (.seq (R [o 3 (.mov (v 0)), o 4 (.eq false .pointer (v 3) (.const (.pointer none)))])
  (.cond (v 4) (.seq (R [o 2 (.mov (.const (.slice none 0 0)))])
   (.ret))
  (.skip)))
 (.seq (R [o 5 (.mov (v 0)), o 6 (.nilCheck (v 5)), o 7 (.fieldAddr 1 (v 6)), o 8 (.load none (v 7)), o 9 (.call (.func 37) [(v 8)]), o 10 (.call (.func 36) [(v 9)]), o 2 (.mov (v 10))])
 (.ret)))
def fun25 : AFun := ⟨1, code25, [.tmp 2], 0⟩
theorem comp25 : FunOK Try.prog 25 fun25 :=
  FunOK.of Try.func25 [] [] (by kernel_rfl) (by kernel_rfl) (by decide +kernel) (by kernel_rfl)

/- (*decorum/disk.Disk).Read -/
def code26 : ACode :=
 .seq (R [o 4 (.mov (.const (.slice none 0 0))), o 5 (.mov (i 0))])
 (.seq (.seq (R [o 8 (.mov (v 0)), o 9 (.eq false .pointer (v 8) (.const (.pointer none)))])
  (.cond (v 9) (.seq (R [o 4 (.mov (.const (.slice none 0 0))), o 5 (.mov (i 1))])
   (.ret))
  (.skip)))
 (.seq (R [o 11 (.mov (v 0)), o 12 (.nilCheck (v 11)), o 13 (.fieldAddr 1 (v 12)), o 14 (.load none (v 13)), o 15 (.mov (v 1)), o 16 (.lookup .int (.slice none 0 0) true (v 14) (v 15)), o 10 (.mov (v 16)), o 17 (.extract (v 10) 0), o 18 (.extract (v 10) 1), o 6 (.mov (v 17)), o 7 (.mov (v 18))])
 (.seq (.seq (R [o 19 (.mov (v 7)), o 20 (.un .not (v 19))])
  (.cond (v 20) (.seq (R [o 4 (.mov (.const (.slice none 0 0))), o 5 (.mov (i 4))])
   (.ret))
  (.skip)))
 (.seq (R [o 21 (.mov (v 6)), o 22 (.call (.func 39) [(v 21)]), o 23 (.call (.func 38) [(v 22)]), o 4 (.mov (v 23)), o 5 (.mov (i 0))])
 (.ret)))))
def fun26 : AFun := ⟨2, code26, [.tmp 4, .tmp 5], 0⟩
theorem comp26 : FunOK Try.prog 26 fun26 :=
  FunOK.of Try.func26 [] [] (by kernel_rfl) (by kernel_rfl) (by decide +kernel) (by kernel_rfl)

/- decorum/frame.Scan -/
def code27 : ACode :=
 .seq (R [o 2 (.mov (.const (.slice none 0 0))), o 3 (.mov (i 0))])
 (.seq (R [o 4 (.mov (.const (.slice none 0 0)))])
 (.seq (R [o 5 (.mov (i 0))])
 (.seq (.block 0 (.loop [0, 4, 5] (.seq (.seq (R [o 10 (.mov (v 0)), o 11 (.len .slice (v 10)), o 12 (.mov (v 5)), o 13 (.bin .sub (v 11) (v 12)), o 14 (.bin .geq (v 13) (i 6))])
     (.cond (v 14) (.skip)
     (.exit 0)))
    (.block 1 (.seq (R [o 15 (.mov (v 0)), o 16 (.mov (v 5)), o 17 (.mov (v 5)), o 18 (.bin .add (v 17) (i 2)), o 19 (.slice (.slice 1) (v 15) (some (v 16)) (some (v 18)) none), o 20 (.call (.func 40) [(v 19)]), o 21 (.conv (.int .i64) (v 20)), o 6 (.mov (v 21))])
     (.seq (.seq (R [o 22 (.mov (v 6)), o 23 (.mov (v 0)), o 24 (.len .slice (v 23)), o 25 (.mov (v 5)), o 26 (.bin .sub (v 24) (v 25)), o 27 (.bin .sub (v 26) (i 6)), o 28 (.bin .gtr (v 22) (v 27))])
      (.cond (v 28) (.exit 0)
      (.skip)))
     (.seq (R [o 29 (.mov (v 0)), o 30 (.mov (v 5)), o 31 (.bin .add (v 30) (i 6)), o 32 (.mov (v 5)), o 33 (.bin .add (v 32) (i 6)), o 34 (.mov (v 6)), o 35 (.bin .add (v 33) (v 34)), o 36 (.slice (.slice 1) (v 29) (some (v 31)) (some (v 35)) none), o 7 (.mov (v 36))])
     (.seq (R [o 38 (.mov (v 7)), o 39 (.call (.func 41) [(v 38)]), o 37 (.mov (v 39)), o 40 (.extract (v 37) 0), o 41 (.extract (v 37) 1), o 8 (.alloc 74 [(.int .i64 0), (.int .i64 0), (.string ⟨#[]⟩), (.string ⟨#[]⟩), (.int .i64 0), (.int .i64 0)]), on (.store 6 (v 8) (v 40)), o 9 (.mov (v 41))])
     (.seq (.seq (D [o 42 (.mov (v 7)), o 43 (.call (.func 42) [(v 42)]), o 44 (.conv (.int .u64) (v 43)), o 45 (.mov (v 0)), o 46 (.mov (v 5)), o 47 (.bin .add (v 46) (i 2)), o 48 (.mov (v 5)), o 49 (.bin .add (v 48) (i 6)), o 50 (.slice (.slice 1) (v 45) (some (v 47)) (some (v 49)) none), o 51 (.call (.func 40) [(v 50)]), o 52 (.bin .neq (v 44) (v 51)), o 53 (.mov (v 52)), of 53 54 (.mov (v 9)), of 53 55 (.un .not (v 54)), o 56 (.pick (v 53) tt (v 55))] ⟨[], [1], []⟩)
      (.cond (v 56) (.exit 0)
      (.skip)))
     (.seq (R [o 57 (.mov (v 4)), o 58 (.load (some 6) (v 8)), o 59 (.buildSlice 74 6 1 [(.int .i64 0), (.int .i64 0), (.string ⟨#[]⟩), (.string ⟨#[]⟩), (.int .i64 0), (.int .i64 0)] [(0, 6, (v 58))]), o 60 (.append 74 6 64 (v 57) (v 59)), o 4 (.mov (v 60))])
     (R [o 61 (.mov (v 5)), o 62 (.mov (v 6)), o 63 (.bin .add (i 6) (v 62)), o 64 (.bin .add (v 61) (v 63)), o 5 (.mov (v 64))])))))))))))
 (.seq (R [o 65 (.mov (v 4)), o 66 (.mov (v 5)), o 2 (.mov (v 65)), o 3 (.mov (v 66))])
 (.ret)))))
def fun27 : AFun := ⟨1, code27, [.tmp 2, .tmp 3], 0⟩
theorem comp27 : FunOK Try.prog 27 fun27 :=
  FunOK.of Try.func27 [[0, 4, 5]] [⟨[], [1], []⟩] (by kernel_rfl) (by kernel_rfl) (by decide +kernel) (by kernel_rfl)

/- (*decorum/spill.Log).apply -/
def code28 : ACode :=
 .seq (R [o 3 (.box 74 (v 1))])
 (.seq (.seq (R [o 4 (.fieldAddr 0 (v 3)), o 5 (.load none (v 4))])
  (.block 0 (.seq (R [o 7 (.bin .eql (v 5) (i 1)), o 6 (.mov (v 7))])
   (.cond (v 6) (R [o 8 (.mov (v 0)), o 9 (.nilCheck (v 8)), o 10 (.fieldAddr 3 (v 9)), o 11 (.load none (v 10)), o 12 (.fieldAddr 1 (v 3)), o 13 (.fieldAddr 0 (v 12)), o 14 (.load none (v 13)), o 15 (.fieldAddr 1 (v 3)), o 16 (.load (some 5) (v 15)), on (.mapUpdate .int (v 11) (v 14) (v 16))])
   (.seq (R [o 18 (.bin .eql (v 5) (i 2)), o 17 (.mov (v 18))])
    (.cond (v 17) (R [o 19 (.mov (v 0)), o 20 (.nilCheck (v 19)), o 21 (.fieldAddr 3 (v 20)), o 22 (.load none (v 21)), o 23 (.fieldAddr 1 (v 3)), o 24 (.fieldAddr 0 (v 23)), o 25 (.load none (v 24)), on (.delete .int (v 22) (v 25))])
    (.seq (R [o 27 (.bin .eql (v 5) (i 3)), o 26 (.mov (v 27))])
     (.cond (v 26) (R [o 28 (.mov (v 0)), o 29 (.nilCheck (v 28)), o 30 (.fieldAddr 4 (v 29)), o 31 (.load none (v 30)), o 32 (.fieldAddr 1 (v 3)), o 33 (.fieldAddr 1 (v 32)), o 34 (.load none (v 33)), o 35 (.mov (v 0)), o 36 (.nilCheck (v 35)), o 37 (.fieldAddr 4 (v 36)), o 38 (.load none (v 37)), o 39 (.fieldAddr 1 (v 3)), o 40 (.fieldAddr 1 (v 39)), o 41 (.load none (v 40)), o 42 (.lookup .string (.int .i64 0) false (v 38) (v 41)), o 43 (.fieldAddr 1 (v 3)), o 44 (.fieldAddr 4 (v 43)), o 45 (.load none (v 44)), o 46 (.minmax true [(v 42), (v 45)]), on (.mapUpdate .string (v 31) (v 34) (v 46))])
     (.skip)))))))))
 (.seq (R [o 47 (.fieldAddr 0 (v 3)), o 48 (.load none (v 47)), o 49 (.bin .neq (v 48) (i 3))])
 (.cond (v 49) (R [o 50 (.mov (v 0)), o 51 (.mov (v 0)), o 52 (.nilCheck (v 51)), o 53 (.fieldAddr 5 (v 52)), o 54 (.load none (v 53)), o 55 (.fieldAddr 1 (v 3)), o 56 (.fieldAddr 0 (v 55)), o 57 (.load none (v 56)), o 58 (.bin .add (v 57) (i 1)), o 59 (.minmax true [(v 54), (v 58)]), o 60 (.nilCheck (v 50)), o 61 (.fieldAddr 5 (v 60)), on (.store 1 (v 61) (v 59))])
 (.skip))))
def fun28 : AFun := ⟨2, code28, [], 0⟩
theorem comp28 : FunOK Try.prog 28 fun28 :=
  FunOK.of Try.func28 [] [] (by kernel_rfl) (by kernel_rfl) (by decide +kernel) (by kernel_rfl)

/- (*decorum/spill.Log).add -/
def code29 : ACode :=
 .seq (R [o 3 (.box 74 (v 1)), o 4 (.mov (i 0))])
 (.seq (R [o 8 (.load (some 6) (v 3)), o 9 (.call (.func 34) [(v 8)]), o 7 (.mov (v 9)), o 10 (.extract (v 7) 0), o 11 (.extract (v 7) 1), o 5 (.mov (v 10)), o 6 (.mov (v 11))])
 (.seq (.seq (R [o 12 (.mov (v 6)), o 13 (.bin .neq (v 12) (i 0))])
  (.cond (v 13) (.seq (R [o 14 (.mov (v 6)), o 4 (.mov (v 14))])
   (.ret))
  (.skip)))
 (.seq (.seq (R [o 15 (.mov (v 0)), o 16 (.mov (v 5)), o 17 (.call (.func 43) [(v 15), (v 16)]), o 6 (.mov (v 17))])
  (.seq (R [o 18 (.mov (v 6)), o 19 (.bin .eql (v 18) (i 5))])
  (.cond (v 19) (.seq (R [o 20 (.mov (v 0)), o 21 (.call (.func 13) [(v 20)]), o 6 (.mov (v 21))])
   (.seq (R [o 22 (.mov (v 6)), o 23 (.bin .eql (v 22) (i 0))])
   (.cond (v 23) (R [o 24 (.mov (v 0)), o 25 (.mov (v 5)), o 26 (.call (.func 43) [(v 24), (v 25)]), o 6 (.mov (v 26))])
   (.skip))))
  (.skip))))
 (.seq (.seq (R [o 27 (.mov (v 6)), o 28 (.bin .neq (v 27) (i 0))])
  (.cond (v 28) (.seq (R [o 29 (.mov (v 6)), o 4 (.mov (v 29))])
   (.ret))
  (.skip)))
 (.seq (R [o 30 (.mov (v 0)), o 31 (.nilCheck (v 30)), o 32 (.fieldAddr 0 (v 31)), o 33 (.load none (v 32)), o 34 (.call (.func 44) [(v 33)]), o 4 (.mov (v 34))])
 (.ret))))))
def fun29 : AFun := ⟨2, code29, [.tmp 4], 0⟩
theorem comp29 : FunOK Try.prog 29 fun29 :=
  FunOK.of Try.func29 [] [] (by kernel_rfl) (by kernel_rfl) (by decide +kernel) (by kernel_rfl)

/- (*decorum/spill.Log).lay -/
def code30 : ACode :=
 .seq (R [o 4 (.mov (.const (.slice none 0 0))), o 5 (.mov (i 0))])
 (.seq (R [o 14 (.mov (v 0)), o 15 (.nilCheck (v 14)), o 16 (.fieldAddr 2 (v 15)), o 17 (.load none (v 16)), o 18 (.bin .add (v 17) (i 1)), o 6 (.mov (v 18))])
 (.seq (R [o 19 (.mov (v 6)), o 20 (.buildSlice 3 1 1 [(.int .i64 0)] [(0, 1, (v 19))]), o 7 (.mov (v 20))])
 (.seq (R [o 8 (.mov (i 0))])
 (.seq (.seq (R [o 21 (.mov (v 1)), o 22 (.len .slice (v 21)), o 23 (.mov (i 0))])
  (.block 0 (.loop [0, 6, 7, 8, 21, 22, 23] (.seq (R [o 24 (.bin .lss (v 23) (v 22))])
    (.seq (.cond (v 24) (.skip)
     (.exit 0))
    (.seq (.block 1 (.seq (R [o 25 (.indexAddr 6 (v 21) (v 23)), o 26 (.load (some 6) (v 25)), o 10 (.alloc 74 [(.int .i64 0), (.int .i64 0), (.string ⟨#[]⟩), (.string ⟨#[]⟩), (.int .i64 0), (.int .i64 0)]), on (.store 6 (v 10) (v 26))])
      (.seq (R [o 28 (.load (some 6) (v 10)), o 29 (.call (.func 34) [(v 28)]), o 27 (.mov (v 29)), o 30 (.extract (v 27) 0), o 31 (.extract (v 27) 1), o 11 (.mov (v 30)), o 12 (.mov (v 31))])
      (.seq (.seq (R [o 32 (.mov (v 11)), o 33 (.len .slice (v 32)), o 34 (.mov (v 8)), o 35 (.bin .sub (i 2048) (v 34)), o 36 (.bin .gtr (v 33) (v 35))])
       (.cond (v 36) (.seq (R [o 37 (.mov (v 6)), o 38 (.bin .add (v 37) (i 1)), o 6 (.mov (v 38)), o 8 (.mov (i 0))])
        (R [o 39 (.mov (v 7)), o 40 (.mov (v 6)), o 41 (.buildSlice 3 1 1 [(.int .i64 0)] [(0, 1, (v 40))]), o 42 (.append 3 1 8 (v 39) (v 41)), o 7 (.mov (v 42))]))
       (.skip)))
      (.seq (.seq (R [o 43 (.mov (v 0)), o 44 (.nilCheck (v 43)), o 45 (.fieldAddr 0 (v 44)), o 46 (.load none (v 45)), o 47 (.mov (v 6)), o 48 (.mov (v 11)), o 49 (.call (.func 45) [(v 46), (v 47), (v 48)]), o 13 (.mov (v 49))])
       (.seq (R [o 50 (.mov (v 13)), o 51 (.bin .neq (v 50) (i 0))])
       (.cond (v 51) (.seq (R [o 52 (.mov (v 7)), o 53 (.mov (v 13)), o 4 (.mov (v 52)), o 5 (.mov (v 53))])
        (.ret))
       (.skip))))
      (R [o 54 (.mov (v 8)), o 55 (.mov (v 11)), o 56 (.len .slice (v 55)), o 57 (.bin .add (v 54) (v 56)), o 8 (.mov (v 57))]))))))
    (R [o 58 (.bin .add (v 23) (i 1)), o 23 (.mov (v 58))])))))))
 (.seq (R [o 59 (.mov (v 7)), o 60 (.mov (v 0)), o 61 (.nilCheck (v 60)), o 62 (.fieldAddr 0 (v 61)), o 63 (.load none (v 62)), o 64 (.call (.func 44) [(v 63)]), o 4 (.mov (v 59)), o 5 (.mov (v 64))])
 (.ret))))))
def fun30 : AFun := ⟨2, code30, [.tmp 4, .tmp 5], 0⟩
theorem comp30 : FunOK Try.prog 30 fun30 :=
  FunOK.of Try.func30 [[0, 6, 7, 8, 21, 22, 23]] [] (by kernel_rfl) (by kernel_rfl) (by decide +kernel) (by kernel_rfl)

/- (*decorum/spill.Log).records -/
def code31 : ACode :=
 .seq (R [o 2 (.mov (.const (.slice none 0 0)))])
 (.seq (R [o 3 (.mov (.const (.slice none 0 0)))])
 (.seq (.seq (R [o 10 (.mov (v 0)), o 11 (.nilCheck (v 10)), o 12 (.fieldAddr 4 (v 11)), o 13 (.load none (v 12)), o 14 (.call (.func 46) [(v 13)]), o 15 (.len .slice (v 14)), o 16 (.mov (i 0))])
  (.block 0 (.loop [0, 3, 14, 15, 16] (.seq (R [o 17 (.bin .lss (v 16) (v 15))])
    (.seq (.cond (v 17) (.skip)
     (.exit 0))
    (.seq (.block 1 (.seq (R [o 18 (.indexAddr 1 (v 14) (v 16)), o 19 (.load none (v 18)), o 5 (.mov (v 19))])
      (R [o 20 (.mov (v 3)), o 21 (.mov (v 5)), o 22 (.mov (v 0)), o 23 (.nilCheck (v 22)), o 24 (.fieldAddr 4 (v 23)), o 25 (.load none (v 24)), o 26 (.mov (v 5)), o 27 (.lookup .string (.int .i64 0) false (v 25) (v 26)), o 28 (.build [(.int .i64 0), (.string ⟨#[]⟩), (.string ⟨#[]⟩), (.int .i64 0), (.int .i64 0)] [(1, 1, (v 21)), (4, 1, (v 27))]), o 29 (.build [(.int .i64 0), (.int .i64 0), (.string ⟨#[]⟩), (.string ⟨#[]⟩), (.int .i64 0), (.int .i64 0)] [(0, 1, (i 3)), (1, 5, (v 28))]), o 30 (.buildSlice 74 6 1 [(.int .i64 0), (.int .i64 0), (.string ⟨#[]⟩), (.string ⟨#[]⟩), (.int .i64 0), (.int .i64 0)] [(0, 6, (v 29))]), o 31 (.append 74 6 64 (v 20) (v 30)), o 3 (.mov (v 31))])))
    (R [o 32 (.bin .add (v 16) (i 1)), o 16 (.mov (v 32))])))))))
 (.seq (.seq (R [o 34 (.mov (v 0)), o 35 (.nilCheck (v 34)), o 36 (.fieldAddr 3 (v 35)), o 37 (.load none (v 36)), o 38 (.mov (v 0)), o 39 (.nilCheck (v 38)), o 40 (.fieldAddr 5 (v 39)), o 41 (.load none (v 40)), o 42 (.bin .sub (v 41) (i 1)), o 43 (.lookup .int (.agg #[(.int .i64 0), (.string ⟨#[]⟩), (.string ⟨#[]⟩), (.int .i64 0), (.int .i64 0)]) true (v 37) (v 42)), o 33 (.mov (v 43)), o 44 (.extract (v 33) 0), o 45 (.extract (v 33) 1), o 6 (.alloc 32 [(.int .i64 0), (.string ⟨#[]⟩), (.string ⟨#[]⟩), (.int .i64 0), (.int .i64 0)]), on (.store 5 (v 6) (v 44)), o 7 (.mov (v 45))])
  (.seq (R [o 46 (.mov (v 7)), o 47 (.un .not (v 46))])
  (.cond (v 47) (R [o 48 (.mov (v 3)), o 49 (.mov (v 0)), o 50 (.nilCheck (v 49)), o 51 (.fieldAddr 5 (v 50)), o 52 (.load none (v 51)), o 53 (.bin .sub (v 52) (i 1)), o 54 (.build [(.int .i64 0), (.string ⟨#[]⟩), (.string ⟨#[]⟩), (.int .i64 0), (.int .i64 0)] [(0, 1, (v 53))]), o 55 (.build [(.int .i64 0), (.int .i64 0), (.string ⟨#[]⟩), (.string ⟨#[]⟩), (.int .i64 0), (.int .i64 0)] [(0, 1, (i 2)), (1, 5, (v 54))]), o 56 (.buildSlice 74 6 1 [(.int .i64 0), (.int .i64 0), (.string ⟨#[]⟩), (.string ⟨#[]⟩), (.int .i64 0), (.int .i64 0)] [(0, 6, (v 55))]), o 57 (.append 74 6 64 (v 48) (v 56)), o 3 (.mov (v 57))])
  (.skip))))
 (.seq (.seq (R [o 58 (.mov (v 0)), o 59 (.call (.func 17) [(v 58)]), o 60 (.len .slice (v 59)), o 61 (.mov (i 0))])
  (.block 2 (.loop [3, 59, 60, 61] (.seq (R [o 62 (.bin .lss (v 61) (v 60))])
    (.seq (.cond (v 62) (.skip)
     (.exit 2))
    (.seq (.block 3 (.seq (R [o 63 (.indexAddr 5 (v 59) (v 61)), o 64 (.load (some 5) (v 63)), o 9 (.alloc 32 [(.int .i64 0), (.string ⟨#[]⟩), (.string ⟨#[]⟩), (.int .i64 0), (.int .i64 0)]), on (.store 5 (v 9) (v 64))])
      (R [o 65 (.mov (v 3)), o 66 (.load (some 5) (v 9)), o 67 (.build [(.int .i64 0), (.int .i64 0), (.string ⟨#[]⟩), (.string ⟨#[]⟩), (.int .i64 0), (.int .i64 0)] [(0, 1, (i 1)), (1, 5, (v 66))]), o 68 (.buildSlice 74 6 1 [(.int .i64 0), (.int .i64 0), (.string ⟨#[]⟩), (.string ⟨#[]⟩), (.int .i64 0), (.int .i64 0)] [(0, 6, (v 67))]), o 69 (.append 74 6 64 (v 65) (v 68)), o 3 (.mov (v 69))])))
    (R [o 70 (.bin .add (v 61) (i 1)), o 61 (.mov (v 70))])))))))
 (.seq (R [o 71 (.mov (v 3)), o 2 (.mov (v 71))])
 (.ret))))))
def fun31 : AFun := ⟨1, code31, [.tmp 2], 0⟩
theorem comp31 : FunOK Try.prog 31 fun31 :=
  FunOK.of Try.func31 [[0, 3, 14, 15, 16], [3, 59, 60, 61]] [] (by kernel_rfl) (by kernel_rfl) (by decide +kernel) (by kernel_rfl)

/- slices.Reverse[[]int,int] -/
def code32 : ACode :=
 .seq (R [o 4 (.mov (v 0)), o 5 (.len .slice (v 4)), o 6 (.bin .sub (v 5) (i 1)), o 2 (.mov (i 0)), o 3 (.mov (v 6))])
 (.block 0 (.loop [0, 2, 3] (.seq (.seq (R [o 7 (.mov (v 2)), o 8 (.mov (v 3)), o 9 (.bin .lss (v 7) (v 8))])
    (.cond (v 9) (.skip)
    (.exit 0)))
   (.seq (.block 1 (R [o 14 (.mov (v 0)), o 15 (.mov (v 2)), o 16 (.mov (v 0)), o 17 (.mov (v 3)), o 18 (.mov (v 0)), o 19 (.mov (v 3)), o 20 (.indexAddr 1 (v 18) (v 19)), o 21 (.load none (v 20)), o 22 (.mov (v 0)), o 23 (.mov (v 2)), o 24 (.indexAddr 1 (v 22) (v 23)), o 25 (.load none (v 24)), o 26 (.indexAddr 1 (v 14) (v 15)), on (.store 1 (v 26) (v 21)), o 27 (.indexAddr 1 (v 16) (v 17)), on (.store 1 (v 27) (v 25))]))
   (R [o 10 (.mov (v 2)), o 11 (.bin .add (v 10) (i 1)), o 12 (.mov (v 3)), o 13 (.bin .sub (v 12) (i 1)), o 2 (.mov (v 11)), o 3 (.mov (v 13))])))))
def fun32 : AFun := ⟨1, code32, [], 0⟩
theorem comp32 : FunOK Try.prog 32 fun32 :=
  FunOK.of Try.func32 [[0, 2, 3]] [] (by kernel_rfl) (by kernel_rfl) (by decide +kernel) (by kernel_rfl)

/- (*decorum/spill.Log).drop -/
def code33 : ACode :=
 .seq (R [o 4 (.mov (i 0))])
 (.seq (.seq (R [o 8 (.mov (v 1)), o 9 (.len .slice (v 8)), o 10 (.mov (i 0))])
  (.block 0 (.loop [0, 8, 9, 10] (.seq (R [o 11 (.bin .lss (v 10) (v 9))])
    (.seq (.cond (v 11) (.skip)
     (.exit 0))
    (.seq (.block 1 (.seq (R [o 12 (.indexAddr 1 (v 8) (v 10)), o 13 (.load none (v 12)), o 6 (.mov (v 13))])
      (.seq (R [o 14 (.mov (v 0)), o 15 (.nilCheck (v 14)), o 16 (.fieldAddr 0 (v 15)), o 17 (.load none (v 16)), o 18 (.mov (v 6)), o 19 (.call (.func 47) [(v 17), (v 18)]), o 7 (.mov (v 19))])
      (.seq (R [o 20 (.mov (v 7)), o 21 (.bin .eql (v 20) (i 7))])
      (.cond (v 21) (.seq (R [o 22 (.mov (v 7)), o 4 (.mov (v 22))])
       (.ret))
      (.skip))))))
    (R [o 23 (.bin .add (v 10) (i 1)), o 10 (.mov (v 23))])))))))
 (.seq (R [o 4 (.mov (i 0))])
 (.ret)))
def fun33 : AFun := ⟨2, code33, [.tmp 4], 0⟩
theorem comp33 : FunOK Try.prog 33 fun33 :=
  FunOK.of Try.func33 [[0, 8, 9, 10]] [] (by kernel_rfl) (by kernel_rfl) (by decide +kernel) (by kernel_rfl)

/- decorum/frame.Encode -/
def code34 : ACode :=
 .seq (R [o 1 (.box 74 (v 0)), o 2 (.mov (.const (.slice none 0 0))), o 3 (.mov (i 0))])
 (.seq (.seq (R [o 5 (.load (some 6) (v 1)), o 6 (.call (.func 48) [(v 5)]), o 7 (.un .not (v 6))])
  (.cond (v 7) (.seq (R [o 2 (.mov (.const (.slice none 0 0))), o 3 (.mov (i 2))])
   (.ret))
  (.skip)))
 (.seq (R [o 8 (.load (some 6) (v 1)), o 9 (.call (.func 49) [(v 8)]), o 4 (.mov (v 9))])
 (.seq (R [o 10 (.mov (v 4)), o 11 (.len .slice (v 10)), o 12 (.conv (.int .u64) (v 11)), o 13 (.call (.func 51) [(v 12), (i 2)]), o 14 (.mov (v 4)), o 15 (.call (.func 42) [(v 14)]), o 16 (.conv (.int .u64) (v 15)), o 17 (.call (.func 51) [(v 16), (i 4)]), o 18 (.mov (v 4)), o 19 (.buildSlice 22 1 3 [(.slice none 0 0), (.slice none 0 0), (.slice none 0 0)] [(0, 1, (v 13)), (1, 1, (v 17)), (2, 1, (v 18))]), o 20 (.call (.func 50) [(v 19)]), o 2 (.mov (v 20)), o 3 (.mov (i 0))])
 (.ret))))
def fun34 : AFun := ⟨1, code34, [.tmp 2, .tmp 3], 0⟩
theorem comp34 : FunOK Try.prog 34 fun34 :=
  FunOK.of Try.func34 [] [] (by kernel_rfl) (by kernel_rfl) (by decide +kernel) (by kernel_rfl)

/- maps.Keys[map[int][]byte,int,[]byte] -/
def code37 : ACode :=
 .seq (R [o 1 (.box 59 (v 0)), o 2 (.mov (.const .nilFunc))])
 (.seq (R [o 3 (.mkFunc (.func 54) [] [(v 1)]), o 2 (.mov (v 3))])
 (.ret))
def fun37 : AFun := ⟨1, code37, [.tmp 2], 0⟩
theorem comp37 : FunOK Try.prog 37 fun37 :=
  FunOK.of Try.func37 [] [] (by kernel_rfl) (by kernel_rfl) (by decide +kernel) (by kernel_rfl)

/- slices.Clip[[]byte,byte] -/
def code38 : ACode :=
 .seq (R [o 2 (.mov (.const (.slice none 0 0)))])
 (.seq (R [o 3 (.mov (v 0)), o 4 (.mov (v 0)), o 5 (.len .slice (v 4)), o 6 (.mov (v 0)), o 7 (.len .slice (v 6)), o 8 (.slice (.slice 1) (v 3) none (some (v 5)) (some (v 7))), o 2 (.mov (v 8))])
 (.ret))
def fun38 : AFun := ⟨1, code38, [.tmp 2], 0⟩
theorem comp38 : FunOK Try.prog 38 fun38 :=
  FunOK.of Try.func38 [] [] (by kernel_rfl) (by kernel_rfl) (by decide +kernel) (by kernel_rfl)

/- slices.Clone[[]byte,byte] -/
def code39 : ACode :=
 .seq (R [o 2 (.mov (.const (.slice none 0 0)))])
 (.seq (.seq (R [o 3 (.mov (v 0)), o 4 (.eq false .slice (v 3) (.const (.slice none 0 0)))])
  (.cond (v 4) (.seq (R [o 2 (.mov (.const (.slice none 0 0)))])
   (.ret))
  (.skip)))
 (.seq (R [o 5 (.buildSlice 5 1 0 [] []), o 6 (.mov (v 0)), o 7 (.append 5 1 1 (v 5) (v 6)), o 2 (.mov (v 7))])
 (.ret)))
def fun39 : AFun := ⟨1, code39, [.tmp 2], 0⟩
theorem comp39 : FunOK Try.prog 39 fun39 :=
  FunOK.of Try.func39 [] [] (by kernel_rfl) (by kernel_rfl) (by decide +kernel) (by kernel_rfl)

/- decorum/frame.read -/
def code40 : ACode :=
 .seq (R [o 2 (.mov (.const (.int .u64 0)))])
 (.seq (R [o 3 (.mov (.const (.int .u64 0)))])
 (.seq (.seq (R [o 6 (.mov (v 0)), o 7 (.len .slice (v 6)), o 8 (.mov (i 0))])
  (.block 0 (.loop [3, 6, 7, 8] (.seq (R [o 9 (.bin .lss (v 8) (v 7))])
    (.seq (.cond (v 9) (.skip)
     (.exit 0))
    (.seq (.block 1 (.seq (R [o 10 (.indexAddr 1 (v 6) (v 8)), o 11 (.load none (v 10)), o 5 (.mov (v 11))])
      (R [o 12 (.mov (v 3)), o 13 (.bin .shl (v 12) (.const (.int .u64 8))), o 14 (.mov (v 5)), o 15 (.conv (.int .u64) (v 14)), o 16 (.bin .or (v 13) (v 15)), o 3 (.mov (v 16))])))
    (R [o 17 (.bin .add (v 8) (i 1)), o 8 (.mov (v 17))])))))))
 (.seq (R [o 18 (.mov (v 3)), o 2 (.mov (v 18))])
 (.ret))))
def fun40 : AFun := ⟨1, code40, [.tmp 2], 0⟩
theorem comp40 : FunOK Try.prog 40 fun40 :=
  FunOK.of Try.func40 [[3, 6, 7, 8]] [] (by kernel_rfl) (by kernel_rfl) (by decide +kernel) (by kernel_rfl)

/- decorum/frame.decode -/
def code41 : ACode :=
 .seq (R [o 2 (.alloc 74 [(.int .i64 0), (.int .i64 0), (.string ⟨#[]⟩), (.string ⟨#[]⟩), (.int .i64 0), (.int .i64 0)]), o 3 (.mov ff)])
 (.seq (.seq (R [o 6 (.mov (v 0)), o 7 (.len .slice (v 6)), o 8 (.bin .lss (v 7) (i 20))])
  (.cond (v 8) (.seq (R [o 9 (.build [(.int .i64 0), (.int .i64 0), (.string ⟨#[]⟩), (.string ⟨#[]⟩), (.int .i64 0), (.int .i64 0)] []), on (.store 6 (v 2) (v 9)), o 3 (.mov ff)])
   (.ret))
  (.skip)))
 (.seq (R [o 10 (.mov (v 0)), o 11 (.slice (.slice 1) (v 10) (some (i 18)) (some (i 20)) none), o 12 (.call (.func 40) [(v 11)]), o 13 (.conv (.int .i64) (v 12)), o 4 (.mov (v 13))])
 (.seq (.seq (R [o 14 (.mov (v 4)), o 15 (.mov (v 0)), o 16 (.len .slice (v 15)), o 17 (.bin .sub (v 16) (i 20)), o 18 (.bin .gtr (v 14) (v 17))])
  (.cond (v 18) (.seq (R [o 19 (.build [(.int .i64 0), (.int .i64 0), (.string ⟨#[]⟩), (.string ⟨#[]⟩), (.int .i64 0), (.int .i64 0)] []), on (.store 6 (v 2) (v 19)), o 3 (.mov ff)])
   (.ret))
  (.skip)))
 (.seq (D [o 20 (.mov (v 0)), o 21 (.indexAddr 1 (v 20) (i 0)), o 22 (.load none (v 21)), o 23 (.conv (.int .i64) (v 22)), o 24 (.mov (v 0)), o 25 (.slice (.slice 1) (v 24) (some (i 2)) (some (i 10)) none), o 26 (.call (.func 40) [(v 25)]), o 27 (.conv (.int .i64) (v 26)), o 28 (.mov (v 0)), o 29 (.indexAddr 1 (v 28) (i 1)), o 30 (.load none (v 29)), o 31 (.conv (.int .i64) (v 30)), o 32 (.mov (v 0)), o 33 (.slice (.slice 1) (v 32) (some (i 10)) (some (i 18)) none), o 34 (.call (.func 40) [(v 33)]), o 35 (.conv (.int .i64) (v 34)), o 36 (.mov (v 0)), o 37 (.mov (v 4)), o 38 (.bin .add (i 20) (v 37)), o 39 (.slice (.slice 1) (v 36) (some (i 20)) (some (v 38)) none), o 40 (.conv .toString (v 39)), o 41 (.mov (v 0)), o 42 (.mov (v 4)), o 43 (.bin .add (i 20) (v 42)), o 44 (.slice (.slice 1) (v 41) (some (v 43)) none none), o 45 (.conv .toString (v 44)), o 46 (.build [(.int .i64 0), (.string ⟨#[]⟩), (.string ⟨#[]⟩), (.int .i64 0), (.int .i64 0)] [(0, 1, (v 27)), (3, 1, (v 31)), (4, 1, (v 35)), (1, 1, (v 40)), (2, 1, (v 45))]), o 47 (.build [(.int .i64 0), (.int .i64 0), (.string ⟨#[]⟩), (.string ⟨#[]⟩), (.int .i64 0), (.int .i64 0)] [(0, 1, (v 23)), (1, 5, (v 46))]), o 5 (.alloc 74 [(.int .i64 0), (.int .i64 0), (.string ⟨#[]⟩), (.string ⟨#[]⟩), (.int .i64 0), (.int .i64 0)]), on (.store 6 (v 5) (v 47))] ⟨[], [6, 14], []⟩)
 (.seq (D [o 48 (.load (some 6) (v 5)), o 49 (.load (some 6) (v 5)), o 50 (.call (.func 48) [(v 49)]), on (.store 6 (v 2) (v 48)), o 3 (.mov (v 50))] ⟨[], [2], []⟩)
 (.ret))))))
def fun41 : AFun := ⟨1, code41, [.cell 2 (some 6), .tmp 3], 0⟩
theorem comp41 : FunOK Try.prog 41 fun41 :=
  FunOK.of Try.func41 [] [⟨[], [6, 14], []⟩, ⟨[], [2], []⟩] (by kernel_rfl) (by kernel_rfl) (by decide +kernel) (by kernel_rfl)

/- decorum/frame.Sum -/
def code42 : ACode :=
 .seq (R [o 2 (.mov (.const (.int .u32 0)))])
 (.seq (R [o 3 (.mov (.const (.int .u32 4294967295)))])
 (.seq (.seq (R [o 6 (.mov (v 0)), o 7 (.len .slice (v 6)), o 8 (.mov (i 0))])
  (.block 0 (.loop [3, 6, 7, 8] (.seq (R [o 9 (.bin .lss (v 8) (v 7))])
    (.seq (.cond (v 9) (.skip)
     (.exit 0))
    (.seq (.block 1 (.seq (R [o 10 (.indexAddr 1 (v 6) (v 8)), o 11 (.load none (v 10)), o 5 (.mov (v 11))])
      (.seq (R [o 12 (.mov (v 3)), o 13 (.mov (v 5)), o 14 (.conv (.int .u32) (v 13)), o 15 (.bin .xor (v 12) (v 14)), o 3 (.mov (v 15))])
      (.seq (R [o 16 (.mov (i 0))])
      (.block 2 (.loop [3, 6, 7, 8, 16] (.seq (R [o 17 (.bin .lss (v 16) (i 8))])
        (.seq (.cond (v 17) (.skip)
         (.exit 2))
        (.seq (.block 3 (R [o 18 (.mov (v 3)), o 19 (.bin .shr (v 18) (.const (.int .u64 1))), o 20 (.mov (v 3)), o 21 (.bin .and (v 20) (.const (.int .u32 1))), o 22 (.un .neg (v 21)), o 23 (.bin .and (.const (.int .u32 3988292384)) (v 22)), o 24 (.bin .xor (v 19) (v 23)), o 3 (.mov (v 24))]))
        (R [o 25 (.bin .add (v 16) (i 1)), o 16 (.mov (v 25))]))))))))))
    (R [o 26 (.bin .add (v 8) (i 1)), o 8 (.mov (v 26))])))))))
 (.seq (R [o 27 (.mov (v 3)), o 28 (.un .xor (v 27)), o 2 (.mov (v 28))])
 (.ret))))
def fun42 : AFun := ⟨1, code42, [.tmp 2], 0⟩
theorem comp42 : FunOK Try.prog 42 fun42 :=
  FunOK.of Try.func42 [[3, 6, 7, 8], [3, 6, 7, 8, 16]] [] (by kernel_rfl) (by kernel_rfl) (by decide +kernel) (by kernel_rfl)

/- (*decorum/spill.Log).write -/
def code43 : ACode :=
 .seq (R [o 4 (.mov (i 0))])
 (.seq (R [o 8 (.mov (v 0)), o 9 (.nilCheck (v 8)), o 10 (.fieldAddr 0 (v 9)), o 11 (.load none (v 10)), o 12 (.mov (v 0)), o 13 (.nilCheck (v 12)), o 14 (.fieldAddr 2 (v 13)), o 15 (.load none (v 14)), o 16 (.call (.func 26) [(v 11), (v 15)]), o 7 (.mov (v 16)), o 17 (.extract (v 7) 0), o 18 (.extract (v 7) 1), o 5 (.mov (v 17)), o 6 (.mov (v 18))])
 (.seq (.seq (R [o 19 (.mov (v 1)), o 20 (.len .slice (v 19)), o 21 (.mov (v 5)), o 22 (.len .slice (v 21)), o 23 (.bin .sub (i 2048) (v 22)), o 24 (.bin .gtr (v 20) (v 23))])
  (.cond (v 24) (R [o 25 (.mov (v 0)), o 26 (.nilCheck (v 25)), o 27 (.fieldAddr 2 (v 26)), o 28 (.load none (v 27)), o 29 (.bin .add (v 28) (i 1)), o 30 (.nilCheck (v 25)), o 31 (.fieldAddr 2 (v 30)), on (.store 1 (v 31) (v 29))])
  (.skip)))
 (.seq (.seq (D [o 32 (.mov (v 0)), o 33 (.nilCheck (v 32)), o 34 (.fieldAddr 0 (v 33)), o 35 (.load none (v 34)), o 36 (.call (.func 25) [(v 35)]), o 37 (.mov (v 0)), o 38 (.nilCheck (v 37)), o 39 (.fieldAddr 2 (v 38)), o 40 (.load none (v 39)), o 41 (.call (.func 55) [(v 36), (v 40)]), o 42 (.un .not (v 41)), o 43 (.mov (v 42)), ot 43 44 (.mov (v 0)), ot 43 45 (.nilCheck (v 44)), ot 43 46 (.fieldAddr 0 (v 45)), ot 43 47 (.load none (v 46)), ot 43 48 (.call (.func 25) [(v 47)]), ot 43 49 (.len .slice (v 48)), ot 43 50 (.mov (v 0)), ot 43 51 (.nilCheck (v 50)), ot 43 52 (.fieldAddr 1 (v 51)), ot 43 53 (.load none (v 52)), ot 43 54 (.bin .geq (v 49) (v 53)), o 55 (.pick (v 43) (v 54) ff)] ⟨[], [], [(4, 8), (16, 21)]⟩)
  (.cond (v 55) (.seq (R [o 4 (.mov (i 5))])
   (.ret))
  (.skip)))
 (.seq (R [o 56 (.mov (v 0)), o 57 (.nilCheck (v 56)), o 58 (.fieldAddr 0 (v 57)), o 59 (.load none (v 58)), o 60 (.mov (v 0)), o 61 (.nilCheck (v 60)), o 62 (.fieldAddr 2 (v 61)), o 63 (.load none (v 62)), o 64 (.mov (v 1)), o 65 (.call (.func 45) [(v 59), (v 63), (v 64)]), o 4 (.mov (v 65))])
 (.ret)))))
def fun43 : AFun := ⟨2, code43, [.tmp 4], 0⟩
theorem comp43 : FunOK Try.prog 43 fun43 :=
  FunOK.of Try.func43 [] [⟨[], [], [(4, 8), (16, 21)]⟩] (by kernel_rfl) (by kernel_rfl) (by decide +kernel) (by kernel_rfl)

/- (*decorum/disk.Disk).Sync -/
def code44 : ACode :=
 .seq (R [o 2 (.mov (i 0))])
 (.seq (.block 0 (.seq (R [o 4 (.mov (v 0)), o 5 (.eq false .pointer (v 4) (.const (.pointer none))), o 3 (.mov (v 5))])
   (.cond (v 3) (.seq (R [o 2 (.mov (i 1))])
    (.ret))
   (.seq (R [o 7 (.mov (v 0)), o 8 (.call (.func 56) [(v 7)]), o 9 (.un .not (v 8)), o 6 (.mov (v 9))])
    (.cond (v 6) (.seq (R [o 2 (.mov (i 7))])
     (.ret))
    (.skip))))))
 (.seq (R [o 10 (.mov (v 0)), o 11 (.nilCheck (v 10)), o 12 (.fieldAddr 2 (v 11)), on (.store 1 (v 12) (.const (.slice none 0 0)))])
 (.seq (R [o 2 (.mov (i 0))])
 (.ret))))
def fun44 : AFun := ⟨1, code44, [.tmp 2], 0⟩
theorem comp44 : FunOK Try.prog 44 fun44 :=
  FunOK.of Try.func44 [] [] (by kernel_rfl) (by kernel_rfl) (by decide +kernel) (by kernel_rfl)

/- (*decorum/disk.Disk).Append -/
def code45 : ACode :=
 .seq (R [o 6 (.mov (i 0))])
 (.seq (.seq (R [o 10 (.mov (v 0)), o 11 (.eq false .pointer (v 10) (.const (.pointer none))), o 12 (.mov (v 11)), of 12 13 (.mov (v 1)), of 12 14 (.bin .lss (v 13) (i 0)), o 15 (.pick (v 12) tt (v 14))])
  (.cond (v 15) (.seq (R [o 6 (.mov (i 1))])
   (.ret))
  (.skip)))
 (.seq (R [o 17 (.mov (v 0)), o 18 (.nilCheck (v 17)), o 19 (.fieldAddr 1 (v 18)), o 20 (.load none (v 19)), o 21 (.mov (v 1)), o 22 (.lookup .int (.slice none 0 0) true (v 20) (v 21)), o 16 (.mov (v 22)), o 23 (.extract (v 16) 0), o 24 (.extract (v 16) 1), o 7 (.mov (v 23)), o 8 (.mov (v 24))])
 (.seq (.block 0 (.seq (R [o 26 (.mov (v 8)), o 27 (.un .not (v 26)), o 28 (.mov (v 27)), ot 28 29 (.mov (v 0)), ot 28 30 (.nilCheck (v 29)), ot 28 31 (.fieldAddr 1 (v 30)), ot 28 32 (.load none (v 31)), ot 28 33 (.len .map (v 32)), ot 28 34 (.mov (v 0)), ot 28 35 (.nilCheck (v 34)), ot 28 36 (.fieldAddr 0 (v 35)), ot 28 37 (.load none (v 36)), ot 28 38 (.bin .geq (v 33) (v 37)), o 39 (.pick (v 28) (v 38) ff), o 40 (.mov (v 39)), of 40 41 (.mov (v 2)), of 40 42 (.len .slice (v 41)), of 40 43 (.mov (v 7)), of 40 44 (.len .slice (v 43)), of 40 45 (.bin .sub (i 2048) (v 44)), of 40 46 (.bin .gtr (v 42) (v 45)), o 47 (.pick (v 40) tt (v 46)), o 25 (.mov (v 47))])
   (.cond (v 25) (.seq (R [o 6 (.mov (i 5))])
    (.ret))
   (.seq (R [o 49 (.mov (v 0)), o 50 (.call (.func 56) [(v 49)]), o 51 (.un .not (v 50)), o 48 (.mov (v 51))])
    (.cond (v 48) (.seq (R [o 6 (.mov (i 7))])
     (.ret))
    (.skip))))))
 (.seq (R [o 52 (.mov (v 7)), o 53 (.len .slice (v 52)), o 54 (.mov (v 2)), o 55 (.len .slice (v 54)), o 56 (.bin .add (v 53) (v 55)), o 57 (.mkSlice 5 1 1 [(.int .u8 0)] (v 56) (v 56)), o 9 (.mov (v 57))])
 (.seq (R [o 58 (.mov (v 9)), o 59 (.mov (v 7)), o 60 (.copy 1 (v 58) (v 59))])
 (.seq (R [o 61 (.mov (v 9)), o 62 (.mov (v 7)), o 63 (.len .slice (v 62)), o 64 (.slice (.slice 1) (v 61) (some (v 63)) none none), o 65 (.mov (v 2)), o 66 (.copy 1 (v 64) (v 65))])
 (.seq (R [o 67 (.mov (v 0)), o 68 (.nilCheck (v 67)), o 69 (.fieldAddr 1 (v 68)), o 70 (.load none (v 69)), o 71 (.mov (v 1)), o 72 (.mov (v 9)), on (.mapUpdate .int (v 70) (v 71) (v 72))])
 (.seq (R [o 73 (.mov (v 0)), o 74 (.mov (v 0)), o 75 (.nilCheck (v 74)), o 76 (.fieldAddr 2 (v 75)), o 77 (.load none (v 76)), o 78 (.mov (v 1)), o 79 (.mov (v 2)), o 80 (.len .slice (v 79)), o 81 (.build [(.int .i64 0), (.int .i64 0)] [(0, 1, (v 78)), (1, 1, (v 80))]), o 82 (.buildSlice 85 2 1 [(.int .i64 0), (.int .i64 0)] [(0, 2, (v 81))]), o 83 (.append 85 2 16 (v 77) (v 82)), o 84 (.nilCheck (v 73)), o 85 (.fieldAddr 2 (v 84)), on (.store 1 (v 85) (v 83))])
 (.seq (R [o 6 (.mov (i 0))])
 (.ret))))))))))
def fun45 : AFun := ⟨3, code45, [.tmp 6], 0⟩
theorem comp45 : FunOK Try.prog 45 fun45 :=
  FunOK.of Try.func45 [] [] (by kernel_rfl) (by kernel_rfl) (by decide +kernel) (by kernel_rfl)

/- (*decorum/disk.Disk).Drop -/
def code47 : ACode :=
 .seq (R [o 3 (.box 3 (v 1)), o 4 (.mov (i 0))])
 (.seq (.seq (R [o 7 (.mov (v 0)), o 8 (.eq false .pointer (v 7) (.const (.pointer none)))])
  (.cond (v 8) (.seq (R [o 4 (.mov (i 1))])
   (.ret))
  (.skip)))
 (.seq (.seq (R [o 10 (.mov (v 0)), o 11 (.nilCheck (v 10)), o 12 (.fieldAddr 1 (v 11)), o 13 (.load none (v 12)), o 14 (.load none (v 3)), o 15 (.lookup .int (.slice none 0 0) true (v 13) (v 14)), o 9 (.mov (v 15)), o 16 (.extract (v 9) 0), o 17 (.extract (v 9) 1), o 5 (.mov (v 16)), o 6 (.mov (v 17))])
  (.seq (R [o 18 (.mov (v 6)), o 19 (.un .not (v 18))])
  (.cond (v 19) (.seq (R [o 4 (.mov (i 4))])
   (.ret))
  (.skip))))
 (.seq (.seq (R [o 20 (.mov (v 0)), o 21 (.call (.func 56) [(v 20)]), o 22 (.un .not (v 21))])
  (.cond (v 22) (.seq (R [o 4 (.mov (i 7))])
   (.ret))
  (.skip)))
 (.seq (R [o 23 (.mov (v 0)), o 24 (.nilCheck (v 23)), o 25 (.fieldAddr 1 (v 24)), o 26 (.load none (v 25)), o 27 (.load none (v 3)), on (.delete .int (v 26) (v 27))])
 (.seq (R [o 28 (.mov (v 0)), o 29 (.mov (v 0)), o 30 (.nilCheck (v 29)), o 31 (.fieldAddr 2 (v 30)), o 32 (.load none (v 31)), o 33 (.mkFunc (.func 59) [] [(v 3)]), o 34 (.call (.func 58) [(v 32), (v 33)]), o 35 (.nilCheck (v 28)), o 36 (.fieldAddr 2 (v 35)), on (.store 1 (v 36) (v 34))])
 (.seq (R [o 4 (.mov (i 0))])
 (.ret)))))))
def fun47 : AFun := ⟨2, code47, [.tmp 4], 0⟩
theorem comp47 : FunOK Try.prog 47 fun47 :=
  FunOK.of Try.func47 [] [] (by kernel_rfl) (by kernel_rfl) (by decide +kernel) (by kernel_rfl)

/- decorum/frame.sound -/
def code48 : ACode :=
 .seq (R [o 1 (.box 74 (v 0)), o 2 (.mov ff)])
 (.seq (R [o 5 (.fieldAddr 1 (v 1)), o 6 (.load (some 5) (v 5)), o 3 (.alloc 32 [(.int .i64 0), (.string ⟨#[]⟩), (.string ⟨#[]⟩), (.int .i64 0), (.int .i64 0)]), on (.store 5 (v 3) (v 6))])
 (.seq (R [o 7 (.fieldAddr 1 (v 3)), o 8 (.load none (v 7)), o 9 (.len .string (v 8)), o 10 (.bin .leq (v 9) (i 256)), o 11 (.mov (v 10)), ot 11 12 (.fieldAddr 2 (v 3)), ot 11 13 (.load none (v 12)), ot 11 14 (.len .string (v 13)), ot 11 15 (.bin .leq (v 14) (i 768)), o 16 (.pick (v 11) (v 15) ff), o 17 (.mov (v 16)), ot 17 18 (.fieldAddr 0 (v 3)), ot 17 19 (.load none (v 18)), ot 17 20 (.bin .geq (v 19) (i 0)), o 21 (.pick (v 17) (v 20) ff), o 22 (.mov (v 21)), ot 22 23 (.fieldAddr 4 (v 3)), ot 22 24 (.load none (v 23)), ot 22 25 (.bin .geq (v 24) (i 0)), o 26 (.pick (v 22) (v 25) ff), o 4 (.mov (v 26))])
 (.seq (R [o 27 (.mov (v 4)), o 28 (.mov (v 27)), ot 28 29 (.fieldAddr 0 (v 1)), ot 28 30 (.load none (v 29)), ot 28 31 (.bin .geq (v 30) (i 1)), o 32 (.pick (v 28) (v 31) ff), o 33 (.mov (v 32)), ot 33 34 (.fieldAddr 0 (v 1)), ot 33 35 (.load none (v 34)), ot 33 36 (.bin .leq (v 35) (i 3)), o 37 (.pick (v 33) (v 36) ff), o 38 (.mov (v 37)), ot 38 39 (.fieldAddr 3 (v 3)), ot 38 40 (.load none (v 39)), ot 38 41 (.bin .geq (v 40) (i 0)), o 42 (.pick (v 38) (v 41) ff), o 43 (.mov (v 42)), ot 43 44 (.fieldAddr 3 (v 3)), ot 43 45 (.load none (v 44)), ot 43 46 (.bin .leq (v 45) (i 7)), o 47 (.pick (v 43) (v 46) ff), o 2 (.mov (v 47))])
 (.ret))))
def fun48 : AFun := ⟨1, code48, [.tmp 2], 0⟩
theorem comp48 : FunOK Try.prog 48 fun48 :=
  FunOK.of Try.func48 [] [] (by kernel_rfl) (by kernel_rfl) (by decide +kernel) (by kernel_rfl)

/- decorum/frame.body -/
def code49 : ACode :=
 .seq (R [o 1 (.box 74 (v 0)), o 2 (.mov (.const (.slice none 0 0)))])
 (.seq (R [o 5 (.fieldAddr 1 (v 1)), o 6 (.load (some 5) (v 5)), o 3 (.alloc 32 [(.int .i64 0), (.string ⟨#[]⟩), (.string ⟨#[]⟩), (.int .i64 0), (.int .i64 0)]), on (.store 5 (v 3) (v 6))])
 (.seq (R [o 7 (.fieldAddr 0 (v 1)), o 8 (.load none (v 7)), o 9 (.conv (.int .u8) (v 8)), o 10 (.fieldAddr 3 (v 3)), o 11 (.load none (v 10)), o 12 (.conv (.int .u8) (v 11)), o 13 (.buildSlice 5 1 2 [(.int .u8 0), (.int .u8 0)] [(0, 1, (v 9)), (1, 1, (v 12))]), o 4 (.mov (v 13))])
 (.seq (R [o 14 (.mov (v 4)), o 15 (.fieldAddr 0 (v 3)), o 16 (.load none (v 15)), o 17 (.conv (.int .u64) (v 16)), o 18 (.call (.func 51) [(v 17), (i 8)]), o 19 (.append 5 1 1 (v 14) (v 18)), o 4 (.mov (v 19))])
 (.seq (R [o 20 (.mov (v 4)), o 21 (.fieldAddr 4 (v 3)), o 22 (.load none (v 21)), o 23 (.conv (.int .u64) (v 22)), o 24 (.call (.func 51) [(v 23), (i 8)]), o 25 (.append 5 1 1 (v 20) (v 24)), o 4 (.mov (v 25))])
 (.seq (R [o 26 (.mov (v 4)), o 27 (.fieldAddr 1 (v 3)), o 28 (.load none (v 27)), o 29 (.len .string (v 28)), o 30 (.conv (.int .u64) (v 29)), o 31 (.call (.func 51) [(v 30), (i 2)]), o 32 (.append 5 1 1 (v 26) (v 31)), o 4 (.mov (v 32))])
 (.seq (D [o 33 (.mov (v 4)), o 34 (.fieldAddr 1 (v 3)), o 35 (.load none (v 34)), o 36 (.append 5 1 1 (v 33) (v 35)), o 37 (.fieldAddr 2 (v 3)), o 38 (.load none (v 37)), o 39 (.append 5 1 1 (v 36) (v 38)), o 2 (.mov (v 39))] ⟨[(3, 5)], [], []⟩)
 (.ret)))))))
def fun49 : AFun := ⟨1, code49, [.tmp 2], 0⟩
theorem comp49 : FunOK Try.prog 49 fun49 :=
  FunOK.of Try.func49 [] [⟨[(3, 5)], [], []⟩] (by kernel_rfl) (by kernel_rfl) (by decide +kernel) (by kernel_rfl)

/- slices.Concat[[]byte,byte] -/
def code50 : ACode :=
 .seq (R [o 2 (.mov (.const (.slice none 0 0)))])
 (.seq (R [o 3 (.mov (i 0))])
 (.seq (.seq (R [o 9 (.mov (v 0)), o 10 (.len .slice (v 9)), o 11 (.mov (i 0))])
  (.block 0 (.loop [0, 3, 9, 10, 11] (.seq (R [o 12 (.bin .lss (v 11) (v 10))])
    (.seq (.cond (v 12) (.skip)
     (.exit 0))
    (.seq (.block 1 (.seq (R [o 13 (.indexAddr 1 (v 9) (v 11)), o 14 (.load none (v 13)), o 5 (.mov (v 14))])
      (.seq (R [o 15 (.mov (v 3)), o 16 (.mov (v 5)), o 17 (.len .slice (v 16)), o 18 (.bin .add (v 15) (v 17)), o 3 (.mov (v 18))])
      (.seq (R [o 19 (.mov (v 3)), o 20 (.bin .lss (v 19) (i 0))])
      (.cond (v 20) (R [o 21 (.mkIface 9 (.const (.string ⟨#[108, 101, 110, 32, 111, 117, 116, 32, 111, 102, 32, 114, 97, 110, 103, 101]⟩))), on (.cap ff)])
      (.skip))))))
    (R [o 22 (.bin .add (v 11) (i 1)), o 11 (.mov (v 22))])))))))
 (.seq (R [o 23 (.mov (v 3)), o 24 (.call (.func 60) [(.const (.slice none 0 0)), (v 23)]), o 6 (.mov (v 24))])
 (.seq (.seq (R [o 25 (.mov (v 0)), o 26 (.len .slice (v 25)), o 27 (.mov (i 0))])
  (.block 2 (.loop [6, 25, 26, 27] (.seq (R [o 28 (.bin .lss (v 27) (v 26))])
    (.seq (.cond (v 28) (.skip)
     (.exit 2))
    (.seq (.block 3 (.seq (R [o 29 (.indexAddr 1 (v 25) (v 27)), o 30 (.load none (v 29)), o 8 (.mov (v 30))])
      (R [o 31 (.mov (v 6)), o 32 (.mov (v 8)), o 33 (.append 5 1 1 (v 31) (v 32)), o 6 (.mov (v 33))])))
    (R [o 34 (.bin .add (v 27) (i 1)), o 27 (.mov (v 34))])))))))
 (.seq (R [o 35 (.mov (v 6)), o 2 (.mov (v 35))])
 (.ret))))))
def fun50 : AFun := ⟨1, code50, [.tmp 2], 0⟩
theorem comp50 : FunOK Try.prog 50 fun50 :=
  FunOK.of Try.func50 [[0, 3, 9, 10, 11], [6, 25, 26, 27]] [] (by kernel_rfl) (by kernel_rfl) (by decide +kernel) (by kernel_rfl)

/- decorum/frame.number -/
def code51 : ACode :=
 .seq (R [o 4 (.mov (.const (.slice none 0 0)))])
 (.seq (R [o 7 (.mov (v 1)), o 8 (.mkSlice 5 1 1 [(.int .u8 0)] (v 7) (v 7)), o 5 (.mov (v 8))])
 (.seq (.seq (R [o 9 (.mov (v 5)), o 10 (.len .slice (v 9)), o 11 (.mov (i 0))])
  (.block 0 (.loop [0, 1, 5, 10, 11] (.seq (R [o 12 (.bin .lss (v 11) (v 10))])
    (.seq (.cond (v 12) (.skip)
     (.exit 0))
    (.seq (.block 1 (.seq (R [o 13 (.mov (v 11)), o 6 (.mov (v 13))])
      (R [o 14 (.mov (v 5)), o 15 (.mov (v 1)), o 16 (.bin .sub (v 15) (i 1)), o 17 (.mov (v 6)), o 18 (.bin .sub (v 16) (v 17)), o 19 (.mov (v 0)), o 20 (.mov (v 6)), o 21 (.bin .mul (i 8) (v 20)), o 22 (.bin .shr (v 19) (v 21)), o 23 (.conv (.int .u8) (v 22)), o 24 (.indexAddr 1 (v 14) (v 18)), on (.store 1 (v 24) (v 23))])))
    (R [o 25 (.bin .add (v 11) (i 1)), o 11 (.mov (v 25))])))))))
 (.seq (R [o 26 (.mov (v 5)), o 4 (.mov (v 26))])
 (.ret))))
def fun51 : AFun := ⟨2, code51, [.tmp 4], 0⟩
theorem comp51 : FunOK Try.prog 51 fun51 :=
  FunOK.of Try.func51 [[0, 1, 5, 10, 11]] [] (by kernel_rfl) (by kernel_rfl) (by decide +kernel) (by kernel_rfl)

/- slices.Contains[[]int,int] -/
def code55 : ACode :=
 .seq (R [o 4 (.mov ff)])
 (.seq (R [o 5 (.mov (v 0)), o 6 (.mov (v 1)), o 7 (.call (.func 64) [(v 5), (v 6)]), o 8 (.bin .geq (v 7) (i 0)), o 4 (.mov (v 8))])
 (.ret))
def fun55 : AFun := ⟨2, code55, [.tmp 4], 0⟩
theorem comp55 : FunOK Try.prog 55 fun55 :=
  FunOK.of Try.func55 [] [] (by kernel_rfl) (by kernel_rfl) (by decide +kernel) (by kernel_rfl)

/- (*decorum/disk.Disk).work -/
def code56 : ACode :=
 .seq (R [o 2 (.mov ff)])
 (.seq (.block 0 (.seq (R [o 4 (.mov (v 0)), o 5 (.nilCheck (v 4)), o 6 (.fieldAddr 3 (v 5)), o 7 (.load none (v 6)), o 8 (.bin .gtr (v 7) (i 0)), o 3 (.mov (v 8))])
   (.cond (v 3) (R [o 9 (.mov (v 0)), o 10 (.nilCheck (v 9)), o 11 (.fieldAddr 3 (v 10)), o 12 (.load none (v 11)), o 13 (.bin .sub (v 12) (i 1)), o 14 (.nilCheck (v 9)), o 15 (.fieldAddr 3 (v 14)), on (.store 1 (v 15) (v 13))])
   (.seq (R [o 17 (.mov (v 0)), o 18 (.nilCheck (v 17)), o 19 (.fieldAddr 4 (v 18)), o 20 (.load none (v 19)), o 21 (.bin .gtr (v 20) (i 0)), o 16 (.mov (v 21))])
    (.cond (v 16) (.seq (R [o 22 (.mov (v 0)), o 23 (.nilCheck (v 22)), o 24 (.fieldAddr 4 (v 23)), o 25 (.load none (v 24)), o 26 (.bin .sub (v 25) (i 1)), o 27 (.nilCheck (v 22)), o 28 (.fieldAddr 4 (v 27)), on (.store 1 (v 28) (v 26))])
     (.seq (R [o 2 (.mov ff)])
     (.ret)))
    (.skip))))))
 (.seq (R [o 2 (.mov tt)])
 (.ret)))
def fun56 : AFun := ⟨1, code56, [.tmp 2], 0⟩
theorem comp56 : FunOK Try.prog 56 fun56 :=
  FunOK.of Try.func56 [] [] (by kernel_rfl) (by kernel_rfl) (by decide +kernel) (by kernel_rfl)

/- slices.DeleteFunc[[]decorum/disk.write,decorum/disk.write] -/
def code58 : ACode :=
 .seq (R [o 4 (.mov (.const (.slice none 0 0)))])
 (.seq (R [o 8 (.mov (v 0)), o 9 (.mov (v 1)), o 10 (.call (.func 66) [(v 8), (v 9)]), o 5 (.mov (v 10))])
 (.seq (.seq (R [o 11 (.mov (v 5)), o 12 (.bin .eql (v 11) (i (-1)))])
  (.cond (v 12) (.seq (R [o 13 (.mov (v 0)), o 4 (.mov (v 13))])
   (.ret))
  (.skip)))
 (.seq (.seq (R [o 14 (.mov (v 5)), o 15 (.bin .add (v 14) (i 1)), o 6 (.mov (v 15))])
  (.block 0 (.loop [0, 1, 5, 6] (.seq (.seq (R [o 16 (.mov (v 6)), o 17 (.mov (v 0)), o 18 (.len .slice (v 17)), o 19 (.bin .lss (v 16) (v 18))])
     (.cond (v 19) (.skip)
     (.exit 0)))
    (.seq (.block 1 (.seq (R [o 22 (.mov (v 0)), o 23 (.mov (v 6)), o 24 (.indexAddr 2 (v 22) (v 23)), o 25 (.load (some 2) (v 24)), o 7 (.alloc 85 [(.int .i64 0), (.int .i64 0)]), on (.store 2 (v 7) (v 25))])
      (.seq (R [o 26 (.mov (v 1)), o 27 (.load (some 2) (v 7)), o 28 (.call (v 26) [(v 27)]), o 29 (.un .not (v 28))])
      (.cond (v 29) (.seq (R [o 30 (.mov (v 0)), o 31 (.mov (v 5)), o 32 (.load (some 2) (v 7)), o 33 (.indexAddr 2 (v 30) (v 31)), on (.store 2 (v 33) (v 32))])
       (R [o 34 (.mov (v 5)), o 35 (.bin .add (v 34) (i 1)), o 5 (.mov (v 35))]))
      (.skip)))))
    (R [o 20 (.mov (v 6)), o 21 (.bin .add (v 20) (i 1)), o 6 (.mov (v 21))]))))))
 (.seq (R [o 36 (.mov (v 0)), o 37 (.mov (v 5)), o 38 (.slice (.slice 2) (v 36) (some (v 37)) none none), on (.clear 2 [(.int .i64 0), (.int .i64 0)] (v 38))])
 (.seq (R [o 39 (.mov (v 0)), o 40 (.mov (v 5)), o 41 (.slice (.slice 2) (v 39) none (some (v 40)) none), o 4 (.mov (v 41))])
 (.ret))))))
def fun58 : AFun := ⟨2, code58, [.tmp 4], 0⟩
theorem comp58 : FunOK Try.prog 58 fun58 :=
  FunOK.of Try.func58 [[0, 1, 5, 6]] [] (by kernel_rfl) (by kernel_rfl) (by decide +kernel) (by kernel_rfl)

/- (*decorum/disk.Disk).Drop$1 -/
def code59 : ACode :=
 .seq (R [o 2 (.box 85 (v 0)), o 3 (.mov ff)])
 (.seq (R [o 4 (.fieldAddr 0 (v 2)), o 5 (.load none (v 4)), o 6 (.load none (v 1)), o 7 (.bin .eql (v 5) (v 6)), o 3 (.mov (v 7))])
 (.ret))
def fun59 : AFun := ⟨2, code59, [.tmp 3], 1⟩
theorem comp59 : FunOK Try.prog 59 fun59 :=
  FunOK.of Try.func59 [] [] (by kernel_rfl) (by kernel_rfl) (by decide +kernel) (by kernel_rfl)

/- slices.Grow[[]byte,byte] -/
def code60 : ACode :=
 .seq (R [o 4 (.mov (.const (.slice none 0 0)))])
 (.seq (.seq (R [o 5 (.mov (v 1)), o 6 (.bin .lss (v 5) (i 0))])
  (.cond (v 6) (R [o 7 (.mkIface 9 (.const (.string ⟨#[99, 97, 110, 110, 111, 116, 32, 98, 101, 32, 110, 101, 103, 97, 116, 105, 118, 101]⟩))), on (.cap ff)])
  (.skip)))
 (.seq (.seq (R [o 8 (.mov (v 1)), o 9 (.mov (v 0)), o 10 (.cap (v 9)), o 11 (.mov (v 0)), o 12 (.len .slice (v 11)), o 13 (.bin .sub (v 10) (v 12)), o 14 (.bin .sub (v 8) (v 13)), o 1 (.mov (v 14))])
  (.seq (R [o 15 (.mov (v 1)), o 16 (.bin .gtr (v 15) (i 0))])
  (.cond (v 16) (R [o 17 (.mov (v 0)), o 18 (.mov (v 0)), o 19 (.cap (v 18)), o 20 (.slice (.slice 1) (v 17) none (some (v 19)) none), o 21 (.mov (v 1)), o 22 (.appendMake 5 1 1 [(.int .u8 0)] (v 20) (v 21)), o 23 (.mov (v 0)), o 24 (.len .slice (v 23)), o 25 (.slice (.slice 1) (v 22) none (some (v 24)) none), o 0 (.mov (v 25))])
  (.skip))))
 (.seq (R [o 26 (.mov (v 0)), o 4 (.mov (v 26))])
 (.ret))))
def fun60 : AFun := ⟨2, code60, [.tmp 4], 0⟩
theorem comp60 : FunOK Try.prog 60 fun60 :=
  FunOK.of Try.func60 [] [] (by kernel_rfl) (by kernel_rfl) (by decide +kernel) (by kernel_rfl)

/- slices.Index[[]int,int] -/
def code64 : ACode :=
 .seq (R [o 4 (.mov (i 0))])
 (.seq (.seq (R [o 6 (.mov (v 0)), o 7 (.len .slice (v 6)), o 8 (.mov (i 0))])
  (.block 0 (.loop [0, 1, 7, 8] (.seq (R [o 9 (.bin .lss (v 8) (v 7))])
    (.seq (.cond (v 9) (.skip)
     (.exit 0))
    (.seq (.block 1 (.seq (R [o 10 (.mov (v 8)), o 5 (.mov (v 10))])
      (.seq (R [o 11 (.mov (v 1)), o 12 (.mov (v 0)), o 13 (.mov (v 5)), o 14 (.indexAddr 1 (v 12) (v 13)), o 15 (.load none (v 14)), o 16 (.bin .eql (v 11) (v 15))])
      (.cond (v 16) (.seq (R [o 17 (.mov (v 5)), o 4 (.mov (v 17))])
       (.ret))
      (.skip)))))
    (R [o 18 (.bin .add (v 8) (i 1)), o 8 (.mov (v 18))])))))))
 (.seq (R [o 4 (.mov (i (-1)))])
 (.ret)))
def fun64 : AFun := ⟨2, code64, [.tmp 4], 0⟩
theorem comp64 : FunOK Try.prog 64 fun64 :=
  FunOK.of Try.func64 [[0, 1, 7, 8]] [] (by kernel_rfl) (by kernel_rfl) (by decide +kernel) (by kernel_rfl)

/- slices.IndexFunc[[]decorum/disk.write,decorum/disk.write] -/
def code66 : ACode :=
 .seq (R [o 4 (.mov (i 0))])
 (.seq (.seq (R [o 6 (.mov (v 0)), o 7 (.len .slice (v 6)), o 8 (.mov (i 0))])
  (.block 0 (.loop [0, 1, 7, 8] (.seq (R [o 9 (.bin .lss (v 8) (v 7))])
    (.seq (.cond (v 9) (.skip)
     (.exit 0))
    (.seq (.block 1 (.seq (R [o 10 (.mov (v 8)), o 5 (.mov (v 10))])
      (.seq (R [o 11 (.mov (v 1)), o 12 (.mov (v 0)), o 13 (.mov (v 5)), o 14 (.indexAddr 2 (v 12) (v 13)), o 15 (.load (some 2) (v 14)), o 16 (.call (v 11) [(v 15)])])
      (.cond (v 16) (.seq (R [o 17 (.mov (v 5)), o 4 (.mov (v 17))])
       (.ret))
      (.skip)))))
    (R [o 18 (.bin .add (v 8) (i 1)), o 8 (.mov (v 18))])))))))
 (.seq (R [o 4 (.mov (i (-1)))])
 (.ret)))
def fun66 : AFun := ⟨2, code66, [.tmp 4], 1⟩
theorem comp66 : FunOK Try.prog 66 fun66 :=
  FunOK.of Try.func66 [[0, 1, 7, 8]] [] (by kernel_rfl) (by kernel_rfl) (by decide +kernel) (by kernel_rfl)

end Go.Proofs.Ytlcfmfljmabaeaa
