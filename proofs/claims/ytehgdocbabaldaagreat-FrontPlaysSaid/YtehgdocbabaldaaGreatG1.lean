/-
  The functions as abstract code: printed by a program of mine.
-/
import Derived.Test.YtehgdocbabaldaaGreatProg
import Derived.Test.YtehgdocbabaldaaGreatA49
import Derived.WalkKit
set_option maxRecDepth 100000
namespace Go.Proofs.YtehgdocbabaldaaGreat
open Go Go.Abs Go.Abs.K

/- decorum/decorumlaw17.FrontPlays -/
def code4 : ACode :=
 .seq (R [o 6 (.mov ff)])
 (.seq (R [o 30 (.call (.func 7) [(i 16)]), o 31 (.call (.func 6) [(v 30), (i 7)]), o 29 (.mov (v 31)), o 32 (.extract (v 29) 0), o 33 (.extract (v 29) 1), o 7 (.mov (v 32)), o 8 (.mov (v 33))])
 (.seq (.seq (R [o 34 (.mov (v 8)), o 35 (.bin .neq (v 34) (i 0)), o 36 (.mov (v 35)), of 36 37 (.mov (v 7)), of 36 38 (.eq false .pointer (v 37) (.const (.pointer none))), o 39 (.pick (v 36) tt (v 38))])
  (.cond (v 39) (.seq (R [o 6 (.mov ff)])
   (.ret))
  (.skip)))
 (.seq (R [o 40 (.mov (v 0)), o 41 (.bin .rem (v 40) (.const (.int .u8 12))), o 42 (.conv (.int .i64) (v 41)), o 43 (.mov (v 1)), o 44 (.bin .rem (v 43) (.const (.int .u8 9))), o 45 (.conv (.int .i64) (v 44)), o 46 (.bin .add (v 45) (i 1)), o 9 (.mov (v 42)), o 10 (.mov (v 46))])
 (.seq (R [o 47 (.mov (v 9)), o 48 (.mov (v 10)), o 49 (.mov (v 7)), o 50 (.call (.func 8) [(v 47), (v 48), (v 49)]), o 11 (.mov (v 50))])
 (.seq (R [o 51 (.mkSlice 47 1 24 [(.slice none 0 0)] (i 4) (i 4)), o 12 (.mov (v 51))])
 (.seq (R [o 13 (.mov (i 0)), o 14 (.mov (i 0))])
 (.seq (.seq (R [o 15 (.mov (i 0))])
  (.block 0 (.loop [2, 7, 9, 10, 11, 12, 13, 14, 15] (.seq (.seq (R [o 52 (.mov (v 15)), o 53 (.mov (v 2)), o 54 (.len .slice (v 53)), o 55 (.bin .lss (v 52) (v 54)), o 56 (.mov (v 55)), ot 56 57 (.mov (v 15)), ot 56 58 (.bin .lss (v 57) (i 60)), o 59 (.pick (v 56) (v 58) ff)])
     (.cond (v 59) (.skip)
     (.exit 0)))
    (.seq (.block 1 (.seq (R [o 62 (.mov (v 2)), o 63 (.mov (v 15)), o 64 (.indexAddr 5 (v 62) (v 63)), o 65 (.load (some 5) (v 64)), o 16 (.alloc 46 [(.int .i64 0), (.int .i64 0), (.int .i64 0), (.string ⟨#[]⟩), (.int .u8 0)]), on (.store 5 (v 16) (v 65))])
      (.seq (.seq (R [o 66 (.fieldAddr 3 (v 16)), o 67 (.load none (v 66)), o 68 (.len .string (v 67)), o 69 (.bin .gtr (v 68) (i 100)), o 70 (.mov (v 69)), of 70 71 (.mov (v 14)), of 70 72 (.bin .gtr (v 71) (i 25)), o 73 (.pick (v 70) tt (v 72))])
       (.cond (v 73) (.exit 1)
       (.skip)))
      (.seq (R [o 74 (.fieldAddr 1 (v 16)), o 75 (.load none (v 74)), o 76 (.bin .rem (v 75) (i 4)), o 17 (.mov (v 76))])
      (.seq (.seq (R [o 77 (.mov (v 17)), o 78 (.bin .lss (v 77) (i 0))])
       (.cond (v 78) (R [o 79 (.mov (v 17)), o 80 (.bin .add (v 79) (i 4)), o 17 (.mov (v 80))])
       (.skip)))
      (.seq (.seq (R [o 81 (.fieldAddr 0 (v 16)), o 82 (.load none (v 81))])
       (.block 2 (.seq (.seq (R [o 84 (.bin .eql (v 82) (i 0)), o 83 (.mov (v 84))])
         (.cond (v 83) (.skip)
         (R [o 85 (.bin .eql (v 82) (i 1)), o 83 (.mov (v 85))])))
        (.cond (v 83) (.seq (R [o 86 (.mov (v 14)), o 87 (.bin .add (v 86) (i 1)), o 14 (.mov (v 87))])
         (.seq (R [o 88 (.mov (v 14)), o 89 (.fieldAddr 3 (v 16)), o 90 (.load none (v 89)), o 91 (.fieldAddr 4 (v 16)), o 92 (.load none (v 91)), o 93 (.bin .rem (v 92) (.const (.int .u8 8))), o 94 (.conv (.int .i64) (v 93)), o 95 (.build [(.int .i64 0), (.string ⟨#[]⟩), (.string ⟨#[]⟩), (.int .i64 0), (.int .i64 0)] [(0, 1, (v 88)), (1, 1, (.const (.string ⟨#[104]⟩))), (2, 1, (v 90)), (3, 1, (v 94))]), o 18 (.alloc 34 [(.int .i64 0), (.string ⟨#[]⟩), (.string ⟨#[]⟩), (.int .i64 0), (.int .i64 0)]), on (.store 5 (v 18) (v 95))])
         (.seq (.seq (R [o 96 (.mov (v 7)), o 97 (.load (some 5) (v 18)), o 98 (.call (.func 10) [(v 96), (v 97)]), o 99 (.bin .neq (v 98) (i 0))])
          (.cond (v 99) (.seq (R [o 6 (.mov ff)])
           (.ret))
          (.skip)))
         (.seq (.seq (R [o 100 (.fieldAddr 0 (v 16)), o 101 (.load none (v 100)), o 102 (.bin .eql (v 101) (i 0))])
          (.cond (v 102) (.seq (R [o 103 (.mov (v 11)), o 104 (.mov (v 17)), o 105 (.load (some 5) (v 18)), o 106 (.call (.func 11) [(v 103), (v 104), (v 105)]), o 19 (.mov (v 106))])
           (.seq (.seq (R [o 107 (.mov (v 12)), o 108 (.mov (v 17)), o 109 (.indexAddr 1 (v 107) (v 108)), o 110 (.load none (v 109)), o 111 (.len .slice (v 110)), o 112 (.mov (v 9)), o 113 (.bin .geq (v 111) (v 112))])
            (.cond (v 113) (.seq (.seq (R [o 114 (.mov (v 19)), o 115 (.bin .neq (v 114) (i 5))])
              (.cond (v 115) (.seq (R [o 6 (.mov ff)])
               (.ret))
              (.skip)))
             (.exit 1))
            (.skip)))
           (.seq (R [o 116 (.mov (v 19)), o 117 (.bin .neq (v 116) (i 0)), o 118 (.mov (v 117)), of 118 119 (.mov (v 11)), of 118 120 (.mov (v 17)), of 118 121 (.load (some 5) (v 18)), of 118 122 (.call (.func 11) [(v 119), (v 120), (v 121)]), of 118 123 (.bin .neq (v 122) (i 10)), o 124 (.pick (v 118) tt (v 123))])
           (.cond (v 124) (.seq (R [o 6 (.mov ff)])
            (.ret))
           (.skip)))))
          (.seq (R [o 125 (.mov (v 11)), o 126 (.mov (v 17)), o 127 (.load (some 5) (v 18)), o 128 (.call (.func 17) [(v 125), (v 126), (v 127)])])
           (R [o 129 (.mov (v 11)), o 130 (.mov (v 17)), o 131 (.load (some 5) (v 18)), o 132 (.call (.func 17) [(v 129), (v 130), (v 131)])]))))
         (.seq (R [o 133 (.mov (v 12)), o 134 (.mov (v 17)), o 135 (.mov (v 12)), o 136 (.mov (v 17)), o 137 (.indexAddr 1 (v 135) (v 136)), o 138 (.load none (v 137)), o 139 (.load (some 5) (v 18)), o 140 (.call (.func 18) [(v 138), (v 139)]), o 141 (.indexAddr 1 (v 133) (v 134)), on (.store 1 (v 141) (v 140))])
         (R [o 142 (.mov (v 13)), o 143 (.bin .add (v 142) (i 1)), o 13 (.mov (v 143))]))))))
        (.seq (R [o 145 (.bin .eql (v 82) (i 2)), o 144 (.mov (v 145))])
         (.cond (v 144) (.seq (R [o 20 (.mov ff)])
          (.seq (.seq (R [o 21 (.mov (i 0))])
           (.block 3 (.loop [2, 7, 9, 10, 11, 12, 13, 14, 15, 16, 17, 20, 21] (.seq (.seq (R [o 146 (.mov (v 21)), o 147 (.bin .lss (v 146) (i 4))])
              (.cond (v 147) (.skip)
              (.exit 3)))
             (.seq (.block 4 (.seq (R [o 150 (.mov (v 12)), o 151 (.mov (v 21)), o 152 (.indexAddr 1 (v 150) (v 151)), o 153 (.load none (v 152)), o 154 (.fieldAddr 2 (v 16)), o 155 (.load none (v 154)), o 156 (.call (.func 19) [(v 153), (v 155)]), o 22 (.mov (v 156))])
               (.seq (R [o 157 (.mov (v 22)), o 158 (.bin .geq (v 157) (i 0))])
               (.cond (v 158) (.seq (R [o 160 (.mov (v 11)), o 161 (.fieldAddr 2 (v 16)), o 162 (.load none (v 161)), o 163 (.call (.func 20) [(v 160), (v 162)]), o 159 (.mov (v 163)), o 164 (.extract (v 159) 0), o 165 (.extract (v 159) 1), o 23 (.mov (v 164)), o 24 (.mov (v 165))])
                (.seq (.seq (R [o 166 (.mov (v 24)), o 167 (.un .not (v 166)), o 168 (.mov (v 167)), of 168 169 (.mov (v 23)), of 168 170 (.mov (v 21)), of 168 171 (.bin .neq (v 169) (v 170)), o 172 (.pick (v 168) tt (v 171))])
                 (.cond (v 172) (.seq (R [o 6 (.mov ff)])
                  (.ret))
                 (.skip)))
                (.seq (R [o 173 (.mov (v 12)), o 174 (.mov (v 21)), o 175 (.mov (v 12)), o 176 (.mov (v 21)), o 177 (.indexAddr 1 (v 175) (v 176)), o 178 (.load none (v 177)), o 179 (.mov (v 22)), o 180 (.call (.func 21) [(v 178), (v 179)]), o 181 (.indexAddr 1 (v 173) (v 174)), on (.store 1 (v 181) (v 180))])
                (.seq (R [o 20 (.mov tt)])
                (R [o 182 (.mov (v 13)), o 183 (.bin .sub (v 182) (i 1)), o 13 (.mov (v 183))])))))
               (.skip)))))
             (R [o 148 (.mov (v 21)), o 149 (.bin .add (v 148) (i 1)), o 21 (.mov (v 149))]))))))
          (.seq (R [o 184 (.mov (v 11)), o 185 (.fieldAddr 2 (v 16)), o 186 (.load none (v 185)), o 187 (.call (.func 15) [(v 184), (v 186)]), o 188 (.mov (v 20)), o 189 (.eq true .scalar (v 187) (v 188))])
          (.cond (v 189) (.seq (R [o 6 (.mov ff)])
           (.ret))
          (.skip)))))
         (.skip)))))))
      (.seq (R [o 191 (.mov (v 11)), o 192 (.mov (v 17)), o 193 (.call (.func 12) [(v 191), (v 192)]), o 190 (.mov (v 193)), o 194 (.extract (v 190) 0), o 195 (.extract (v 190) 1), o 25 (.alloc 34 [(.int .i64 0), (.string ⟨#[]⟩), (.string ⟨#[]⟩), (.int .i64 0), (.int .i64 0)]), on (.store 5 (v 25) (v 194)), o 26 (.mov (v 195))])
      (.seq (.seq (D [o 196 (.mov (v 26)), o 197 (.mov (v 12)), o 198 (.mov (v 17)), o 199 (.indexAddr 1 (v 197) (v 198)), o 200 (.load none (v 199)), o 201 (.len .slice (v 200)), o 202 (.bin .gtr (v 201) (i 0)), o 203 (.eq true .scalar (v 196) (v 202)), o 204 (.mov (v 203)), of 204 205 (.mov (v 26)), of 204 206 (.mov (v 205)), ot 206 207 (.load (some 5) (v 25)), ot 206 208 (.mov (v 12)), ot 206 209 (.mov (v 17)), ot 206 210 (.indexAddr 1 (v 208) (v 209)), ot 206 211 (.load none (v 210)), ot 206 212 (.indexAddr 5 (v 211) (i 0)), ot 206 213 (.load (some 5) (v 212)), ot 206 214 (.eq true (.plain [.int, .string, .string, .int, .int]) (v 207) (v 213)), of 204 215 (.pick (v 206) (v 214) ff), o 216 (.pick (v 204) tt (v 215)), o 217 (.mov (v 216)), of 217 218 (.mov (v 11)), of 217 219 (.mov (v 17)), of 217 220 (.call (.func 22) [(v 218), (v 219)]), of 217 221 (.mov (v 12)), of 217 222 (.mov (v 17)), of 217 223 (.indexAddr 1 (v 221) (v 222)), of 217 224 (.load none (v 223)), of 217 225 (.len .slice (v 224)), of 217 226 (.bin .neq (v 220) (v 225)), o 227 (.pick (v 217) tt (v 226)), o 228 (.mov (v 227)), of 228 229 (.mov (v 11)), of 228 230 (.call (.func 16) [(v 229)]), of 228 231 (.mov (v 13)), of 228 232 (.bin .neq (v 230) (v 231)), o 233 (.pick (v 228) tt (v 232)), o 234 (.mov (v 233)), of 234 235 (.mov (v 11)), of 234 236 (.call (.func 14) [(v 235)]), of 234 237 (.mov (v 10)), of 234 238 (.bin .gtr (v 236) (v 237)), o 239 (.pick (v 234) tt (v 238))] ⟨[], [24], []⟩)
       (.cond (v 239) (.seq (R [o 6 (.mov ff)])
        (.ret))
       (.skip)))
      (.seq (R [o 27 (.mov ff)])
      (.seq (.seq (R [o 28 (.mov (i 0))])
       (.block 5 (.loop [2, 7, 9, 10, 11, 12, 13, 14, 15, 16, 17, 27, 28] (.seq (.seq (R [o 240 (.mov (v 28)), o 241 (.mov (v 12)), o 242 (.mov (v 17)), o 243 (.indexAddr 1 (v 241) (v 242)), o 244 (.load none (v 243)), o 245 (.len .slice (v 244)), o 246 (.bin .lss (v 240) (v 245))])
          (.cond (v 246) (.skip)
          (.exit 5)))
         (.seq (.block 6 (R [o 249 (.mov (v 27)), o 250 (.mov (v 249)), of 250 251 (.mov (v 12)), of 250 252 (.mov (v 17)), of 250 253 (.indexAddr 1 (v 251) (v 252)), of 250 254 (.load none (v 253)), of 250 255 (.mov (v 28)), of 250 256 (.indexAddr 5 (v 254) (v 255)), of 250 257 (.fieldAddr 2 (v 256)), of 250 258 (.load none (v 257)), of 250 259 (.fieldAddr 3 (v 16)), of 250 260 (.load none (v 259)), of 250 261 (.bin .eql (v 258) (v 260)), o 262 (.pick (v 250) tt (v 261)), o 27 (.mov (v 262))]))
         (R [o 247 (.mov (v 28)), o 248 (.bin .add (v 247) (i 1)), o 28 (.mov (v 248))]))))))
      (.seq (R [o 263 (.mov (v 11)), o 264 (.mov (v 17)), o 265 (.fieldAddr 3 (v 16)), o 266 (.load none (v 265)), o 267 (.call (.func 23) [(v 263), (v 264), (v 266)]), o 268 (.mov (v 27)), o 269 (.eq true .scalar (v 267) (v 268))])
      (.cond (v 269) (.seq (R [o 6 (.mov ff)])
       (.ret))
      (.skip)))))))))))))
    (R [o 60 (.mov (v 15)), o 61 (.bin .add (v 60) (i 1)), o 15 (.mov (v 61))]))))))
 (.seq (R [o 270 (.call (.func 9) []), o 6 (.mov (v 270))])
 (.ret)))))))))
def fun4 : AFun := ⟨3, code4, [.tmp 6], 0⟩
theorem comp4 : FunOK Tryz.prog 4 fun4 :=
  FunOK.of Tryz.func4 [[2, 7, 9, 10, 11, 12, 13, 14, 15], [2, 7, 9, 10, 11, 12, 13, 14, 15, 16, 17, 20, 21], [2, 7, 9, 10, 11, 12, 13, 14, 15, 16, 17, 27, 28]] [⟨[], [24], []⟩] (by kernel_rfl) (by kernel_rfl) (by decide +kernel) (by kernel_rfl)

/- decorum/spill.Open -/
def code6 : ACode :=
 .seq (R [o 4 (.mov (.const (.pointer none))), o 5 (.mov (i 0))])
 (.seq (.seq (R [o 15 (.mov (v 0)), o 16 (.eq false .pointer (v 15) (.const (.pointer none)))])
  (.cond (v 16) (.seq (R [o 4 (.mov (.const (.pointer none))), o 5 (.mov (i 1))])
   (.ret))
  (.skip)))
 (.seq (R [o 17 (.mov (v 0)), o 18 (.mov (v 1)), o 19 (.mkMap none), o 20 (.mkMap none), o 21 (.build [(.pointer none), (.int .i64 0), (.int .i64 0), (.map none), (.map none), (.int .i64 0)] [(0, 1, (v 17)), (1, 1, (v 18)), (3, 1, (v 19)), (4, 1, (v 20)), (5, 1, (i 1))]), o 22 (.box 61 (v 21)), o 6 (.mov (v 22))])
 (.seq (.seq (R [o 23 (.mov (v 0)), o 24 (.call (.func 24) [(v 23)]), o 25 (.len .slice (v 24)), o 26 (.mov (i 0))])
  (.block 0 (.loop [0, 6, 24, 25, 26] (.seq (R [o 27 (.bin .lss (v 26) (v 25))])
    (.seq (.cond (v 27) (.skip)
     (.exit 0))
    (.seq (.block 1 (.seq (R [o 28 (.indexAddr 1 (v 24) (v 26)), o 29 (.load none (v 28)), o 8 (.mov (v 29))])
      (.seq (R [o 31 (.mov (v 0)), o 32 (.mov (v 8)), o 33 (.call (.func 25) [(v 31), (v 32)]), o 30 (.mov (v 33)), o 34 (.extract (v 30) 0), o 35 (.extract (v 30) 1), o 9 (.mov (v 34)), o 10 (.mov (v 35))])
      (.seq (R [o 37 (.mov (v 9)), o 38 (.call (.func 26) [(v 37)]), o 36 (.mov (v 38)), o 39 (.extract (v 36) 0), o 40 (.extract (v 36) 1), o 11 (.mov (v 39)), o 12 (.mov (v 40))])
      (.seq (.seq (R [o 41 (.mov (v 11)), o 42 (.len .slice (v 41)), o 43 (.mov (i 0))])
       (.block 2 (.loop [0, 6, 8, 9, 12, 24, 25, 26, 41, 42, 43] (.seq (R [o 44 (.bin .lss (v 43) (v 42))])
         (.seq (.cond (v 44) (.skip)
          (.exit 2))
         (.seq (.block 3 (.seq (R [o 45 (.indexAddr 6 (v 41) (v 43)), o 46 (.load (some 6) (v 45)), o 14 (.alloc 70 [(.int .i64 0), (.int .i64 0), (.string ⟨#[]⟩), (.string ⟨#[]⟩), (.int .i64 0), (.int .i64 0)]), on (.store 6 (v 14) (v 46))])
           (R [o 47 (.mov (v 6)), o 48 (.load (some 6) (v 14)), o 49 (.call (.func 27) [(v 47), (v 48)])])))
         (R [o 50 (.bin .add (v 43) (i 1)), o 43 (.mov (v 50))])))))))
      (.seq (R [o 51 (.mov (v 6)), o 52 (.mov (v 8)), o 53 (.nilCheck (v 51)), o 54 (.fieldAddr 2 (v 53)), on (.store 1 (v 54) (v 52))])
      (.seq (R [o 55 (.mov (v 12)), o 56 (.mov (v 9)), o 57 (.len .slice (v 56)), o 58 (.bin .lss (v 55) (v 57))])
      (.cond (v 58) (R [o 59 (.mov (v 6)), o 60 (.mov (v 8)), o 61 (.bin .add (v 60) (i 1)), o 62 (.nilCheck (v 59)), o 63 (.fieldAddr 2 (v 62)), on (.store 1 (v 63) (v 61))])
      (.skip)))))))))
    (R [o 64 (.bin .add (v 26) (i 1)), o 26 (.mov (v 64))])))))))
 (.seq (R [o 65 (.mov (v 6)), o 4 (.mov (v 65)), o 5 (.mov (i 0))])
 (.ret)))))
def fun6 : AFun := ⟨2, code6, [.tmp 4, .tmp 5], 0⟩
theorem comp6 : FunOK Tryz.prog 6 fun6 :=
  FunOK.of Tryz.func6 [[0, 6, 24, 25, 26], [0, 6, 8, 9, 12, 24, 25, 26, 41, 42, 43]] [] (by kernel_rfl) (by kernel_rfl) (by decide +kernel) (by kernel_rfl)

/- decorum/disk.New -/
def code7 : ACode :=
 .seq (R [o 2 (.mov (.const (.pointer none)))])
 (.seq (R [o 3 (.mov (v 0)), o 4 (.minmax false [(v 3), (i 16)]), o 5 (.minmax true [(i 0), (v 4)]), o 6 (.mkMap none), o 7 (.build [(.int .i64 0), (.map none), (.slice none 0 0), (.int .i64 0), (.int .i64 0)] [(0, 1, (v 5)), (1, 1, (v 6))]), o 8 (.box 75 (v 7)), o 2 (.mov (v 8))])
 (.ret))
def fun7 : AFun := ⟨1, code7, [.tmp 2], 0⟩
theorem comp7 : FunOK Tryz.prog 7 fun7 :=
  FunOK.of Tryz.func7 [] [] (by kernel_rfl) (by kernel_rfl) (by decide +kernel) (by kernel_rfl)

/- decorum/front.New -/
def code8 : ACode :=
 .seq (R [o 6 (.mov (.const (.pointer none)))])
 (.seq (R [o 7 (.mov (v 0)), o 8 (.minmax true [(v 7), (i 0)]), o 9 (.mov (v 1)), o 10 (.minmax true [(v 9), (i 1)]), o 11 (.mov (v 2)), o 12 (.mkMap none), o 13 (.mkMap none), o 14 (.mkMap none), o 15 (.build [(.int .i64 0), (.int .i64 0), (.pointer none), (.map none), (.map none), (.map none), (.slice none 0 0)] [(0, 1, (v 8)), (1, 1, (v 10)), (2, 1, (v 11)), (3, 1, (v 12)), (4, 1, (v 13)), (5, 1, (v 14))]), o 16 (.box 80 (v 15)), o 6 (.mov (v 16))])
 (.ret))
def fun8 : AFun := ⟨3, code8, [.tmp 6], 0⟩
theorem comp8 : FunOK Tryz.prog 8 fun8 :=
  FunOK.of Tryz.func8 [] [] (by kernel_rfl) (by kernel_rfl) (by decide +kernel) (by kernel_rfl)

/- decorum/decorumlaw17.awake -/
def code9 : ACode :=
 .seq (R [o 0 (.mov ff)])
 (.seq (R [o 14 (.call (.func 7) [(i 9)]), o 15 (.call (.func 6) [(v 14), (i 4)]), o 13 (.mov (v 15)), o 16 (.extract (v 13) 0), o 17 (.extract (v 13) 1), o 1 (.mov (v 16)), o 2 (.mov (v 17))])
 (.seq (R [o 18 (.mov (v 1)), o 19 (.call (.func 8) [(i 2), (i 1), (v 18)]), o 3 (.mov (v 19))])
 (.seq (R [o 20 (.build [(.int .i64 0), (.string ⟨#[]⟩), (.string ⟨#[]⟩), (.int .i64 0), (.int .i64 0)] [(0, 1, (i 1)), (1, 1, (.const (.string ⟨#[104]⟩))), (2, 1, (.const (.string ⟨#[47, 97]⟩)))]), o 4 (.alloc 34 [(.int .i64 0), (.string ⟨#[]⟩), (.string ⟨#[]⟩), (.int .i64 0), (.int .i64 0)]), on (.store 5 (v 4) (v 20))])
 (.seq (R [o 21 (.build [(.int .i64 0), (.string ⟨#[]⟩), (.string ⟨#[]⟩), (.int .i64 0), (.int .i64 0)] [(0, 1, (i 2)), (1, 1, (.const (.string ⟨#[104]⟩))), (2, 1, (.const (.string ⟨#[47, 98]⟩)))]), o 5 (.alloc 34 [(.int .i64 0), (.string ⟨#[]⟩), (.string ⟨#[]⟩), (.int .i64 0), (.int .i64 0)]), on (.store 5 (v 5) (v 21))])
 (.seq (R [o 22 (.mov (v 1)), o 23 (.load (some 5) (v 4)), o 24 (.call (.func 10) [(v 22), (v 23)])])
 (.seq (R [o 25 (.mov (v 1)), o 26 (.load (some 5) (v 5)), o 27 (.call (.func 10) [(v 25), (v 26)])])
 (.seq (D [o 28 (.mov (v 3)), o 29 (.load (some 5) (v 4)), o 30 (.call (.func 11) [(v 28), (i 3), (v 29)]), o 31 (.mov (v 3)), o 32 (.load (some 5) (v 5)), o 33 (.call (.func 11) [(v 31), (i 3), (v 32)]), o 6 (.mov (v 30)), o 7 (.mov (v 33))] ⟨[], [], [(2, 4)]⟩)
 (.seq (R [o 34 (.mov (v 3)), o 35 (.build [(.int .i64 0), (.string ⟨#[]⟩), (.string ⟨#[]⟩), (.int .i64 0), (.int .i64 0)] [(0, 1, (i 9))]), o 36 (.call (.func 11) [(v 34), (i 3), (v 35)]), o 8 (.mov (v 36))])
 (.seq (R [o 38 (.mov (v 3)), o 39 (.call (.func 12) [(v 38), (i 3)]), o 37 (.mov (v 39)), o 40 (.extract (v 37) 0), o 41 (.extract (v 37) 1), o 9 (.alloc 34 [(.int .i64 0), (.string ⟨#[]⟩), (.string ⟨#[]⟩), (.int .i64 0), (.int .i64 0)]), on (.store 5 (v 9) (v 40)), o 10 (.mov (v 41))])
 (.seq (R [o 42 (.mov (v 3)), o 43 (.call (.func 15) [(v 42), (i 1)])])
 (.seq (R [o 45 (.mov (v 3)), o 46 (.call (.func 12) [(v 45), (i 3)]), o 44 (.mov (v 46)), o 47 (.extract (v 44) 0), o 48 (.extract (v 44) 1), o 11 (.alloc 34 [(.int .i64 0), (.string ⟨#[]⟩), (.string ⟨#[]⟩), (.int .i64 0), (.int .i64 0)]), on (.store 5 (v 11) (v 47)), o 12 (.mov (v 48))])
 (.seq (R [o 49 (.mov (v 2)), o 50 (.bin .eql (v 49) (i 0)), o 51 (.mov (v 50)), ot 51 52 (.mov (v 6)), ot 51 53 (.bin .eql (v 52) (i 0)), o 54 (.pick (v 51) (v 53) ff), o 55 (.mov (v 54)), ot 55 56 (.mov (v 7)), ot 55 57 (.bin .eql (v 56) (i 0)), o 58 (.pick (v 55) (v 57) ff), o 59 (.mov (v 58)), ot 59 60 (.mov (v 8)), ot 59 61 (.bin .eql (v 60) (i 5)), o 62 (.pick (v 59) (v 61) ff), o 63 (.mov (v 62)), ot 63 64 (.mov (v 10)), o 65 (.pick (v 63) (v 64) ff), o 66 (.mov (v 65)), ot 66 67 (.mov (v 12)), o 68 (.pick (v 66) (v 67) ff), o 69 (.mov (v 68)), ot 69 70 (.load (some 5) (v 9)), ot 69 71 (.load (some 5) (v 4)), ot 69 72 (.eq false (.plain [.int, .string, .string, .int, .int]) (v 70) (v 71)), o 73 (.pick (v 69) (v 72) ff), o 74 (.mov (v 73)), ot 74 75 (.load (some 5) (v 11)), ot 74 76 (.load (some 5) (v 5)), ot 74 77 (.eq false (.plain [.int, .string, .string, .int, .int]) (v 75) (v 76)), o 78 (.pick (v 74) (v 77) ff), o 79 (.mov (v 78)), ot 79 80 (.mov (v 3)), ot 79 81 (.call (.func 14) [(v 80)]), ot 79 82 (.bin .eql (v 81) (i 1)), o 83 (.pick (v 79) (v 82) ff), o 84 (.mov (v 83)), ot 84 85 (.mov (v 3)), ot 84 86 (.call (.func 23) [(v 85), (i 3), (.const (.string ⟨#[47, 98]⟩))]), o 87 (.pick (v 84) (v 86) ff), o 88 (.mov (v 87)), ot 88 89 (.mov (v 3)), ot 88 90 (.call (.func 23) [(v 89), (i 3), (.const (.string ⟨#[47, 97]⟩))]), ot 88 91 (.un .not (v 90)), o 92 (.pick (v 88) (v 91) ff), o 93 (.mov (v 92)), ot 93 94 (.mov (v 3)), ot 93 95 (.call (.func 16) [(v 94)]), ot 93 96 (.bin .eql (v 95) (i 1)), o 97 (.pick (v 93) (v 96) ff), o 98 (.mov (v 97)), ot 98 99 (.load (some 5) (v 4)), ot 98 100 (.load (some 5) (v 5)), ot 98 101 (.call (.func 13) [(v 99), (v 100)]), o 102 (.pick (v 98) (v 101) ff), o 0 (.mov (v 102))])
 (.ret)))))))))))))
def fun9 : AFun := ⟨0, code9, [.tmp 0], 0⟩
theorem comp9 : FunOK Tryz.prog 9 fun9 :=
  FunOK.of Tryz.func9 [] [⟨[], [], [(2, 4)]⟩] (by kernel_rfl) (by kernel_rfl) (by decide +kernel) (by kernel_rfl)

/- (*decorum/spill.Log).Put -/
def code10 : ACode :=
 .seq (R [o 3 (.box 34 (v 1)), o 4 (.mov (i 0))])
 (.seq (.seq (R [o 6 (.mov (v 0)), o 7 (.eq false .pointer (v 6) (.const (.pointer none)))])
  (.cond (v 7) (.seq (R [o 4 (.mov (i 1))])
   (.ret))
  (.skip)))
 (.seq (R [o 8 (.mov (v 0)), o 9 (.load (some 5) (v 3)), o 10 (.build [(.int .i64 0), (.int .i64 0), (.string ⟨#[]⟩), (.string ⟨#[]⟩), (.int .i64 0), (.int .i64 0)] [(0, 1, (i 1)), (1, 5, (v 9))]), o 11 (.call (.func 28) [(v 8), (v 10)]), o 5 (.mov (v 11))])
 (.seq (.seq (R [o 12 (.mov (v 5)), o 13 (.bin .neq (v 12) (i 2))])
  (.cond (v 13) (R [o 14 (.mov (v 0)), o 15 (.mov (v 0)), o 16 (.nilCheck (v 15)), o 17 (.fieldAddr 5 (v 16)), o 18 (.load none (v 17)), o 19 (.fieldAddr 0 (v 3)), o 20 (.load none (v 19)), o 21 (.bin .add (v 20) (i 1)), o 22 (.minmax true [(v 18), (v 21)]), o 23 (.nilCheck (v 14)), o 24 (.fieldAddr 5 (v 23)), on (.store 1 (v 24) (v 22))])
  (.skip)))
 (.seq (.seq (R [o 25 (.mov (v 5)), o 26 (.bin .eql (v 25) (i 0))])
  (.cond (v 26) (R [o 27 (.mov (v 0)), o 28 (.nilCheck (v 27)), o 29 (.fieldAddr 3 (v 28)), o 30 (.load none (v 29)), o 31 (.fieldAddr 0 (v 3)), o 32 (.load none (v 31)), o 33 (.load (some 5) (v 3)), on (.mapUpdate .int (v 30) (v 32) (v 33))])
  (.skip)))
 (.seq (R [o 34 (.mov (v 5)), o 4 (.mov (v 34))])
 (.ret))))))
def fun10 : AFun := ⟨2, code10, [.tmp 4], 0⟩
theorem comp10 : FunOK Tryz.prog 10 fun10 :=
  FunOK.of Tryz.func10 [] [] (by kernel_rfl) (by kernel_rfl) (by decide +kernel) (by kernel_rfl)

/- (*decorum/front.Front).Add -/
def code11 : ACode :=
 .seq (R [o 5 (.box 34 (v 2)), o 6 (.mov (i 0))])
 (.seq (.seq (R [o 9 (.mov (v 0)), o 10 (.eq false .pointer (v 9) (.const (.pointer none)))])
  (.cond (v 10) (.seq (R [o 6 (.mov (i 1))])
   (.ret))
  (.skip)))
 (.seq (.seq (R [o 12 (.mov (v 0)), o 13 (.nilCheck (v 12)), o 14 (.fieldAddr 4 (v 13)), o 15 (.load none (v 14)), o 16 (.fieldAddr 0 (v 5)), o 17 (.load none (v 16)), o 18 (.lookup .int (.int .i64 0) true (v 15) (v 17)), o 11 (.mov (v 18)), o 19 (.extract (v 11) 0), o 20 (.extract (v 11) 1), o 7 (.mov (v 19)), o 8 (.mov (v 20))])
  (.seq (R [o 21 (.mov (v 8))])
  (.cond (v 21) (.seq (R [o 6 (.mov (i 10))])
   (.ret))
  (.skip))))
 (.seq (.seq (D [o 22 (.mov (v 0)), o 23 (.mov (v 1)), o 24 (.call (.func 22) [(v 22), (v 23)]), o 25 (.mov (v 0)), o 26 (.nilCheck (v 25)), o 27 (.fieldAddr 0 (v 26)), o 28 (.load none (v 27)), o 29 (.bin .geq (v 24) (v 28))] ⟨[], [], [(2, 6)]⟩)
  (.cond (v 29) (.seq (R [o 6 (.mov (i 5))])
   (.ret))
  (.skip)))
 (.seq (R [o 30 (.mov (v 0)), o 31 (.mov (v 1)), o 32 (.load (some 5) (v 5)), o 33 (.call (.func 17) [(v 30), (v 31), (v 32)])])
 (.seq (R [o 6 (.mov (i 0))])
 (.ret))))))
def fun11 : AFun := ⟨3, code11, [.tmp 6], 0⟩
theorem comp11 : FunOK Tryz.prog 11 fun11 :=
  FunOK.of Tryz.func11 [] [⟨[], [], [(2, 6)]⟩] (by kernel_rfl) (by kernel_rfl) (by decide +kernel) (by kernel_rfl)

/- (*decorum/front.Front).First -/
def code12 : ACode :=
 .seq (R [o 4 (.alloc 34 [(.int .i64 0), (.string ⟨#[]⟩), (.string ⟨#[]⟩), (.int .i64 0), (.int .i64 0)]), o 5 (.mov ff)])
 (.seq (.seq (R [o 10 (.mov (v 0)), o 11 (.eq false .pointer (v 10) (.const (.pointer none)))])
  (.cond (v 11) (.seq (R [o 12 (.build [(.int .i64 0), (.string ⟨#[]⟩), (.string ⟨#[]⟩), (.int .i64 0), (.int .i64 0)] []), on (.store 5 (v 4) (v 12)), o 5 (.mov ff)])
   (.ret))
  (.skip)))
 (.seq (R [o 14 (.mov (v 0)), o 15 (.mov (v 1)), o 16 (.call (.func 29) [(v 14), (v 15)]), o 17 (.call (.func 30) [(v 16)]), o 13 (.mov (v 17)), o 18 (.extract (v 13) 0), o 19 (.extract (v 13) 1), o 6 (.alloc 34 [(.int .i64 0), (.string ⟨#[]⟩), (.string ⟨#[]⟩), (.int .i64 0), (.int .i64 0)]), on (.store 5 (v 6) (v 18)), o 7 (.mov (v 19))])
 (.seq (.seq (R [o 20 (.mov (v 7)), o 21 (.un .not (v 20))])
  (.cond (v 21) (.seq (R [o 22 (.build [(.int .i64 0), (.string ⟨#[]⟩), (.string ⟨#[]⟩), (.int .i64 0), (.int .i64 0)] []), on (.store 5 (v 4) (v 22)), o 5 (.mov ff)])
   (.ret))
  (.skip)))
 (.seq (R [o 23 (.mov (v 0)), o 24 (.load (some 5) (v 6)), o 25 (.call (.func 31) [(v 23), (v 24)]), on (.store 5 (v 6) (v 25))])
 (.seq (.seq (R [o 27 (.mov (v 0)), o 28 (.nilCheck (v 27)), o 29 (.fieldAddr 5 (v 28)), o 30 (.load none (v 29)), o 31 (.fieldAddr 0 (v 6)), o 32 (.load none (v 31)), o 33 (.lookup .int (.string ⟨#[]⟩) true (v 30) (v 32)), o 26 (.mov (v 33)), o 34 (.extract (v 26) 0), o 35 (.extract (v 26) 1), o 8 (.mov (v 34)), o 9 (.mov (v 35))])
  (.seq (R [o 36 (.mov (v 9)), o 37 (.un .not (v 36))])
  (.cond (v 37) (R [o 38 (.mov (v 0)), o 39 (.load (some 5) (v 6)), o 40 (.call (.func 32) [(v 38), (v 39), tt])])
  (.skip))))
 (.seq (R [o 41 (.load (some 5) (v 6)), on (.store 5 (v 4) (v 41)), o 5 (.mov tt)])
 (.ret)))))))
def fun12 : AFun := ⟨2, code12, [.cell 4 (some 5), .tmp 5], 0⟩
theorem comp12 : FunOK Tryz.prog 12 fun12 :=
  FunOK.of Tryz.func12 [] [] (by kernel_rfl) (by kernel_rfl) (by decide +kernel) (by kernel_rfl)

/- decorum/decorumref16.Before -/
def code13 : ACode :=
 .seq (R [o 2 (.box 34 (v 0)), o 3 (.box 34 (v 1)), o 4 (.mov ff)])
 (.seq (R [o 5 (.fieldAddr 3 (v 2)), o 6 (.load none (v 5)), o 7 (.fieldAddr 3 (v 3)), o 8 (.load none (v 7)), o 9 (.bin .lss (v 6) (v 8)), o 10 (.mov (v 9)), of 10 11 (.fieldAddr 3 (v 2)), of 10 12 (.load none (v 11)), of 10 13 (.fieldAddr 3 (v 3)), of 10 14 (.load none (v 13)), of 10 15 (.bin .eql (v 12) (v 14)), of 10 16 (.mov (v 15)), ot 16 17 (.fieldAddr 0 (v 2)), ot 16 18 (.load none (v 17)), ot 16 19 (.fieldAddr 0 (v 3)), ot 16 20 (.load none (v 19)), ot 16 21 (.bin .lss (v 18) (v 20)), of 10 22 (.pick (v 16) (v 21) ff), o 23 (.pick (v 10) tt (v 22)), o 4 (.mov (v 23))])
 (.ret))
def fun13 : AFun := ⟨2, code13, [.tmp 4], 1⟩
theorem comp13 : FunOK Tryz.prog 13 fun13 :=
  FunOK.of Tryz.func13 [] [] (by kernel_rfl) (by kernel_rfl) (by decide +kernel) (by kernel_rfl)

/- (*decorum/front.Front).Memory -/
def code14 : ACode :=
 .seq (R [o 2 (.mov (i 0))])
 (.seq (.seq (R [o 3 (.mov (v 0)), o 4 (.eq false .pointer (v 3) (.const (.pointer none)))])
  (.cond (v 4) (.seq (R [o 2 (.mov (i 0))])
   (.ret))
  (.skip)))
 (.seq (R [o 5 (.mov (v 0)), o 6 (.nilCheck (v 5)), o 7 (.fieldAddr 6 (v 6)), o 8 (.load none (v 7)), o 9 (.len .slice (v 8)), o 2 (.mov (v 9))])
 (.ret)))
def fun14 : AFun := ⟨1, code14, [.tmp 2], 0⟩
theorem comp14 : FunOK Tryz.prog 14 fun14 :=
  FunOK.of Tryz.func14 [] [] (by kernel_rfl) (by kernel_rfl) (by decide +kernel) (by kernel_rfl)

/- (*decorum/front.Front).Drop -/
def code15 : ACode :=
 .seq (R [o 3 (.box 3 (v 1)), o 4 (.mov ff)])
 (.seq (.seq (R [o 7 (.mov (v 0)), o 8 (.eq false .pointer (v 7) (.const (.pointer none)))])
  (.cond (v 8) (.seq (R [o 4 (.mov ff)])
   (.ret))
  (.skip)))
 (.seq (R [o 10 (.mov (v 0)), o 11 (.nilCheck (v 10)), o 12 (.fieldAddr 4 (v 11)), o 13 (.load none (v 12)), o 14 (.load none (v 3)), o 15 (.lookup .int (.int .i64 0) true (v 13) (v 14)), o 9 (.mov (v 15)), o 16 (.extract (v 9) 0), o 17 (.extract (v 9) 1), o 5 (.mov (v 16)), o 6 (.mov (v 17))])
 (.seq (.seq (R [o 18 (.mov (v 6)), o 19 (.un .not (v 18))])
  (.cond (v 19) (.seq (R [o 4 (.mov ff)])
   (.ret))
  (.skip)))
 (.seq (D [o 20 (.mov (v 0)), o 21 (.mov (v 5)), o 22 (.call (.func 29) [(v 20), (v 21)]), o 23 (.load none (v 3)), o 24 (.call (.func 33) [(v 22), (v 23)])] ⟨[], [2], []⟩)
 (.seq (R [o 25 (.mov (v 0)), o 26 (.nilCheck (v 25)), o 27 (.fieldAddr 4 (v 26)), o 28 (.load none (v 27)), o 29 (.load none (v 3)), on (.delete .int (v 28) (v 29))])
 (.seq (R [o 30 (.mov (v 0)), o 31 (.nilCheck (v 30)), o 32 (.fieldAddr 5 (v 31)), o 33 (.load none (v 32)), o 34 (.load none (v 3)), on (.delete .int (v 33) (v 34))])
 (.seq (R [o 35 (.mov (v 0)), o 36 (.mov (v 0)), o 37 (.nilCheck (v 36)), o 38 (.fieldAddr 6 (v 37)), o 39 (.load none (v 38)), o 40 (.mkFunc (.func 35) [] [(v 3)]), o 41 (.call (.func 34) [(v 39), (v 40)]), o 42 (.nilCheck (v 35)), o 43 (.fieldAddr 6 (v 42)), on (.store 1 (v 43) (v 41))])
 (.seq (R [o 4 (.mov tt)])
 (.ret)))))))))
def fun15 : AFun := ⟨2, code15, [.tmp 4], 0⟩
theorem comp15 : FunOK Tryz.prog 15 fun15 :=
  FunOK.of Tryz.func15 [] [⟨[], [2], []⟩] (by kernel_rfl) (by kernel_rfl) (by decide +kernel) (by kernel_rfl)

/- (*decorum/front.Front).Count -/
def code16 : ACode :=
 .seq (R [o 2 (.mov (i 0))])
 (.seq (.seq (R [o 3 (.mov (v 0)), o 4 (.eq false .pointer (v 3) (.const (.pointer none)))])
  (.cond (v 4) (.seq (R [o 2 (.mov (i 0))])
   (.ret))
  (.skip)))
 (.seq (R [o 5 (.mov (v 0)), o 6 (.nilCheck (v 5)), o 7 (.fieldAddr 4 (v 6)), o 8 (.load none (v 7)), o 9 (.len .map (v 8)), o 2 (.mov (v 9))])
 (.ret)))
def fun16 : AFun := ⟨1, code16, [.tmp 2], 0⟩
theorem comp16 : FunOK Tryz.prog 16 fun16 :=
  FunOK.of Tryz.func16 [] [] (by kernel_rfl) (by kernel_rfl) (by decide +kernel) (by kernel_rfl)

/- (*decorum/front.Front).Back -/
def code17 : ACode :=
 .seq (R [o 5 (.box 34 (v 2))])
 (.seq (.seq (R [o 9 (.mov (v 0)), o 10 (.eq false .pointer (v 9) (.const (.pointer none)))])
  (.cond (v 10) (.ret)
  (.skip)))
 (.seq (.seq (R [o 12 (.mov (v 0)), o 13 (.nilCheck (v 12)), o 14 (.fieldAddr 4 (v 13)), o 15 (.load none (v 14)), o 16 (.fieldAddr 0 (v 5)), o 17 (.load none (v 16)), o 18 (.lookup .int (.int .i64 0) true (v 15) (v 17)), o 11 (.mov (v 18)), o 19 (.extract (v 11) 0), o 20 (.extract (v 11) 1), o 6 (.mov (v 19)), o 7 (.mov (v 20))])
  (.seq (R [o 21 (.mov (v 7))])
  (.cond (v 21) (.ret)
  (.skip))))
 (.seq (R [o 22 (.load (some 5) (v 5)), o 8 (.alloc 34 [(.int .i64 0), (.string ⟨#[]⟩), (.string ⟨#[]⟩), (.int .i64 0), (.int .i64 0)]), on (.store 5 (v 8) (v 22))])
 (.seq (R [o 23 (.fieldAddr 2 (v 8)), on (.store 1 (v 23) (.const (.string ⟨#[]⟩)))])
 (.seq (D [o 24 (.mov (v 0)), o 25 (.mov (v 1)), o 26 (.call (.func 29) [(v 24), (v 25)]), o 27 (.load (some 5) (v 8)), o 28 (.call (.func 36) [(v 26), (v 27)])] ⟨[], [], [(2, 3)]⟩)
 (.seq (R [o 29 (.mov (v 0)), o 30 (.nilCheck (v 29)), o 31 (.fieldAddr 4 (v 30)), o 32 (.load none (v 31)), o 33 (.fieldAddr 0 (v 5)), o 34 (.load none (v 33)), o 35 (.mov (v 1)), on (.mapUpdate .int (v 32) (v 34) (v 35))])
 (R [o 36 (.mov (v 0)), o 37 (.load (some 5) (v 5)), o 38 (.call (.func 32) [(v 36), (v 37), ff])])))))))
def fun17 : AFun := ⟨3, code17, [], 0⟩
theorem comp17 : FunOK Tryz.prog 17 fun17 :=
  FunOK.of Tryz.func17 [] [⟨[], [], [(2, 3)]⟩] (by kernel_rfl) (by kernel_rfl) (by decide +kernel) (by kernel_rfl)

/- decorum/decorumref16.Insert -/
def code18 : ACode :=
 .seq (R [o 3 (.box 34 (v 1)), o 4 (.mov (.const (.slice none 0 0)))])
 (.seq (R [o 5 (.mov (i 0))])
 (.seq (.block 0 (.loop [0, 3, 5] (.seq (.seq (R [o 6 (.mov (v 5)), o 7 (.mov (v 0)), o 8 (.len .slice (v 7)), o 9 (.bin .lss (v 6) (v 8)), o 10 (.mov (v 9)), ot 10 11 (.mov (v 0)), ot 10 12 (.mov (v 5)), ot 10 13 (.indexAddr 5 (v 11) (v 12)), ot 10 14 (.load (some 5) (v 13)), ot 10 15 (.load (some 5) (v 3)), ot 10 16 (.call (.func 13) [(v 14), (v 15)]), o 17 (.pick (v 10) (v 16) ff)])
     (.cond (v 17) (.skip)
     (.exit 0)))
    (.block 1 (R [o 18 (.mov (v 5)), o 19 (.bin .add (v 18) (i 1)), o 5 (.mov (v 19))])))))
 (.seq (D [o 20 (.buildSlice 34 5 0 [] []), o 21 (.mov (v 0)), o 22 (.mov (v 5)), o 23 (.slice (.slice 5) (v 21) none (some (v 22)) none), o 24 (.append 34 5 56 (v 20) (v 23)), o 25 (.load (some 5) (v 3)), o 26 (.buildSlice 34 5 1 [(.int .i64 0), (.string ⟨#[]⟩), (.string ⟨#[]⟩), (.int .i64 0), (.int .i64 0)] [(0, 5, (v 25))]), o 27 (.append 34 5 56 (v 24) (v 26)), o 28 (.mov (v 0)), o 29 (.mov (v 5)), o 30 (.slice (.slice 5) (v 28) (some (v 29)) none none), o 31 (.append 34 5 56 (v 27) (v 30)), o 4 (.mov (v 31))] ⟨[(4, 5), (4, 6), (4, 10), (7, 10)], [], []⟩)
 (.ret))))
def fun18 : AFun := ⟨2, code18, [.tmp 4], 0⟩
theorem comp18 : FunOK Tryz.prog 18 fun18 :=
  FunOK.of Tryz.func18 [[0, 3, 5]] [⟨[(4, 5), (4, 6), (4, 10), (7, 10)], [], []⟩] (by kernel_rfl) (by kernel_rfl) (by decide +kernel) (by kernel_rfl)

/- decorum/decorumref16.At -/
def code19 : ACode :=
 .seq (R [o 4 (.mov (i 0))])
 (.seq (.seq (R [o 5 (.mov (i 0))])
  (.block 0 (.loop [0, 1, 5] (.seq (.seq (R [o 6 (.mov (v 5)), o 7 (.mov (v 0)), o 8 (.len .slice (v 7)), o 9 (.bin .lss (v 6) (v 8))])
     (.cond (v 9) (.skip)
     (.exit 0)))
    (.seq (.block 1 (.seq (R [o 12 (.mov (v 0)), o 13 (.mov (v 5)), o 14 (.indexAddr 5 (v 12) (v 13)), o 15 (.fieldAddr 0 (v 14)), o 16 (.load none (v 15)), o 17 (.mov (v 1)), o 18 (.bin .eql (v 16) (v 17))])
      (.cond (v 18) (.seq (R [o 19 (.mov (v 5)), o 4 (.mov (v 19))])
       (.ret))
      (.skip))))
    (R [o 10 (.mov (v 5)), o 11 (.bin .add (v 10) (i 1)), o 5 (.mov (v 11))]))))))
 (.seq (R [o 4 (.mov (i (-1)))])
 (.ret)))
def fun19 : AFun := ⟨2, code19, [.tmp 4], 0⟩
theorem comp19 : FunOK Tryz.prog 19 fun19 :=
  FunOK.of Tryz.func19 [[0, 1, 5]] [] (by kernel_rfl) (by kernel_rfl) (by decide +kernel) (by kernel_rfl)

/- (*decorum/front.Front).Host -/
def code20 : ACode :=
 .seq (R [o 4 (.mov (i 0)), o 5 (.mov ff)])
 (.seq (.seq (R [o 8 (.mov (v 0)), o 9 (.eq false .pointer (v 8) (.const (.pointer none)))])
  (.cond (v 9) (.seq (R [o 4 (.mov (i 0)), o 5 (.mov ff)])
   (.ret))
  (.skip)))
 (.seq (R [o 11 (.mov (v 0)), o 12 (.nilCheck (v 11)), o 13 (.fieldAddr 4 (v 12)), o 14 (.load none (v 13)), o 15 (.mov (v 1)), o 16 (.lookup .int (.int .i64 0) true (v 14) (v 15)), o 10 (.mov (v 16)), o 17 (.extract (v 10) 0), o 18 (.extract (v 10) 1), o 6 (.mov (v 17)), o 7 (.mov (v 18))])
 (.seq (R [o 19 (.mov (v 6)), o 20 (.mov (v 7)), o 4 (.mov (v 19)), o 5 (.mov (v 20))])
 (.ret))))
def fun20 : AFun := ⟨2, code20, [.tmp 4, .tmp 5], 0⟩
theorem comp20 : FunOK Tryz.prog 20 fun20 :=
  FunOK.of Tryz.func20 [] [] (by kernel_rfl) (by kernel_rfl) (by decide +kernel) (by kernel_rfl)

/- decorum/decorumref16.Without -/
def code21 : ACode :=
 .seq (R [o 4 (.mov (.const (.slice none 0 0)))])
 (.seq (D [o 5 (.buildSlice 34 5 0 [] []), o 6 (.mov (v 0)), o 7 (.mov (v 1)), o 8 (.slice (.slice 5) (v 6) none (some (v 7)) none), o 9 (.append 34 5 56 (v 5) (v 8)), o 10 (.mov (v 0)), o 11 (.mov (v 1)), o 12 (.bin .add (v 11) (i 1)), o 13 (.slice (.slice 5) (v 10) (some (v 12)) none none), o 14 (.append 34 5 56 (v 9) (v 13)), o 4 (.mov (v 14))] ⟨[(4, 8)], [], []⟩)
 (.ret))
def fun21 : AFun := ⟨2, code21, [.tmp 4], 0⟩
theorem comp21 : FunOK Tryz.prog 21 fun21 :=
  FunOK.of Tryz.func21 [] [⟨[(4, 8)], [], []⟩] (by kernel_rfl) (by kernel_rfl) (by decide +kernel) (by kernel_rfl)

/- (*decorum/front.Front).Len -/
def code22 : ACode :=
 .seq (R [o 4 (.mov (i 0))])
 (.seq (.seq (R [o 5 (.mov (v 0)), o 6 (.eq false .pointer (v 5) (.const (.pointer none)))])
  (.cond (v 6) (.seq (R [o 4 (.mov (i 0))])
   (.ret))
  (.skip)))
 (.seq (R [o 7 (.mov (v 0)), o 8 (.mov (v 1)), o 9 (.call (.func 29) [(v 7), (v 8)]), o 10 (.call (.func 37) [(v 9)]), o 4 (.mov (v 10))])
 (.ret)))
def fun22 : AFun := ⟨2, code22, [.tmp 4], 0⟩
theorem comp22 : FunOK Tryz.prog 22 fun22 :=
  FunOK.of Tryz.func22 [] [] (by kernel_rfl) (by kernel_rfl) (by decide +kernel) (by kernel_rfl)

/- (*decorum/front.Front).Has -/
def code23 : ACode :=
 .seq (R [o 3 (.box 30 (v 0)), o 5 (.box 9 (v 2)), o 6 (.mov ff)])
 (.seq (.seq (R [o 7 (.load none (v 3)), o 8 (.eq false .pointer (v 7) (.const (.pointer none)))])
  (.cond (v 8) (.seq (R [o 6 (.mov ff)])
   (.ret))
  (.skip)))
 (.seq (R [o 9 (.load none (v 3)), o 10 (.mov (v 1)), o 11 (.call (.func 29) [(v 9), (v 10)]), o 12 (.call (.func 39) [(v 11)]), o 13 (.mkFunc (.func 40) [] [(v 3), (v 5)]), o 14 (.call (.func 38) [(v 12), (v 13)]), o 6 (.mov (v 14))])
 (.ret)))
def fun23 : AFun := ⟨3, code23, [.tmp 6], 0⟩
theorem comp23 : FunOK Tryz.prog 23 fun23 :=
  FunOK.of Tryz.func23 [] [] (by kernel_rfl) (by kernel_rfl) (by decide +kernel) (by kernel_rfl)

/- (*decorum/disk.Disk).Segs -/
def code24 : ACode :=
 .seq (R [o 2 (.mov (.const (.slice none 0 0)))])
 (.seq (.seq (R [o 3 (.mov (v 0)), o 4 (.eq false .pointer (v 3) (.const (.pointer none)))])
  (.cond (v 4) (.seq (R [o 2 (.mov (.const (.slice none 0 0)))])
   (.ret))
  (.skip)))
 (.seq (R [o 5 (.mov (v 0)), o 6 (.nilCheck (v 5)), o 7 (.fieldAddr 1 (v 6)), o 8 (.load none (v 7)), o 9 (.call (.func 42) [(v 8)]), o 10 (.call (.func 41) [(v 9)]), o 2 (.mov (v 10))])
 (.ret)))
def fun24 : AFun := ⟨1, code24, [.tmp 2], 0⟩
theorem comp24 : FunOK Tryz.prog 24 fun24 :=
  FunOK.of Tryz.func24 [] [] (by kernel_rfl) (by kernel_rfl) (by decide +kernel) (by kernel_rfl)

/- (*decorum/disk.Disk).Read -/
def code25 : ACode :=
 .seq (R [o 4 (.mov (.const (.slice none 0 0))), o 5 (.mov (i 0))])
 (.seq (.seq (R [o 8 (.mov (v 0)), o 9 (.eq false .pointer (v 8) (.const (.pointer none)))])
  (.cond (v 9) (.seq (R [o 4 (.mov (.const (.slice none 0 0))), o 5 (.mov (i 1))])
   (.ret))
  (.skip)))
 (.seq (R [o 11 (.mov (v 0)), o 12 (.nilCheck (v 11)), o 13 (.fieldAddr 1 (v 12)), o 14 (.load none (v 13)), o 15 (.mov (v 1)), o 16 (.lookup .int (.slice none 0 0) true (v 14) (v 15)), o 10 (.mov (v 16)), o 17 (.extract (v 10) 0), o 18 (.extract (v 10) 1), o 6 (.mov (v 17)), o 7 (.mov (v 18))])
 (.seq (.seq (R [o 19 (.mov (v 7)), o 20 (.un .not (v 19))])
  (.cond (v 20) (.seq (R [o 4 (.mov (.const (.slice none 0 0))), o 5 (.mov (i 4))])
   (.ret))
  (.skip)))
 (.seq (R [o 21 (.mov (v 6)), o 22 (.call (.func 44) [(v 21)]), o 23 (.call (.func 43) [(v 22)]), o 4 (.mov (v 23)), o 5 (.mov (i 0))])
 (.ret)))))
def fun25 : AFun := ⟨2, code25, [.tmp 4, .tmp 5], 0⟩
theorem comp25 : FunOK Tryz.prog 25 fun25 :=
  FunOK.of Tryz.func25 [] [] (by kernel_rfl) (by kernel_rfl) (by decide +kernel) (by kernel_rfl)

/- decorum/frame.Scan -/
def code26 : ACode :=
 .seq (R [o 2 (.mov (.const (.slice none 0 0))), o 3 (.mov (i 0))])
 (.seq (R [o 4 (.mov (.const (.slice none 0 0)))])
 (.seq (R [o 5 (.mov (i 0))])
 (.seq (.block 0 (.loop [0, 4, 5] (.seq (.seq (R [o 10 (.mov (v 0)), o 11 (.len .slice (v 10)), o 12 (.mov (v 5)), o 13 (.bin .sub (v 11) (v 12)), o 14 (.bin .geq (v 13) (i 6))])
     (.cond (v 14) (.skip)
     (.exit 0)))
    (.block 1 (.seq (R [o 15 (.mov (v 0)), o 16 (.mov (v 5)), o 17 (.mov (v 5)), o 18 (.bin .add (v 17) (i 2)), o 19 (.slice (.slice 1) (v 15) (some (v 16)) (some (v 18)) none), o 20 (.call (.func 45) [(v 19)]), o 21 (.conv (.int .i64) (v 20)), o 6 (.mov (v 21))])
     (.seq (.seq (R [o 22 (.mov (v 6)), o 23 (.mov (v 0)), o 24 (.len .slice (v 23)), o 25 (.mov (v 5)), o 26 (.bin .sub (v 24) (v 25)), o 27 (.bin .sub (v 26) (i 6)), o 28 (.bin .gtr (v 22) (v 27))])
      (.cond (v 28) (.exit 0)
      (.skip)))
     (.seq (R [o 29 (.mov (v 0)), o 30 (.mov (v 5)), o 31 (.bin .add (v 30) (i 6)), o 32 (.mov (v 5)), o 33 (.bin .add (v 32) (i 6)), o 34 (.mov (v 6)), o 35 (.bin .add (v 33) (v 34)), o 36 (.slice (.slice 1) (v 29) (some (v 31)) (some (v 35)) none), o 7 (.mov (v 36))])
     (.seq (R [o 38 (.mov (v 7)), o 39 (.call (.func 46) [(v 38)]), o 37 (.mov (v 39)), o 40 (.extract (v 37) 0), o 41 (.extract (v 37) 1), o 8 (.alloc 70 [(.int .i64 0), (.int .i64 0), (.string ⟨#[]⟩), (.string ⟨#[]⟩), (.int .i64 0), (.int .i64 0)]), on (.store 6 (v 8) (v 40)), o 9 (.mov (v 41))])
     (.seq (.seq (D [o 42 (.mov (v 7)), o 43 (.call (.func 47) [(v 42)]), o 44 (.conv (.int .u64) (v 43)), o 45 (.mov (v 0)), o 46 (.mov (v 5)), o 47 (.bin .add (v 46) (i 2)), o 48 (.mov (v 5)), o 49 (.bin .add (v 48) (i 6)), o 50 (.slice (.slice 1) (v 45) (some (v 47)) (some (v 49)) none), o 51 (.call (.func 45) [(v 50)]), o 52 (.bin .neq (v 44) (v 51)), o 53 (.mov (v 52)), of 53 54 (.mov (v 9)), of 53 55 (.un .not (v 54)), o 56 (.pick (v 53) tt (v 55))] ⟨[], [1], []⟩)
      (.cond (v 56) (.exit 0)
      (.skip)))
     (.seq (R [o 57 (.mov (v 4)), o 58 (.load (some 6) (v 8)), o 59 (.buildSlice 70 6 1 [(.int .i64 0), (.int .i64 0), (.string ⟨#[]⟩), (.string ⟨#[]⟩), (.int .i64 0), (.int .i64 0)] [(0, 6, (v 58))]), o 60 (.append 70 6 64 (v 57) (v 59)), o 4 (.mov (v 60))])
     (R [o 61 (.mov (v 5)), o 62 (.mov (v 6)), o 63 (.bin .add (i 6) (v 62)), o 64 (.bin .add (v 61) (v 63)), o 5 (.mov (v 64))])))))))))))
 (.seq (R [o 65 (.mov (v 4)), o 66 (.mov (v 5)), o 2 (.mov (v 65)), o 3 (.mov (v 66))])
 (.ret)))))
def fun26 : AFun := ⟨1, code26, [.tmp 2, .tmp 3], 0⟩
theorem comp26 : FunOK Tryz.prog 26 fun26 :=
  FunOK.of Tryz.func26 [[0, 4, 5]] [⟨[], [1], []⟩] (by kernel_rfl) (by kernel_rfl) (by decide +kernel) (by kernel_rfl)

/- (*decorum/spill.Log).apply -/
def code27 : ACode :=
 .seq (R [o 3 (.box 70 (v 1))])
 (.seq (.seq (R [o 4 (.fieldAddr 0 (v 3)), o 5 (.load none (v 4))])
  (.block 0 (.seq (R [o 7 (.bin .eql (v 5) (i 1)), o 6 (.mov (v 7))])
   (.cond (v 6) (R [o 8 (.mov (v 0)), o 9 (.nilCheck (v 8)), o 10 (.fieldAddr 3 (v 9)), o 11 (.load none (v 10)), o 12 (.fieldAddr 1 (v 3)), o 13 (.fieldAddr 0 (v 12)), o 14 (.load none (v 13)), o 15 (.fieldAddr 1 (v 3)), o 16 (.load (some 5) (v 15)), on (.mapUpdate .int (v 11) (v 14) (v 16))])
   (.seq (R [o 18 (.bin .eql (v 5) (i 2)), o 17 (.mov (v 18))])
    (.cond (v 17) (R [o 19 (.mov (v 0)), o 20 (.nilCheck (v 19)), o 21 (.fieldAddr 3 (v 20)), o 22 (.load none (v 21)), o 23 (.fieldAddr 1 (v 3)), o 24 (.fieldAddr 0 (v 23)), o 25 (.load none (v 24)), on (.delete .int (v 22) (v 25))])
    (.seq (R [o 27 (.bin .eql (v 5) (i 3)), o 26 (.mov (v 27))])
     (.cond (v 26) (R [o 28 (.mov (v 0)), o 29 (.nilCheck (v 28)), o 30 (.fieldAddr 4 (v 29)), o 31 (.load none (v 30)), o 32 (.fieldAddr 1 (v 3)), o 33 (.fieldAddr 1 (v 32)), o 34 (.load none (v 33)), o 35 (.mov (v 0)), o 36 (.nilCheck (v 35)), o 37 (.fieldAddr 4 (v 36)), o 38 (.load none (v 37)), o 39 (.fieldAddr 1 (v 3)), o 40 (.fieldAddr 1 (v 39)), o 41 (.load none (v 40)), o 42 (.lookup .string (.int .i64 0) false (v 38) (v 41)), o 43 (.fieldAddr 1 (v 3)), o 44 (.fieldAddr 4 (v 43)), o 45 (.load none (v 44)), o 46 (.minmax true [(v 42), (v 45)]), on (.mapUpdate .string (v 31) (v 34) (v 46))])
     (.skip)))))))))
 (.seq (R [o 47 (.fieldAddr 0 (v 3)), o 48 (.load none (v 47)), o 49 (.bin .neq (v 48) (i 3))])
 (.cond (v 49) (R [o 50 (.mov (v 0)), o 51 (.mov (v 0)), o 52 (.nilCheck (v 51)), o 53 (.fieldAddr 5 (v 52)), o 54 (.load none (v 53)), o 55 (.fieldAddr 1 (v 3)), o 56 (.fieldAddr 0 (v 55)), o 57 (.load none (v 56)), o 58 (.bin .add (v 57) (i 1)), o 59 (.minmax true [(v 54), (v 58)]), o 60 (.nilCheck (v 50)), o 61 (.fieldAddr 5 (v 60)), on (.store 1 (v 61) (v 59))])
 (.skip))))
def fun27 : AFun := ⟨2, code27, [], 0⟩
theorem comp27 : FunOK Tryz.prog 27 fun27 :=
  FunOK.of Tryz.func27 [] [] (by kernel_rfl) (by kernel_rfl) (by decide +kernel) (by kernel_rfl)

/- (*decorum/spill.Log).add -/
def code28 : ACode :=
 .seq (R [o 3 (.box 70 (v 1)), o 4 (.mov (i 0))])
 (.seq (R [o 8 (.load (some 6) (v 3)), o 9 (.call (.func 48) [(v 8)]), o 7 (.mov (v 9)), o 10 (.extract (v 7) 0), o 11 (.extract (v 7) 1), o 5 (.mov (v 10)), o 6 (.mov (v 11))])
 (.seq (.seq (R [o 12 (.mov (v 6)), o 13 (.bin .neq (v 12) (i 0))])
  (.cond (v 13) (.seq (R [o 14 (.mov (v 6)), o 4 (.mov (v 14))])
   (.ret))
  (.skip)))
 (.seq (.seq (R [o 15 (.mov (v 0)), o 16 (.mov (v 5)), o 17 (.call (.func 49) [(v 15), (v 16)]), o 6 (.mov (v 17))])
  (.seq (R [o 18 (.mov (v 6)), o 19 (.bin .eql (v 18) (i 5))])
  (.cond (v 19) (.seq (R [o 20 (.mov (v 0)), o 21 (.call (.func 50) [(v 20)]), o 6 (.mov (v 21))])
   (.seq (R [o 22 (.mov (v 6)), o 23 (.bin .eql (v 22) (i 0))])
   (.cond (v 23) (R [o 24 (.mov (v 0)), o 25 (.mov (v 5)), o 26 (.call (.func 49) [(v 24), (v 25)]), o 6 (.mov (v 26))])
   (.skip))))
  (.skip))))
 (.seq (.seq (R [o 27 (.mov (v 6)), o 28 (.bin .neq (v 27) (i 0))])
  (.cond (v 28) (.seq (R [o 29 (.mov (v 6)), o 4 (.mov (v 29))])
   (.ret))
  (.skip)))
 (.seq (R [o 30 (.mov (v 0)), o 31 (.nilCheck (v 30)), o 32 (.fieldAddr 0 (v 31)), o 33 (.load none (v 32)), o 34 (.call (.func 51) [(v 33)]), o 4 (.mov (v 34))])
 (.ret))))))
def fun28 : AFun := ⟨2, code28, [.tmp 4], 0⟩
theorem comp28 : FunOK Tryz.prog 28 fun28 :=
  FunOK.of Tryz.func28 [] [] (by kernel_rfl) (by kernel_rfl) (by decide +kernel) (by kernel_rfl)

/- (*decorum/front.Front).queue -/
def code29 : ACode :=
 .seq (R [o 4 (.mov (.const (.pointer none)))])
 (.seq (.seq (R [o 5 (.mov (v 0)), o 6 (.nilCheck (v 5)), o 7 (.fieldAddr 3 (v 6)), o 8 (.load none (v 7)), o 9 (.mov (v 1)), o 10 (.lookup .int (.pointer none) false (v 8) (v 9)), o 11 (.eq false .pointer (v 10) (.const (.pointer none)))])
  (.cond (v 11) (D [o 12 (.mov (v 0)), o 13 (.nilCheck (v 12)), o 14 (.fieldAddr 3 (v 13)), o 15 (.load none (v 14)), o 16 (.mov (v 1)), o 17 (.mov (v 0)), o 18 (.nilCheck (v 17)), o 19 (.fieldAddr 0 (v 18)), o 20 (.load none (v 19)), o 21 (.call (.func 52) [(v 20)]), on (.mapUpdate .int (v 15) (v 16) (v 21))] ⟨[], [9], []⟩)
  (.skip)))
 (.seq (R [o 22 (.mov (v 0)), o 23 (.nilCheck (v 22)), o 24 (.fieldAddr 3 (v 23)), o 25 (.load none (v 24)), o 26 (.mov (v 1)), o 27 (.lookup .int (.pointer none) false (v 25) (v 26)), o 4 (.mov (v 27))])
 (.ret)))
def fun29 : AFun := ⟨2, code29, [.tmp 4], 0⟩
theorem comp29 : FunOK Tryz.prog 29 fun29 :=
  FunOK.of Tryz.func29 [] [⟨[], [9], []⟩] (by kernel_rfl) (by kernel_rfl) (by decide +kernel) (by kernel_rfl)

/- (*decorum/queue.Queue).First -/
def code30 : ACode :=
 .seq (R [o 2 (.alloc 34 [(.int .i64 0), (.string ⟨#[]⟩), (.string ⟨#[]⟩), (.int .i64 0), (.int .i64 0)]), o 3 (.mov ff)])
 (.seq (.seq (R [o 4 (.mov (v 0)), o 5 (.call (.func 37) [(v 4)]), o 6 (.bin .eql (v 5) (i 0))])
  (.cond (v 6) (.seq (R [o 7 (.build [(.int .i64 0), (.string ⟨#[]⟩), (.string ⟨#[]⟩), (.int .i64 0), (.int .i64 0)] []), on (.store 5 (v 2) (v 7)), o 3 (.mov ff)])
   (.ret))
  (.skip)))
 (.seq (R [o 8 (.mov (v 0)), o 9 (.nilCheck (v 8)), o 10 (.fieldAddr 1 (v 9)), o 11 (.fieldAddr 0 (v 10)), o 12 (.load none (v 11)), o 13 (.indexAddr 5 (v 12) (i 0)), o 14 (.load (some 5) (v 13)), on (.store 5 (v 2) (v 14)), o 3 (.mov tt)])
 (.ret)))
def fun30 : AFun := ⟨1, code30, [.cell 2 (some 5), .tmp 3], 1⟩
theorem comp30 : FunOK Tryz.prog 30 fun30 :=
  FunOK.of Tryz.func30 [] [] (by kernel_rfl) (by kernel_rfl) (by decide +kernel) (by kernel_rfl)

/- (*decorum/front.Front).whole -/
def code31 : ACode :=
 .seq (R [o 3 (.box 34 (v 1)), o 4 (.alloc 34 [(.int .i64 0), (.string ⟨#[]⟩), (.string ⟨#[]⟩), (.int .i64 0), (.int .i64 0)])])
 (.seq (.seq (R [o 10 (.mov (v 0)), o 11 (.nilCheck (v 10)), o 12 (.fieldAddr 5 (v 11)), o 13 (.load none (v 12)), o 14 (.fieldAddr 0 (v 3)), o 15 (.load none (v 14)), o 16 (.lookup .int (.string ⟨#[]⟩) true (v 13) (v 15)), o 9 (.mov (v 16)), o 17 (.extract (v 9) 0), o 18 (.extract (v 9) 1), o 5 (.mov (v 17)), o 6 (.mov (v 18))])
  (.seq (R [o 19 (.mov (v 6))])
  (.cond (v 19) (.seq (R [o 20 (.mov (v 5)), o 21 (.fieldAddr 2 (v 3)), on (.store 1 (v 21) (v 20))])
   (.seq (R [o 22 (.load (some 5) (v 3)), on (.store 5 (v 4) (v 22))])
   (.ret)))
  (.skip))))
 (.seq (.seq (D [o 24 (.mov (v 0)), o 25 (.nilCheck (v 24)), o 26 (.fieldAddr 2 (v 25)), o 27 (.load none (v 26)), o 28 (.fieldAddr 0 (v 3)), o 29 (.load none (v 28)), o 30 (.call (.func 53) [(v 27), (v 29)]), o 23 (.mov (v 30)), o 31 (.extract (v 23) 0), o 32 (.extract (v 23) 1), o 7 (.alloc 34 [(.int .i64 0), (.string ⟨#[]⟩), (.string ⟨#[]⟩), (.int .i64 0), (.int .i64 0)]), on (.store 5 (v 7) (v 31)), o 8 (.mov (v 32))] ⟨[], [6], []⟩)
  (.seq (R [o 33 (.mov (v 8))])
  (.cond (v 33) (R [o 34 (.fieldAddr 2 (v 7)), o 35 (.load none (v 34)), o 36 (.fieldAddr 2 (v 3)), on (.store 1 (v 36) (v 35))])
  (.skip))))
 (.seq (R [o 37 (.load (some 5) (v 3)), on (.store 5 (v 4) (v 37))])
 (.ret))))
def fun31 : AFun := ⟨2, code31, [.cell 4 (some 5)], 1⟩
theorem comp31 : FunOK Tryz.prog 31 fun31 :=
  FunOK.of Tryz.func31 [] [⟨[], [6], []⟩] (by kernel_rfl) (by kernel_rfl) (by decide +kernel) (by kernel_rfl)

/- (*decorum/front.Front).keep -/
def code32 : ACode :=
 .seq (R [o 4 (.box 34 (v 1))])
 (.seq (.seq (R [o 6 (.mov (v 0)), o 7 (.nilCheck (v 6)), o 8 (.fieldAddr 6 (v 7)), o 9 (.load none (v 8)), o 10 (.len .slice (v 9)), o 11 (.mov (v 0)), o 12 (.nilCheck (v 11)), o 13 (.fieldAddr 1 (v 12)), o 14 (.load none (v 13)), o 15 (.bin .geq (v 10) (v 14))])
  (.cond (v 15) (.seq (.seq (R [o 16 (.mov (v 2)), o 17 (.un .not (v 16))])
    (.cond (v 17) (.ret)
    (.skip)))
   (.seq (R [o 18 (.mov (v 0)), o 19 (.nilCheck (v 18)), o 20 (.fieldAddr 5 (v 19)), o 21 (.load none (v 20)), o 22 (.mov (v 0)), o 23 (.nilCheck (v 22)), o 24 (.fieldAddr 6 (v 23)), o 25 (.load none (v 24)), o 26 (.indexAddr 1 (v 25) (i 0)), o 27 (.load none (v 26)), on (.delete .int (v 21) (v 27))])
   (R [o 28 (.mov (v 0)), o 29 (.mov (v 0)), o 30 (.nilCheck (v 29)), o 31 (.fieldAddr 6 (v 30)), o 32 (.load none (v 31)), o 33 (.call (.func 54) [(v 32), (i 0), (i 1)]), o 34 (.nilCheck (v 28)), o 35 (.fieldAddr 6 (v 34)), on (.store 1 (v 35) (v 33))])))
  (.skip)))
 (.seq (R [o 36 (.mov (v 0)), o 37 (.nilCheck (v 36)), o 38 (.fieldAddr 5 (v 37)), o 39 (.load none (v 38)), o 40 (.fieldAddr 0 (v 4)), o 41 (.load none (v 40)), o 42 (.fieldAddr 2 (v 4)), o 43 (.load none (v 42)), on (.mapUpdate .int (v 39) (v 41) (v 43))])
 (R [o 44 (.mov (v 0)), o 45 (.mov (v 0)), o 46 (.nilCheck (v 45)), o 47 (.fieldAddr 6 (v 46)), o 48 (.load none (v 47)), o 49 (.fieldAddr 0 (v 4)), o 50 (.load none (v 49)), o 51 (.buildSlice 3 1 1 [(.int .i64 0)] [(0, 1, (v 50))]), o 52 (.append 3 1 8 (v 48) (v 51)), o 53 (.nilCheck (v 44)), o 54 (.fieldAddr 6 (v 53)), on (.store 1 (v 54) (v 52))])))
def fun32 : AFun := ⟨3, code32, [], 0⟩
theorem comp32 : FunOK Tryz.prog 32 fun32 :=
  FunOK.of Tryz.func32 [] [] (by kernel_rfl) (by kernel_rfl) (by decide +kernel) (by kernel_rfl)

/- (*decorum/queue.Queue).Drop -/
def code33 : ACode :=
 .seq (R [o 4 (.mov ff)])
 (.seq (.seq (R [o 6 (.mov (v 0)), o 7 (.eq false .pointer (v 6) (.const (.pointer none))), o 8 (.mov (v 7)), of 8 9 (.mov (v 0)), of 8 10 (.nilCheck (v 9)), of 8 11 (.fieldAddr 1 (v 10)), of 8 12 (.mov (v 1)), of 8 13 (.call (.func 55) [(v 11), (v 12)]), of 8 14 (.bin .lss (v 13) (i 0)), o 15 (.pick (v 8) tt (v 14))])
  (.cond (v 15) (.seq (R [o 4 (.mov ff)])
   (.ret))
  (.skip)))
 (.seq (R [o 16 (.mov (v 0)), o 17 (.nilCheck (v 16)), o 18 (.fieldAddr 1 (v 17)), o 19 (.mov (v 1)), o 20 (.call (.func 55) [(v 18), (v 19)]), o 5 (.mov (v 20))])
 (.seq (R [o 21 (.mov (v 0)), o 22 (.mov (v 0)), o 23 (.nilCheck (v 22)), o 24 (.fieldAddr 1 (v 23)), o 25 (.fieldAddr 0 (v 24)), o 26 (.load none (v 25)), o 27 (.mov (v 5)), o 28 (.mov (v 5)), o 29 (.bin .add (v 28) (i 1)), o 30 (.call (.func 56) [(v 26), (v 27), (v 29)]), o 31 (.nilCheck (v 21)), o 32 (.fieldAddr 1 (v 31)), o 33 (.fieldAddr 0 (v 32)), on (.store 1 (v 33) (v 30))])
 (.seq (R [o 4 (.mov tt)])
 (.ret)))))
def fun33 : AFun := ⟨2, code33, [.tmp 4], 0⟩
theorem comp33 : FunOK Tryz.prog 33 fun33 :=
  FunOK.of Tryz.func33 [] [] (by kernel_rfl) (by kernel_rfl) (by decide +kernel) (by kernel_rfl)

/- slices.DeleteFunc[[]int,int] -/
def code34 : ACode :=
 .seq (R [o 4 (.mov (.const (.slice none 0 0)))])
 (.seq (R [o 8 (.mov (v 0)), o 9 (.mov (v 1)), o 10 (.call (.func 57) [(v 8), (v 9)]), o 5 (.mov (v 10))])
 (.seq (.seq (R [o 11 (.mov (v 5)), o 12 (.bin .eql (v 11) (i (-1)))])
  (.cond (v 12) (.seq (R [o 13 (.mov (v 0)), o 4 (.mov (v 13))])
   (.ret))
  (.skip)))
 (.seq (.seq (R [o 14 (.mov (v 5)), o 15 (.bin .add (v 14) (i 1)), o 6 (.mov (v 15))])
  (.block 0 (.loop [0, 1, 5, 6] (.seq (.seq (R [o 16 (.mov (v 6)), o 17 (.mov (v 0)), o 18 (.len .slice (v 17)), o 19 (.bin .lss (v 16) (v 18))])
     (.cond (v 19) (.skip)
     (.exit 0)))
    (.seq (.block 1 (.seq (R [o 22 (.mov (v 0)), o 23 (.mov (v 6)), o 24 (.indexAddr 1 (v 22) (v 23)), o 25 (.load none (v 24)), o 7 (.mov (v 25))])
      (.seq (R [o 26 (.mov (v 1)), o 27 (.mov (v 7)), o 28 (.call (v 26) [(v 27)]), o 29 (.un .not (v 28))])
      (.cond (v 29) (.seq (R [o 30 (.mov (v 0)), o 31 (.mov (v 5)), o 32 (.mov (v 7)), o 33 (.indexAddr 1 (v 30) (v 31)), on (.store 1 (v 33) (v 32))])
       (R [o 34 (.mov (v 5)), o 35 (.bin .add (v 34) (i 1)), o 5 (.mov (v 35))]))
      (.skip)))))
    (R [o 20 (.mov (v 6)), o 21 (.bin .add (v 20) (i 1)), o 6 (.mov (v 21))]))))))
 (.seq (R [o 36 (.mov (v 0)), o 37 (.mov (v 5)), o 38 (.slice (.slice 1) (v 36) (some (v 37)) none none), on (.clear 1 [(.int .i64 0)] (v 38))])
 (.seq (R [o 39 (.mov (v 0)), o 40 (.mov (v 5)), o 41 (.slice (.slice 1) (v 39) none (some (v 40)) none), o 4 (.mov (v 41))])
 (.ret))))))
def fun34 : AFun := ⟨2, code34, [.tmp 4], 0⟩
theorem comp34 : FunOK Tryz.prog 34 fun34 :=
  FunOK.of Tryz.func34 [[0, 1, 5, 6]] [] (by kernel_rfl) (by kernel_rfl) (by decide +kernel) (by kernel_rfl)

/- (*decorum/front.Front).Drop$1 -/
def code35 : ACode :=
 .seq (R [o 3 (.mov ff)])
 (.seq (R [o 4 (.mov (v 0)), o 5 (.load none (v 1)), o 6 (.bin .eql (v 4) (v 5)), o 3 (.mov (v 6))])
 (.ret))
def fun35 : AFun := ⟨2, code35, [.tmp 3], 1⟩
theorem comp35 : FunOK Tryz.prog 35 fun35 :=
  FunOK.of Tryz.func35 [] [] (by kernel_rfl) (by kernel_rfl) (by decide +kernel) (by kernel_rfl)

/- (*decorum/queue.Queue).Back -/
def code36 : ACode :=
 .seq (R [o 3 (.box 34 (v 1)), o 4 (.mov ff)])
 (.seq (.seq (R [o 7 (.mov (v 0)), o 8 (.eq false .pointer (v 7) (.const (.pointer none))), o 9 (.mov (v 8)), of 9 10 (.mov (v 0)), of 9 11 (.nilCheck (v 10)), of 9 12 (.fieldAddr 1 (v 11)), of 9 13 (.fieldAddr 0 (v 3)), of 9 14 (.load none (v 13)), of 9 15 (.call (.func 55) [(v 12), (v 14)]), of 9 16 (.bin .geq (v 15) (i 0)), o 17 (.pick (v 9) tt (v 16))])
  (.cond (v 17) (.seq (R [o 4 (.mov ff)])
   (.ret))
  (.skip)))
 (.seq (R [o 19 (.mov (v 0)), o 20 (.nilCheck (v 19)), o 21 (.fieldAddr 1 (v 20)), o 22 (.fieldAddr 0 (v 21)), o 23 (.load none (v 22)), o 24 (.load (some 5) (v 3)), o 25 (.call (.func 58) [(v 23), (v 24), (.func 59)]), o 18 (.mov (v 25)), o 26 (.extract (v 18) 0), o 27 (.extract (v 18) 1), o 5 (.mov (v 26)), o 6 (.mov (v 27))])
 (.seq (R [o 28 (.mov (v 0)), o 29 (.mov (v 0)), o 30 (.nilCheck (v 29)), o 31 (.fieldAddr 1 (v 30)), o 32 (.fieldAddr 0 (v 31)), o 33 (.load none (v 32)), o 34 (.mov (v 5)), o 35 (.load (some 5) (v 3)), o 36 (.buildSlice 34 5 1 [(.int .i64 0), (.string ⟨#[]⟩), (.string ⟨#[]⟩), (.int .i64 0), (.int .i64 0)] [(0, 5, (v 35))]), o 37 (.call (.func 60) [(v 33), (v 34), (v 36)]), o 38 (.nilCheck (v 28)), o 39 (.fieldAddr 1 (v 38)), o 40 (.fieldAddr 0 (v 39)), on (.store 1 (v 40) (v 37))])
 (.seq (R [o 4 (.mov tt)])
 (.ret)))))
def fun36 : AFun := ⟨2, code36, [.tmp 4], 0⟩
theorem comp36 : FunOK Tryz.prog 36 fun36 :=
  FunOK.of Tryz.func36 [] [] (by kernel_rfl) (by kernel_rfl) (by decide +kernel) (by kernel_rfl)

/- (*decorum/queue.Queue).Len -/
def code37 : ACode :=
 .seq (R [o 2 (.mov (i 0))])
 (.seq (.seq (R [o 3 (.mov (v 0)), o 4 (.eq false .pointer (v 3) (.const (.pointer none)))])
  (.cond (v 4) (.seq (R [o 2 (.mov (i 0))])
   (.ret))
  (.skip)))
 (.seq (R [o 5 (.mov (v 0)), o 6 (.nilCheck (v 5)), o 7 (.fieldAddr 1 (v 6)), o 8 (.fieldAddr 0 (v 7)), o 9 (.load none (v 8)), o 10 (.len .slice (v 9)), o 2 (.mov (v 10))])
 (.ret)))
def fun37 : AFun := ⟨1, code37, [.tmp 2], 0⟩
theorem comp37 : FunOK Tryz.prog 37 fun37 :=
  FunOK.of Tryz.func37 [] [] (by kernel_rfl) (by kernel_rfl) (by decide +kernel) (by kernel_rfl)

/- slices.ContainsFunc[[]decorum/api.Req,decorum/api.Req] -/
def code38 : ACode :=
 .seq (R [o 4 (.mov ff)])
 (.seq (R [o 5 (.mov (v 0)), o 6 (.mov (v 1)), o 7 (.call (.func 61) [(v 5), (v 6)]), o 8 (.bin .geq (v 7) (i 0)), o 4 (.mov (v 8))])
 (.ret))
def fun38 : AFun := ⟨2, code38, [.tmp 4], 1⟩
theorem comp38 : FunOK Tryz.prog 38 fun38 :=
  FunOK.of Tryz.func38 [] [] (by kernel_rfl) (by kernel_rfl) (by decide +kernel) (by kernel_rfl)

/- (*decorum/queue.Queue).All -/
def code39 : ACode :=
 .seq (R [o 2 (.mov (.const (.slice none 0 0)))])
 (.seq (.seq (R [o 3 (.mov (v 0)), o 4 (.eq false .pointer (v 3) (.const (.pointer none)))])
  (.cond (v 4) (.seq (R [o 2 (.mov (.const (.slice none 0 0)))])
   (.ret))
  (.skip)))
 (.seq (R [o 5 (.mov (v 0)), o 6 (.nilCheck (v 5)), o 7 (.fieldAddr 1 (v 6)), o 8 (.fieldAddr 0 (v 7)), o 9 (.load none (v 8)), o 10 (.call (.func 63) [(v 9)]), o 11 (.call (.func 62) [(v 10)]), o 2 (.mov (v 11))])
 (.ret)))
def fun39 : AFun := ⟨1, code39, [.tmp 2], 0⟩
theorem comp39 : FunOK Tryz.prog 39 fun39 :=
  FunOK.of Tryz.func39 [] [] (by kernel_rfl) (by kernel_rfl) (by decide +kernel) (by kernel_rfl)

/- (*decorum/front.Front).Has$1 -/
def code40 : ACode :=
 .seq (R [o 3 (.box 34 (v 0)), o 4 (.mov ff)])
 (.seq (D [o 5 (.load none (v 1)), o 6 (.load (some 5) (v 3)), o 7 (.call (.func 31) [(v 5), (v 6)]), o 8 (.field 2 none (v 7)), o 9 (.load none (v 2)), o 10 (.bin .eql (v 8) (v 9)), o 4 (.mov (v 10))] ⟨[], [2], []⟩)
 (.ret))
def fun40 : AFun := ⟨3, code40, [.tmp 4], 1⟩
theorem comp40 : FunOK Tryz.prog 40 fun40 :=
  FunOK.of Tryz.func40 [] [⟨[], [2], []⟩] (by kernel_rfl) (by kernel_rfl) (by decide +kernel) (by kernel_rfl)

/- maps.Keys[map[int][]byte,int,[]byte] -/
def code42 : ACode :=
 .seq (R [o 1 (.box 72 (v 0)), o 2 (.mov (.const .nilFunc))])
 (.seq (R [o 3 (.mkFunc (.func 66) [] [(v 1)]), o 2 (.mov (v 3))])
 (.ret))
def fun42 : AFun := ⟨1, code42, [.tmp 2], 0⟩
theorem comp42 : FunOK Tryz.prog 42 fun42 :=
  FunOK.of Tryz.func42 [] [] (by kernel_rfl) (by kernel_rfl) (by decide +kernel) (by kernel_rfl)

/- slices.Clip[[]byte,byte] -/
def code43 : ACode :=
 .seq (R [o 2 (.mov (.const (.slice none 0 0)))])
 (.seq (R [o 3 (.mov (v 0)), o 4 (.mov (v 0)), o 5 (.len .slice (v 4)), o 6 (.mov (v 0)), o 7 (.len .slice (v 6)), o 8 (.slice (.slice 1) (v 3) none (some (v 5)) (some (v 7))), o 2 (.mov (v 8))])
 (.ret))
def fun43 : AFun := ⟨1, code43, [.tmp 2], 0⟩
theorem comp43 : FunOK Tryz.prog 43 fun43 :=
  FunOK.of Tryz.func43 [] [] (by kernel_rfl) (by kernel_rfl) (by decide +kernel) (by kernel_rfl)

/- slices.Clone[[]byte,byte] -/
def code44 : ACode :=
 .seq (R [o 2 (.mov (.const (.slice none 0 0)))])
 (.seq (.seq (R [o 3 (.mov (v 0)), o 4 (.eq false .slice (v 3) (.const (.slice none 0 0)))])
  (.cond (v 4) (.seq (R [o 2 (.mov (.const (.slice none 0 0)))])
   (.ret))
  (.skip)))
 (.seq (R [o 5 (.buildSlice 5 1 0 [] []), o 6 (.mov (v 0)), o 7 (.append 5 1 1 (v 5) (v 6)), o 2 (.mov (v 7))])
 (.ret)))
def fun44 : AFun := ⟨1, code44, [.tmp 2], 0⟩
theorem comp44 : FunOK Tryz.prog 44 fun44 :=
  FunOK.of Tryz.func44 [] [] (by kernel_rfl) (by kernel_rfl) (by decide +kernel) (by kernel_rfl)

/- decorum/frame.read -/
def code45 : ACode :=
 .seq (R [o 2 (.mov (.const (.int .u64 0)))])
 (.seq (R [o 3 (.mov (.const (.int .u64 0)))])
 (.seq (.seq (R [o 6 (.mov (v 0)), o 7 (.len .slice (v 6)), o 8 (.mov (i 0))])
  (.block 0 (.loop [3, 6, 7, 8] (.seq (R [o 9 (.bin .lss (v 8) (v 7))])
    (.seq (.cond (v 9) (.skip)
     (.exit 0))
    (.seq (.block 1 (.seq (R [o 10 (.indexAddr 1 (v 6) (v 8)), o 11 (.load none (v 10)), o 5 (.mov (v 11))])
      (R [o 12 (.mov (v 3)), o 13 (.bin .shl (v 12) (.const (.int .u64 8))), o 14 (.mov (v 5)), o 15 (.conv (.int .u64) (v 14)), o 16 (.bin .or (v 13) (v 15)), o 3 (.mov (v 16))])))
    (R [o 17 (.bin .add (v 8) (i 1)), o 8 (.mov (v 17))])))))))
 (.seq (R [o 18 (.mov (v 3)), o 2 (.mov (v 18))])
 (.ret))))
def fun45 : AFun := ⟨1, code45, [.tmp 2], 0⟩
theorem comp45 : FunOK Tryz.prog 45 fun45 :=
  FunOK.of Tryz.func45 [[3, 6, 7, 8]] [] (by kernel_rfl) (by kernel_rfl) (by decide +kernel) (by kernel_rfl)

/- decorum/frame.decode -/
def code46 : ACode :=
 .seq (R [o 2 (.alloc 70 [(.int .i64 0), (.int .i64 0), (.string ⟨#[]⟩), (.string ⟨#[]⟩), (.int .i64 0), (.int .i64 0)]), o 3 (.mov ff)])
 (.seq (.seq (R [o 6 (.mov (v 0)), o 7 (.len .slice (v 6)), o 8 (.bin .lss (v 7) (i 20))])
  (.cond (v 8) (.seq (R [o 9 (.build [(.int .i64 0), (.int .i64 0), (.string ⟨#[]⟩), (.string ⟨#[]⟩), (.int .i64 0), (.int .i64 0)] []), on (.store 6 (v 2) (v 9)), o 3 (.mov ff)])
   (.ret))
  (.skip)))
 (.seq (R [o 10 (.mov (v 0)), o 11 (.slice (.slice 1) (v 10) (some (i 18)) (some (i 20)) none), o 12 (.call (.func 45) [(v 11)]), o 13 (.conv (.int .i64) (v 12)), o 4 (.mov (v 13))])
 (.seq (.seq (R [o 14 (.mov (v 4)), o 15 (.mov (v 0)), o 16 (.len .slice (v 15)), o 17 (.bin .sub (v 16) (i 20)), o 18 (.bin .gtr (v 14) (v 17))])
  (.cond (v 18) (.seq (R [o 19 (.build [(.int .i64 0), (.int .i64 0), (.string ⟨#[]⟩), (.string ⟨#[]⟩), (.int .i64 0), (.int .i64 0)] []), on (.store 6 (v 2) (v 19)), o 3 (.mov ff)])
   (.ret))
  (.skip)))
 (.seq (D [o 20 (.mov (v 0)), o 21 (.indexAddr 1 (v 20) (i 0)), o 22 (.load none (v 21)), o 23 (.conv (.int .i64) (v 22)), o 24 (.mov (v 0)), o 25 (.slice (.slice 1) (v 24) (some (i 2)) (some (i 10)) none), o 26 (.call (.func 45) [(v 25)]), o 27 (.conv (.int .i64) (v 26)), o 28 (.mov (v 0)), o 29 (.indexAddr 1 (v 28) (i 1)), o 30 (.load none (v 29)), o 31 (.conv (.int .i64) (v 30)), o 32 (.mov (v 0)), o 33 (.slice (.slice 1) (v 32) (some (i 10)) (some (i 18)) none), o 34 (.call (.func 45) [(v 33)]), o 35 (.conv (.int .i64) (v 34)), o 36 (.mov (v 0)), o 37 (.mov (v 4)), o 38 (.bin .add (i 20) (v 37)), o 39 (.slice (.slice 1) (v 36) (some (i 20)) (some (v 38)) none), o 40 (.conv .toString (v 39)), o 41 (.mov (v 0)), o 42 (.mov (v 4)), o 43 (.bin .add (i 20) (v 42)), o 44 (.slice (.slice 1) (v 41) (some (v 43)) none none), o 45 (.conv .toString (v 44)), o 46 (.build [(.int .i64 0), (.string ⟨#[]⟩), (.string ⟨#[]⟩), (.int .i64 0), (.int .i64 0)] [(0, 1, (v 27)), (3, 1, (v 31)), (4, 1, (v 35)), (1, 1, (v 40)), (2, 1, (v 45))]), o 47 (.build [(.int .i64 0), (.int .i64 0), (.string ⟨#[]⟩), (.string ⟨#[]⟩), (.int .i64 0), (.int .i64 0)] [(0, 1, (v 23)), (1, 5, (v 46))]), o 5 (.alloc 70 [(.int .i64 0), (.int .i64 0), (.string ⟨#[]⟩), (.string ⟨#[]⟩), (.int .i64 0), (.int .i64 0)]), on (.store 6 (v 5) (v 47))] ⟨[], [6, 14], []⟩)
 (.seq (D [o 48 (.load (some 6) (v 5)), o 49 (.load (some 6) (v 5)), o 50 (.call (.func 67) [(v 49)]), on (.store 6 (v 2) (v 48)), o 3 (.mov (v 50))] ⟨[], [2], []⟩)
 (.ret))))))
def fun46 : AFun := ⟨1, code46, [.cell 2 (some 6), .tmp 3], 0⟩
theorem comp46 : FunOK Tryz.prog 46 fun46 :=
  FunOK.of Tryz.func46 [] [⟨[], [6, 14], []⟩, ⟨[], [2], []⟩] (by kernel_rfl) (by kernel_rfl) (by decide +kernel) (by kernel_rfl)

/- decorum/frame.Sum -/
def code47 : ACode :=
 .seq (R [o 2 (.mov (.const (.int .u32 0)))])
 (.seq (R [o 3 (.mov (.const (.int .u32 4294967295)))])
 (.seq (.seq (R [o 6 (.mov (v 0)), o 7 (.len .slice (v 6)), o 8 (.mov (i 0))])
  (.block 0 (.loop [3, 6, 7, 8] (.seq (R [o 9 (.bin .lss (v 8) (v 7))])
    (.seq (.cond (v 9) (.skip)
     (.exit 0))
    (.seq (.block 1 (.seq (R [o 10 (.indexAddr 1 (v 6) (v 8)), o 11 (.load none (v 10)), o 5 (.mov (v 11))])
      (.seq (R [o 12 (.mov (v 3)), o 13 (.mov (v 5)), o 14 (.conv (.int .u32) (v 13)), o 15 (.bin .xor (v 12) (v 14)), o 3 (.mov (v 15))])
      (.seq (R [o 16 (.mov (i 0))])
      (.block 2 (.loop [3, 6, 7, 8, 16] (.seq (R [o 17 (.bin .lss (v 16) (i 8))])
        (.seq (.cond (v 17) (.skip)
         (.exit 2))
        (.seq (.block 3 (R [o 18 (.mov (v 3)), o 19 (.bin .shr (v 18) (.const (.int .u64 1))), o 20 (.mov (v 3)), o 21 (.bin .and (v 20) (.const (.int .u32 1))), o 22 (.un .neg (v 21)), o 23 (.bin .and (.const (.int .u32 3988292384)) (v 22)), o 24 (.bin .xor (v 19) (v 23)), o 3 (.mov (v 24))]))
        (R [o 25 (.bin .add (v 16) (i 1)), o 16 (.mov (v 25))]))))))))))
    (R [o 26 (.bin .add (v 8) (i 1)), o 8 (.mov (v 26))])))))))
 (.seq (R [o 27 (.mov (v 3)), o 28 (.un .xor (v 27)), o 2 (.mov (v 28))])
 (.ret))))
def fun47 : AFun := ⟨1, code47, [.tmp 2], 0⟩
theorem comp47 : FunOK Tryz.prog 47 fun47 :=
  FunOK.of Tryz.func47 [[3, 6, 7, 8], [3, 6, 7, 8, 16]] [] (by kernel_rfl) (by kernel_rfl) (by decide +kernel) (by kernel_rfl)

/- decorum/frame.Encode -/
def code48 : ACode :=
 .seq (R [o 1 (.box 70 (v 0)), o 2 (.mov (.const (.slice none 0 0))), o 3 (.mov (i 0))])
 (.seq (.seq (R [o 5 (.load (some 6) (v 1)), o 6 (.call (.func 67) [(v 5)]), o 7 (.un .not (v 6))])
  (.cond (v 7) (.seq (R [o 2 (.mov (.const (.slice none 0 0))), o 3 (.mov (i 2))])
   (.ret))
  (.skip)))
 (.seq (R [o 8 (.load (some 6) (v 1)), o 9 (.call (.func 68) [(v 8)]), o 4 (.mov (v 9))])
 (.seq (R [o 10 (.mov (v 4)), o 11 (.len .slice (v 10)), o 12 (.conv (.int .u64) (v 11)), o 13 (.call (.func 70) [(v 12), (i 2)]), o 14 (.mov (v 4)), o 15 (.call (.func 47) [(v 14)]), o 16 (.conv (.int .u64) (v 15)), o 17 (.call (.func 70) [(v 16), (i 4)]), o 18 (.mov (v 4)), o 19 (.buildSlice 23 1 3 [(.slice none 0 0), (.slice none 0 0), (.slice none 0 0)] [(0, 1, (v 13)), (1, 1, (v 17)), (2, 1, (v 18))]), o 20 (.call (.func 69) [(v 19)]), o 2 (.mov (v 20)), o 3 (.mov (i 0))])
 (.ret))))
def fun48 : AFun := ⟨1, code48, [.tmp 2, .tmp 3], 0⟩
theorem comp48 : FunOK Tryz.prog 48 fun48 :=
  FunOK.of Tryz.func48 [] [] (by kernel_rfl) (by kernel_rfl) (by decide +kernel) (by kernel_rfl)

/- (*decorum/spill.Log).write -/
def code49 : ACode :=
 .seq (R [o 4 (.mov (i 0))])
 (.seq (R [o 8 (.mov (v 0)), o 9 (.nilCheck (v 8)), o 10 (.fieldAddr 0 (v 9)), o 11 (.load none (v 10)), o 12 (.mov (v 0)), o 13 (.nilCheck (v 12)), o 14 (.fieldAddr 2 (v 13)), o 15 (.load none (v 14)), o 16 (.call (.func 25) [(v 11), (v 15)]), o 7 (.mov (v 16)), o 17 (.extract (v 7) 0), o 18 (.extract (v 7) 1), o 5 (.mov (v 17)), o 6 (.mov (v 18))])
 (.seq (.seq (R [o 19 (.mov (v 1)), o 20 (.len .slice (v 19)), o 21 (.mov (v 5)), o 22 (.len .slice (v 21)), o 23 (.bin .sub (i 2048) (v 22)), o 24 (.bin .gtr (v 20) (v 23))])
  (.cond (v 24) (R [o 25 (.mov (v 0)), o 26 (.nilCheck (v 25)), o 27 (.fieldAddr 2 (v 26)), o 28 (.load none (v 27)), o 29 (.bin .add (v 28) (i 1)), o 30 (.nilCheck (v 25)), o 31 (.fieldAddr 2 (v 30)), on (.store 1 (v 31) (v 29))])
  (.skip)))
 (.seq (.seq (D [o 32 (.mov (v 0)), o 33 (.nilCheck (v 32)), o 34 (.fieldAddr 0 (v 33)), o 35 (.load none (v 34)), o 36 (.call (.func 24) [(v 35)]), o 37 (.mov (v 0)), o 38 (.nilCheck (v 37)), o 39 (.fieldAddr 2 (v 38)), o 40 (.load none (v 39)), o 41 (.call (.func 71) [(v 36), (v 40)]), o 42 (.un .not (v 41)), o 43 (.mov (v 42)), ot 43 44 (.mov (v 0)), ot 43 45 (.nilCheck (v 44)), ot 43 46 (.fieldAddr 0 (v 45)), ot 43 47 (.load none (v 46)), ot 43 48 (.call (.func 24) [(v 47)]), ot 43 49 (.len .slice (v 48)), ot 43 50 (.mov (v 0)), ot 43 51 (.nilCheck (v 50)), ot 43 52 (.fieldAddr 1 (v 51)), ot 43 53 (.load none (v 52)), ot 43 54 (.bin .geq (v 49) (v 53)), o 55 (.pick (v 43) (v 54) ff)] ⟨[], [], [(4, 8), (16, 21)]⟩)
  (.cond (v 55) (.seq (R [o 4 (.mov (i 5))])
   (.ret))
  (.skip)))
 (.seq (R [o 56 (.mov (v 0)), o 57 (.nilCheck (v 56)), o 58 (.fieldAddr 0 (v 57)), o 59 (.load none (v 58)), o 60 (.mov (v 0)), o 61 (.nilCheck (v 60)), o 62 (.fieldAddr 2 (v 61)), o 63 (.load none (v 62)), o 64 (.mov (v 1)), o 65 (.call (.func 72) [(v 59), (v 63), (v 64)]), o 4 (.mov (v 65))])
 (.ret)))))
def fun49 : AFun := ⟨2, code49, [.tmp 4], 0⟩
theorem comp49 : FunOK Tryz.prog 49 fun49 :=
  FunOK.of Tryz.func49 [] [⟨[], [], [(4, 8), (16, 21)]⟩] (by kernel_rfl) (by kernel_rfl) (by decide +kernel) (by kernel_rfl)

/- (*decorum/spill.Log).Compact -/
def code50 : ACode :=
 .seq (R [o 2 (.mov (i 0))])
 (.seq (.seq (R [o 6 (.mov (v 0)), o 7 (.eq false .pointer (v 6) (.const (.pointer none)))])
  (.cond (v 7) (.seq (R [o 2 (.mov (i 1))])
   (.ret))
  (.skip)))
 (.seq (R [o 8 (.mov (v 0)), o 9 (.nilCheck (v 8)), o 10 (.fieldAddr 0 (v 9)), o 11 (.load none (v 10)), o 12 (.call (.func 24) [(v 11)]), o 3 (.mov (v 12))])
 (.seq (R [o 14 (.mov (v 0)), o 15 (.mov (v 0)), o 16 (.call (.func 74) [(v 15)]), o 17 (.call (.func 73) [(v 14), (v 16)]), o 13 (.mov (v 17)), o 18 (.extract (v 13) 0), o 19 (.extract (v 13) 1), o 4 (.mov (v 18)), o 5 (.mov (v 19))])
 (.seq (R [o 20 (.mov (v 0)), o 21 (.mov (v 4)), o 22 (.mov (v 4)), o 23 (.len .slice (v 22)), o 24 (.bin .sub (v 23) (i 1)), o 25 (.indexAddr 1 (v 21) (v 24)), o 26 (.load none (v 25)), o 27 (.nilCheck (v 20)), o 28 (.fieldAddr 2 (v 27)), on (.store 1 (v 28) (v 26))])
 (.seq (.seq (R [o 29 (.mov (v 5)), o 30 (.bin .neq (v 29) (i 0))])
  (.cond (v 30) (.seq (R [o 31 (.mov (v 4)), o 32 (.call (.func 75) [(v 31)])])
   (.seq (R [o 33 (.mov (v 0)), o 34 (.mov (v 4)), o 35 (.call (.func 76) [(v 33), (v 34)])])
   (.seq (R [o 36 (.mov (v 5)), o 2 (.mov (v 36))])
   (.ret))))
  (.skip)))
 (.seq (R [o 37 (.mov (v 0)), o 38 (.mov (v 3)), o 39 (.call (.func 76) [(v 37), (v 38)]), o 2 (.mov (v 39))])
 (.ret)))))))
def fun50 : AFun := ⟨1, code50, [.tmp 2], 0⟩
theorem comp50 : FunOK Tryz.prog 50 fun50 :=
  FunOK.of Tryz.func50 [] [] (by kernel_rfl) (by kernel_rfl) (by decide +kernel) (by kernel_rfl)

/- (*decorum/disk.Disk).Sync -/
def code51 : ACode :=
 .seq (R [o 2 (.mov (i 0))])
 (.seq (.block 0 (.seq (R [o 4 (.mov (v 0)), o 5 (.eq false .pointer (v 4) (.const (.pointer none))), o 3 (.mov (v 5))])
   (.cond (v 3) (.seq (R [o 2 (.mov (i 1))])
    (.ret))
   (.seq (R [o 7 (.mov (v 0)), o 8 (.call (.func 77) [(v 7)]), o 9 (.un .not (v 8)), o 6 (.mov (v 9))])
    (.cond (v 6) (.seq (R [o 2 (.mov (i 7))])
     (.ret))
    (.skip))))))
 (.seq (R [o 10 (.mov (v 0)), o 11 (.nilCheck (v 10)), o 12 (.fieldAddr 2 (v 11)), on (.store 1 (v 12) (.const (.slice none 0 0)))])
 (.seq (R [o 2 (.mov (i 0))])
 (.ret))))
def fun51 : AFun := ⟨1, code51, [.tmp 2], 0⟩
theorem comp51 : FunOK Tryz.prog 51 fun51 :=
  FunOK.of Tryz.func51 [] [] (by kernel_rfl) (by kernel_rfl) (by decide +kernel) (by kernel_rfl)

/- decorum/queue.New -/
def code52 : ACode :=
 .seq (R [o 2 (.mov (.const (.pointer none)))])
 (.seq (R [o 3 (.mov (v 0)), o 4 (.minmax true [(v 3), (i 0)]), o 5 (.build [(.int .i64 0), (.slice none 0 0)] [(0, 1, (v 4))]), o 6 (.box 110 (v 5)), o 2 (.mov (v 6))])
 (.ret))
def fun52 : AFun := ⟨1, code52, [.tmp 2], 0⟩
theorem comp52 : FunOK Tryz.prog 52 fun52 :=
  FunOK.of Tryz.func52 [] [] (by kernel_rfl) (by kernel_rfl) (by decide +kernel) (by kernel_rfl)

/- (*decorum/spill.Log).Load -/
def code53 : ACode :=
 .seq (R [o 4 (.alloc 34 [(.int .i64 0), (.string ⟨#[]⟩), (.string ⟨#[]⟩), (.int .i64 0), (.int .i64 0)]), o 5 (.mov ff)])
 (.seq (.seq (R [o 8 (.mov (v 0)), o 9 (.eq false .pointer (v 8) (.const (.pointer none)))])
  (.cond (v 9) (.seq (R [o 10 (.build [(.int .i64 0), (.string ⟨#[]⟩), (.string ⟨#[]⟩), (.int .i64 0), (.int .i64 0)] []), on (.store 5 (v 4) (v 10)), o 5 (.mov ff)])
   (.ret))
  (.skip)))
 (.seq (R [o 12 (.mov (v 0)), o 13 (.nilCheck (v 12)), o 14 (.fieldAddr 3 (v 13)), o 15 (.load none (v 14)), o 16 (.mov (v 1)), o 17 (.lookup .int (.agg #[(.int .i64 0), (.string ⟨#[]⟩), (.string ⟨#[]⟩), (.int .i64 0), (.int .i64 0)]) true (v 15) (v 16)), o 11 (.mov (v 17)), o 18 (.extract (v 11) 0), o 19 (.extract (v 11) 1), o 6 (.alloc 34 [(.int .i64 0), (.string ⟨#[]⟩), (.string ⟨#[]⟩), (.int .i64 0), (.int .i64 0)]), on (.store 5 (v 6) (v 18)), o 7 (.mov (v 19))])
 (.seq (R [o 20 (.load (some 5) (v 6)), o 21 (.mov (v 7)), on (.store 5 (v 4) (v 20)), o 5 (.mov (v 21))])
 (.ret))))
def fun53 : AFun := ⟨2, code53, [.cell 4 (some 5), .tmp 5], 1⟩
theorem comp53 : FunOK Tryz.prog 53 fun53 :=
  FunOK.of Tryz.func53 [] [] (by kernel_rfl) (by kernel_rfl) (by decide +kernel) (by kernel_rfl)

/- slices.Delete[[]int,int] -/
def code54 : ACode :=
 .seq (R [o 6 (.mov (.const (.slice none 0 0)))])
 (.seq (R [o 8 (.mov (v 0)), o 9 (.mov (v 1)), o 10 (.mov (v 2)), o 11 (.mov (v 0)), o 12 (.len .slice (v 11)), o 13 (.slice (.slice 1) (v 8) (some (v 9)) (some (v 10)) (some (v 12)))])
 (.seq (.seq (R [o 14 (.mov (v 1)), o 15 (.mov (v 2)), o 16 (.bin .eql (v 14) (v 15))])
  (.cond (v 16) (.seq (R [o 17 (.mov (v 0)), o 6 (.mov (v 17))])
   (.ret))
  (.skip)))
 (.seq (R [o 18 (.mov (v 0)), o 19 (.len .slice (v 18)), o 7 (.mov (v 19))])
 (.seq (R [o 20 (.mov (v 0)), o 21 (.mov (v 1)), o 22 (.slice (.slice 1) (v 20) none (some (v 21)) none), o 23 (.mov (v 0)), o 24 (.mov (v 2)), o 25 (.slice (.slice 1) (v 23) (some (v 24)) none none), o 26 (.append 3 1 8 (v 22) (v 25)), o 0 (.mov (v 26))])
 (.seq (R [o 27 (.mov (v 0)), o 28 (.mov (v 0)), o 29 (.len .slice (v 28)), o 30 (.mov (v 7)), o 31 (.slice (.slice 1) (v 27) (some (v 29)) (some (v 30)) none), on (.clear 1 [(.int .i64 0)] (v 31))])
 (.seq (R [o 32 (.mov (v 0)), o 6 (.mov (v 32))])
 (.ret)))))))
def fun54 : AFun := ⟨3, code54, [.tmp 6], 0⟩
theorem comp54 : FunOK Tryz.prog 54 fun54 :=
  FunOK.of Tryz.func54 [] [] (by kernel_rfl) (by kernel_rfl) (by decide +kernel) (by kernel_rfl)

/- (*decorum/queue.rows).at -/
def code55 : ACode :=
 .seq (R [o 3 (.box 3 (v 1)), o 4 (.mov (i 0))])
 (.seq (R [o 5 (.mov (v 0)), o 6 (.nilCheck (v 5)), o 7 (.fieldAddr 0 (v 6)), o 8 (.load none (v 7)), o 9 (.mkFunc (.func 78) [] [(v 3)]), o 10 (.call (.func 61) [(v 8), (v 9)]), o 4 (.mov (v 10))])
 (.ret))
def fun55 : AFun := ⟨2, code55, [.tmp 4], 1⟩
theorem comp55 : FunOK Tryz.prog 55 fun55 :=
  FunOK.of Tryz.func55 [] [] (by kernel_rfl) (by kernel_rfl) (by decide +kernel) (by kernel_rfl)

/- slices.Delete[[]decorum/api.Req,decorum/api.Req] -/
def code56 : ACode :=
 .seq (R [o 6 (.mov (.const (.slice none 0 0)))])
 (.seq (R [o 8 (.mov (v 0)), o 9 (.mov (v 1)), o 10 (.mov (v 2)), o 11 (.mov (v 0)), o 12 (.len .slice (v 11)), o 13 (.slice (.slice 5) (v 8) (some (v 9)) (some (v 10)) (some (v 12)))])
 (.seq (.seq (R [o 14 (.mov (v 1)), o 15 (.mov (v 2)), o 16 (.bin .eql (v 14) (v 15))])
  (.cond (v 16) (.seq (R [o 17 (.mov (v 0)), o 6 (.mov (v 17))])
   (.ret))
  (.skip)))
 (.seq (R [o 18 (.mov (v 0)), o 19 (.len .slice (v 18)), o 7 (.mov (v 19))])
 (.seq (R [o 20 (.mov (v 0)), o 21 (.mov (v 1)), o 22 (.slice (.slice 5) (v 20) none (some (v 21)) none), o 23 (.mov (v 0)), o 24 (.mov (v 2)), o 25 (.slice (.slice 5) (v 23) (some (v 24)) none none), o 26 (.append 34 5 56 (v 22) (v 25)), o 0 (.mov (v 26))])
 (.seq (R [o 27 (.mov (v 0)), o 28 (.mov (v 0)), o 29 (.len .slice (v 28)), o 30 (.mov (v 7)), o 31 (.slice (.slice 5) (v 27) (some (v 29)) (some (v 30)) none), on (.clear 5 [(.int .i64 0), (.string ⟨#[]⟩), (.string ⟨#[]⟩), (.int .i64 0), (.int .i64 0)] (v 31))])
 (.seq (R [o 32 (.mov (v 0)), o 6 (.mov (v 32))])
 (.ret)))))))
def fun56 : AFun := ⟨3, code56, [.tmp 6], 0⟩
theorem comp56 : FunOK Tryz.prog 56 fun56 :=
  FunOK.of Tryz.func56 [] [] (by kernel_rfl) (by kernel_rfl) (by decide +kernel) (by kernel_rfl)

/- slices.IndexFunc[[]int,int] -/
def code57 : ACode :=
 .seq (R [o 4 (.mov (i 0))])
 (.seq (.seq (R [o 6 (.mov (v 0)), o 7 (.len .slice (v 6)), o 8 (.mov (i 0))])
  (.block 0 (.loop [0, 1, 7, 8] (.seq (R [o 9 (.bin .lss (v 8) (v 7))])
    (.seq (.cond (v 9) (.skip)
     (.exit 0))
    (.seq (.block 1 (.seq (R [o 10 (.mov (v 8)), o 5 (.mov (v 10))])
      (.seq (R [o 11 (.mov (v 1)), o 12 (.mov (v 0)), o 13 (.mov (v 5)), o 14 (.indexAddr 1 (v 12) (v 13)), o 15 (.load none (v 14)), o 16 (.call (v 11) [(v 15)])])
      (.cond (v 16) (.seq (R [o 17 (.mov (v 5)), o 4 (.mov (v 17))])
       (.ret))
      (.skip)))))
    (R [o 18 (.bin .add (v 8) (i 1)), o 8 (.mov (v 18))])))))))
 (.seq (R [o 4 (.mov (i (-1)))])
 (.ret)))
def fun57 : AFun := ⟨2, code57, [.tmp 4], 1⟩
theorem comp57 : FunOK Tryz.prog 57 fun57 :=
  FunOK.of Tryz.func57 [[0, 1, 7, 8]] [] (by kernel_rfl) (by kernel_rfl) (by decide +kernel) (by kernel_rfl)

/- slices.BinarySearchFunc[[]decorum/api.Req,decorum/api.Req,decorum/api.Req] -/
def code58 : ACode :=
 .seq (R [o 4 (.box 34 (v 1)), o 6 (.mov (i 0)), o 7 (.mov ff)])
 (.seq (R [o 12 (.mov (v 0)), o 13 (.len .slice (v 12)), o 8 (.mov (v 13))])
 (.seq (R [o 14 (.mov (v 8)), o 9 (.mov (i 0)), o 10 (.mov (v 14))])
 (.seq (.block 0 (.loop [0, 2, 4, 8, 9, 10] (.seq (.seq (R [o 15 (.mov (v 9)), o 16 (.mov (v 10)), o 17 (.bin .lss (v 15) (v 16))])
     (.cond (v 17) (.skip)
     (.exit 0)))
    (.block 1 (.seq (R [o 18 (.mov (v 9)), o 19 (.mov (v 10)), o 20 (.bin .add (v 18) (v 19)), o 21 (.conv (.int .u64) (v 20)), o 22 (.bin .shr (v 21) (.const (.int .u64 1))), o 23 (.conv (.int .i64) (v 22)), o 11 (.mov (v 23))])
     (.seq (R [o 24 (.mov (v 2)), o 25 (.mov (v 0)), o 26 (.mov (v 11)), o 27 (.indexAddr 5 (v 25) (v 26)), o 28 (.load (some 5) (v 27)), o 29 (.load (some 5) (v 4)), o 30 (.call (v 24) [(v 28), (v 29)]), o 31 (.bin .lss (v 30) (i 0))])
     (.cond (v 31) (R [o 32 (.mov (v 11)), o 33 (.bin .add (v 32) (i 1)), o 9 (.mov (v 33))])
     (R [o 34 (.mov (v 11)), o 10 (.mov (v 34))]))))))))
 (.seq (R [o 35 (.mov (v 9)), o 36 (.mov (v 9)), o 37 (.mov (v 8)), o 38 (.bin .lss (v 36) (v 37)), o 39 (.mov (v 38)), ot 39 40 (.mov (v 2)), ot 39 41 (.mov (v 0)), ot 39 42 (.mov (v 9)), ot 39 43 (.indexAddr 5 (v 41) (v 42)), ot 39 44 (.load (some 5) (v 43)), ot 39 45 (.load (some 5) (v 4)), ot 39 46 (.call (v 40) [(v 44), (v 45)]), ot 39 47 (.bin .eql (v 46) (i 0)), o 48 (.pick (v 39) (v 47) ff), o 6 (.mov (v 35)), o 7 (.mov (v 48))])
 (.ret)))))
def fun58 : AFun := ⟨3, code58, [.tmp 6, .tmp 7], 1⟩
theorem comp58 : FunOK Tryz.prog 58 fun58 :=
  FunOK.of Tryz.func58 [[0, 2, 4, 8, 9, 10]] [] (by kernel_rfl) (by kernel_rfl) (by decide +kernel) (by kernel_rfl)

/- decorum/queue.order -/
def code59 : ACode :=
 .seq (R [o 2 (.box 34 (v 0)), o 3 (.box 34 (v 1)), o 4 (.mov (i 0))])
 (.seq (D [o 5 (.fieldAddr 3 (v 2)), o 6 (.load none (v 5)), o 7 (.fieldAddr 3 (v 3)), o 8 (.load none (v 7)), o 9 (.call (.func 80) [(v 6), (v 8)]), o 10 (.fieldAddr 0 (v 2)), o 11 (.load none (v 10)), o 12 (.fieldAddr 0 (v 3)), o 13 (.load none (v 12)), o 14 (.call (.func 80) [(v 11), (v 13)]), o 15 (.buildSlice 3 1 2 [(.int .i64 0), (.int .i64 0)] [(0, 1, (v 9)), (1, 1, (v 14))]), o 16 (.call (.func 79) [(v 15)]), o 4 (.mov (v 16))] ⟨[], [4], []⟩)
 (.ret))
def fun59 : AFun := ⟨2, code59, [.tmp 4], 1⟩
theorem comp59 : FunOK Tryz.prog 59 fun59 :=
  FunOK.of Tryz.func59 [] [⟨[], [4], []⟩] (by kernel_rfl) (by kernel_rfl) (by decide +kernel) (by kernel_rfl)

/- slices.Insert[[]decorum/api.Req,decorum/api.Req] -/
def code60 : ACode :=
 .seq (R [o 6 (.mov (.const (.slice none 0 0)))])
 (.seq (R [o 10 (.mov (v 0)), o 11 (.mov (v 1)), o 12 (.slice (.slice 5) (v 10) (some (v 11)) none none)])
 (.seq (R [o 13 (.mov (v 2)), o 14 (.len .slice (v 13)), o 7 (.mov (v 14))])
 (.seq (.seq (R [o 15 (.mov (v 7)), o 16 (.bin .eql (v 15) (i 0))])
  (.cond (v 16) (.seq (R [o 17 (.mov (v 0)), o 6 (.mov (v 17))])
   (.ret))
  (.skip)))
 (.seq (R [o 18 (.mov (v 0)), o 19 (.len .slice (v 18)), o 8 (.mov (v 19))])
 (.seq (.seq (R [o 20 (.mov (v 1)), o 21 (.mov (v 8)), o 22 (.bin .eql (v 20) (v 21))])
  (.cond (v 22) (.seq (R [o 23 (.mov (v 0)), o 24 (.mov (v 2)), o 25 (.append 34 5 56 (v 23) (v 24)), o 6 (.mov (v 25))])
   (.ret))
  (.skip)))
 (.seq (.seq (R [o 26 (.mov (v 8)), o 27 (.mov (v 7)), o 28 (.bin .add (v 26) (v 27)), o 29 (.mov (v 0)), o 30 (.cap (v 29)), o 31 (.bin .gtr (v 28) (v 30))])
  (.cond (v 31) (.seq (R [o 32 (.mov (v 0)), o 33 (.mov (v 1)), o 34 (.slice (.slice 5) (v 32) none (some (v 33)) none), o 35 (.mov (v 8)), o 36 (.mov (v 7)), o 37 (.bin .add (v 35) (v 36)), o 38 (.mov (v 1)), o 39 (.bin .sub (v 37) (v 38)), o 40 (.appendMake 34 5 56 [(.int .i64 0), (.string ⟨#[]⟩), (.string ⟨#[]⟩), (.int .i64 0), (.int .i64 0)] (v 34) (v 39)), o 9 (.mov (v 40))])
   (.seq (R [o 41 (.mov (v 9)), o 42 (.mov (v 1)), o 43 (.slice (.slice 5) (v 41) (some (v 42)) none none), o 44 (.mov (v 2)), o 45 (.copy 5 (v 43) (v 44))])
   (.seq (R [o 46 (.mov (v 9)), o 47 (.mov (v 1)), o 48 (.mov (v 7)), o 49 (.bin .add (v 47) (v 48)), o 50 (.slice (.slice 5) (v 46) (some (v 49)) none none), o 51 (.mov (v 0)), o 52 (.mov (v 1)), o 53 (.slice (.slice 5) (v 51) (some (v 52)) none none), o 54 (.copy 5 (v 50) (v 53))])
   (.seq (R [o 55 (.mov (v 9)), o 6 (.mov (v 55))])
   (.ret)))))
  (.skip)))
 (.seq (R [o 56 (.mov (v 0)), o 57 (.mov (v 8)), o 58 (.mov (v 7)), o 59 (.bin .add (v 57) (v 58)), o 60 (.slice (.slice 5) (v 56) none (some (v 59)) none), o 0 (.mov (v 60))])
 (.seq (.seq (R [o 61 (.mov (v 2)), o 62 (.mov (v 0)), o 63 (.mov (v 1)), o 64 (.mov (v 7)), o 65 (.bin .add (v 63) (v 64)), o 66 (.slice (.slice 5) (v 62) (some (v 65)) none none), o 67 (.call (.func 81) [(v 61), (v 66)]), o 68 (.un .not (v 67))])
  (.cond (v 68) (.seq (R [o 69 (.mov (v 0)), o 70 (.mov (v 1)), o 71 (.mov (v 7)), o 72 (.bin .add (v 70) (v 71)), o 73 (.slice (.slice 5) (v 69) (some (v 72)) none none), o 74 (.mov (v 0)), o 75 (.mov (v 1)), o 76 (.slice (.slice 5) (v 74) (some (v 75)) none none), o 77 (.copy 5 (v 73) (v 76))])
   (.seq (R [o 78 (.mov (v 0)), o 79 (.mov (v 1)), o 80 (.slice (.slice 5) (v 78) (some (v 79)) none none), o 81 (.mov (v 2)), o 82 (.copy 5 (v 80) (v 81))])
   (.seq (R [o 83 (.mov (v 0)), o 6 (.mov (v 83))])
   (.ret))))
  (.skip)))
 (.seq (R [o 84 (.mov (v 0)), o 85 (.mov (v 8)), o 86 (.slice (.slice 5) (v 84) (some (v 85)) none none), o 87 (.mov (v 2)), o 88 (.copy 5 (v 86) (v 87))])
 (.seq (R [o 89 (.mov (v 0)), o 90 (.mov (v 1)), o 91 (.slice (.slice 5) (v 89) (some (v 90)) none none), o 92 (.mov (v 7)), o 93 (.call (.func 82) [(v 91), (v 92)])])
 (.seq (R [o 94 (.mov (v 0)), o 6 (.mov (v 94))])
 (.ret))))))))))))
def fun60 : AFun := ⟨3, code60, [.tmp 6], 0⟩
theorem comp60 : FunOK Tryz.prog 60 fun60 :=
  FunOK.of Tryz.func60 [] [] (by kernel_rfl) (by kernel_rfl) (by decide +kernel) (by kernel_rfl)

/- slices.IndexFunc[[]decorum/api.Req,decorum/api.Req] -/
def code61 : ACode :=
 .seq (R [o 4 (.mov (i 0))])
 (.seq (.seq (R [o 6 (.mov (v 0)), o 7 (.len .slice (v 6)), o 8 (.mov (i 0))])
  (.block 0 (.loop [0, 1, 7, 8] (.seq (R [o 9 (.bin .lss (v 8) (v 7))])
    (.seq (.cond (v 9) (.skip)
     (.exit 0))
    (.seq (.block 1 (.seq (R [o 10 (.mov (v 8)), o 5 (.mov (v 10))])
      (.seq (R [o 11 (.mov (v 1)), o 12 (.mov (v 0)), o 13 (.mov (v 5)), o 14 (.indexAddr 5 (v 12) (v 13)), o 15 (.load (some 5) (v 14)), o 16 (.call (v 11) [(v 15)])])
      (.cond (v 16) (.seq (R [o 17 (.mov (v 5)), o 4 (.mov (v 17))])
       (.ret))
      (.skip)))))
    (R [o 18 (.bin .add (v 8) (i 1)), o 8 (.mov (v 18))])))))))
 (.seq (R [o 4 (.mov (i (-1)))])
 (.ret)))
def fun61 : AFun := ⟨2, code61, [.tmp 4], 1⟩
theorem comp61 : FunOK Tryz.prog 61 fun61 :=
  FunOK.of Tryz.func61 [[0, 1, 7, 8]] [] (by kernel_rfl) (by kernel_rfl) (by decide +kernel) (by kernel_rfl)

/- slices.Clip[[]decorum/api.Req,decorum/api.Req] -/
def code62 : ACode :=
 .seq (R [o 2 (.mov (.const (.slice none 0 0)))])
 (.seq (R [o 3 (.mov (v 0)), o 4 (.mov (v 0)), o 5 (.len .slice (v 4)), o 6 (.mov (v 0)), o 7 (.len .slice (v 6)), o 8 (.slice (.slice 5) (v 3) none (some (v 5)) (some (v 7))), o 2 (.mov (v 8))])
 (.ret))
def fun62 : AFun := ⟨1, code62, [.tmp 2], 0⟩
theorem comp62 : FunOK Tryz.prog 62 fun62 :=
  FunOK.of Tryz.func62 [] [] (by kernel_rfl) (by kernel_rfl) (by decide +kernel) (by kernel_rfl)

/- slices.Clone[[]decorum/api.Req,decorum/api.Req] -/
def code63 : ACode :=
 .seq (R [o 2 (.mov (.const (.slice none 0 0)))])
 (.seq (.seq (R [o 3 (.mov (v 0)), o 4 (.eq false .slice (v 3) (.const (.slice none 0 0)))])
  (.cond (v 4) (.seq (R [o 2 (.mov (.const (.slice none 0 0)))])
   (.ret))
  (.skip)))
 (.seq (R [o 5 (.buildSlice 34 5 0 [] []), o 6 (.mov (v 0)), o 7 (.append 34 5 56 (v 5) (v 6)), o 2 (.mov (v 7))])
 (.ret)))
def fun63 : AFun := ⟨1, code63, [.tmp 2], 0⟩
theorem comp63 : FunOK Tryz.prog 63 fun63 :=
  FunOK.of Tryz.func63 [] [] (by kernel_rfl) (by kernel_rfl) (by decide +kernel) (by kernel_rfl)

/- decorum/frame.sound -/
def code67 : ACode :=
 .seq (R [o 1 (.box 70 (v 0)), o 2 (.mov ff)])
 (.seq (R [o 5 (.fieldAddr 1 (v 1)), o 6 (.load (some 5) (v 5)), o 3 (.alloc 34 [(.int .i64 0), (.string ⟨#[]⟩), (.string ⟨#[]⟩), (.int .i64 0), (.int .i64 0)]), on (.store 5 (v 3) (v 6))])
 (.seq (R [o 7 (.fieldAddr 1 (v 3)), o 8 (.load none (v 7)), o 9 (.len .string (v 8)), o 10 (.bin .leq (v 9) (i 256)), o 11 (.mov (v 10)), ot 11 12 (.fieldAddr 2 (v 3)), ot 11 13 (.load none (v 12)), ot 11 14 (.len .string (v 13)), ot 11 15 (.bin .leq (v 14) (i 768)), o 16 (.pick (v 11) (v 15) ff), o 17 (.mov (v 16)), ot 17 18 (.fieldAddr 0 (v 3)), ot 17 19 (.load none (v 18)), ot 17 20 (.bin .geq (v 19) (i 0)), o 21 (.pick (v 17) (v 20) ff), o 22 (.mov (v 21)), ot 22 23 (.fieldAddr 4 (v 3)), ot 22 24 (.load none (v 23)), ot 22 25 (.bin .geq (v 24) (i 0)), o 26 (.pick (v 22) (v 25) ff), o 4 (.mov (v 26))])
 (.seq (R [o 27 (.mov (v 4)), o 28 (.mov (v 27)), ot 28 29 (.fieldAddr 0 (v 1)), ot 28 30 (.load none (v 29)), ot 28 31 (.bin .geq (v 30) (i 1)), o 32 (.pick (v 28) (v 31) ff), o 33 (.mov (v 32)), ot 33 34 (.fieldAddr 0 (v 1)), ot 33 35 (.load none (v 34)), ot 33 36 (.bin .leq (v 35) (i 3)), o 37 (.pick (v 33) (v 36) ff), o 38 (.mov (v 37)), ot 38 39 (.fieldAddr 3 (v 3)), ot 38 40 (.load none (v 39)), ot 38 41 (.bin .geq (v 40) (i 0)), o 42 (.pick (v 38) (v 41) ff), o 43 (.mov (v 42)), ot 43 44 (.fieldAddr 3 (v 3)), ot 43 45 (.load none (v 44)), ot 43 46 (.bin .leq (v 45) (i 7)), o 47 (.pick (v 43) (v 46) ff), o 2 (.mov (v 47))])
 (.ret))))
def fun67 : AFun := ⟨1, code67, [.tmp 2], 0⟩
theorem comp67 : FunOK Tryz.prog 67 fun67 :=
  FunOK.of Tryz.func67 [] [] (by kernel_rfl) (by kernel_rfl) (by decide +kernel) (by kernel_rfl)

/- decorum/frame.body -/
def code68 : ACode :=
 .seq (R [o 1 (.box 70 (v 0)), o 2 (.mov (.const (.slice none 0 0)))])
 (.seq (R [o 5 (.fieldAddr 1 (v 1)), o 6 (.load (some 5) (v 5)), o 3 (.alloc 34 [(.int .i64 0), (.string ⟨#[]⟩), (.string ⟨#[]⟩), (.int .i64 0), (.int .i64 0)]), on (.store 5 (v 3) (v 6))])
 (.seq (R [o 7 (.fieldAddr 0 (v 1)), o 8 (.load none (v 7)), o 9 (.conv (.int .u8) (v 8)), o 10 (.fieldAddr 3 (v 3)), o 11 (.load none (v 10)), o 12 (.conv (.int .u8) (v 11)), o 13 (.buildSlice 5 1 2 [(.int .u8 0), (.int .u8 0)] [(0, 1, (v 9)), (1, 1, (v 12))]), o 4 (.mov (v 13))])
 (.seq (R [o 14 (.mov (v 4)), o 15 (.fieldAddr 0 (v 3)), o 16 (.load none (v 15)), o 17 (.conv (.int .u64) (v 16)), o 18 (.call (.func 70) [(v 17), (i 8)]), o 19 (.append 5 1 1 (v 14) (v 18)), o 4 (.mov (v 19))])
 (.seq (R [o 20 (.mov (v 4)), o 21 (.fieldAddr 4 (v 3)), o 22 (.load none (v 21)), o 23 (.conv (.int .u64) (v 22)), o 24 (.call (.func 70) [(v 23), (i 8)]), o 25 (.append 5 1 1 (v 20) (v 24)), o 4 (.mov (v 25))])
 (.seq (R [o 26 (.mov (v 4)), o 27 (.fieldAddr 1 (v 3)), o 28 (.load none (v 27)), o 29 (.len .string (v 28)), o 30 (.conv (.int .u64) (v 29)), o 31 (.call (.func 70) [(v 30), (i 2)]), o 32 (.append 5 1 1 (v 26) (v 31)), o 4 (.mov (v 32))])
 (.seq (D [o 33 (.mov (v 4)), o 34 (.fieldAddr 1 (v 3)), o 35 (.load none (v 34)), o 36 (.append 5 1 1 (v 33) (v 35)), o 37 (.fieldAddr 2 (v 3)), o 38 (.load none (v 37)), o 39 (.append 5 1 1 (v 36) (v 38)), o 2 (.mov (v 39))] ⟨[(3, 5)], [], []⟩)
 (.ret)))))))
def fun68 : AFun := ⟨1, code68, [.tmp 2], 0⟩
theorem comp68 : FunOK Tryz.prog 68 fun68 :=
  FunOK.of Tryz.func68 [] [⟨[(3, 5)], [], []⟩] (by kernel_rfl) (by kernel_rfl) (by decide +kernel) (by kernel_rfl)

/- slices.Concat[[]byte,byte] -/
def code69 : ACode :=
 .seq (R [o 2 (.mov (.const (.slice none 0 0)))])
 (.seq (R [o 3 (.mov (i 0))])
 (.seq (.seq (R [o 9 (.mov (v 0)), o 10 (.len .slice (v 9)), o 11 (.mov (i 0))])
  (.block 0 (.loop [0, 3, 9, 10, 11] (.seq (R [o 12 (.bin .lss (v 11) (v 10))])
    (.seq (.cond (v 12) (.skip)
     (.exit 0))
    (.seq (.block 1 (.seq (R [o 13 (.indexAddr 1 (v 9) (v 11)), o 14 (.load none (v 13)), o 5 (.mov (v 14))])
      (.seq (R [o 15 (.mov (v 3)), o 16 (.mov (v 5)), o 17 (.len .slice (v 16)), o 18 (.bin .add (v 15) (v 17)), o 3 (.mov (v 18))])
      (.seq (R [o 19 (.mov (v 3)), o 20 (.bin .lss (v 19) (i 0))])
      (.cond (v 20) (R [o 21 (.mkIface 9 (.const (.string ⟨#[108, 101, 110, 32, 111, 117, 116, 32, 111, 102, 32, 114, 97, 110, 103, 101]⟩))), on (.cap ff)])
      (.skip))))))
    (R [o 22 (.bin .add (v 11) (i 1)), o 11 (.mov (v 22))])))))))
 (.seq (R [o 23 (.mov (v 3)), o 24 (.call (.func 86) [(.const (.slice none 0 0)), (v 23)]), o 6 (.mov (v 24))])
 (.seq (.seq (R [o 25 (.mov (v 0)), o 26 (.len .slice (v 25)), o 27 (.mov (i 0))])
  (.block 2 (.loop [6, 25, 26, 27] (.seq (R [o 28 (.bin .lss (v 27) (v 26))])
    (.seq (.cond (v 28) (.skip)
     (.exit 2))
    (.seq (.block 3 (.seq (R [o 29 (.indexAddr 1 (v 25) (v 27)), o 30 (.load none (v 29)), o 8 (.mov (v 30))])
      (R [o 31 (.mov (v 6)), o 32 (.mov (v 8)), o 33 (.append 5 1 1 (v 31) (v 32)), o 6 (.mov (v 33))])))
    (R [o 34 (.bin .add (v 27) (i 1)), o 27 (.mov (v 34))])))))))
 (.seq (R [o 35 (.mov (v 6)), o 2 (.mov (v 35))])
 (.ret))))))
def fun69 : AFun := ⟨1, code69, [.tmp 2], 0⟩
theorem comp69 : FunOK Tryz.prog 69 fun69 :=
  FunOK.of Tryz.func69 [[0, 3, 9, 10, 11], [6, 25, 26, 27]] [] (by kernel_rfl) (by kernel_rfl) (by decide +kernel) (by kernel_rfl)

/- decorum/frame.number -/
def code70 : ACode :=
 .seq (R [o 4 (.mov (.const (.slice none 0 0)))])
 (.seq (R [o 7 (.mov (v 1)), o 8 (.mkSlice 5 1 1 [(.int .u8 0)] (v 7) (v 7)), o 5 (.mov (v 8))])
 (.seq (.seq (R [o 9 (.mov (v 5)), o 10 (.len .slice (v 9)), o 11 (.mov (i 0))])
  (.block 0 (.loop [0, 1, 5, 10, 11] (.seq (R [o 12 (.bin .lss (v 11) (v 10))])
    (.seq (.cond (v 12) (.skip)
     (.exit 0))
    (.seq (.block 1 (.seq (R [o 13 (.mov (v 11)), o 6 (.mov (v 13))])
      (R [o 14 (.mov (v 5)), o 15 (.mov (v 1)), o 16 (.bin .sub (v 15) (i 1)), o 17 (.mov (v 6)), o 18 (.bin .sub (v 16) (v 17)), o 19 (.mov (v 0)), o 20 (.mov (v 6)), o 21 (.bin .mul (i 8) (v 20)), o 22 (.bin .shr (v 19) (v 21)), o 23 (.conv (.int .u8) (v 22)), o 24 (.indexAddr 1 (v 14) (v 18)), on (.store 1 (v 24) (v 23))])))
    (R [o 25 (.bin .add (v 11) (i 1)), o 11 (.mov (v 25))])))))))
 (.seq (R [o 26 (.mov (v 5)), o 4 (.mov (v 26))])
 (.ret))))
def fun70 : AFun := ⟨2, code70, [.tmp 4], 0⟩
theorem comp70 : FunOK Tryz.prog 70 fun70 :=
  FunOK.of Tryz.func70 [[0, 1, 5, 10, 11]] [] (by kernel_rfl) (by kernel_rfl) (by decide +kernel) (by kernel_rfl)

/- slices.Contains[[]int,int] -/
def code71 : ACode :=
 .seq (R [o 4 (.mov ff)])
 (.seq (R [o 5 (.mov (v 0)), o 6 (.mov (v 1)), o 7 (.call (.func 87) [(v 5), (v 6)]), o 8 (.bin .geq (v 7) (i 0)), o 4 (.mov (v 8))])
 (.ret))
def fun71 : AFun := ⟨2, code71, [.tmp 4], 0⟩
theorem comp71 : FunOK Tryz.prog 71 fun71 :=
  FunOK.of Tryz.func71 [] [] (by kernel_rfl) (by kernel_rfl) (by decide +kernel) (by kernel_rfl)

/- (*decorum/disk.Disk).Append -/
def code72 : ACode :=
 .seq (R [o 6 (.mov (i 0))])
 (.seq (.seq (R [o 10 (.mov (v 0)), o 11 (.eq false .pointer (v 10) (.const (.pointer none))), o 12 (.mov (v 11)), of 12 13 (.mov (v 1)), of 12 14 (.bin .lss (v 13) (i 0)), o 15 (.pick (v 12) tt (v 14))])
  (.cond (v 15) (.seq (R [o 6 (.mov (i 1))])
   (.ret))
  (.skip)))
 (.seq (R [o 17 (.mov (v 0)), o 18 (.nilCheck (v 17)), o 19 (.fieldAddr 1 (v 18)), o 20 (.load none (v 19)), o 21 (.mov (v 1)), o 22 (.lookup .int (.slice none 0 0) true (v 20) (v 21)), o 16 (.mov (v 22)), o 23 (.extract (v 16) 0), o 24 (.extract (v 16) 1), o 7 (.mov (v 23)), o 8 (.mov (v 24))])
 (.seq (.block 0 (.seq (R [o 26 (.mov (v 8)), o 27 (.un .not (v 26)), o 28 (.mov (v 27)), ot 28 29 (.mov (v 0)), ot 28 30 (.nilCheck (v 29)), ot 28 31 (.fieldAddr 1 (v 30)), ot 28 32 (.load none (v 31)), ot 28 33 (.len .map (v 32)), ot 28 34 (.mov (v 0)), ot 28 35 (.nilCheck (v 34)), ot 28 36 (.fieldAddr 0 (v 35)), ot 28 37 (.load none (v 36)), ot 28 38 (.bin .geq (v 33) (v 37)), o 39 (.pick (v 28) (v 38) ff), o 40 (.mov (v 39)), of 40 41 (.mov (v 2)), of 40 42 (.len .slice (v 41)), of 40 43 (.mov (v 7)), of 40 44 (.len .slice (v 43)), of 40 45 (.bin .sub (i 2048) (v 44)), of 40 46 (.bin .gtr (v 42) (v 45)), o 47 (.pick (v 40) tt (v 46)), o 25 (.mov (v 47))])
   (.cond (v 25) (.seq (R [o 6 (.mov (i 5))])
    (.ret))
   (.seq (R [o 49 (.mov (v 0)), o 50 (.call (.func 77) [(v 49)]), o 51 (.un .not (v 50)), o 48 (.mov (v 51))])
    (.cond (v 48) (.seq (R [o 6 (.mov (i 7))])
     (.ret))
    (.skip))))))
 (.seq (R [o 52 (.mov (v 7)), o 53 (.len .slice (v 52)), o 54 (.mov (v 2)), o 55 (.len .slice (v 54)), o 56 (.bin .add (v 53) (v 55)), o 57 (.mkSlice 5 1 1 [(.int .u8 0)] (v 56) (v 56)), o 9 (.mov (v 57))])
 (.seq (R [o 58 (.mov (v 9)), o 59 (.mov (v 7)), o 60 (.copy 1 (v 58) (v 59))])
 (.seq (R [o 61 (.mov (v 9)), o 62 (.mov (v 7)), o 63 (.len .slice (v 62)), o 64 (.slice (.slice 1) (v 61) (some (v 63)) none none), o 65 (.mov (v 2)), o 66 (.copy 1 (v 64) (v 65))])
 (.seq (R [o 67 (.mov (v 0)), o 68 (.nilCheck (v 67)), o 69 (.fieldAddr 1 (v 68)), o 70 (.load none (v 69)), o 71 (.mov (v 1)), o 72 (.mov (v 9)), on (.mapUpdate .int (v 70) (v 71) (v 72))])
 (.seq (R [o 73 (.mov (v 0)), o 74 (.mov (v 0)), o 75 (.nilCheck (v 74)), o 76 (.fieldAddr 2 (v 75)), o 77 (.load none (v 76)), o 78 (.mov (v 1)), o 79 (.mov (v 2)), o 80 (.len .slice (v 79)), o 81 (.build [(.int .i64 0), (.int .i64 0)] [(0, 1, (v 78)), (1, 1, (v 80))]), o 82 (.buildSlice 143 2 1 [(.int .i64 0), (.int .i64 0)] [(0, 2, (v 81))]), o 83 (.append 143 2 16 (v 77) (v 82)), o 84 (.nilCheck (v 73)), o 85 (.fieldAddr 2 (v 84)), on (.store 1 (v 85) (v 83))])
 (.seq (R [o 6 (.mov (i 0))])
 (.ret))))))))))
def fun72 : AFun := ⟨3, code72, [.tmp 6], 0⟩
theorem comp72 : FunOK Tryz.prog 72 fun72 :=
  FunOK.of Tryz.func72 [] [] (by kernel_rfl) (by kernel_rfl) (by decide +kernel) (by kernel_rfl)

/- (*decorum/spill.Log).lay -/
def code73 : ACode :=
 .seq (R [o 4 (.mov (.const (.slice none 0 0))), o 5 (.mov (i 0))])
 (.seq (R [o 14 (.mov (v 0)), o 15 (.nilCheck (v 14)), o 16 (.fieldAddr 2 (v 15)), o 17 (.load none (v 16)), o 18 (.bin .add (v 17) (i 1)), o 6 (.mov (v 18))])
 (.seq (R [o 19 (.mov (v 6)), o 20 (.buildSlice 3 1 1 [(.int .i64 0)] [(0, 1, (v 19))]), o 7 (.mov (v 20))])
 (.seq (R [o 8 (.mov (i 0))])
 (.seq (.seq (R [o 21 (.mov (v 1)), o 22 (.len .slice (v 21)), o 23 (.mov (i 0))])
  (.block 0 (.loop [0, 6, 7, 8, 21, 22, 23] (.seq (R [o 24 (.bin .lss (v 23) (v 22))])
    (.seq (.cond (v 24) (.skip)
     (.exit 0))
    (.seq (.block 1 (.seq (R [o 25 (.indexAddr 6 (v 21) (v 23)), o 26 (.load (some 6) (v 25)), o 10 (.alloc 70 [(.int .i64 0), (.int .i64 0), (.string ⟨#[]⟩), (.string ⟨#[]⟩), (.int .i64 0), (.int .i64 0)]), on (.store 6 (v 10) (v 26))])
      (.seq (R [o 28 (.load (some 6) (v 10)), o 29 (.call (.func 48) [(v 28)]), o 27 (.mov (v 29)), o 30 (.extract (v 27) 0), o 31 (.extract (v 27) 1), o 11 (.mov (v 30)), o 12 (.mov (v 31))])
      (.seq (.seq (R [o 32 (.mov (v 11)), o 33 (.len .slice (v 32)), o 34 (.mov (v 8)), o 35 (.bin .sub (i 2048) (v 34)), o 36 (.bin .gtr (v 33) (v 35))])
       (.cond (v 36) (.seq (R [o 37 (.mov (v 6)), o 38 (.bin .add (v 37) (i 1)), o 6 (.mov (v 38)), o 8 (.mov (i 0))])
        (R [o 39 (.mov (v 7)), o 40 (.mov (v 6)), o 41 (.buildSlice 3 1 1 [(.int .i64 0)] [(0, 1, (v 40))]), o 42 (.append 3 1 8 (v 39) (v 41)), o 7 (.mov (v 42))]))
       (.skip)))
      (.seq (.seq (R [o 43 (.mov (v 0)), o 44 (.nilCheck (v 43)), o 45 (.fieldAddr 0 (v 44)), o 46 (.load none (v 45)), o 47 (.mov (v 6)), o 48 (.mov (v 11)), o 49 (.call (.func 72) [(v 46), (v 47), (v 48)]), o 13 (.mov (v 49))])
       (.seq (R [o 50 (.mov (v 13)), o 51 (.bin .neq (v 50) (i 0))])
       (.cond (v 51) (.seq (R [o 52 (.mov (v 7)), o 53 (.mov (v 13)), o 4 (.mov (v 52)), o 5 (.mov (v 53))])
        (.ret))
       (.skip))))
      (R [o 54 (.mov (v 8)), o 55 (.mov (v 11)), o 56 (.len .slice (v 55)), o 57 (.bin .add (v 54) (v 56)), o 8 (.mov (v 57))]))))))
    (R [o 58 (.bin .add (v 23) (i 1)), o 23 (.mov (v 58))])))))))
 (.seq (R [o 59 (.mov (v 7)), o 60 (.mov (v 0)), o 61 (.nilCheck (v 60)), o 62 (.fieldAddr 0 (v 61)), o 63 (.load none (v 62)), o 64 (.call (.func 51) [(v 63)]), o 4 (.mov (v 59)), o 5 (.mov (v 64))])
 (.ret))))))
def fun73 : AFun := ⟨2, code73, [.tmp 4, .tmp 5], 0⟩
theorem comp73 : FunOK Tryz.prog 73 fun73 :=
  FunOK.of Tryz.func73 [[0, 6, 7, 8, 21, 22, 23]] [] (by kernel_rfl) (by kernel_rfl) (by decide +kernel) (by kernel_rfl)

/- (*decorum/spill.Log).records -/
def code74 : ACode :=
 .seq (R [o 2 (.mov (.const (.slice none 0 0)))])
 (.seq (R [o 3 (.mov (.const (.slice none 0 0)))])
 (.seq (.seq (R [o 10 (.mov (v 0)), o 11 (.nilCheck (v 10)), o 12 (.fieldAddr 4 (v 11)), o 13 (.load none (v 12)), o 14 (.call (.func 88) [(v 13)]), o 15 (.len .slice (v 14)), o 16 (.mov (i 0))])
  (.block 0 (.loop [0, 3, 14, 15, 16] (.seq (R [o 17 (.bin .lss (v 16) (v 15))])
    (.seq (.cond (v 17) (.skip)
     (.exit 0))
    (.seq (.block 1 (.seq (R [o 18 (.indexAddr 1 (v 14) (v 16)), o 19 (.load none (v 18)), o 5 (.mov (v 19))])
      (R [o 20 (.mov (v 3)), o 21 (.mov (v 5)), o 22 (.mov (v 0)), o 23 (.nilCheck (v 22)), o 24 (.fieldAddr 4 (v 23)), o 25 (.load none (v 24)), o 26 (.mov (v 5)), o 27 (.lookup .string (.int .i64 0) false (v 25) (v 26)), o 28 (.build [(.int .i64 0), (.string ⟨#[]⟩), (.string ⟨#[]⟩), (.int .i64 0), (.int .i64 0)] [(1, 1, (v 21)), (4, 1, (v 27))]), o 29 (.build [(.int .i64 0), (.int .i64 0), (.string ⟨#[]⟩), (.string ⟨#[]⟩), (.int .i64 0), (.int .i64 0)] [(0, 1, (i 3)), (1, 5, (v 28))]), o 30 (.buildSlice 70 6 1 [(.int .i64 0), (.int .i64 0), (.string ⟨#[]⟩), (.string ⟨#[]⟩), (.int .i64 0), (.int .i64 0)] [(0, 6, (v 29))]), o 31 (.append 70 6 64 (v 20) (v 30)), o 3 (.mov (v 31))])))
    (R [o 32 (.bin .add (v 16) (i 1)), o 16 (.mov (v 32))])))))))
 (.seq (.seq (R [o 34 (.mov (v 0)), o 35 (.nilCheck (v 34)), o 36 (.fieldAddr 3 (v 35)), o 37 (.load none (v 36)), o 38 (.mov (v 0)), o 39 (.nilCheck (v 38)), o 40 (.fieldAddr 5 (v 39)), o 41 (.load none (v 40)), o 42 (.bin .sub (v 41) (i 1)), o 43 (.lookup .int (.agg #[(.int .i64 0), (.string ⟨#[]⟩), (.string ⟨#[]⟩), (.int .i64 0), (.int .i64 0)]) true (v 37) (v 42)), o 33 (.mov (v 43)), o 44 (.extract (v 33) 0), o 45 (.extract (v 33) 1), o 6 (.alloc 34 [(.int .i64 0), (.string ⟨#[]⟩), (.string ⟨#[]⟩), (.int .i64 0), (.int .i64 0)]), on (.store 5 (v 6) (v 44)), o 7 (.mov (v 45))])
  (.seq (R [o 46 (.mov (v 7)), o 47 (.un .not (v 46))])
  (.cond (v 47) (R [o 48 (.mov (v 3)), o 49 (.mov (v 0)), o 50 (.nilCheck (v 49)), o 51 (.fieldAddr 5 (v 50)), o 52 (.load none (v 51)), o 53 (.bin .sub (v 52) (i 1)), o 54 (.build [(.int .i64 0), (.string ⟨#[]⟩), (.string ⟨#[]⟩), (.int .i64 0), (.int .i64 0)] [(0, 1, (v 53))]), o 55 (.build [(.int .i64 0), (.int .i64 0), (.string ⟨#[]⟩), (.string ⟨#[]⟩), (.int .i64 0), (.int .i64 0)] [(0, 1, (i 2)), (1, 5, (v 54))]), o 56 (.buildSlice 70 6 1 [(.int .i64 0), (.int .i64 0), (.string ⟨#[]⟩), (.string ⟨#[]⟩), (.int .i64 0), (.int .i64 0)] [(0, 6, (v 55))]), o 57 (.append 70 6 64 (v 48) (v 56)), o 3 (.mov (v 57))])
  (.skip))))
 (.seq (.seq (R [o 58 (.mov (v 0)), o 59 (.call (.func 89) [(v 58)]), o 60 (.len .slice (v 59)), o 61 (.mov (i 0))])
  (.block 2 (.loop [3, 59, 60, 61] (.seq (R [o 62 (.bin .lss (v 61) (v 60))])
    (.seq (.cond (v 62) (.skip)
     (.exit 2))
    (.seq (.block 3 (.seq (R [o 63 (.indexAddr 5 (v 59) (v 61)), o 64 (.load (some 5) (v 63)), o 9 (.alloc 34 [(.int .i64 0), (.string ⟨#[]⟩), (.string ⟨#[]⟩), (.int .i64 0), (.int .i64 0)]), on (.store 5 (v 9) (v 64))])
      (R [o 65 (.mov (v 3)), o 66 (.load (some 5) (v 9)), o 67 (.build [(.int .i64 0), (.int .i64 0), (.string ⟨#[]⟩), (.string ⟨#[]⟩), (.int .i64 0), (.int .i64 0)] [(0, 1, (i 1)), (1, 5, (v 66))]), o 68 (.buildSlice 70 6 1 [(.int .i64 0), (.int .i64 0), (.string ⟨#[]⟩), (.string ⟨#[]⟩), (.int .i64 0), (.int .i64 0)] [(0, 6, (v 67))]), o 69 (.append 70 6 64 (v 65) (v 68)), o 3 (.mov (v 69))])))
    (R [o 70 (.bin .add (v 61) (i 1)), o 61 (.mov (v 70))])))))))
 (.seq (R [o 71 (.mov (v 3)), o 2 (.mov (v 71))])
 (.ret))))))
def fun74 : AFun := ⟨1, code74, [.tmp 2], 0⟩
theorem comp74 : FunOK Tryz.prog 74 fun74 :=
  FunOK.of Tryz.func74 [[0, 3, 14, 15, 16], [3, 59, 60, 61]] [] (by kernel_rfl) (by kernel_rfl) (by decide +kernel) (by kernel_rfl)

/- slices.Reverse[[]int,int] -/
def code75 : ACode :=
 .seq (R [o 4 (.mov (v 0)), o 5 (.len .slice (v 4)), o 6 (.bin .sub (v 5) (i 1)), o 2 (.mov (i 0)), o 3 (.mov (v 6))])
 (.block 0 (.loop [0, 2, 3] (.seq (.seq (R [o 7 (.mov (v 2)), o 8 (.mov (v 3)), o 9 (.bin .lss (v 7) (v 8))])
    (.cond (v 9) (.skip)
    (.exit 0)))
   (.seq (.block 1 (R [o 14 (.mov (v 0)), o 15 (.mov (v 2)), o 16 (.mov (v 0)), o 17 (.mov (v 3)), o 18 (.mov (v 0)), o 19 (.mov (v 3)), o 20 (.indexAddr 1 (v 18) (v 19)), o 21 (.load none (v 20)), o 22 (.mov (v 0)), o 23 (.mov (v 2)), o 24 (.indexAddr 1 (v 22) (v 23)), o 25 (.load none (v 24)), o 26 (.indexAddr 1 (v 14) (v 15)), on (.store 1 (v 26) (v 21)), o 27 (.indexAddr 1 (v 16) (v 17)), on (.store 1 (v 27) (v 25))]))
   (R [o 10 (.mov (v 2)), o 11 (.bin .add (v 10) (i 1)), o 12 (.mov (v 3)), o 13 (.bin .sub (v 12) (i 1)), o 2 (.mov (v 11)), o 3 (.mov (v 13))])))))
def fun75 : AFun := ⟨1, code75, [], 0⟩
theorem comp75 : FunOK Tryz.prog 75 fun75 :=
  FunOK.of Tryz.func75 [[0, 2, 3]] [] (by kernel_rfl) (by kernel_rfl) (by decide +kernel) (by kernel_rfl)

/- (*decorum/spill.Log).drop -/
def code76 : ACode :=
 .seq (R [o 4 (.mov (i 0))])
 (.seq (.seq (R [o 8 (.mov (v 1)), o 9 (.len .slice (v 8)), o 10 (.mov (i 0))])
  (.block 0 (.loop [0, 8, 9, 10] (.seq (R [o 11 (.bin .lss (v 10) (v 9))])
    (.seq (.cond (v 11) (.skip)
     (.exit 0))
    (.seq (.block 1 (.seq (R [o 12 (.indexAddr 1 (v 8) (v 10)), o 13 (.load none (v 12)), o 6 (.mov (v 13))])
      (.seq (R [o 14 (.mov (v 0)), o 15 (.nilCheck (v 14)), o 16 (.fieldAddr 0 (v 15)), o 17 (.load none (v 16)), o 18 (.mov (v 6)), o 19 (.call (.func 90) [(v 17), (v 18)]), o 7 (.mov (v 19))])
      (.seq (R [o 20 (.mov (v 7)), o 21 (.bin .eql (v 20) (i 7))])
      (.cond (v 21) (.seq (R [o 22 (.mov (v 7)), o 4 (.mov (v 22))])
       (.ret))
      (.skip))))))
    (R [o 23 (.bin .add (v 10) (i 1)), o 10 (.mov (v 23))])))))))
 (.seq (R [o 4 (.mov (i 0))])
 (.ret)))
def fun76 : AFun := ⟨2, code76, [.tmp 4], 0⟩
theorem comp76 : FunOK Tryz.prog 76 fun76 :=
  FunOK.of Tryz.func76 [[0, 8, 9, 10]] [] (by kernel_rfl) (by kernel_rfl) (by decide +kernel) (by kernel_rfl)

/- (*decorum/disk.Disk).work -/
def code77 : ACode :=
 .seq (R [o 2 (.mov ff)])
 (.seq (.block 0 (.seq (R [o 4 (.mov (v 0)), o 5 (.nilCheck (v 4)), o 6 (.fieldAddr 3 (v 5)), o 7 (.load none (v 6)), o 8 (.bin .gtr (v 7) (i 0)), o 3 (.mov (v 8))])
   (.cond (v 3) (R [o 9 (.mov (v 0)), o 10 (.nilCheck (v 9)), o 11 (.fieldAddr 3 (v 10)), o 12 (.load none (v 11)), o 13 (.bin .sub (v 12) (i 1)), o 14 (.nilCheck (v 9)), o 15 (.fieldAddr 3 (v 14)), on (.store 1 (v 15) (v 13))])
   (.seq (R [o 17 (.mov (v 0)), o 18 (.nilCheck (v 17)), o 19 (.fieldAddr 4 (v 18)), o 20 (.load none (v 19)), o 21 (.bin .gtr (v 20) (i 0)), o 16 (.mov (v 21))])
    (.cond (v 16) (.seq (R [o 22 (.mov (v 0)), o 23 (.nilCheck (v 22)), o 24 (.fieldAddr 4 (v 23)), o 25 (.load none (v 24)), o 26 (.bin .sub (v 25) (i 1)), o 27 (.nilCheck (v 22)), o 28 (.fieldAddr 4 (v 27)), on (.store 1 (v 28) (v 26))])
     (.seq (R [o 2 (.mov ff)])
     (.ret)))
    (.skip))))))
 (.seq (R [o 2 (.mov tt)])
 (.ret)))
def fun77 : AFun := ⟨1, code77, [.tmp 2], 0⟩
theorem comp77 : FunOK Tryz.prog 77 fun77 :=
  FunOK.of Tryz.func77 [] [] (by kernel_rfl) (by kernel_rfl) (by decide +kernel) (by kernel_rfl)

/- (*decorum/queue.rows).at$1 -/
def code78 : ACode :=
 .seq (R [o 2 (.box 34 (v 0)), o 3 (.mov ff)])
 (.seq (R [o 4 (.fieldAddr 0 (v 2)), o 5 (.load none (v 4)), o 6 (.load none (v 1)), o 7 (.bin .eql (v 5) (v 6)), o 3 (.mov (v 7))])
 (.ret))
def fun78 : AFun := ⟨2, code78, [.tmp 3], 1⟩
theorem comp78 : FunOK Tryz.prog 78 fun78 :=
  FunOK.of Tryz.func78 [] [] (by kernel_rfl) (by kernel_rfl) (by decide +kernel) (by kernel_rfl)

/- cmp.Or[int] -/
def code79 : ACode :=
 .seq (R [o 2 (.mov (i 0))])
 (.seq (R [o 3 (.mov (i 0))])
 (.seq (.seq (R [o 6 (.mov (v 0)), o 7 (.len .slice (v 6)), o 8 (.mov (i 0))])
  (.block 0 (.loop [3, 6, 7, 8] (.seq (R [o 9 (.bin .lss (v 8) (v 7))])
    (.seq (.cond (v 9) (.skip)
     (.exit 0))
    (.seq (.block 1 (.seq (R [o 10 (.indexAddr 1 (v 6) (v 8)), o 11 (.load none (v 10)), o 5 (.mov (v 11))])
      (.seq (R [o 12 (.mov (v 5)), o 13 (.mov (v 3)), o 14 (.bin .neq (v 12) (v 13))])
      (.cond (v 14) (.seq (R [o 15 (.mov (v 5)), o 2 (.mov (v 15))])
       (.ret))
      (.skip)))))
    (R [o 16 (.bin .add (v 8) (i 1)), o 8 (.mov (v 16))])))))))
 (.seq (R [o 17 (.mov (v 3)), o 2 (.mov (v 17))])
 (.ret))))
def fun79 : AFun := ⟨1, code79, [.tmp 2], 0⟩
theorem comp79 : FunOK Tryz.prog 79 fun79 :=
  FunOK.of Tryz.func79 [[3, 6, 7, 8]] [] (by kernel_rfl) (by kernel_rfl) (by decide +kernel) (by kernel_rfl)

/- cmp.Compare[int] -/
def code80 : ACode :=
 .seq (R [o 4 (.mov (i 0))])
 (.seq (R [o 7 (.mov (v 0)), o 8 (.call (.func 91) [(v 7)]), o 5 (.mov (v 8))])
 (.seq (R [o 9 (.mov (v 1)), o 10 (.call (.func 91) [(v 9)]), o 6 (.mov (v 10))])
 (.seq (.seq (R [o 11 (.mov (v 5))])
  (.cond (v 11) (.seq (.seq (R [o 12 (.mov (v 6))])
    (.cond (v 12) (.seq (R [o 4 (.mov (i 0))])
     (.ret))
    (.skip)))
   (.seq (R [o 4 (.mov (i (-1)))])
   (.ret)))
  (.skip)))
 (.seq (.seq (R [o 13 (.mov (v 6))])
  (.cond (v 13) (.seq (R [o 4 (.mov (i 1))])
   (.ret))
  (.skip)))
 (.seq (.seq (R [o 14 (.mov (v 0)), o 15 (.mov (v 1)), o 16 (.bin .lss (v 14) (v 15))])
  (.cond (v 16) (.seq (R [o 4 (.mov (i (-1)))])
   (.ret))
  (.skip)))
 (.seq (.seq (R [o 17 (.mov (v 0)), o 18 (.mov (v 1)), o 19 (.bin .gtr (v 17) (v 18))])
  (.cond (v 19) (.seq (R [o 4 (.mov (i 1))])
   (.ret))
  (.skip)))
 (.seq (R [o 4 (.mov (i 0))])
 (.ret))))))))
def fun80 : AFun := ⟨2, code80, [.tmp 4], 0⟩
theorem comp80 : FunOK Tryz.prog 80 fun80 :=
  FunOK.of Tryz.func80 [] [] (by kernel_rfl) (by kernel_rfl) (by decide +kernel) (by kernel_rfl)

/- slices.Grow[[]byte,byte] -/
def code86 : ACode :=
 .seq (R [o 4 (.mov (.const (.slice none 0 0)))])
 (.seq (.seq (R [o 5 (.mov (v 1)), o 6 (.bin .lss (v 5) (i 0))])
  (.cond (v 6) (R [o 7 (.mkIface 9 (.const (.string ⟨#[99, 97, 110, 110, 111, 116, 32, 98, 101, 32, 110, 101, 103, 97, 116, 105, 118, 101]⟩))), on (.cap ff)])
  (.skip)))
 (.seq (.seq (R [o 8 (.mov (v 1)), o 9 (.mov (v 0)), o 10 (.cap (v 9)), o 11 (.mov (v 0)), o 12 (.len .slice (v 11)), o 13 (.bin .sub (v 10) (v 12)), o 14 (.bin .sub (v 8) (v 13)), o 1 (.mov (v 14))])
  (.seq (R [o 15 (.mov (v 1)), o 16 (.bin .gtr (v 15) (i 0))])
  (.cond (v 16) (R [o 17 (.mov (v 0)), o 18 (.mov (v 0)), o 19 (.cap (v 18)), o 20 (.slice (.slice 1) (v 17) none (some (v 19)) none), o 21 (.mov (v 1)), o 22 (.appendMake 5 1 1 [(.int .u8 0)] (v 20) (v 21)), o 23 (.mov (v 0)), o 24 (.len .slice (v 23)), o 25 (.slice (.slice 1) (v 22) none (some (v 24)) none), o 0 (.mov (v 25))])
  (.skip))))
 (.seq (R [o 26 (.mov (v 0)), o 4 (.mov (v 26))])
 (.ret))))
def fun86 : AFun := ⟨2, code86, [.tmp 4], 0⟩
theorem comp86 : FunOK Tryz.prog 86 fun86 :=
  FunOK.of Tryz.func86 [] [] (by kernel_rfl) (by kernel_rfl) (by decide +kernel) (by kernel_rfl)

/- slices.Index[[]int,int] -/
def code87 : ACode :=
 .seq (R [o 4 (.mov (i 0))])
 (.seq (.seq (R [o 6 (.mov (v 0)), o 7 (.len .slice (v 6)), o 8 (.mov (i 0))])
  (.block 0 (.loop [0, 1, 7, 8] (.seq (R [o 9 (.bin .lss (v 8) (v 7))])
    (.seq (.cond (v 9) (.skip)
     (.exit 0))
    (.seq (.block 1 (.seq (R [o 10 (.mov (v 8)), o 5 (.mov (v 10))])
      (.seq (R [o 11 (.mov (v 1)), o 12 (.mov (v 0)), o 13 (.mov (v 5)), o 14 (.indexAddr 1 (v 12) (v 13)), o 15 (.load none (v 14)), o 16 (.bin .eql (v 11) (v 15))])
      (.cond (v 16) (.seq (R [o 17 (.mov (v 5)), o 4 (.mov (v 17))])
       (.ret))
      (.skip)))))
    (R [o 18 (.bin .add (v 8) (i 1)), o 8 (.mov (v 18))])))))))
 (.seq (R [o 4 (.mov (i (-1)))])
 (.ret)))
def fun87 : AFun := ⟨2, code87, [.tmp 4], 0⟩
theorem comp87 : FunOK Tryz.prog 87 fun87 :=
  FunOK.of Tryz.func87 [[0, 1, 7, 8]] [] (by kernel_rfl) (by kernel_rfl) (by decide +kernel) (by kernel_rfl)

/- (*decorum/spill.Log).Pending -/
def code89 : ACode :=
 .seq (R [o 2 (.mov (.const (.slice none 0 0)))])
 (.seq (.seq (R [o 6 (.mov (v 0)), o 7 (.eq false .pointer (v 6) (.const (.pointer none)))])
  (.cond (v 7) (.seq (R [o 2 (.mov (.const (.slice none 0 0)))])
   (.ret))
  (.skip)))
 (.seq (R [o 3 (.mov (.const (.slice none 0 0)))])
 (.seq (.seq (R [o 8 (.mov (v 0)), o 9 (.nilCheck (v 8)), o 10 (.fieldAddr 3 (v 9)), o 11 (.load none (v 10)), o 12 (.call (.func 105) [(v 11)]), o 13 (.len .slice (v 12)), o 14 (.mov (i 0))])
  (.block 0 (.loop [0, 3, 12, 13, 14] (.seq (R [o 15 (.bin .lss (v 14) (v 13))])
    (.seq (.cond (v 15) (.skip)
     (.exit 0))
    (.seq (.block 1 (.seq (R [o 16 (.indexAddr 1 (v 12) (v 14)), o 17 (.load none (v 16)), o 5 (.mov (v 17))])
      (R [o 18 (.mov (v 3)), o 19 (.mov (v 0)), o 20 (.nilCheck (v 19)), o 21 (.fieldAddr 3 (v 20)), o 22 (.load none (v 21)), o 23 (.mov (v 5)), o 24 (.lookup .int (.agg #[(.int .i64 0), (.string ⟨#[]⟩), (.string ⟨#[]⟩), (.int .i64 0), (.int .i64 0)]) false (v 22) (v 23)), o 25 (.buildSlice 34 5 1 [(.int .i64 0), (.string ⟨#[]⟩), (.string ⟨#[]⟩), (.int .i64 0), (.int .i64 0)] [(0, 5, (v 24))]), o 26 (.append 34 5 56 (v 18) (v 25)), o 3 (.mov (v 26))])))
    (R [o 27 (.bin .add (v 14) (i 1)), o 14 (.mov (v 27))])))))))
 (.seq (R [o 28 (.mov (v 3)), o 2 (.mov (v 28))])
 (.ret)))))
def fun89 : AFun := ⟨1, code89, [.tmp 2], 0⟩
theorem comp89 : FunOK Tryz.prog 89 fun89 :=
  FunOK.of Tryz.func89 [[0, 3, 12, 13, 14]] [] (by kernel_rfl) (by kernel_rfl) (by decide +kernel) (by kernel_rfl)

/- (*decorum/disk.Disk).Drop -/
def code90 : ACode :=
 .seq (R [o 3 (.box 3 (v 1)), o 4 (.mov (i 0))])
 (.seq (.seq (R [o 7 (.mov (v 0)), o 8 (.eq false .pointer (v 7) (.const (.pointer none)))])
  (.cond (v 8) (.seq (R [o 4 (.mov (i 1))])
   (.ret))
  (.skip)))
 (.seq (.seq (R [o 10 (.mov (v 0)), o 11 (.nilCheck (v 10)), o 12 (.fieldAddr 1 (v 11)), o 13 (.load none (v 12)), o 14 (.load none (v 3)), o 15 (.lookup .int (.slice none 0 0) true (v 13) (v 14)), o 9 (.mov (v 15)), o 16 (.extract (v 9) 0), o 17 (.extract (v 9) 1), o 5 (.mov (v 16)), o 6 (.mov (v 17))])
  (.seq (R [o 18 (.mov (v 6)), o 19 (.un .not (v 18))])
  (.cond (v 19) (.seq (R [o 4 (.mov (i 4))])
   (.ret))
  (.skip))))
 (.seq (.seq (R [o 20 (.mov (v 0)), o 21 (.call (.func 77) [(v 20)]), o 22 (.un .not (v 21))])
  (.cond (v 22) (.seq (R [o 4 (.mov (i 7))])
   (.ret))
  (.skip)))
 (.seq (R [o 23 (.mov (v 0)), o 24 (.nilCheck (v 23)), o 25 (.fieldAddr 1 (v 24)), o 26 (.load none (v 25)), o 27 (.load none (v 3)), on (.delete .int (v 26) (v 27))])
 (.seq (R [o 28 (.mov (v 0)), o 29 (.mov (v 0)), o 30 (.nilCheck (v 29)), o 31 (.fieldAddr 2 (v 30)), o 32 (.load none (v 31)), o 33 (.mkFunc (.func 107) [] [(v 3)]), o 34 (.call (.func 106) [(v 32), (v 33)]), o 35 (.nilCheck (v 28)), o 36 (.fieldAddr 2 (v 35)), on (.store 1 (v 36) (v 34))])
 (.seq (R [o 4 (.mov (i 0))])
 (.ret)))))))
def fun90 : AFun := ⟨2, code90, [.tmp 4], 0⟩
theorem comp90 : FunOK Tryz.prog 90 fun90 :=
  FunOK.of Tryz.func90 [] [] (by kernel_rfl) (by kernel_rfl) (by decide +kernel) (by kernel_rfl)

/- cmp.isNaN[int] -/
def code91 : ACode :=
 .seq (R [o 2 (.mov ff)])
 (.seq (R [o 3 (.mov (v 0)), o 4 (.mov (v 0)), o 5 (.bin .neq (v 3) (v 4)), o 2 (.mov (v 5))])
 (.ret))
def fun91 : AFun := ⟨1, code91, [.tmp 2], 0⟩
theorem comp91 : FunOK Tryz.prog 91 fun91 :=
  FunOK.of Tryz.func91 [] [] (by kernel_rfl) (by kernel_rfl) (by decide +kernel) (by kernel_rfl)

/- slices.DeleteFunc[[]decorum/disk.write,decorum/disk.write] -/
def code106 : ACode :=
 .seq (R [o 4 (.mov (.const (.slice none 0 0)))])
 (.seq (R [o 8 (.mov (v 0)), o 9 (.mov (v 1)), o 10 (.call (.func 115) [(v 8), (v 9)]), o 5 (.mov (v 10))])
 (.seq (.seq (R [o 11 (.mov (v 5)), o 12 (.bin .eql (v 11) (i (-1)))])
  (.cond (v 12) (.seq (R [o 13 (.mov (v 0)), o 4 (.mov (v 13))])
   (.ret))
  (.skip)))
 (.seq (.seq (R [o 14 (.mov (v 5)), o 15 (.bin .add (v 14) (i 1)), o 6 (.mov (v 15))])
  (.block 0 (.loop [0, 1, 5, 6] (.seq (.seq (R [o 16 (.mov (v 6)), o 17 (.mov (v 0)), o 18 (.len .slice (v 17)), o 19 (.bin .lss (v 16) (v 18))])
     (.cond (v 19) (.skip)
     (.exit 0)))
    (.seq (.block 1 (.seq (R [o 22 (.mov (v 0)), o 23 (.mov (v 6)), o 24 (.indexAddr 2 (v 22) (v 23)), o 25 (.load (some 2) (v 24)), o 7 (.alloc 143 [(.int .i64 0), (.int .i64 0)]), on (.store 2 (v 7) (v 25))])
      (.seq (R [o 26 (.mov (v 1)), o 27 (.load (some 2) (v 7)), o 28 (.call (v 26) [(v 27)]), o 29 (.un .not (v 28))])
      (.cond (v 29) (.seq (R [o 30 (.mov (v 0)), o 31 (.mov (v 5)), o 32 (.load (some 2) (v 7)), o 33 (.indexAddr 2 (v 30) (v 31)), on (.store 2 (v 33) (v 32))])
       (R [o 34 (.mov (v 5)), o 35 (.bin .add (v 34) (i 1)), o 5 (.mov (v 35))]))
      (.skip)))))
    (R [o 20 (.mov (v 6)), o 21 (.bin .add (v 20) (i 1)), o 6 (.mov (v 21))]))))))
 (.seq (R [o 36 (.mov (v 0)), o 37 (.mov (v 5)), o 38 (.slice (.slice 2) (v 36) (some (v 37)) none none), on (.clear 2 [(.int .i64 0), (.int .i64 0)] (v 38))])
 (.seq (R [o 39 (.mov (v 0)), o 40 (.mov (v 5)), o 41 (.slice (.slice 2) (v 39) none (some (v 40)) none), o 4 (.mov (v 41))])
 (.ret))))))
def fun106 : AFun := ⟨2, code106, [.tmp 4], 0⟩
theorem comp106 : FunOK Tryz.prog 106 fun106 :=
  FunOK.of Tryz.func106 [[0, 1, 5, 6]] [] (by kernel_rfl) (by kernel_rfl) (by decide +kernel) (by kernel_rfl)

/- (*decorum/disk.Disk).Drop$1 -/
def code107 : ACode :=
 .seq (R [o 2 (.box 143 (v 0)), o 3 (.mov ff)])
 (.seq (R [o 4 (.fieldAddr 0 (v 2)), o 5 (.load none (v 4)), o 6 (.load none (v 1)), o 7 (.bin .eql (v 5) (v 6)), o 3 (.mov (v 7))])
 (.ret))
def fun107 : AFun := ⟨2, code107, [.tmp 3], 1⟩
theorem comp107 : FunOK Tryz.prog 107 fun107 :=
  FunOK.of Tryz.func107 [] [] (by kernel_rfl) (by kernel_rfl) (by decide +kernel) (by kernel_rfl)

/- slices.IndexFunc[[]decorum/disk.write,decorum/disk.write] -/
def code115 : ACode :=
 .seq (R [o 4 (.mov (i 0))])
 (.seq (.seq (R [o 6 (.mov (v 0)), o 7 (.len .slice (v 6)), o 8 (.mov (i 0))])
  (.block 0 (.loop [0, 1, 7, 8] (.seq (R [o 9 (.bin .lss (v 8) (v 7))])
    (.seq (.cond (v 9) (.skip)
     (.exit 0))
    (.seq (.block 1 (.seq (R [o 10 (.mov (v 8)), o 5 (.mov (v 10))])
      (.seq (R [o 11 (.mov (v 1)), o 12 (.mov (v 0)), o 13 (.mov (v 5)), o 14 (.indexAddr 2 (v 12) (v 13)), o 15 (.load (some 2) (v 14)), o 16 (.call (v 11) [(v 15)])])
      (.cond (v 16) (.seq (R [o 17 (.mov (v 5)), o 4 (.mov (v 17))])
       (.ret))
      (.skip)))))
    (R [o 18 (.bin .add (v 8) (i 1)), o 8 (.mov (v 18))])))))))
 (.seq (R [o 4 (.mov (i (-1)))])
 (.ret)))
def fun115 : AFun := ⟨2, code115, [.tmp 4], 1⟩
theorem comp115 : FunOK Tryz.prog 115 fun115 :=
  FunOK.of Tryz.func115 [[0, 1, 7, 8]] [] (by kernel_rfl) (by kernel_rfl) (by decide +kernel) (by kernel_rfl)

end Go.Proofs.YtehgdocbabaldaaGreat
