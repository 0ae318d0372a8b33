/-
  FrontPlays: the parts of the law; what holds at each act.
-/
import Derived.Test.YtehgdocbabaldaaGreatFW4
set_option maxRecDepth 100000
set_option linter.unusedVariables false
set_option linter.unusedSimpArgs false
namespace Go.Proofs.YtehgdocbabaldaaGreat
open Go Go.Abs Go.Abs.K

def has4 : ACode :=
 (.seq (R [o 27 (.mov ff)])
      (.seq (.seq (R [o 28 (.mov (i 0))])
       (.block 5 (.loop [2, 7, 9, 10, 11, 12, 13, 14, 15, 16, 17, 27, 28] (.seq (.seq (R [o 240 (.mov (v 28)), o 241 (.mov (v 12)), o 242 (.mov (v 17)), o 243 (.indexAddr 1 (v 241) (v 242)), o 244 (.load none (v 243)), o 245 (.len .slice (v 244)), o 246 (.bin .lss (v 240) (v 245))])
          (.cond (v 246) (.skip)
          (.exit 5)))
         (.seq (.block 6 (R [o 249 (.mov (v 27)), o 250 (.mov (v 249)), of 250 251 (.mov (v 12)), of 250 252 (.mov (v 17)), of 250 253 (.indexAddr 1 (v 251) (v 252)), of 250 254 (.load none (v 253)), of 250 255 (.mov (v 28)), of 250 256 (.indexAddr 5 (v 254) (v 255)), of 250 257 (.fieldAddr 2 (v 256)), of 250 258 (.load none (v 257)), of 250 259 (.fieldAddr 3 (v 16)), of 250 260 (.load none (v 259)), of 250 261 (.bin .eql (v 258) (v 260)), o 262 (.pick (v 250) tt (v 261)), o 27 (.mov (v 262))]))
         (R [o 247 (.mov (v 28)), o 248 (.bin .add (v 247) (i 1)), o 28 (.mov (v 248))]))))))
      (.seq (R [o 263 (.mov (v 11)), o 264 (.mov (v 17)), o 265 (.fieldAddr 3 (v 16)), o 266 (.load none (v 265)), o 267 (.call (.func 23) [(v 263), (v 264), (v 266)]), o 268 (.mov (v 27)), o 269 (.eq true .scalar (v 267) (v 268))])
      (.cond (v 269) (.seq (R [o 6 (.mov ff)])
       (.ret))
      (.skip)))))
def chk4 : ACode :=
 (.seq (R [o 191 (.mov (v 11)), o 192 (.mov (v 17)), o 193 (.call (.func 12) [(v 191), (v 192)]), o 190 (.mov (v 193)), o 194 (.extract (v 190) 0), o 195 (.extract (v 190) 1), o 25 (.alloc 34 [(.int .i64 0), (.string ⟨#[]⟩), (.string ⟨#[]⟩), (.int .i64 0), (.int .i64 0)]), on (.store 5 (v 25) (v 194)), o 26 (.mov (v 195))])
      (.seq (.seq (D [o 196 (.mov (v 26)), o 197 (.mov (v 12)), o 198 (.mov (v 17)), o 199 (.indexAddr 1 (v 197) (v 198)), o 200 (.load none (v 199)), o 201 (.len .slice (v 200)), o 202 (.bin .gtr (v 201) (i 0)), o 203 (.eq true .scalar (v 196) (v 202)), o 204 (.mov (v 203)), of 204 205 (.mov (v 26)), of 204 206 (.mov (v 205)), ot 206 207 (.load (some 5) (v 25)), ot 206 208 (.mov (v 12)), ot 206 209 (.mov (v 17)), ot 206 210 (.indexAddr 1 (v 208) (v 209)), ot 206 211 (.load none (v 210)), ot 206 212 (.indexAddr 5 (v 211) (i 0)), ot 206 213 (.load (some 5) (v 212)), ot 206 214 (.eq true (.plain [.int, .string, .string, .int, .int]) (v 207) (v 213)), of 204 215 (.pick (v 206) (v 214) ff), o 216 (.pick (v 204) tt (v 215)), o 217 (.mov (v 216)), of 217 218 (.mov (v 11)), of 217 219 (.mov (v 17)), of 217 220 (.call (.func 22) [(v 218), (v 219)]), of 217 221 (.mov (v 12)), of 217 222 (.mov (v 17)), of 217 223 (.indexAddr 1 (v 221) (v 222)), of 217 224 (.load none (v 223)), of 217 225 (.len .slice (v 224)), of 217 226 (.bin .neq (v 220) (v 225)), o 227 (.pick (v 217) tt (v 226)), o 228 (.mov (v 227)), of 228 229 (.mov (v 11)), of 228 230 (.call (.func 16) [(v 229)]), of 228 231 (.mov (v 13)), of 228 232 (.bin .neq (v 230) (v 231)), o 233 (.pick (v 228) tt (v 232)), o 234 (.mov (v 233)), of 234 235 (.mov (v 11)), of 234 236 (.call (.func 14) [(v 235)]), of 234 237 (.mov (v 10)), of 234 238 (.bin .gtr (v 236) (v 237)), o 239 (.pick (v 234) tt (v 238))] ⟨[], [24], []⟩)
       (.cond (v 239) (.seq (R [o 6 (.mov ff)])
        (.ret))
       (.skip)))
      has4))
def ins4 : ACode :=
 (.seq (R [o 133 (.mov (v 12)), o 134 (.mov (v 17)), o 135 (.mov (v 12)), o 136 (.mov (v 17)), o 137 (.indexAddr 1 (v 135) (v 136)), o 138 (.load none (v 137)), o 139 (.load (some 5) (v 18)), o 140 (.call (.func 18) [(v 138), (v 139)]), o 141 (.indexAddr 1 (v 133) (v 134)), on (.store 1 (v 141) (v 140))])
         (R [o 142 (.mov (v 13)), o 143 (.bin .add (v 142) (i 1)), o 13 (.mov (v 143))]))
def way4 : ACode :=
 (.seq (.seq (R [o 100 (.fieldAddr 0 (v 16)), o 101 (.load none (v 100)), o 102 (.bin .eql (v 101) (i 0))])
          (.cond (v 102) (.seq (R [o 103 (.mov (v 11)), o 104 (.mov (v 17)), o 105 (.load (some 5) (v 18)), o 106 (.call (.func 11) [(v 103), (v 104), (v 105)]), o 19 (.mov (v 106))])
           (.seq (.seq (R [o 107 (.mov (v 12)), o 108 (.mov (v 17)), o 109 (.indexAddr 1 (v 107) (v 108)), o 110 (.load none (v 109)), o 111 (.len .slice (v 110)), o 112 (.mov (v 9)), o 113 (.bin .geq (v 111) (v 112))])
            (.cond (v 113) (.seq (.seq (R [o 114 (.mov (v 19)), o 115 (.bin .neq (v 114) (i 5))])
              (.cond (v 115) (.seq (R [o 6 (.mov ff)])
               (.ret))
              (.skip)))
             (.exit 1))
            (.skip)))
           (.seq (R [o 116 (.mov (v 19)), o 117 (.bin .neq (v 116) (i 0)), o 118 (.mov (v 117)), of 118 119 (.mov (v 11)), of 118 120 (.mov (v 17)), of 118 121 (.load (some 5) (v 18)), of 118 122 (.call (.func 11) [(v 119), (v 120), (v 121)]), of 118 123 (.bin .neq (v 122) (i 10)), o 124 (.pick (v 118) tt (v 123))])
           (.cond (v 124) (.seq (R [o 6 (.mov ff)])
            (.ret))
           (.skip)))))
          (.seq (R [o 125 (.mov (v 11)), o 126 (.mov (v 17)), o 127 (.load (some 5) (v 18)), o 128 (.call (.func 17) [(v 125), (v 126), (v 127)])])
           (R [o 129 (.mov (v 11)), o 130 (.mov (v 17)), o 131 (.load (some 5) (v 18)), o 132 (.call (.func 17) [(v 129), (v 130), (v 131)])]))))
         ins4)
def put4 : ACode :=
 (.seq (R [o 86 (.mov (v 14)), o 87 (.bin .add (v 86) (i 1)), o 14 (.mov (v 87))])
         (.seq (R [o 88 (.mov (v 14)), o 89 (.fieldAddr 3 (v 16)), o 90 (.load none (v 89)), o 91 (.fieldAddr 4 (v 16)), o 92 (.load none (v 91)), o 93 (.bin .rem (v 92) (.const (.int .u8 8))), o 94 (.conv (.int .i64) (v 93)), o 95 (.build [(.int .i64 0), (.string ⟨#[]⟩), (.string ⟨#[]⟩), (.int .i64 0), (.int .i64 0)] [(0, 1, (v 88)), (1, 1, (.const (.string ⟨#[104]⟩))), (2, 1, (v 90)), (3, 1, (v 94))]), o 18 (.alloc 34 [(.int .i64 0), (.string ⟨#[]⟩), (.string ⟨#[]⟩), (.int .i64 0), (.int .i64 0)]), on (.store 5 (v 18) (v 95))])
         (.seq (.seq (R [o 96 (.mov (v 7)), o 97 (.load (some 5) (v 18)), o 98 (.call (.func 10) [(v 96), (v 97)]), o 99 (.bin .neq (v 98) (i 0))])
          (.cond (v 99) (.seq (R [o 6 (.mov ff)])
           (.ret))
          (.skip)))
         way4)))
def drop4 : ACode :=
 (.seq (R [o 20 (.mov ff)])
          (.seq (.seq (R [o 21 (.mov (i 0))])
           (.block 3 (.loop [2, 7, 9, 10, 11, 12, 13, 14, 15, 16, 17, 20, 21] (.seq (.seq (R [o 146 (.mov (v 21)), o 147 (.bin .lss (v 146) (i 4))])
              (.cond (v 147) (.skip)
              (.exit 3)))
             (.seq (.block 4 (.seq (R [o 150 (.mov (v 12)), o 151 (.mov (v 21)), o 152 (.indexAddr 1 (v 150) (v 151)), o 153 (.load none (v 152)), o 154 (.fieldAddr 2 (v 16)), o 155 (.load none (v 154)), o 156 (.call (.func 19) [(v 153), (v 155)]), o 22 (.mov (v 156))])
               (.seq (R [o 157 (.mov (v 22)), o 158 (.bin .geq (v 157) (i 0))])
               (.cond (v 158) (.seq (R [o 160 (.mov (v 11)), o 161 (.fieldAddr 2 (v 16)), o 162 (.load none (v 161)), o 163 (.call (.func 20) [(v 160), (v 162)]), o 159 (.mov (v 163)), o 164 (.extract (v 159) 0), o 165 (.extract (v 159) 1), o 23 (.mov (v 164)), o 24 (.mov (v 165))])
                (.seq (.seq (R [o 166 (.mov (v 24)), o 167 (.un .not (v 166)), o 168 (.mov (v 167)), of 168 169 (.mov (v 23)), of 168 170 (.mov (v 21)), of 168 171 (.bin .neq (v 169) (v 170)), o 172 (.pick (v 168) tt (v 171))])
                 (.cond (v 172) (.seq (R [o 6 (.mov ff)])
                  (.ret))
                 (.skip)))
                (.seq (R [o 173 (.mov (v 12)), o 174 (.mov (v 21)), o 175 (.mov (v 12)), o 176 (.mov (v 21)), o 177 (.indexAddr 1 (v 175) (v 176)), o 178 (.load none (v 177)), o 179 (.mov (v 22)), o 180 (.call (.func 21) [(v 178), (v 179)]), o 181 (.indexAddr 1 (v 173) (v 174)), on (.store 1 (v 181) (v 180))])
                (.seq (R [o 20 (.mov tt)])
                (R [o 182 (.mov (v 13)), o 183 (.bin .sub (v 182) (i 1)), o 13 (.mov (v 183))])))))
               (.skip)))))
             (R [o 148 (.mov (v 21)), o 149 (.bin .add (v 148) (i 1)), o 21 (.mov (v 149))]))))))
          (.seq (R [o 184 (.mov (v 11)), o 185 (.fieldAddr 2 (v 16)), o 186 (.load none (v 185)), o 187 (.call (.func 15) [(v 184), (v 186)]), o 188 (.mov (v 20)), o 189 (.eq true .scalar (v 187) (v 188))])
          (.cond (v 189) (.seq (R [o 6 (.mov ff)])
           (.ret))
          (.skip)))))
def rest4 : ACode :=
 (.seq (.seq (R [o 81 (.fieldAddr 0 (v 16)), o 82 (.load none (v 81))])
       (.block 2 (.seq (.seq (R [o 84 (.bin .eql (v 82) (i 0)), o 83 (.mov (v 84))])
         (.cond (v 83) (.skip)
         (R [o 85 (.bin .eql (v 82) (i 1)), o 83 (.mov (v 85))])))
        (.cond (v 83) put4
        (.seq (R [o 145 (.bin .eql (v 82) (i 2)), o 144 (.mov (v 145))])
         (.cond (v 144) drop4
         (.skip)))))))
      chk4)
theorem code4_eq : code4 =
 .seq (R [o 6 (.mov ff)])
 (.seq (R [o 30 (.call (.func 7) [(i 16)]), o 31 (.call (.func 6) [(v 30), (i 7)]), o 29 (.mov (v 31)), o 32 (.extract (v 29) 0), o 33 (.extract (v 29) 1), o 7 (.mov (v 32)), o 8 (.mov (v 33))])
 (.seq (.seq (R [o 34 (.mov (v 8)), o 35 (.bin .neq (v 34) (i 0)), o 36 (.mov (v 35)), of 36 37 (.mov (v 7)), of 36 38 (.eq false .pointer (v 37) (.const (.pointer none))), o 39 (.pick (v 36) tt (v 38))])
  (.cond (v 39) (.seq (R [o 6 (.mov ff)])
   (.ret))
  (.skip)))
 (.seq (R [o 40 (.mov (v 0)), o 41 (.bin .rem (v 40) (.const (.int .u8 12))), o 42 (.conv (.int .i64) (v 41)), o 43 (.mov (v 1)), o 44 (.bin .rem (v 43) (.const (.int .u8 9))), o 45 (.conv (.int .i64) (v 44)), o 46 (.bin .add (v 45) (i 1)), o 9 (.mov (v 42)), o 10 (.mov (v 46))])
 (.seq (R [o 47 (.mov (v 9)), o 48 (.mov (v 10)), o 49 (.mov (v 7)), o 50 (.call (.func 8) [(v 47), (v 48), (v 49)]), o 11 (.mov (v 50))])
 (.seq (R [o 51 (.mkSlice 47 1 24 [(.slice none 0 0)] (i 4) (i 4)), o 12 (.mov (v 51))])
 (.seq (R [o 13 (.mov (i 0)), o 14 (.mov (i 0))])
 (.seq (.seq (R [o 15 (.mov (i 0))])
  (.block 0 (.loop [2, 7, 9, 10, 11, 12, 13, 14, 15] (.seq (.seq (R [o 52 (.mov (v 15)), o 53 (.mov (v 2)), o 54 (.len .slice (v 53)), o 55 (.bin .lss (v 52) (v 54)), o 56 (.mov (v 55)), ot 56 57 (.mov (v 15)), ot 56 58 (.bin .lss (v 57) (i 60)), o 59 (.pick (v 56) (v 58) ff)])
     (.cond (v 59) (.skip)
     (.exit 0)))
    (.seq (.block 1 (.seq (R [o 62 (.mov (v 2)), o 63 (.mov (v 15)), o 64 (.indexAddr 5 (v 62) (v 63)), o 65 (.load (some 5) (v 64)), o 16 (.alloc 46 [(.int .i64 0), (.int .i64 0), (.int .i64 0), (.string ⟨#[]⟩), (.int .u8 0)]), on (.store 5 (v 16) (v 65))])
      (.seq (.seq (R [o 66 (.fieldAddr 3 (v 16)), o 67 (.load none (v 66)), o 68 (.len .string (v 67)), o 69 (.bin .gtr (v 68) (i 100)), o 70 (.mov (v 69)), of 70 71 (.mov (v 14)), of 70 72 (.bin .gtr (v 71) (i 25)), o 73 (.pick (v 70) tt (v 72))])
       (.cond (v 73) (.exit 1)
       (.skip)))
      (.seq (R [o 74 (.fieldAddr 1 (v 16)), o 75 (.load none (v 74)), o 76 (.bin .rem (v 75) (i 4)), o 17 (.mov (v 76))])
      (.seq (.seq (R [o 77 (.mov (v 17)), o 78 (.bin .lss (v 77) (i 0))])
       (.cond (v 78) (R [o 79 (.mov (v 17)), o 80 (.bin .add (v 79) (i 4)), o 17 (.mov (v 80))])
       (.skip)))
      rest4)))))
    (R [o 60 (.mov (v 15)), o 61 (.bin .add (v 60) (i 1)), o 15 (.mov (v 61))]))))))
 (.seq (R [o 270 (.call (.func 9) []), o 6 (.mov (v 270))])
 (.ret))))))))) := rfl

structure FAct where
  what : Int
  host : Int
  n : Int
  path : ByteArray
  prio : Int
def FAct.cells (a : FAct) : List Value := [i64 a.what, i64 a.host, i64 a.n, .string a.path, .int .u8 a.prio]

def Same (ks : List Nat) (e e' : Env) : Prop := ∀ t ∈ ks, e'.get t = e.get t
theorem Same.refl (ks : List Nat) (e : Env) : Same ks e e := fun _ _ => rfl
theorem Same.trans {ks : List Nat} {e e' e'' : Env} (h : Same ks e e') (k : Same ks e' e'') : Same ks e e'' := fun t ht => (k t ht).trans (h t ht)
theorem Same.cons {ks : List Nat} {e e' : Env} {x : Nat} {v : Value} (hx : x ∉ ks) (h : Same ks e e') : Same ks e ((x, v) :: e') := fun t ht => by
  simp only [Env.get]
  have hne : ¬ t = x := fun h => hx (h ▸ ht)
  rw [if_neg hne]
  exact h t ht
abbrev k4 : List Nat := [2, 7, 9, 10, 11, 12, 14, 15, 16, 17]

theorem insI_full (r : RQ) (L : List RQ) : Q.insI (fullQ r) (L.map fullQ) = Q.insI (bareQ r) (L.map bareQ) := by
  induction L with
  | nil => rfl
  | cons a L ih => simp only [List.map_cons, Q.insI, before_full, ih]
theorem insL_full (r : RQ) (L : List RQ) : Q.insL (fullQ r) (L.map fullQ) = (insR r L).map fullQ := by
  simp only [Q.insL, insI_full, insR, List.map_append, List.map_cons, List.map_take, List.map_drop]
theorem posL_full (x : Int) (L : List RQ) : Q.posL x (L.map fullQ) = Q.posL x (L.map bareQ) := by
  induction L with
  | nil => rfl
  | cons a L ih =>
    simp only [List.map_cons, Q.posL, ih]
    rfl

structure RowsR (s0 s : St) (rb : Nat) (R : List Value) (T : Nat → List RQ) (X : Nat → Prop) : Prop where
  get : s.heap.get rb = some (.cells R 47 1 false)
  lt : rb < s.next
  low : s0.next ≤ rb
  nX : ¬ X rb
  len : R.length = 4
  row : ∀ j, j < 4 → ∃ v, R[j]? = some v ∧ RowV 5 s v (Q.cellsL ((T j).map fullQ)) ∧ ∀ x ∈ wrOf v, ¬ X x ∧ x ≠ rb

theorem RowsR.step {s0 s s' : St} {rb : Nat} {R : List Value} {T : Nat → List RQ} {X X' : Nat → Prop} {W : List Nat} (h : RowsR s0 s rb R T X) (hk : Kept W s s') (hW : ∀ x ∈ W, X x ∨ s.next ≤ x) (hX : ∀ x, X' x → X x ∨ s.next ≤ x) : RowsR s0 s' rb R T X' := by
  have hlt := h.lt
  have hno : ∀ x, x < s.next → ¬ X x → x ∉ W := fun x hx hn hw => by
    rcases hW x hw with h' | h'
    · exact hn h'
    · omega
  have hno' : ∀ x, x < s.next → ¬ X x → ¬ X' x := fun x hx hn hw => by
    rcases hX x hw with h' | h'
    · exact hn h'
    · omega
  refine ⟨?_, Nat.lt_of_lt_of_le h.lt hk.1, h.low, hno' _ h.lt h.nX, h.len, fun j hj => ?_⟩
  · rw [hk.2 rb h.lt (hno _ h.lt h.nX)]; exact h.get
  · obtain ⟨v, h1, h2, h3⟩ := h.row j hj
    have hv := Q.wrOf_rowV h2
    exact ⟨v, h1, h2.keptT hk fun x hx => hno x (hv x hx) (h3 x hx).1, fun x hx => ⟨hno' x (hv x hx) (h3 x hx).1, (h3 x hx).2⟩⟩

theorem RowsR.set {s0 s : St} {rb : Nat} {R : List Value} {T : Nat → List RQ} {X : Nat → Prop} (h : RowsR s0 s rb R T X) {j : Nat} (hj : j < 4) {v : Value} {L : List RQ} (hv : RowV 5 s v (Q.cellsL (L.map fullQ))) (hw : ∀ x ∈ wrOf v, ¬ X x ∧ x ≠ rb) :
    RowsR s0 ⟨s.heap.put rb (some (.cells (R.set j v) 47 1 false)), s.next⟩ rb (R.set j v) (fun k => if k = j then L else T k) X := by
  have hk : Kept [rb] s ⟨s.heap.put rb (some (.cells (R.set j v) 47 1 false)), s.next⟩ := kept_put1 (Nat.le_refl _)
  refine ⟨by simp only [Heap.get_put, if_true], h.lt, h.low, h.nX, by rw [List.length_set]; exact h.len, fun k hkk => ?_⟩
  by_cases e : k = j
  · subst e
    refine ⟨v, by rw [List.getElem?_set_self (by rw [h.len]; exact hj)], ?_, hw⟩
    simp only [if_true]
    exact hv.keptT hk fun x hx hx' => (hw x hx).2 (List.mem_singleton.1 hx')
  · obtain ⟨v', h1, h2, h3⟩ := h.row k hkk
    refine ⟨v', by rw [List.getElem?_set_ne (fun h => e h.symm)]; exact h1, ?_, h3⟩
    simp only [e, if_false]
    exact h2.keptT hk fun x hx hx' => (h3 x hx).2 (List.mem_singleton.1 hx')

theorem RowsR.congr {s0 s : St} {rb : Nat} {R : List Value} {T T' : Nat → List RQ} {X : Nat → Prop} (h : RowsR s0 s rb R T X) (he : ∀ j, j < 4 → T j = T' j) : RowsR s0 s rb R T' X :=
  ⟨h.get, h.lt, h.low, h.nX, h.len, fun j hj => by rw [← he j hj]; exact h.row j hj⟩

structure PLc (s0 s : St) (l p f : Nat) (D : DM) (L : LM) (M : FM) (O OD V OF : List Nat) (most room : Int) (m n : Nat) : Prop where
  kept : Kept [] s0 s
  duo : Duo s l p f D L M O OD V OF
  zed : Zed D L m
  fi : FI M L
  per : M.per = most
  mem : M.mem = room
  oth : ∀ k, ¬ (0 ≤ k ∧ k < 4) → rowsQ M.qs k = []
  ids : ∀ x, (lookG M.host x).isSome = true → x ≤ n
  hl : M.host.length ≤ n
  len : ∀ k, (rowsQ M.qs k).length ≤ n
  low : ∀ x, x ∈ O ∨ x ∈ OD ∨ x ∈ OF → s0.next ≤ x

def Xs (O OD V OF : List Nat) (x : Nat) : Prop := x ∈ O ∨ x ∈ OD ∨ x ∈ V ∨ x ∈ OF

theorem PLc.lt {s0 s : St} {l p f : Nat} {D : DM} {L : LM} {M : FM} {O OD V OF : List Nat} {most room : Int} {m n : Nat} (h : PLc s0 s l p f D L M O OD V OF most room m n) : ∀ x, Xs O OD V OF x → x < s.next := by
  rintro x (hx | hx | hx | hx)
  · exact h.duo.ltS x (.inl hx)
  · exact h.duo.ltS x (.inr (.inl hx))
  · exact h.duo.ltS x (.inr (.inr hx))
  · exact h.duo.fr.lt x hx

theorem PLc.step {s0 s s' : St} {l p f : Nat} {D : DM} {L : LM} {M : FM} {O OD V OF T : List Nat} {most room : Int} {m n : Nat} (h : PLc s0 s l p f D L M O OD V OF most room m n) (hk : Kept T s s') (hT : ∀ x ∈ T, ¬ Xs O OD V OF x ∧ s0.next ≤ x) : PLc s0 s' l p f D L M O OD V OF most room m n :=
  ⟨h.kept.comp hk fun x hx => .inr (hT x hx).2, h.duo.kept hk fun x hx => ⟨fun e => (hT x hx).1 (.inl e), fun e => (hT x hx).1 (.inr (.inl e)), fun e => (hT x hx).1 (.inr (.inr (.inl e))), fun e => (hT x hx).1 (.inr (.inr (.inr e)))⟩, h.zed, h.fi, h.per, h.mem, h.oth, h.ids, h.hl, h.len, h.low⟩

theorem PLc.log {s0 s s' : St} {l p f : Nat} {D D' : DM} {L L' : LM} {M : FM} {O OD V OF OD' V' : List Nat} {most room : Int} {m n : Nat} {r : RQ} (h : PLc s0 s l p f D L M O OD V OF most room m n) (hs : SRep s' l p D' L' O OD' V') (hg : GrownS s s' O OD V OD' V') (hz : Zed D' L' (m + 1)) (hno : lookG M.host r.id = none) (hl : L'.live = putG L.live r.id r) :
    PLc s0 s' l p f D' L' M O OD' V' OF most room (m + 1) n := by
  have hn := h.kept.1
  refine ⟨h.kept.comp hg.k fun x hx => .inr ?_, h.duo.log hs hg, hz, h.fi.live hno hl, h.per, h.mem, h.oth, h.ids, h.hl, h.len, fun x hx => ?_⟩
  · rcases List.mem_append.1 hx with hx | hx
    · exact h.low x (.inl hx)
    · exact h.low x (.inr (.inl hx))
  · rcases hx with hx | hx | hx
    · exact h.low x (.inl hx)
    · rcases hg.o x hx with h' | h'
      · exact h.low x (.inr (.inl h'))
      · omega
    · exact h.low x (.inr (.inr hx))

theorem PLc.low' {s0 s : St} {l p f : Nat} {D : DM} {L : LM} {M : FM} {O OD V OF OF' : List Nat} {most room : Int} {m n : Nat} (h : PLc s0 s l p f D L M O OD V OF most room m n) (hO : ∀ x ∈ OF', x ∈ OF ∨ s.next ≤ x) : ∀ x, x ∈ O ∨ x ∈ OD ∨ x ∈ OF' → s0.next ≤ x := by
  have hn := h.kept.1
  rintro x (hx | hx | hx)
  · exact h.low x (.inl hx)
  · exact h.low x (.inr (.inl hx))
  · rcases hO x hx with h' | h'
    · exact h.low x (.inr (.inr h'))
    · omega

theorem PLc.qs {s0 s s' : St} {l p f : Nat} {D : DM} {L : LM} {M : FM} {O OD V OF OF' : List Nat} {most room : Int} {m n : Nat} {qs' : List (Int × QN)} (h : PLc s0 s l p f D L M O OD V OF most room m n) (hf : FRep s' f l { M with qs := qs' } OF') (hk : Kept OF s s') (hO : ∀ x ∈ OF', x ∈ OF ∨ s.next ≤ x) (hq : ∀ j, rowsQ qs' j = rowsQ M.qs j) :
    PLc s0 s' l p f D L { M with qs := qs' } O OD V OF' most room m n :=
  ⟨h.kept.comp hk fun x hx => .inr (h.low x (.inr (.inr hx))), h.duo.front hf hk hO, h.zed, h.fi.qs hq, h.per, h.mem, fun k hk => (hq k).trans (h.oth k hk), h.ids, h.hl, fun k => by rw [show (({ M with qs := qs' } : FM)).qs = qs' from rfl, hq]; exact h.len k, h.low' hO⟩

theorem PLc.add {s0 s s' : St} {l p f : Nat} {D : DM} {L : LM} {M : FM} {O OD V OF OF' : List Nat} {most room : Int} {m n : Nat} {qs' : List (Int × QN)} {r : RQ} {k : Nat} (h : PLc s0 s l p f D L M O OD V OF most room m n) (h1 : 1 ≤ room) (hk4 : k < 4) (hid : r.id = ((n + 1 : Nat) : Int)) (hno : lookG M.host r.id = none) (hlv : lookG L.live r.id = some r)
    (hf : FRep s' f l (keepM { M with qs := qs', host := putG M.host r.id (k : Int) } r false) OF') (hk : Kept OF s s') (hO : ∀ x ∈ OF', x ∈ OF ∨ s.next ≤ x)
    (hq : ∀ j, rowsQ qs' j = if j = (k : Int) then insR r (rowsQ M.qs k) else rowsQ M.qs j) :
    PLc s0 s' l p f D L (keepM { M with qs := qs', host := putG M.host r.id (k : Int) } r false) O OD V OF' most room m (n + 1) := by
  have hi := h.fi.ins (r := r) hno hlv hq
  obtain ⟨k1, k2, k3, k4⟩ := keepM_qs { M with qs := qs', host := putG M.host r.id (k : Int) } r false
  have hm : r ∈ rowsQ qs' (k : Int) := by rw [hq, if_pos rfl, insR_mem]; exact .inl rfl
  refine ⟨h.kept.comp hk fun x hx => .inr (h.low x (.inr (.inr hx))), h.duo.front hf hk hO, h.zed, hi.keep (k := (k : Int)) hm (by rw [show ({ M with qs := qs', host := putG M.host r.id (k : Int) } : FM).mem = M.mem from rfl, h.mem]; exact h1), k3.trans h.per, k4.trans h.mem, fun j hj => ?_, fun x hx => ?_, ?_, fun j => ?_, h.low' hO⟩
  · rw [k1]
    show rowsQ qs' j = []
    rw [hq, if_neg (by omega)]
    exact h.oth j hj
  · rw [k2] at hx
    simp only [lookG_put] at hx
    split at hx
    · rename_i e
      omega
    · have := h.ids x hx; omega
  · rw [k2]
    show (putG M.host r.id (k : Int)).length ≤ n + 1
    rw [putG_new hno]
    have := h.hl; omega
  · rw [k1]
    show (rowsQ qs' j).length ≤ n + 1
    rw [hq]
    split
    · rw [insR_length]; have := h.len k; omega
    · have := h.len j; omega

theorem PLc.first {s0 s s' : St} {l p f : Nat} {D : DM} {L : LM} {M : FM} {O OD V OF OF' : List Nat} {most room : Int} {m n : Nat} {qs' : List (Int × QN)} {r : RQ} {k : Int} (h : PLc s0 s l p f D L M O OD V OF most room m n) (h1 : 1 ≤ room) (hr : r ∈ rowsQ M.qs k)
    (hf : FRep s' f l (firstM { M with qs := qs' } r) OF') (hk : Kept OF s s') (hO : ∀ x ∈ OF', x ∈ OF ∨ s.next ≤ x) (hq : ∀ j, rowsQ qs' j = rowsQ M.qs j) :
    PLc s0 s' l p f D L (firstM { M with qs := qs' } r) O OD V OF' most room m n := by
  obtain ⟨k1, k2, k3, k4⟩ := firstM_qs { M with qs := qs' } r
  refine ⟨h.kept.comp hk fun x hx => .inr (h.low x (.inr (.inr hx))), h.duo.front hf hk hO, h.zed, (h.fi.qs hq).first (k := k) (by show r ∈ rowsQ qs' k; rw [hq]; exact hr) (by show 1 ≤ M.mem; rw [h.mem]; exact h1), k3.trans h.per, k4.trans h.mem, fun j hj => ?_, ?_, ?_, fun j => ?_, h.low' hO⟩
  · rw [k1]; exact (hq j).trans (h.oth j hj)
  · rw [k2]; exact h.ids
  · rw [k2]; exact h.hl
  · rw [k1]
    show (rowsQ qs' j).length ≤ n
    rw [hq]; exact h.len j

theorem PLc.drop {s0 s s' : St} {l p f : Nat} {D : DM} {L : LM} {M : FM} {O OD V OF OF' : List Nat} {most room : Int} {m n : Nat} {qs' : List (Int × QN)} {x k : Int} {i : Nat} (h : PLc s0 s l p f D L M O OD V OF most room m n) (hyes : lookG M.host x = some k) (hpos : Q.posL x ((rowsQ M.qs k).map bareQ) = some i)
    (hf : FRep s' f l (dropM M qs' x) OF') (hk : Kept OF s s') (hO : ∀ x ∈ OF', x ∈ OF ∨ s.next ≤ x)
    (hq : ∀ j, rowsQ qs' j = if j = k then (rowsQ M.qs k).take i ++ (rowsQ M.qs k).drop (i + 1) else rowsQ M.qs j) :
    PLc s0 s' l p f D L (dropM M qs' x) O OD V OF' most room m n ∧ (dropM M qs' x).host.length + 1 = M.host.length := by
  have hdl := delG_len (F := M.host) (k := x) (by rw [hyes]; rfl)
  refine ⟨⟨h.kept.comp hk fun x hx => .inr (h.low x (.inr (.inr hx))), h.duo.front hf hk hO, h.zed, h.fi.drop hyes hpos hq, h.per, h.mem, fun j hj => ?_, fun y hy => ?_, ?_, fun j => ?_, h.low' hO⟩, hdl⟩
  · show rowsQ qs' j = []
    rw [hq]
    split
    · rename_i e
      rw [h.oth k (e ▸ hj)]; simp
    · exact h.oth j hj
  · refine h.ids y ?_
    have hh : (lookG (delG M.host x) y).isSome = true := hy
    rw [lookG_del h.fi.nd] at hh
    split at hh
    · cases hh
    · exact hh
  · have := h.hl
    show (delG M.host x).length ≤ n
    omega
  · show (rowsQ qs' j).length ≤ n
    rw [hq]
    split
    · have := h.len k
      simp only [List.length_append, List.length_take, List.length_drop]; omega
    · exact h.len j
end Go.Proofs.YtehgdocbabaldaaGreat


/-
  FrontPlays: Add, Back; Insert.
-/
set_option maxRecDepth 100000
set_option linter.unusedVariables false
set_option linter.unusedSimpArgs false
namespace Go.Proofs.YtehgdocbabaldaaGreat
open Go Go.Abs Go.Abs.K

theorem FAct.facts (a : FAct) : a.cells[0]? = some (i64 a.what) ∧ a.cells[1]? = some (i64 a.host) ∧ a.cells[2]? = some (i64 a.n) ∧ a.cells[3]? = some (.string a.path) ∧ a.cells[4]? = some (.int .u8 a.prio) ∧ a.cells.length = 5 ∧ a.cells.take 5 = a.cells ∧ a.cells.all isCell = true := ⟨rfl, rfl, rfl, rfl, rfl, rfl, rfl, rfl⟩

section
set_option linter.unusedSectionVars false
variable {tbl : FuncId → Option AFun} {ov : CallSem} {s : St} (T : FTbl tbl)
include T

theorem ins4_spec (TQ : Q.QTbl tbl) {s0 : St} {l p f rb b18 k : Nat} {D : DM} {L : LM} {M : FM} {O OD V OF : List Nat} {R : List Value} {Tr : Nat → List RQ} {most room : Int} {m n : Nat} {r : RQ} {e : Env} {c : Int}
    (hP : PLc s0 s l p f D L M O OD V OF most room m n) (hR : RowsR s0 s rb R Tr (Xs O OD V OF)) (hk4 : k < 4) (hTl : (Tr k).length < 2 ^ 19) (hb : s.heap.get b18 = some (.cells r.cells 34 0 false)) (hc : 0 ≤ c ∧ c < 2 ^ 20)
    (g12 : e.get 12 = some (.slice (some ⟨rb, 0, none⟩) 4 4)) (g13 : e.get 13 = some (i64 c)) (g17 : e.get 17 = some (i64 (k : Nat))) (g18 : e.get 18 = some (ptr b18)) :
    WCode (fun k => call tbl ov k) ins4 e s fun x e' s' => x = .normal ∧ Same k4 e e' ∧ e'.get 13 = some (i64 (c + 1)) ∧ PLc s0 s' l p f D L M O OD V OF most room m n ∧
      (∃ R', RowsR s0 s' rb R' (fun j => if j = k then insR r (Tr k) else Tr j) (Xs O OD V OF)) ∧ Kept [rb] s s' := by
  obtain ⟨c1, c2, c3, c4, c5, c6, c7⟩ := cells_facts r
  obtain ⟨v, hv, hrow, hvX⟩ := hR.row k hk4
  have hg := hR.get
  have hix : 0 ≤ (k : Int) ∧ (k : Int) < ((4 : Nat) : Int) := by omega
  have w1 : IntKind.i64.wrap (c + 1) = c + 1 := by rw [IntKind.wrap_i64]; omega
  obtain ⟨va, vc, hva⟩ := hrow.len
  rw [Q.cellsL, List.length_map, List.length_map] at hva
  subst hva
  simp -implicitDefEqProofs only [ins4, go_sem, g12, g17, g18, hg, hix, hv, hb, c1, c2, c3, List.drop_zero, Nat.zero_add]
  refine WCall.mono (Q.p18 (ov := ov) TQ (r := fullQ r) hrow (by rw [List.length_map]; omega) trivial) ?_
  rintro u s1 ⟨S', hR1, hk1, hS'⟩
  rw [insL_full] at hR1
  have hP1 := hP.step hk1 (by simp)
  have hRR1 := hR.step (X' := Xs O OD V OF) hk1 (by simp) (fun x hx => .inl hx)
  have hwr : wrOf u = S' := Q.wrOf_rows hR1
  have hk3 : k ≤ 3 := by omega
  obtain ⟨ua, uc, hu⟩ := hR1.toV.len
  rw [Q.cellsL, List.length_map, List.length_map] at hu
  have hlt := hP.lt
  have hrl := hR.lt
  have hset := hRR1.set hk4 hR1.toV fun x hx => by
    rw [hwr] at hx
    have := hS' x hx
    exact ⟨fun e => by have := hlt x e; omega, by omega⟩
  subst hu
  have hg1 := hRR1.get
  have hRl : R.length = 4 := hR.len
  simp -implicitDefEqProofs only [go_sem, hg1, hix, g13, w1, hRl, hk3]
  refine ⟨by repeat first | exact Same.refl _ _ | refine Same.cons (by decide) ?_, ?_, ⟨_, hset⟩, ⟨hk1.1, fun j hj hn => ?_⟩⟩
  · exact hP1.step (kept_put1 (Nat.le_refl _)) fun x hx => by rw [List.mem_singleton.1 hx]; exact ⟨hR.nX, hR.low⟩
  · have e1 : ¬ j = rb := by simpa using hn
    simp only [Heap.get_put, e1, if_false]
    exact hk1.2 j hj (by simp)

omit T in
theorem Xs.mono {O OD V OF OF' : List Nat} {n x : Nat} (hO : ∀ x ∈ OF', x ∈ OF ∨ n ≤ x) (h : Xs O OD V OF' x) : Xs O OD V OF x ∨ n ≤ x := by
  rcases h with h | h | h | h
  · exact .inl (.inl h)
  · exact .inl (.inr (.inl h))
  · exact .inl (.inr (.inr (.inl h)))
  · exact (hO x h).imp_left fun h => .inr (.inr (.inr h))

theorem way4_spec (TQ : Q.QTbl tbl) (ho : Q.OvOK ov) {s0 : St} {l p f rb b16 b18 k : Nat} {D : DM} {L : LM} {M : FM} {O OD V OF : List Nat} {R : List Value} {most room : Int} {m n : Nat} {r : RQ} {a : FAct} {e : Env}
    (hP : PLc s0 s l p f D L M O OD V OF most room m n) (hR : RowsR s0 s rb R (fun j => rowsQ M.qs j) (Xs O OD V OF)) (hk4 : k < 4) (h1 : 1 ≤ room) (h6 : room ≤ 2 ^ 10) (hmost : 0 ≤ most) (hn : n < 2 ^ 10) (hid : r.id = ((n + 1 : Nat) : Int)) (hno : lookG M.host r.id = none) (hlv : lookG L.live r.id = some r)
    (hb18 : s.heap.get b18 = some (.cells r.cells 34 0 false)) (hx18 : ¬ Xs O OD V OF b18 ∧ b18 ≠ rb ∧ b18 < s.next) (hb16 : s.heap.get b16 = some (.cells a.cells 46 0 false)) (hx16 : ¬ Xs O OD V OF b16 ∧ b16 ≠ rb ∧ b16 < s.next) (hw : a.what = 0 ∨ a.what = 1)
    (g9 : e.get 9 = some (i64 most)) (g11 : e.get 11 = some (ptr f)) (g12 : e.get 12 = some (.slice (some ⟨rb, 0, none⟩) 4 4)) (g13 : e.get 13 = some (i64 (M.host.length : Nat))) (g16 : e.get 16 = some (ptr b16)) (g17 : e.get 17 = some (i64 (k : Nat))) (g18 : e.get 18 = some (ptr b18)) :
    WCode (fun k => call tbl ov k) way4 e s fun x e' s' => Same k4 e e' ∧ ∃ M' OF' R' n', PLc s0 s' l p f D L M' O OD V OF' most room m n' ∧ n' ≤ n + 1 ∧ RowsR s0 s' rb R' (fun j => rowsQ M'.qs j) (Xs O OD V OF') ∧ (x = .normal ∨ x = .exit 1) ∧
      e'.get 13 = some (i64 (M'.host.length : Nat)) ∧ s'.heap.get b16 = some (.cells a.cells 46 0 false) ∧ ¬ Xs O OD V OF' b16 ∧ b16 < s'.next := by
  obtain ⟨c1, c2, c3, c4, c5, c6, c7⟩ := cells_facts r
  obtain ⟨a1, a2, a3, a4, a5, a6, a7, a8⟩ := a.facts
  have hlen := hP.fi.len
  rw [hP.mem] at hlen
  have hrl := hP.len
  have hhl := hP.hl
  have hrow := hP.fi.srt k
  have hpos := hP.fi.pnone hno k
  have hnoO : ∀ x, ¬ Xs O OD V OF x → x ∉ OF := fun x hx hx' => hx (.inr (.inr (.inr hx')))
  have hyes : ∀ qs1 : List (Int × QN), (lookG (keepM { M with qs := qs1, host := putG M.host r.id (k : Int) } r false).host r.id).isSome = true := fun qs1 => by
    rw [(keepM_qs _ r false).2.1]
    show (lookG (putG M.host r.id (k : Int)) r.id).isSome = true
    rw [lookG_put, if_pos rfl]; rfl
  -- what follows when the request is in
  have fin : ∀ (s1 : St) (OF1 : List Nat) (qs1 : List (Int × QN)) (e1 : Env), FRep s1 f l (keepM { M with qs := qs1, host := putG M.host r.id (k : Int) } r false) OF1 → Kept OF s s1 → (∀ x ∈ OF1, x ∈ OF ∨ s.next ≤ x) →
      (∀ j, rowsQ qs1 j = if j = (k : Int) then insR r (rowsQ M.qs k) else rowsQ M.qs j) → Same k4 e e1 → e1.get 12 = some (.slice (some ⟨rb, 0, none⟩) 4 4) → e1.get 13 = some (i64 (M.host.length : Nat)) → e1.get 17 = some (i64 (k : Nat)) → e1.get 18 = some (ptr b18) →
      WCode (fun k => call tbl ov k) ins4 e1 s1 fun x e' s' => Same k4 e e' ∧ ∃ M' OF' R' n', PLc s0 s' l p f D L M' O OD V OF' most room m n' ∧ n' ≤ n + 1 ∧ RowsR s0 s' rb R' (fun j => rowsQ M'.qs j) (Xs O OD V OF') ∧ (x = .normal ∨ x = .exit 1) ∧
        e'.get 13 = some (i64 (M'.host.length : Nat)) ∧ s'.heap.get b16 = some (.cells a.cells 46 0 false) ∧ ¬ Xs O OD V OF' b16 ∧ b16 < s'.next := by
    intro s1 OF1 qs1 e1 hF1 hk1 hO1 hq1 hs1 g12 g13 g17 g18
    have hP1 := hP.add h1 hk4 hid hno hlv hF1 hk1 hO1 hq1
    obtain ⟨k1, k2, _, _⟩ := keepM_qs { M with qs := qs1, host := putG M.host r.id (k : Int) } r false
    have hR1 := hR.step (X' := Xs O OD V OF1) hk1 (fun x hx => .inl (.inr (.inr (.inr hx)))) (fun x hx => hx.mono hO1)
    have l1 := hk1.1
    have hX : ∀ x, ¬ Xs O OD V OF x → x < s.next → ¬ Xs O OD V OF1 x := fun x hx hl hx' => by
      rcases hx'.mono hO1 with h | h
      · exact hx h
      · omega
    refine WCode.mono ?_ (ins4_spec (ov := ov) T TQ (r := r) (b18 := b18) hP1 hR1 hk4 (by have := hrl k; omega) (by rw [hk1.2 _ hx18.2.2 (hnoO _ hx18.1)]; exact hb18) (by omega) g12 g13 g17 g18)
    rintro x e2 s2 ⟨rfl, hs2, gc, hP2, ⟨R', hR2⟩, hk2⟩
    refine ⟨hs1.trans hs2, _, OF1, R', n + 1, hP2, Nat.le_refl _, hR2.congr fun j hj => ?_, .inl rfl, ?_, ?_, hX _ hx16.1 hx16.2.2, by have := hk2.1; omega⟩
    · rw [k1]
      simp only [hq1, Int.ofNat_inj]
    · rw [gc, k2]
      show some (i64 (((M.host.length : Nat) : Int) + 1)) = some (i64 ((putG M.host r.id (k : Int)).length : Nat))
      rw [putG_new hno]; rfl
    · rw [hk2.2 b16 (by omega) (by simpa using hx16.2.1), hk1.2 b16 hx16.2.2 (hnoO _ hx16.1)]; exact hb16
  have hXX : ∀ (OF1 : List Nat), (∀ x ∈ OF1, x ∈ OF ∨ s.next ≤ x) → ∀ x, ¬ Xs O OD V OF x → x < s.next → ¬ Xs O OD V OF1 x := fun OF1 hO1 x hx hl hx' => by
    rcases hx'.mono hO1 with h | h
    · exact hx h
    · omega
  obtain ⟨v, hv, hrv, hvX⟩ := hR.row k hk4
  obtain ⟨va, vc, hva⟩ := hrv.len
  rw [Q.cellsL, List.length_map, List.length_map] at hva
  subst hva
  have hix : 0 ≤ (k : Int) ∧ (k : Int) < ((4 : Nat) : Int) := by omega
  rcases hw with hw | hw
  · have d1 : (a.what == 0) = true := by rw [hw]; rfl
    simp -implicitDefEqProofs only [way4, go_sem, g11, g16, g17, g18, hb16, a1, d1, hb18, c1, c2, c3, List.drop_zero]
    refine WCall.mono (r11 (ov := ov) T TQ ho (k := (k : Int)) hP.duo.fr (by rw [hP.per]; exact hmost) (by rw [hP.mem]; exact h1) (by omega) (by have := hrl k; omega) hrow hpos hno) ?_
    rintro u s1 ⟨OF1, qs1, hk1, hO1, hif⟩
    have hR1 := hR.step (X' := Xs O OD V OF1) hk1 (fun x hx => .inl (.inr (.inr (.inr hx)))) (fun x hx => hx.mono hO1)
    have hg1 := hR1.get
    have l1 := hk1.1
    by_cases hfull : M.per ≤ ((rowsQ M.qs k).length : Int)
    · rw [if_pos hfull] at hif
      obtain ⟨rfl, hF1, hq1⟩ := hif
      have d2 : decide (((rowsQ M.qs k).length : Int) ≥ most) = true := by rw [← hP.per]; exact decide_eq_true hfull
      have d3 : ((5 : Int) != 5) = false := rfl
      simp -implicitDefEqProofs only [go_sem, g9, g12, g17, hg1, hix, hv, d2, d3]
      exact ⟨by repeat first | exact Same.refl _ _ | refine Same.cons (by decide) ?_, _, OF1, R, n, hP.qs hF1 hk1 hO1 hq1, by omega, hR1.congr fun j hj => (hq1 j).symm, .inr trivial, g13, by rw [hk1.2 b16 hx16.2.2 (hnoO _ hx16.1)]; exact hb16, hXX OF1 hO1 _ hx16.1 hx16.2.2, by omega⟩
    · rw [if_neg hfull] at hif
      obtain ⟨rfl, hF1, hq1⟩ := hif
      have d2 : decide (((rowsQ M.qs k).length : Int) ≥ most) = false := by rw [← hP.per]; exact decide_eq_false hfull
      have d3 : ((0 : Int) != 0) = false := rfl
      have hb1 : s1.heap.get b18 = some (.cells r.cells 34 0 false) := by rw [hk1.2 _ hx18.2.2 (hnoO _ hx18.1)]; exact hb18
      simp -implicitDefEqProofs only [go_sem, g9, g11, g12, g17, g18, hg1, hix, hv, d2, d3, hb1, c1, c2, c3, List.drop_zero]
      refine WCall.mono (r11d (ov := ov) T (k := (k : Int)) hF1 (hyes qs1)) ?_
      rintro u s2 ⟨rfl, hk2⟩
      have d4 : ((10 : Int) != 10) = false := rfl
      simp -implicitDefEqProofs only [go_sem, d4]
      exact fin s2 OF1 qs1 _ (hF1.kept hk2 (by simp)) (hk1.comp hk2 (by simp)) hO1 hq1 (by repeat first | exact Same.refl _ _ | refine Same.cons (by decide) ?_) g12 g13 g17 g18
  · have d1 : (a.what == 0) = false := by rw [hw]; rfl
    simp -implicitDefEqProofs only [way4, go_sem, g11, g16, g17, g18, hb16, a1, d1, hb18, c1, c2, c3, List.drop_zero]
    refine WCall.mono (r17 (ov := ov) T TQ ho (k := (k : Int)) hP.duo.fr (by rw [hP.per]; exact hmost) (by rw [hP.mem]; exact h1) (by omega) (by have := hrl k; omega) hrow hpos hno) ?_
    rintro u s1 ⟨rfl, OF1, qs1, hF1, hq1, hk1, hO1⟩
    have hb1 : s1.heap.get b18 = some (.cells r.cells 34 0 false) := by rw [hk1.2 _ hx18.2.2 (hnoO _ hx18.1)]; exact hb18
    simp -implicitDefEqProofs only [go_sem, g11, g17, g18, hb1, c1, c2, c3, List.drop_zero]
    refine WCall.mono (r17d (ov := ov) T (k := (k : Int)) hF1 (hyes qs1)) ?_
    rintro u s2 ⟨rfl, hk2⟩
    simp -implicitDefEqProofs only [go_sem]
    exact fin s2 OF1 qs1 _ (hF1.kept hk2 (by simp)) (hk1.comp hk2 (by simp)) hO1 hq1 (by repeat first | exact Same.refl _ _ | refine Same.cons (by decide) ?_) g12 g13 g17 g18
end
end Go.Proofs.YtehgdocbabaldaaGreat


/-
  FrontPlays: a request is made and put into the log.
-/
set_option maxRecDepth 100000
set_option linter.unusedVariables false
set_option linter.unusedSimpArgs false
namespace Go.Proofs.YtehgdocbabaldaaGreat
open Go Go.Abs Go.Abs.K

theorem PLc.mono {s0 s : St} {l p f : Nat} {D : DM} {L : LM} {M : FM} {O OD V OF : List Nat} {most room : Int} {m n n' : Nat} (h : PLc s0 s l p f D L M O OD V OF most room m n) (hn : n ≤ n') : PLc s0 s l p f D L M O OD V OF most room m n' :=
  ⟨h.kept, h.duo, h.zed, h.fi, h.per, h.mem, h.oth, fun x hx => by have := h.ids x hx; omega, by have := h.hl; omega, fun k => by have := h.len k; omega, h.low⟩

def rqP (m : Nat) (a : FAct) : RQ := ⟨((m + 1 : Nat) : Int), ⟨#[104]⟩, a.path, a.prio % 8, 0⟩

theorem rqP_sound {m : Nat} {a : FAct} (h : a.path.size ≤ 100) (hz : 0 ≤ a.prio) : ((rqP m a).toF 1).sound = true := by
  have h2 : (⟨#[104]⟩ : ByteArray).size = 1 := rfl
  simp only [FRec.sound, FRec.small, RQ.toF, rqP, h2, Bool.and_eq_true, decide_eq_true_eq]
  and_intros <;> first | omega | exact decide_eq_true (by omega)

abbrev k5 : List Nat := [2, 7, 9, 10, 11, 12, 15, 16, 17]
theorem Same.sub {ks ks' : List Nat} {e e' : Env} (h : Same ks e e') (hs : ∀ t ∈ ks', t ∈ ks) : Same ks' e e' := fun t ht => h t (hs t ht)

section
set_option linter.unusedSectionVars false
variable {tbl : FuncId → Option AFun} {ov : CallSem} {s : St} (T : FTbl tbl)
include T

theorem put4_spec (TQ : Q.QTbl tbl) (TS : STbl tbl) (ho : OvS ov) (hoQ : Q.OvOK ov) {s0 : St} {l p f rb b16 k : Nat} {D : DM} {L : LM} {M : FM} {O OD V OF : List Nat} {R : List Value} {most room : Int} {m : Nat} {a : FAct} {e : Env}
    (hP : PLc s0 s l p f D L M O OD V OF most room m m) (hR : RowsR s0 s rb R (fun j => rowsQ M.qs j) (Xs O OD V OF)) (hk4 : k < 4) (h1 : 1 ≤ room) (h6 : room ≤ 2 ^ 10) (hmost : 0 ≤ most) (hm : m < 40)
    (hb16 : s.heap.get b16 = some (.cells a.cells 46 0 false)) (hx16 : ¬ Xs O OD V OF b16 ∧ b16 ≠ rb ∧ b16 < s.next) (hw : a.what = 0 ∨ a.what = 1) (hsz : a.path.size ≤ 100) (hpr : 0 ≤ a.prio ∧ a.prio ≤ 255)
    (g7 : e.get 7 = some (ptr l)) (g9 : e.get 9 = some (i64 most)) (g11 : e.get 11 = some (ptr f)) (g12 : e.get 12 = some (.slice (some ⟨rb, 0, none⟩) 4 4)) (g13 : e.get 13 = some (i64 (M.host.length : Nat))) (g14 : e.get 14 = some (i64 (m : Nat))) (g16 : e.get 16 = some (ptr b16)) (g17 : e.get 17 = some (i64 (k : Nat))) :
    WCode (fun k => call tbl ov k) put4 e s fun x e' s' => Same k5 e e' ∧ ∃ D' L' M' OD' V' OF' R', PLc s0 s' l p f D' L' M' O OD' V' OF' most room (m + 1) (m + 1) ∧ RowsR s0 s' rb R' (fun j => rowsQ M'.qs j) (Xs O OD' V' OF') ∧ (x = .normal ∨ x = .exit 1) ∧
      e'.get 13 = some (i64 (M'.host.length : Nat)) ∧ e'.get 14 = some (i64 ((m + 1 : Nat) : Int)) ∧ s'.heap.get b16 = some (.cells a.cells 46 0 false) ∧ ¬ Xs O OD' V' OF' b16 ∧ b16 < s'.next := by
  obtain ⟨a1, a2, a3, a4, a5, a6, a7, a8⟩ := a.facts
  obtain ⟨r, hr⟩ : ∃ r, r = rqP m a := ⟨_, rfl⟩
  obtain ⟨c1, c2, c3, c4, c5, c6, c7⟩ := cells_facts r
  have w1 : IntKind.i64.wrap ((m : Int) + 1) = ((m + 1 : Nat) : Int) := by rw [IntKind.wrap_i64]; omega
  have er8 : binV .rem (.int .u8 a.prio) (.int .u8 8) = some (.int .u8 (a.prio.tmod 8)) := rfl
  have htm8 : a.prio.tmod 8 = a.prio % 8 := Int.tmod_eq_emod_of_nonneg hpr.1
  have w3 : IntKind.i64.wrap (a.prio.tmod 8) = a.prio % 8 := by rw [htm8, IntKind.wrap_i64]; omega
  have ef : fillL [in64 0, .string ⟨#[]⟩, .string ⟨#[]⟩, in64 0, in64 0] [(0, 1, in64 ((m + 1 : Nat) : Int)), (1, 1, .string ⟨#[104]⟩), (2, 1, .string a.path), (3, 1, in64 (a.prio % 8))] = some r.cells := by rw [hr]; rfl
  have h00 : ((0 : Int) != 0) = false := rfl
  have hn16 : ¬ b16 = s.next := by omega
  simp -implicitDefEqProofs only [put4, go_sem, g14, w1, g16, hb16, a4, a5, er8, w3, ef, c1, c2, c3, c4, g7, hn16, List.drop_zero]
  obtain ⟨s1, hs1⟩ : ∃ s1 : St, s1 = ⟨(s.heap.put s.next (some (.cells [in64 0, .string ⟨#[]⟩, .string ⟨#[]⟩, in64 0, in64 0] 34 0 false))).put s.next (some (.cells r.cells 34 0 false)), s.next + 1⟩ := ⟨_, rfl⟩
  have hk1 : Kept [] s s1 := by
    rw [hs1]
    exact ⟨Nat.le_succ _, fun j hj _ => by simp only [Heap.get_put]; rw [if_neg (by omega), if_neg (by omega)]⟩
  have l1 : s.next < s1.next := by rw [hs1]; exact Nat.lt_succ_self _
  have hb1 : s1.heap.get s.next = some (.cells r.cells 34 0 false) := by rw [hs1]; simp only [Heap.get_put, if_true]
  have hlt := hP.lt
  have hP1 := hP.step hk1 (by simp)
  have hR1 := hR.step (X' := Xs O OD V OF) hk1 (by simp) (fun x hx => .inl hx)
  rw [← hs1, show (Value.agg r.cells.toArray) = r.val from rfl]
  have hsnd : (r.toF 1).sound = true := by rw [hr]; exact rqP_sound hsz hpr.1
  have hbsz : r.host.size + r.path.size ≤ 101 := by
    rw [hr]
    show 1 + a.path.size ≤ 101
    omega
  obtain ⟨hz1, hz2, hz3⟩ := zed_put hP.zed (by omega) hsnd hbsz
  have hrid : r.id = ((m + 1 : Nat) : Int) := by rw [hr]; rfl
  have hwide : r.Wide := by
    refine ⟨by rw [hrid]; unfold W64; omega, ?_, ?_⟩
    · rw [hr]; simp only [rqP]; unfold W64; omega
    · rw [hr]; simp only [rqP]; unfold W64; omega
  have hno : lookG M.host r.id = none := by
    cases hx : lookG M.host r.id with
    | none => rfl
    | some k => have := hP.ids r.id (by rw [hx]; rfl); omega
  refine WCall.mono (q10 (ov := ov) TS ho hP1.duo.sr (hP.zed.room (by omega)) hwide (by rw [hrid]; omega)) ?_
  rintro u s2 ⟨rfl, OD2, V2, hS2, hG2⟩
  have hP2 := hP1.log hS2 hG2 hz2 hno hz3
  have hW2 : ∀ x ∈ O ++ OD, Xs O OD V OF x ∨ s1.next ≤ x := fun x hx => by
    rcases List.mem_append.1 hx with h | h
    · exact .inl (.inl h)
    · exact .inl (.inr (.inl h))
  have hX2 : ∀ x, Xs O OD2 V2 OF x → Xs O OD V OF x ∨ s1.next ≤ x := fun x hx => by
    rcases hx with h | h | h | h
    · exact .inl (.inl h)
    · exact (hG2.o x h).imp_left fun h => .inr (.inl h)
    · exact (hG2.v x h).imp_left fun h => .inr (.inr (.inl h))
    · exact .inl (.inr (.inr (.inr h)))
  have hR2 := hR1.step hG2.k hW2 hX2
  have l2 := hG2.k.1
  have hnX : ∀ x, x < s1.next → ¬ Xs O OD V OF x → ¬ Xs O OD2 V2 OF x := fun x hx hn hx' => by
    rcases hX2 x hx' with h | h
    · exact hn h
    · omega
  have hnW : ∀ x, x < s1.next → ¬ Xs O OD V OF x → x ∉ O ++ OD := fun x hx hn hx' => by
    rcases hW2 x hx' with h | h
    · exact hn h
    · omega
  have hn18 : ¬ Xs O OD V OF s.next := fun hx => by have := hlt _ hx; omega
  have hb2 : s2.heap.get s.next = some (.cells r.cells 34 0 false) := by rw [hG2.k.2 _ l1 (hnW _ l1 hn18)]; exact hb1
  have hb216 : s2.heap.get b16 = some (.cells a.cells 46 0 false) := by rw [hG2.k.2 _ (by omega) (hnW _ (by omega) hx16.1), hk1.2 _ hx16.2.2 (by simp)]; exact hb16
  have hlv : lookG (putM D L r).2.1.live r.id = some r := by rw [hz3, lookG_put, if_pos rfl]
  have hrb := hR.lt
  simp -implicitDefEqProofs only [go_sem, hz1, h00]
  refine WCode.mono ?_ (way4_spec (ov := ov) T TQ hoQ (r := r) (a := a) (k := k) (b18 := s.next) (b16 := b16) hP2 hR2 hk4 h1 h6 hmost (by omega) hrid hno hlv hb2 ⟨hnX _ l1 hn18, by omega, by omega⟩ hb216 ⟨hnX _ (by omega) hx16.1, hx16.2.1, by omega⟩ hw
    (by exact g9) (by exact g11) (by exact g12) (by exact g13) (by exact g16) (by exact g17) rfl)
  rintro x e' s' ⟨hs, M', OF', R', n', hP3, hn', hR3, hx, g13', hb', hx', hl'⟩
  refine ⟨Same.trans (by repeat first | exact Same.refl _ _ | refine Same.cons (by decide) ?_) (hs.sub (by decide)), _, _, M', OD2, V2, OF', R', hP3.mono hn', hR3, hx, g13', (hs 14 (by decide)).trans rfl, hb', hx', hl'⟩
end
end Go.Proofs.YtehgdocbabaldaaGreat
