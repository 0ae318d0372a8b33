/-
  DiskPlays: the walk.
-/
import Derived.Test.YtgnpafmhdmmmhaaD17
set_option maxRecDepth 100000
set_option linter.unusedVariables false
set_option linter.unusedSimpArgs false
namespace Go.Proofs.Ytgnpafmhdmmmhaa
open Go Go.Abs Go.Abs.K

/-- The text of DiskPlays behind an act. -/
def tail8 : ACode :=
 (.seq (R [o 113 (.mov (v 5)), o 114 (.call (.func 38) [(v 113)]), o 11 (.mov (v 114))])
      (.seq (.seq (R [o 115 (.mov (v 9)), o 116 (.mov (v 10)), o 117 (.bin .neq (v 115) (v 116)), o 118 (.mov (v 117)), of 118 119 (.mov (v 11)), of 118 120 (.len .slice (v 119)), of 118 121 (.mov (v 6)), of 118 122 (.nilCheck (v 121)), of 118 123 (.fieldAddr 1 (v 122)), of 118 124 (.load none (v 123)), of 118 125 (.len .slice (v 124)), of 118 126 (.bin .neq (v 120) (v 125)), o 127 (.pick (v 118) tt (v 126))])
       (.cond (v 127) (.seq (R [o 4 (.mov ff)])
        (.ret))
       (.skip)))
      (.seq (.seq (R [o 12 (.mov (i 0))])
       (.block 3 (.loop [1, 5, 6, 7, 8, 11, 12] (.seq (.seq (R [o 128 (.mov (v 12)), o 129 (.mov (v 11)), o 130 (.len .slice (v 129)), o 131 (.bin .lss (v 128) (v 130))])
          (.cond (v 131) (.skip)
          (.exit 3)))
         (.seq (.block 4 (.seq (R [o 135 (.mov (v 5)), o 136 (.mov (v 11)), o 137 (.mov (v 12)), o 138 (.indexAddr 1 (v 136) (v 137)), o 139 (.load none (v 138)), o 140 (.call (.func 30) [(v 135), (v 139)]), o 134 (.mov (v 140)), o 141 (.extract (v 134) 0), o 142 (.extract (v 134) 1), o 13 (.mov (v 141)), o 14 (.mov (v 142))])
           (.seq (R [o 144 (.mov (v 6)), o 145 (.mov (v 11)), o 146 (.mov (v 12)), o 147 (.indexAddr 1 (v 145) (v 146)), o 148 (.load none (v 147)), o 149 (.call (.func 39) [(v 144), (v 148)]), o 143 (.mov (v 149)), o 150 (.extract (v 143) 0), o 151 (.extract (v 143) 1), o 15 (.mov (v 150)), o 16 (.mov (v 151))])
           (.seq (R [o 152 (.mov (v 11)), o 153 (.mov (v 12)), o 154 (.indexAddr 1 (v 152) (v 153)), o 155 (.load none (v 154)), o 156 (.mov (v 6)), o 157 (.nilCheck (v 156)), o 158 (.fieldAddr 1 (v 157)), o 159 (.load none (v 158)), o 160 (.mov (v 12)), o 161 (.indexAddr 2 (v 159) (v 160)), o 162 (.fieldAddr 0 (v 161)), o 163 (.load none (v 162)), o 164 (.bin .neq (v 155) (v 163)), o 165 (.mov (v 164)), of 165 166 (.mov (v 14)), of 165 167 (.bin .neq (v 166) (i 0)), o 168 (.pick (v 165) tt (v 167)), o 169 (.mov (v 168)), of 169 170 (.mov (v 16)), of 169 171 (.bin .neq (v 170) (i 0)), o 172 (.pick (v 169) tt (v 171)), o 173 (.mov (v 172)), of 173 174 (.mov (v 13)), of 173 175 (.conv .toString (v 174)), of 173 176 (.mov (v 15)), of 173 177 (.conv .toString (v 176)), of 173 178 (.bin .neq (v 175) (v 177)), o 179 (.pick (v 173) tt (v 178))])
           (.cond (v 179) (.seq (R [o 4 (.mov ff)])
            (.ret))
           (.skip))))))
         (R [o 132 (.mov (v 12)), o 133 (.bin .add (v 132) (i 1)), o 12 (.mov (v 133))]))))))
      (.seq (R [o 181 (.mov (v 5)), o 182 (.fieldAddr 1 (v 8)), o 183 (.load none (v 182)), o 184 (.call (.func 30) [(v 181), (v 183)]), o 180 (.mov (v 184)), o 185 (.extract (v 180) 0), o 186 (.extract (v 180) 1), o 17 (.mov (v 185)), o 18 (.mov (v 186))])
      (.seq (R [o 188 (.mov (v 6)), o 189 (.fieldAddr 1 (v 8)), o 190 (.load none (v 189)), o 191 (.call (.func 39) [(v 188), (v 190)]), o 187 (.mov (v 191)), o 192 (.extract (v 187) 0), o 193 (.extract (v 187) 1), o 19 (.mov (v 192)), o 20 (.mov (v 193))])
      (.seq (R [o 194 (.mov (v 18)), o 195 (.mov (v 20)), o 196 (.bin .neq (v 194) (v 195))])
      (.cond (v 196) (.seq (R [o 4 (.mov ff)])
       (.ret))
      (.skip))))))))
def head8 : ACode :=
 .seq (R [o 4 (.mov ff)])
 (.seq (R [o 21 (.mov (v 0)), o 22 (.call (.func 25) [(v 21)]), o 23 (.mov (v 0)), o 24 (.call (.func 31) [(v 23)]), o 5 (.mov (v 22)), o 6 (.mov (v 24))])
 (.seq (.seq (R [o 7 (.mov (i 0))])
  (.block 0 (.loop [1, 5, 6, 7] (.seq (.seq (R [o 25 (.mov (v 7)), o 26 (.mov (v 1)), o 27 (.len .slice (v 26)), o 28 (.bin .lss (v 25) (v 27)), o 29 (.mov (v 28)), ot 29 30 (.mov (v 7)), ot 29 31 (.bin .lss (v 30) (i 60)), o 32 (.pick (v 29) (v 31) ff)])
     (.cond (v 32) (.skip)
     (.exit 0)))
    (.seq (.block 1 (.seq (R [o 35 (.mov (v 1)), o 36 (.mov (v 7)), o 37 (.indexAddr 4 (v 35) (v 36)), o 38 (.load (some 4) (v 37)), o 8 (.alloc 63 [(.int .i64 0), (.int .i64 0), (.int .i64 0), (.slice none 0 0)]), on (.store 4 (v 8) (v 38))])
      (.seq (.seq (R [o 39 (.fieldAddr 3 (v 8)), o 40 (.load none (v 39)), o 41 (.len .slice (v 40)), o 42 (.bin .gtr (v 41) (i 2500))])
       (.cond (v 42) (.exit 1)
       (.skip)))
      (.seq (R [o 9 (.mov (i 0)), o 10 (.mov (i 0))])
      (.seq (.seq (R [o 43 (.fieldAddr 0 (v 8)), o 44 (.load none (v 43))])
       (.block 2 (.seq (R [o 54 (.bin .eql (v 44) (i 0)), o 53 (.mov (v 54))])
        (.cond (v 53) (D [o 55 (.mov (v 5)), o 56 (.fieldAddr 1 (v 8)), o 57 (.load none (v 56)), o 58 (.fieldAddr 3 (v 8)), o 59 (.load none (v 58)), o 60 (.call (.func 27) [(v 55), (v 57), (v 59)]), o 61 (.mov (v 6)), o 62 (.fieldAddr 1 (v 8)), o 63 (.load none (v 62)), o 64 (.fieldAddr 3 (v 8)), o 65 (.load none (v 64)), o 66 (.call (.func 32) [(v 61), (v 63), (v 65)]), o 9 (.mov (v 60)), o 10 (.mov (v 66))] ⟨[], [], [(5, 8), (5, 10)]⟩)
        (.seq (R [o 68 (.bin .eql (v 44) (i 1)), o 67 (.mov (v 68))])
         (.cond (v 67) (R [o 69 (.mov (v 5)), o 70 (.call (.func 28) [(v 69)]), o 71 (.mov (v 6)), o 72 (.call (.func 33) [(v 71)]), o 9 (.mov (v 70)), o 10 (.mov (v 72))])
         (.seq (R [o 74 (.bin .eql (v 44) (i 2)), o 73 (.mov (v 74))])
          (.cond (v 73) (D [o 75 (.mov (v 5)), o 76 (.fieldAddr 1 (v 8)), o 77 (.load none (v 76)), o 78 (.call (.func 34) [(v 75), (v 77)]), o 79 (.mov (v 6)), o 80 (.fieldAddr 1 (v 8)), o 81 (.load none (v 80)), o 82 (.call (.func 35) [(v 79), (v 81)]), o 9 (.mov (v 78)), o 10 (.mov (v 82))] ⟨[], [], [(3, 6)]⟩)
          (.seq (R [o 84 (.bin .eql (v 44) (i 3)), o 83 (.mov (v 84))])
           (.cond (v 83) (.seq (R [o 85 (.mov (v 5)), o 86 (.fieldAddr 1 (v 8)), o 87 (.load none (v 86)), o 88 (.fieldAddr 2 (v 8)), o 89 (.load none (v 88)), o 90 (.call (.func 36) [(v 85), (v 87), (v 89)])])
            (.seq (D [o 91 (.mov (v 6)), o 92 (.mov (v 6)), o 93 (.fieldAddr 1 (v 8)), o 94 (.load none (v 93)), o 95 (.fieldAddr 2 (v 8)), o 96 (.load none (v 95)), o 97 (.nilCheck (v 91)), o 98 (.fieldAddr 3 (v 97)), on (.store 1 (v 98) (v 94)), o 99 (.nilCheck (v 92)), o 100 (.fieldAddr 4 (v 99)), on (.store 1 (v 100) (v 96))] ⟨[(8, 5)], [], []⟩)
            (.seq (.seq (R [o 101 (.fieldAddr 1 (v 8)), o 102 (.load none (v 101)), o 103 (.bin .lss (v 102) (i 0))])
             (.cond (v 103) (R [o 104 (.mov (v 6)), o 105 (.nilCheck (v 104)), o 106 (.fieldAddr 3 (v 105)), on (.store 1 (v 106) (i 0))])
             (.skip)))
            (.seq (R [o 107 (.fieldAddr 2 (v 8)), o 108 (.load none (v 107)), o 109 (.bin .lss (v 108) (i 0))])
            (.cond (v 109) (R [o 110 (.mov (v 6)), o 111 (.nilCheck (v 110)), o 112 (.fieldAddr 4 (v 111)), on (.store 1 (v 112) (i 0))])
            (.skip))))))
           (.seq (R [o 45 (.mov (v 5)), o 46 (.fieldAddr 1 (v 8)), o 47 (.load none (v 46)), o 48 (.call (.func 29) [(v 45), (v 47)])])
            (R [o 49 (.mov (v 6)), o 50 (.fieldAddr 1 (v 8)), o 51 (.load none (v 50)), o 52 (.call (.func 37) [(v 49), (v 51)])]))))))))))))
      tail8)))))
    (R [o 33 (.mov (v 7)), o 34 (.bin .add (v 33) (i 1)), o 7 (.mov (v 34))]))))))
 (.seq (R [o 197 (.call (.func 26) []), o 4 (.mov (v 197))])
 (.ret))))
theorem code8_eq : code8 = head8 := rfl

section
variable {tbl : FuncId → Option AFun} {ov : CallSem} {s : St} (T : DTbl tbl)
include T

theorem look8 (ho : OvOK ov) {p q i x : Nat} {D : DM} {O V : List Nat} {R : RM} {O2 : List Nat} {ev n : Int} {av : Value} {row : List Value} {e : Env} {Q : AExit → Env → St → Prop} (hD : DRep s p D O V) (hR : RRep s q R O2) (hC : Cpl D R)
    (hx : s.heap.get x = some (.cells row 63 0 false)) (hxl : x < s.next) (hrow : row[1]? = some (i64 n))
    (h1 : e.get 1 = some av) (h5 : e.get 5 = some (ptr p)) (h6 : e.get 6 = some (ptr q)) (h7 : e.get 7 = some (i64 (i : Nat))) (h8 : e.get 8 = some (ptr x)) (h9 : e.get 9 = some (i64 ev)) (h10 : e.get 10 = some (i64 ev))
    (hQ : ∀ e' s', e'.get 1 = some av → e'.get 5 = some (ptr p) → e'.get 6 = some (ptr q) → e'.get 7 = some (i64 (i : Nat)) → Kept [] s s' → Q .normal e' s') :
    WCode (fun k => call tbl ov k) tail8 e s Q := by
  have h16 : R.segs.length ≤ 16 := by
    obtain ⟨_, _, _, _, hA⟩ := hR.at
    exact hA.rw.len
  simp -implicitDefEqProofs only [tail8, go_sem, reduceIte, Nat.reduceEqDiff, Nat.reduceAdd, Nat.reduceMul, Nat.reduceLT, Nat.reduceLeDiff, reduceCtorEq, Int.reduceEq, Int.reduceNeg, Nat.reduceSub, Int.reduceLT, Int.reduceLE, Int.reduceGT, Int.reduceGE, Int.reduceAdd, Int.reduceSub, Int.reduceToNat, Int.reduceBNe, Int.reduceBEq, Nat.mul_one, Nat.zero_mul, h5]
  refine WCall.mono (p38 (ov := ov) T ho hD) ?_
  rintro u s1 ⟨hsl, hk1⟩
  obtain ⟨sa, sc, hu⟩ := hsl.len
  rw [List.length_map, sortZ_length, List.length_map, hC.count] at hu
  subst hu
  have hn1 := hk1.1
  have hD1 := hD.kept hk1 (by simp) (by simp)
  have hR1 := hR.kept hk1 (by simp)
  obtain ⟨sv, S, rows, L, hA1⟩ := hR1.at
  obtain ⟨ra, rc, hsv⟩ := hA1.slice
  subst hsv
  have hq1 := hA1.cell
  have b0 : (ev != ev) = false := by simp
  have b1 : (((R.segs.length : Nat) : Int) != ((R.segs.length : Nat) : Int)) = false := by simp
  simp -implicitDefEqProofs only [go_sem, reduceIte, Nat.reduceEqDiff, Nat.reduceAdd, Nat.reduceMul, Nat.reduceLT, Nat.reduceLeDiff, reduceCtorEq, Int.reduceEq, Int.reduceNeg, Nat.reduceSub, Int.reduceLT, Int.reduceLE, Int.reduceGT, Int.reduceGE, Int.reduceAdd, Int.reduceSub, Int.reduceToNat, Int.reduceBNe, Int.reduceBEq, Nat.mul_one, Nat.zero_mul, h6, h9, h10, b0, b1, hq1]
  obtain ⟨I, hI⟩ : ∃ I : Nat → List Value → St → Prop, I = fun j vs s' => Kept [] s1 s' ∧ ∃ k : Nat, k ≤ R.segs.length ∧ j = R.segs.length - k ∧ vs = [av, ptr p, ptr q, i64 (i : Nat), ptr x, .slice sa R.segs.length sc, i64 (k : Nat)] := ⟨_, rfl⟩
  refine wc_loopV I R.segs.length ?_ ?_
  · simp -implicitDefEqProofs only [go_sem, reduceIte, Nat.reduceEqDiff, Nat.reduceAdd, Nat.reduceMul, Nat.reduceLT, Nat.reduceLeDiff, reduceCtorEq, Int.reduceEq, Int.reduceNeg, Nat.reduceSub, Int.reduceLT, Int.reduceLE, Int.reduceGT, Int.reduceGE, Int.reduceAdd, Int.reduceSub, Int.reduceToNat, Int.reduceBNe, Int.reduceBEq, Nat.mul_one, Nat.zero_mul, h1, h5, h6, h7, h8]
    rw [hI]
    exact ⟨Kept.refl _ _, 0, by omega, by omega, rfl⟩
  · intro j vs s2 hi _
    rw [hI] at hi
    obtain ⟨hk2, k, hkl, rfl, rfl⟩ := hi
    have hn2 := hk2.1
    have hk02 := hk1.trans hk2
    have hD2 := hD.kept hk02 (by simp) (by simp)
    have hR2 := hR.kept hk02 (by simp)
    have hx2 : s2.heap.get x = some (.cells row 63 0 false) := by rw [hk02.2 x hxl (by simp)]; exact hx
    cases hlt : decide ((k : Int) < (R.segs.length : Int))
    · simp -implicitDefEqProofs only [go_sem, reduceIte, Nat.reduceEqDiff, Nat.reduceAdd, Nat.reduceMul, Nat.reduceLT, Nat.reduceLeDiff, reduceCtorEq, Int.reduceEq, Int.reduceNeg, Nat.reduceSub, Int.reduceLT, Int.reduceLE, Int.reduceGT, Int.reduceGE, Int.reduceAdd, Int.reduceSub, Int.reduceToNat, Int.reduceBNe, Int.reduceBEq, Nat.mul_one, Nat.zero_mul, hlt, hx2, hrow]
      refine WCall.mono (p30 (ov := ov) (n := n) T hD2) ?_
      rintro u s3 ⟨v1, rfl, _, hk3, _⟩
      have hR3 := hR2.kept hk3 (by simp)
      have hx3 : s3.heap.get x = some (.cells row 63 0 false) := by rw [hk3.2 x (by omega) (by simp)]; exact hx2
      simp -implicitDefEqProofs only [go_sem, reduceIte, Nat.reduceEqDiff, Nat.reduceAdd, Nat.reduceMul, Nat.reduceLT, Nat.reduceLeDiff, reduceCtorEq, Int.reduceEq, Int.reduceNeg, Nat.reduceSub, Int.reduceLT, Int.reduceLE, Int.reduceGT, Int.reduceGE, Int.reduceAdd, Int.reduceSub, Int.reduceToNat, Int.reduceBNe, Int.reduceBEq, Nat.mul_one, Nat.zero_mul, hx3, hrow]
      refine WCall.mono (p39 (ov := ov) (n := n) T hR3) ?_
      rintro u s4 ⟨v2, rfl, _, hk4, _⟩
      have b2 : (readE D n != rE R n) = false := by rw [hC.errno]; simp
      simp -implicitDefEqProofs only [go_sem, reduceIte, Nat.reduceEqDiff, Nat.reduceAdd, Nat.reduceMul, Nat.reduceLT, Nat.reduceLeDiff, reduceCtorEq, Int.reduceEq, Int.reduceNeg, Nat.reduceSub, Int.reduceLT, Int.reduceLE, Int.reduceGT, Int.reduceGE, Int.reduceAdd, Int.reduceSub, Int.reduceToNat, Int.reduceBNe, Int.reduceBEq, Nat.mul_one, Nat.zero_mul, b2]
      exact hQ _ _ rfl rfl rfl rfl ((hk02.trans hk3).trans hk4)
    · have hkN : k < R.segs.length := by have := of_decide_eq_true hlt; omega
      have hsl2 := hsl.kept hk2
      obtain ⟨is, os, cs, cc, Ts, ros, hvs, his, hgs, hles, _, hcs⟩ := row_read hsl2 (i := k) (by rw [List.length_map, sortZ_length, List.length_map, hC.count]; exact hkN)
      rw [List.length_map, sortZ_length, List.length_map, hC.count] at hvs
      cases hvs
      obtain ⟨key, hkey⟩ : ∃ key, (R.segs.map keyS)[k]? = some key := ⟨_, List.getElem?_eq_getElem (by rw [List.length_map]; exact hkN)⟩
      have hc0 := hcs 0 Nat.zero_lt_one
      rw [List.getD_eq_getElem?_getD, List.getElem?_map, hC.keys, hkey] at hc0
      simp only [Option.map_some, Option.getD_some, Nat.mul_one, Nat.add_zero, List.getElem?_cons_zero] at hc0
      have hixk : 0 ≤ (k : Int) ∧ (k : Int) < (R.segs.length : Int) := by omega
      have w2 : IntKind.i64.wrap ((k : Int) + 1) = ((k + 1 : Nat) : Int) := by rw [IntKind.wrap_i64]; omega
      simp -implicitDefEqProofs only [go_sem, reduceIte, Nat.reduceEqDiff, Nat.reduceAdd, Nat.reduceMul, Nat.reduceLT, Nat.reduceLeDiff, reduceCtorEq, Int.reduceEq, Int.reduceNeg, Nat.reduceSub, Int.reduceLT, Int.reduceLE, Int.reduceGT, Int.reduceGE, Int.reduceAdd, Int.reduceSub, Int.reduceToNat, Int.reduceBNe, Int.reduceBEq, Nat.mul_one, Nat.zero_mul, hlt, hixk, hgs, hc0]
      refine WCall.mono (p30 (ov := ov) (n := key) T hD2) ?_
      rintro u s3 ⟨v1, rfl, hv1, hk3, _⟩
      have hR3 := hR2.kept hk3 (by simp)
      have hn3 := hk3.1
      have hgs3 : s3.heap.get is = some (.cells cc Ts 1 ros) := by rw [hk3.2 is his (by simp)]; exact hgs
      simp -implicitDefEqProofs only [go_sem, reduceIte, Nat.reduceEqDiff, Nat.reduceAdd, Nat.reduceMul, Nat.reduceLT, Nat.reduceLeDiff, reduceCtorEq, Int.reduceEq, Int.reduceNeg, Nat.reduceSub, Int.reduceLT, Int.reduceLE, Int.reduceGT, Int.reduceGE, Int.reduceAdd, Int.reduceSub, Int.reduceToNat, Int.reduceBNe, Int.reduceBEq, Nat.mul_one, Nat.zero_mul, hixk, hgs3, hc0]
      refine WCall.mono (p39 (ov := ov) (n := key) T hR3) ?_
      rintro u s4 ⟨v2, rfl, hv2, hk4, _⟩
      have hR4 := hR3.kept hk4 (by simp)
      have hgs4 : s4.heap.get is = some (.cells cc Ts 1 ros) := by rw [hk4.2 is (by omega) (by simp)]; exact hgs3
      obtain ⟨sv4, S4, rows4, L4, hA4⟩ := hR4.at
      obtain ⟨n', bs', bvi, id, o, cap', c, T', ro, hw, hrw, hB, hsv, hid, hidS, hgo, hle, hco, hcb⟩ := hA4.seg hkN
      have hq4 := hA4.cell
      rw [hsv] at hq4
      have hkn : n' = key := by
        rw [List.getElem?_map, hw] at hkey
        exact Option.some.inj hkey
      subst hkn
      have hfound : (idxS n' R.segs).isSome = true := by
        rw [lookS_some_iff, Option.isSome_iff_ne_none, ne_eq, lookS_none]
        exact fun hh => hh _ (List.mem_of_getElem? hw) rfl
      have b3 : (n' != n') = false := by simp
      have b4 : (readE D n' != 0) = false := by rw [hC.errno]; unfold rE; rw [hfound]; rfl
      have b5 : (rE R n' != 0) = false := by unfold rE; rw [hfound]; rfl
      have hT1 := ev_toString (hv1.kept hk4)
      have hT2 := ev_toString hv2
      rw [hC.bytes] at hT1
      simp -implicitDefEqProofs only [go_sem, reduceIte, Nat.reduceEqDiff, Nat.reduceAdd, Nat.reduceMul, Nat.reduceLT, Nat.reduceLeDiff, reduceCtorEq, Int.reduceEq, Int.reduceNeg, Nat.reduceSub, Int.reduceLT, Int.reduceLE, Int.reduceGT, Int.reduceGE, Int.reduceAdd, Int.reduceSub, Int.reduceToNat, Int.reduceBNe, Int.reduceBEq, Nat.mul_one, Nat.zero_mul, Nat.add_zero, hixk, hgs4, hc0, hq4, hgo, hco, b3, b4, b5, hT1, hT2, bin_neqS, w2]
      refine ⟨R.segs.length - (k + 1), by omega, ?_⟩
      rw [hI]
      exact ⟨(hk2.trans hk3).trans hk4, k + 1, by omega, rfl, rfl⟩
end

end Go.Proofs.Ytgnpafmhdmmmhaa
