/-
  QueuePlays: what happens to a queue, part by part.
-/
import Derived.Test.YtgnpafmhdmmmhaaQ11
set_option maxRecDepth 100000
set_option linter.unusedVariables false
set_option linter.unusedSimpArgs false
namespace Go.Proofs.Ytgnpafmhdmmmhaa
open Go Go.Abs Go.Abs.K

def a4_0 : ACode :=
 (.seq (R [o 10 (.mov (i 0))])
         (.seq (.seq (R [o 44 (.mov (v 9))])
          (.cond (v 44) (R [o 10 (.mov (i 10))])
          (.seq (R [o 45 (.mov (v 6)), o 46 (.len .slice (v 45)), o 47 (.mov (v 0)), o 48 (.bin .geq (v 46) (v 47))])
           (.cond (v 48) (R [o 10 (.mov (i 5))])
           (.skip)))))
         (.seq (.seq (R [o 49 (.mov (v 5)), o 50 (.fieldAddr 2 (v 8)), o 51 (.load (some 5) (v 50)), o 52 (.call (.func 12) [(v 49), (v 51)]), o 53 (.mov (v 10)), o 54 (.bin .neq (v 52) (v 53))])
          (.cond (v 54) (.seq (R [o 4 (.mov ff)])
           (.ret))
          (.skip)))
         (.seq (R [o 55 (.mov (v 10)), o 56 (.bin .eql (v 55) (i 0))])
         (.cond (v 56) (R [o 57 (.mov (v 6)), o 58 (.fieldAddr 2 (v 8)), o 59 (.load (some 5) (v 58)), o 60 (.call (.func 17) [(v 57), (v 59)]), o 6 (.mov (v 60))])
         (.skip))))))

def a4_1 : ACode :=
 (.seq (.seq (R [o 63 (.mov (v 5)), o 64 (.fieldAddr 2 (v 8)), o 65 (.load (some 5) (v 64)), o 66 (.call (.func 18) [(v 63), (v 65)]), o 67 (.mov (v 9)), o 68 (.eq false .scalar (v 66) (v 67))])
           (.cond (v 68) (.seq (R [o 4 (.mov ff)])
            (.ret))
           (.skip)))
          (.seq (R [o 69 (.mov (v 9)), o 70 (.un .not (v 69))])
          (.cond (v 70) (R [o 71 (.mov (v 6)), o 72 (.fieldAddr 2 (v 8)), o 73 (.load (some 5) (v 72)), o 74 (.call (.func 17) [(v 71), (v 73)]), o 6 (.mov (v 74))])
          (.skip))))

def a4_2 : ACode :=
 (.seq (R [o 77 (.mov (v 6)), o 78 (.fieldAddr 1 (v 8)), o 79 (.load none (v 78)), o 80 (.call (.func 16) [(v 77), (v 79)]), o 11 (.mov (v 80))])
           (.seq (.seq (R [o 81 (.mov (v 5)), o 82 (.fieldAddr 1 (v 8)), o 83 (.load none (v 82)), o 84 (.call (.func 14) [(v 81), (v 83)]), o 85 (.mov (v 11)), o 86 (.bin .geq (v 85) (i 0)), o 87 (.eq true .scalar (v 84) (v 86))])
            (.cond (v 87) (.seq (R [o 4 (.mov ff)])
             (.ret))
            (.skip)))
           (.seq (R [o 88 (.mov (v 11)), o 89 (.bin .geq (v 88) (i 0))])
           (.cond (v 89) (R [o 90 (.mov (v 6)), o 91 (.mov (v 11)), o 92 (.call (.func 19) [(v 90), (v 91)]), o 6 (.mov (v 92))])
           (.skip)))))

def a4_3 : ACode :=
 (.seq (R [o 95 (.buildSlice 28 5 0 [] []), o 96 (.buildSlice 28 5 0 [] []), o 12 (.mov (v 95)), o 13 (.mov (v 96))])
            (.seq (.seq (R [o 14 (.mov (i 0))])
             (.block 3 (.loop [0, 1, 5, 6, 7, 8, 12, 13, 14] (.seq (.seq (R [o 97 (.mov (v 14)), o 98 (.mov (v 6)), o 99 (.len .slice (v 98)), o 100 (.bin .lss (v 97) (v 99))])
                (.cond (v 100) (.skip)
                (.exit 3)))
               (.seq (.block 4 (.seq (R [o 103 (.mov (v 6)), o 104 (.mov (v 14)), o 105 (.indexAddr 5 (v 103) (v 104)), o 106 (.fieldAddr 4 (v 105)), o 107 (.load none (v 106)), o 108 (.bin .gtr (v 107) (i 0)), o 109 (.mov (v 108)), ot 109 110 (.mov (v 6)), ot 109 111 (.mov (v 14)), ot 109 112 (.indexAddr 5 (v 110) (v 111)), ot 109 113 (.fieldAddr 4 (v 112)), ot 109 114 (.load none (v 113)), ot 109 115 (.fieldAddr 1 (v 8)), ot 109 116 (.load none (v 115)), ot 109 117 (.bin .lss (v 114) (v 116)), o 118 (.pick (v 109) (v 117) ff)])
                 (.cond (v 118) (R [o 119 (.mov (v 12)), o 120 (.mov (v 6)), o 121 (.mov (v 14)), o 122 (.indexAddr 5 (v 120) (v 121)), o 123 (.load (some 5) (v 122)), o 124 (.buildSlice 28 5 1 [(.int .i64 0), (.string ⟨#[]⟩), (.string ⟨#[]⟩), (.int .i64 0), (.int .i64 0)] [(0, 5, (v 123))]), o 125 (.append 28 5 56 (v 119) (v 124)), o 12 (.mov (v 125))])
                 (R [o 126 (.mov (v 13)), o 127 (.mov (v 6)), o 128 (.mov (v 14)), o 129 (.indexAddr 5 (v 127) (v 128)), o 130 (.load (some 5) (v 129)), o 131 (.buildSlice 28 5 1 [(.int .i64 0), (.string ⟨#[]⟩), (.string ⟨#[]⟩), (.int .i64 0), (.int .i64 0)] [(0, 5, (v 130))]), o 132 (.append 28 5 56 (v 126) (v 131)), o 13 (.mov (v 132))]))))
               (R [o 101 (.mov (v 14)), o 102 (.bin .add (v 101) (i 1)), o 14 (.mov (v 102))]))))))
            (.seq (.seq (R [o 133 (.mov (v 5)), o 134 (.fieldAddr 1 (v 8)), o 135 (.load none (v 134)), o 136 (.call (.func 21) [(v 133), (v 135)]), o 137 (.mov (v 12)), o 138 (.call (.func 20) [(v 136), (v 137)]), o 139 (.un .not (v 138))])
             (.cond (v 139) (.seq (R [o 4 (.mov ff)])
              (.ret))
             (.skip)))
            (R [o 140 (.mov (v 13)), o 6 (.mov (v 140))]))))

def a4_c : ACode :=
 (.seq (R [o 142 (.mov (v 5)), o 143 (.call (.func 13) [(v 142)]), o 141 (.mov (v 143)), o 144 (.extract (v 141) 0), o 145 (.extract (v 141) 1), o 15 (.alloc 28 [(.int .i64 0), (.string ⟨#[]⟩), (.string ⟨#[]⟩), (.int .i64 0), (.int .i64 0)]), on (.store 5 (v 15) (v 144)), o 16 (.mov (v 145))])
      (.seq (R [o 146 (.mov (v 16)), o 147 (.mov (v 6)), o 148 (.len .slice (v 147)), o 149 (.bin .gtr (v 148) (i 0)), o 150 (.eq true .scalar (v 146) (v 149)), o 151 (.mov (v 150)), of 151 152 (.mov (v 16)), of 151 153 (.mov (v 152)), ot 153 154 (.load (some 5) (v 15)), ot 153 155 (.mov (v 6)), ot 153 156 (.indexAddr 5 (v 155) (i 0)), ot 153 157 (.load (some 5) (v 156)), ot 153 158 (.eq true (.plain [.int, .string, .string, .int, .int]) (v 154) (v 157)), of 151 159 (.pick (v 153) (v 158) ff), o 160 (.pick (v 151) tt (v 159)), o 161 (.mov (v 160)), of 161 162 (.mov (v 5)), of 161 163 (.call (.func 22) [(v 162)]), of 161 164 (.mov (v 6)), of 161 165 (.len .slice (v 164)), of 161 166 (.bin .neq (v 163) (v 165)), o 167 (.pick (v 161) tt (v 166)), o 168 (.mov (v 167)), of 168 169 (.mov (v 5)), of 168 170 (.call (.func 23) [(v 169)]), of 168 171 (.mov (v 6)), of 168 172 (.call (.func 20) [(v 170), (v 171)]), of 168 173 (.un .not (v 172)), o 174 (.pick (v 168) tt (v 173))])
      (.cond (v 174) (.seq (R [o 4 (.mov ff)])
       (.ret))
      (.skip))))

theorem code4_eq : code4 =
 .seq (R [o 4 (.mov ff)])
 (.seq (R [o 17 (.mov (v 0)), o 18 (.call (.func 11) [(v 17)]), o 5 (.mov (v 18))])
 (.seq (R [o 19 (.buildSlice 28 5 0 [] []), o 6 (.mov (v 19))])
 (.seq (.seq (R [o 7 (.mov (i 0))])
  (.block 0 (.loop [0, 1, 5, 6, 7] (.seq (.seq (R [o 20 (.mov (v 7)), o 21 (.mov (v 1)), o 22 (.len .slice (v 21)), o 23 (.bin .lss (v 20) (v 22)), o 24 (.mov (v 23)), ot 24 25 (.mov (v 7)), ot 24 26 (.bin .lss (v 25) (i 80)), o 27 (.pick (v 24) (v 26) ff)])
     (.cond (v 27) (.skip)
     (.exit 0)))
    (.seq (.block 1 (.seq (R [o 30 (.mov (v 1)), o 31 (.mov (v 7)), o 32 (.indexAddr 7 (v 30) (v 31)), o 33 (.load (some 7) (v 32)), o 8 (.alloc 37 [(.int .i64 0), (.int .i64 0), (.int .i64 0), (.string ⟨#[]⟩), (.string ⟨#[]⟩), (.int .i64 0), (.int .i64 0)]), on (.store 7 (v 8) (v 33))])
      (.seq (R [o 34 (.mov (v 6)), o 35 (.fieldAddr 2 (v 8)), o 36 (.fieldAddr 0 (v 35)), o 37 (.load none (v 36)), o 38 (.call (.func 16) [(v 34), (v 37)]), o 39 (.bin .geq (v 38) (i 0)), o 9 (.mov (v 39))])
      (.seq (.seq (R [o 40 (.fieldAddr 0 (v 8)), o 41 (.load none (v 40))])
       (.block 2 (.seq (R [o 43 (.bin .eql (v 41) (i 0)), o 42 (.mov (v 43))])
        (.cond (v 42) a4_0
        (.seq (R [o 62 (.bin .eql (v 41) (i 1)), o 61 (.mov (v 62))])
         (.cond (v 61) a4_1
         (.seq (R [o 76 (.bin .eql (v 41) (i 2)), o 75 (.mov (v 76))])
          (.cond (v 75) a4_2
          (.seq (R [o 94 (.bin .eql (v 41) (i 3)), o 93 (.mov (v 94))])
           (.cond (v 93) a4_3
           (.skip)))))))))))
      a4_c))))
    (R [o 28 (.mov (v 7)), o 29 (.bin .add (v 28) (i 1)), o 7 (.mov (v 29))]))))))
 (.seq (R [o 175 (.call (.func 15) []), o 4 (.mov (v 175))])
 (.ret))))) := rfl

/-- An act. -/
structure QAct where
  what : Int
  n : Int
  r : QReq
def QAct.cells (a : QAct) : List Value := i64 a.what :: i64 a.n :: a.r.cells

theorem act_facts (a : QAct) : a.cells.length = 7 ∧ (a.cells.drop 2).take 5 = a.r.cells ∧ a.cells[0]? = some (i64 a.what) ∧ a.cells[1]? = some (i64 a.n) ∧ a.cells[2]? = some (i64 a.r.id) ∧ a.cells.all isCell = true := ⟨rfl, rfl, rfl, rfl, rfl, rfl⟩

/-- How many there may be. -/
def mostOf (most : Int) : Int := if 0 > most then 0 else most

/-- The queue, and the list beside it. -/
structure PR (s0 s : St) (q : Nat) (most : Int) (L : List QReq) (lv : Value) (T : List Nat) : Prop where
  rep : ∃ S SL, QRep s q (mostOf most) L S ∧ RowsP 28 5 s lv (cellsL L) SL ∧ (∀ x ∈ S, s0.next ≤ x ∧ x ∉ T) ∧ (∀ x ∈ SL, s0.next ≤ x ∧ x ≠ q ∧ x ∉ S ∧ x ∉ T)
  sorted : SortedR L
  uniq : UniqR L
  q0 : s0.next ≤ q
  qT : q ∉ T
  tlt : ∀ x ∈ T, x < s.next
  kept : Kept [] s0 s

section
variable {tbl : FuncId → Option AFun} {ov : CallSem} {s0 s : St} (T : QTbl tbl)
include T

theorem act0 (ho : OvOK ov) {e : Env} {q ab : Nat} {most : Int} {L : List QReq} {lv : Value} {a : QAct} {Q : AExit → Env → St → Prop} (hP : PR s0 s q most L lv [ab]) (hn : L.length < 1000) (ha : s.heap.get ab = some (.cells a.cells 37 0 false)) (ha0 : s0.next ≤ ab)
    (g0 : e.get 0 = some (i64 most)) (g5 : e.get 5 = some (ptr q)) (g6 : e.get 6 = some lv) (g8 : e.get 8 = some (ptr ab)) (g9 : e.get 9 = some (.bool (posL a.r.id L).isSome))
    (hQ : ∀ e' s' L' lv', (∀ t ∈ [0, 1, 5, 7], e'.get t = e.get t) → e'.get 6 = some lv' → PR s0 s' q most L' lv' [] → L'.length ≤ L.length + 1 → Q .normal e' s') :
    WCode (fun k => call tbl ov k) a4_0 e s Q := by
  obtain ⟨f1, f2, f3, f4, f5, f6⟩ := act_facts a
  obtain ⟨S, SL, hR, hLv, hS, hSL⟩ := hP.rep
  have hg4 : ∀ {e' : Env}, (∀ t ∈ [0, 1, 5, 7], e'.get t = e.get t) ↔ e'.get 0 = e.get 0 ∧ e'.get 1 = e.get 1 ∧ e'.get 5 = e.get 5 ∧ e'.get 7 = e.get 7 := by
    intro e'; simp
  cases hp : posL a.r.id L with
  | some j =>
    rw [hp] at g9
    simp -implicitDefEqProofs only [a4_0, go_sem, reduceIte, Nat.reduceEqDiff, Nat.reduceAdd, Nat.reduceMul, Nat.reduceLT, Nat.reduceLeDiff, reduceCtorEq, Int.reduceEq, Int.reduceNeg, Nat.reduceSub, Int.reduceLT, Int.reduceLE, Int.reduceGT, Int.reduceGE, Int.reduceAdd, Int.reduceSub, Int.reduceToNat, Int.reduceBNe, Int.reduceBEq, Nat.mul_one, Nat.zero_mul, g0, g5, g6, g8, g9, Option.isSome_some, ha, f1, f2]
    refine WCall.mono (p12d T (r := a.r) hR (by omega) (by rw [hp]; simp)) ?_
    rintro v s1 ⟨rfl, hk1⟩
    simp -implicitDefEqProofs only [go_sem, reduceIte, Nat.reduceEqDiff, Nat.reduceAdd, Nat.reduceMul, Nat.reduceLT, Nat.reduceLeDiff, reduceCtorEq, Int.reduceEq, Int.reduceNeg, Nat.reduceSub, Int.reduceLT, Int.reduceLE, Int.reduceGT, Int.reduceGE, Int.reduceAdd, Int.reduceSub, Int.reduceToNat, Int.reduceBNe, Int.reduceBEq, Nat.mul_one, Nat.zero_mul]
    refine hQ _ s1 L lv (hg4.2 ?_) ?_ ⟨⟨S, SL, hR.kept hk1 (by simp) (by simp), hLv.kept hk1 (by simp), fun x hx => ⟨(hS x hx).1, by simp⟩, fun x hx => ⟨(hSL x hx).1, (hSL x hx).2.1, (hSL x hx).2.2.1, by simp⟩⟩, hP.sorted, hP.uniq, hP.q0, by simp, by simp, hP.kept.trans hk1⟩ (by omega)
    · simp -implicitDefEqProofs only [go_sem, reduceIte, Nat.reduceEqDiff, Nat.reduceAdd, Nat.reduceMul, Nat.reduceLT, Nat.reduceLeDiff, reduceCtorEq, Int.reduceEq, Int.reduceNeg, Nat.reduceSub, Int.reduceLT, Int.reduceLE, Int.reduceGT, Int.reduceGE, Int.reduceAdd, Int.reduceSub, Int.reduceToNat, Int.reduceBNe, Int.reduceBEq, Nat.mul_one, Nat.zero_mul]
    · simp -implicitDefEqProofs only [go_sem, reduceIte, Nat.reduceEqDiff, Nat.reduceAdd, Nat.reduceMul, Nat.reduceLT, Nat.reduceLeDiff, reduceCtorEq, Int.reduceEq, Int.reduceNeg, Nat.reduceSub, Int.reduceLT, Int.reduceLE, Int.reduceGT, Int.reduceGE, Int.reduceAdd, Int.reduceSub, Int.reduceToNat, Int.reduceBNe, Int.reduceBEq, Nat.mul_one, Nat.zero_mul, g6]
  | none =>
    rw [hp] at g9
    obtain ⟨va, vc, hlv⟩ := hLv.toV.len
    rw [List.length_map] at hlv
    subst hlv
    have hmo : (mostOf most ≤ (L.length : Int)) ↔ (L.length : Int) ≥ most := by unfold mostOf; split <;> omega
    cases hfull : decide ((L.length : Int) ≥ most)
    · have hroom : (L.length : Int) < mostOf most := by
        have : ¬ (L.length : Int) ≥ most := by simpa using hfull
        rw [← hmo] at this; omega
      simp -implicitDefEqProofs only [a4_0, go_sem, reduceIte, Nat.reduceEqDiff, Nat.reduceAdd, Nat.reduceMul, Nat.reduceLT, Nat.reduceLeDiff, reduceCtorEq, Int.reduceEq, Int.reduceNeg, Nat.reduceSub, Int.reduceLT, Int.reduceLE, Int.reduceGT, Int.reduceGE, Int.reduceAdd, Int.reduceSub, Int.reduceToNat, Int.reduceBNe, Int.reduceBEq, Nat.mul_one, Nat.zero_mul, g0, g5, g6, g8, g9, Option.isSome_none, ha, f1, f2, hfull]
      refine WCall.mono (p12 T ho (r := a.r) hR hP.sorted (by omega) hp hroom) ?_
      rintro v s1 ⟨rfl, S', hR1, hk1, hS1⟩
      have hks : Kept (q :: S) s s1 := hk1
      have hab : s1.heap.get ab = some (.cells a.cells 37 0 false) := by
        rw [hk1.2 ab (hP.tlt ab (by simp)) (by
          simp only [List.mem_cons, not_or]
          refine ⟨fun h => hP.qT (by simp [h]), fun h => ?_⟩
          have := (hS ab h).2
          simp at this)]
        exact ha
      have hL1 : RowsP 28 5 s1 (.slice va L.length vc) (cellsL L) SL := hLv.kept hk1 (fun x hx => by
        have := hSL x hx
        simp only [List.mem_cons, not_or]
        exact ⟨this.2.1, this.2.2.1⟩)
      simp -implicitDefEqProofs only [go_sem, reduceIte, Nat.reduceEqDiff, Nat.reduceAdd, Nat.reduceMul, Nat.reduceLT, Nat.reduceLeDiff, reduceCtorEq, Int.reduceEq, Int.reduceNeg, Nat.reduceSub, Int.reduceLT, Int.reduceLE, Int.reduceGT, Int.reduceGE, Int.reduceAdd, Int.reduceSub, Int.reduceToNat, Int.reduceBNe, Int.reduceBEq, Nat.mul_one, Nat.zero_mul, g0, g5, g6, g8, g9, hab, f1, f2]
      refine WCall.mono (p17 T (r := a.r) hL1.toV (by omega) trivial) ?_
      rintro v s2 ⟨S2, hL2, hk2, hS2⟩
      simp -implicitDefEqProofs only [go_sem, reduceIte, Nat.reduceEqDiff, Nat.reduceAdd, Nat.reduceMul, Nat.reduceLT, Nat.reduceLeDiff, reduceCtorEq, Int.reduceEq, Int.reduceNeg, Nat.reduceSub, Int.reduceLT, Int.reduceLE, Int.reduceGT, Int.reduceGE, Int.reduceAdd, Int.reduceSub, Int.reduceToNat, Int.reduceBNe, Int.reduceBEq, Nat.mul_one, Nat.zero_mul]
      have hq1 := hR1.lt
      refine hQ _ s2 (insL a.r L) v (hg4.2 ?_) ?_ ⟨⟨S', S2, hR1.kept hk2 (by simp) (by simp), hL2, fun x hx => ⟨?_, by simp⟩, fun x hx => ⟨?_, ?_, ?_, by simp⟩⟩, insL_sorted hP.sorted hp, insL_uniq hP.uniq hp, hP.q0, by simp, by simp, ⟨Nat.le_trans (Nat.le_trans hP.kept.1 hk1.1) hk2.1, fun j hj _ => ?_⟩⟩ (by rw [insL_length]; exact Nat.le_refl _)
      · simp -implicitDefEqProofs only [go_sem, reduceIte, Nat.reduceEqDiff, Nat.reduceAdd, Nat.reduceMul, Nat.reduceLT, Nat.reduceLeDiff, reduceCtorEq, Int.reduceEq, Int.reduceNeg, Nat.reduceSub, Int.reduceLT, Int.reduceLE, Int.reduceGT, Int.reduceGE, Int.reduceAdd, Int.reduceSub, Int.reduceToNat, Int.reduceBNe, Int.reduceBEq, Nat.mul_one, Nat.zero_mul]
      · simp -implicitDefEqProofs only [go_sem, reduceIte, Nat.reduceEqDiff, Nat.reduceAdd, Nat.reduceMul, Nat.reduceLT, Nat.reduceLeDiff, reduceCtorEq, Int.reduceEq, Int.reduceNeg, Nat.reduceSub, Int.reduceLT, Int.reduceLE, Int.reduceGT, Int.reduceGE, Int.reduceAdd, Int.reduceSub, Int.reduceToNat, Int.reduceBNe, Int.reduceBEq, Nat.mul_one, Nat.zero_mul]
      · rcases hS1 x hx with h | h
        · exact (hS x h).1
        · exact Nat.le_trans hP.kept.1 h
      · have := hS2 x hx; have := hk1.1; have := hP.kept.1; omega
      · have := hS2 x hx; have := hq1.1; omega
      · intro h
        have := hS2 x hx; have := hq1.2 x h; omega
      · have hj2 := hP.kept.1
        have hj3 := hk1.1
        rw [hk2.2 j (by omega) (by simp), hk1.2 j (by omega) (by
          simp only [List.mem_cons, not_or]
          refine ⟨by have := hP.q0; omega, fun h => ?_⟩
          have := (hS j h).1
          omega)]
        exact hP.kept.2 j hj (by simp)
    · have hf : (L.length : Int) ≥ mostOf most := by
        have : (L.length : Int) ≥ most := by simpa using hfull
        rw [← hmo] at this; exact this
      simp -implicitDefEqProofs only [a4_0, go_sem, reduceIte, Nat.reduceEqDiff, Nat.reduceAdd, Nat.reduceMul, Nat.reduceLT, Nat.reduceLeDiff, reduceCtorEq, Int.reduceEq, Int.reduceNeg, Nat.reduceSub, Int.reduceLT, Int.reduceLE, Int.reduceGT, Int.reduceGE, Int.reduceAdd, Int.reduceSub, Int.reduceToNat, Int.reduceBNe, Int.reduceBEq, Nat.mul_one, Nat.zero_mul, g0, g5, g6, g8, g9, Option.isSome_none, ha, f1, f2, hfull]
      refine WCall.mono (p12f T (r := a.r) hR (by omega) hp hf) ?_
      rintro v s1 ⟨rfl, hk1⟩
      simp -implicitDefEqProofs only [go_sem, reduceIte, Nat.reduceEqDiff, Nat.reduceAdd, Nat.reduceMul, Nat.reduceLT, Nat.reduceLeDiff, reduceCtorEq, Int.reduceEq, Int.reduceNeg, Nat.reduceSub, Int.reduceLT, Int.reduceLE, Int.reduceGT, Int.reduceGE, Int.reduceAdd, Int.reduceSub, Int.reduceToNat, Int.reduceBNe, Int.reduceBEq, Nat.mul_one, Nat.zero_mul]
      refine hQ _ s1 L (.slice va L.length vc) (hg4.2 ?_) ?_ ⟨⟨S, SL, hR.kept hk1 (by simp) (by simp), hLv.kept hk1 (by simp), fun x hx => ⟨(hS x hx).1, by simp⟩, fun x hx => ⟨(hSL x hx).1, (hSL x hx).2.1, (hSL x hx).2.2.1, by simp⟩⟩, hP.sorted, hP.uniq, hP.q0, by simp, by simp, hP.kept.trans hk1⟩ (by omega)
      · simp -implicitDefEqProofs only [go_sem, reduceIte, Nat.reduceEqDiff, Nat.reduceAdd, Nat.reduceMul, Nat.reduceLT, Nat.reduceLeDiff, reduceCtorEq, Int.reduceEq, Int.reduceNeg, Nat.reduceSub, Int.reduceLT, Int.reduceLE, Int.reduceGT, Int.reduceGE, Int.reduceAdd, Int.reduceSub, Int.reduceToNat, Int.reduceBNe, Int.reduceBEq, Nat.mul_one, Nat.zero_mul]
      · simp -implicitDefEqProofs only [go_sem, reduceIte, Nat.reduceEqDiff, Nat.reduceAdd, Nat.reduceMul, Nat.reduceLT, Nat.reduceLeDiff, reduceCtorEq, Int.reduceEq, Int.reduceNeg, Nat.reduceSub, Int.reduceLT, Int.reduceLE, Int.reduceGT, Int.reduceGE, Int.reduceAdd, Int.reduceSub, Int.reduceToNat, Int.reduceBNe, Int.reduceBEq, Nat.mul_one, Nat.zero_mul, g6]

omit T in
theorem get_four {e e' : Env} : (∀ t ∈ [0, 1, 5, 7], e'.get t = e.get t) ↔ e'.get 0 = e.get 0 ∧ e'.get 1 = e.get 1 ∧ e'.get 5 = e.get 5 ∧ e'.get 7 = e.get 7 := by simp

omit T in
/-- The act's block is let go. -/
theorem PR.drop {q : Nat} {most : Int} {L : List QReq} {lv : Value} {U : List Nat} (hP : PR s0 s q most L lv U) : PR s0 s q most L lv [] := by
  obtain ⟨S, SL, hR, hLv, hS, hSL⟩ := hP.rep
  exact ⟨⟨S, SL, hR, hLv, fun x hx => ⟨(hS x hx).1, by simp⟩, fun x hx => ⟨(hSL x hx).1, (hSL x hx).2.1, (hSL x hx).2.2.1, by simp⟩⟩, hP.sorted, hP.uniq, hP.q0, by simp, by simp, hP.kept⟩

omit T in
theorem PR.keep {q : Nat} {most : Int} {L : List QReq} {lv : Value} {U : List Nat} {s1 : St} (hP : PR s0 s q most L lv U) (hk : Kept [] s s1) : PR s0 s1 q most L lv U := by
  obtain ⟨S, SL, hR, hLv, hS, hSL⟩ := hP.rep
  exact ⟨⟨S, SL, hR.kept hk (by simp) (by simp), hLv.kept hk (by simp), hS, hSL⟩, hP.sorted, hP.uniq, hP.q0, hP.qT, fun x hx => Nat.lt_of_lt_of_le (hP.tlt x hx) hk.1, hP.kept.trans hk⟩

omit T in
/-- The queue has turned, and then the list. -/
theorem PR.step {q : Nat} {most : Int} {L L' : List QReq} {lv v : Value} {s1 s2 : St} {S S' S2 U : List Nat} (hP : PR s0 s q most L lv U) (hlt : ∀ x ∈ S, s0.next ≤ x) (hR1 : QRep s1 q (mostOf most) L' S') (hk1 : Kept (q :: S) s s1) (hS1 : ∀ x ∈ S', x ∈ S ∨ s.next ≤ x)
    (hL2 : RowsP 28 5 s2 v (cellsL L') S2) (hk2 : Kept [] s1 s2) (hS2 : ∀ x ∈ S2, s1.next ≤ x) (hs : SortedR L') (hu : UniqR L') : PR s0 s2 q most L' v [] := by
  have hq1 := hR1.lt
  refine ⟨⟨S', S2, hR1.kept hk2 (by simp) (by simp), hL2, fun x hx => ⟨?_, by simp⟩, fun x hx => ⟨?_, ?_, ?_, by simp⟩⟩, hs, hu, hP.q0, by simp, by simp, ⟨Nat.le_trans (Nat.le_trans hP.kept.1 hk1.1) hk2.1, fun j hj _ => ?_⟩⟩
  · rcases hS1 x hx with h | h
    · exact hlt x h
    · exact Nat.le_trans hP.kept.1 h
  · have := hS2 x hx; have := hk1.1; have := hP.kept.1; omega
  · have := hS2 x hx; have := hq1.1; omega
  · intro h
    have := hS2 x hx; have := hq1.2 x h; omega
  · have hj2 := hP.kept.1
    have hj3 := hk1.1
    rw [hk2.2 j (by omega) (by simp), hk1.2 j (by omega) (by
      simp only [List.mem_cons, not_or]
      refine ⟨by have := hP.q0; omega, fun h => ?_⟩
      have := hlt j h
      omega)]
    exact hP.kept.2 j hj (by simp)

theorem act1 (ho : OvOK ov) {e : Env} {q ab : Nat} {most : Int} {L : List QReq} {lv : Value} {a : QAct} {Q : AExit → Env → St → Prop} (hP : PR s0 s q most L lv [ab]) (hn : L.length < 1000) (ha : s.heap.get ab = some (.cells a.cells 37 0 false))
    (g0 : e.get 0 = some (i64 most)) (g5 : e.get 5 = some (ptr q)) (g6 : e.get 6 = some lv) (g8 : e.get 8 = some (ptr ab)) (g9 : e.get 9 = some (.bool (posL a.r.id L).isSome))
    (hQ : ∀ e' s' L' lv', (∀ t ∈ [0, 1, 5, 7], e'.get t = e.get t) → e'.get 6 = some lv' → PR s0 s' q most L' lv' [] → L'.length ≤ L.length + 1 → Q .normal e' s') :
    WCode (fun k => call tbl ov k) a4_1 e s Q := by
  obtain ⟨f1, f2, f3, f4, f5, f6⟩ := act_facts a
  obtain ⟨S, SL, hR, hLv, hS, hSL⟩ := hP.rep
  have ebT : (true == false) = false := rfl
  have ebF : (false == true) = false := rfl
  cases hp : posL a.r.id L with
  | some j =>
    rw [hp] at g9
    simp -implicitDefEqProofs only [a4_1, go_sem, reduceIte, Nat.reduceEqDiff, Nat.reduceAdd, Nat.reduceMul, Nat.reduceLT, Nat.reduceLeDiff, reduceCtorEq, Int.reduceEq, Int.reduceNeg, Nat.reduceSub, Int.reduceLT, Int.reduceLE, Int.reduceGT, Int.reduceGE, Int.reduceAdd, Int.reduceSub, Int.reduceToNat, Int.reduceBNe, Int.reduceBEq, Nat.mul_one, Nat.zero_mul, g0, g5, g6, g8, g9, Option.isSome_some, ha, f1, f2]
    refine WCall.mono (p18d T (r := a.r) hR (by omega) (by rw [hp]; simp)) ?_
    rintro v s1 ⟨rfl, hk1⟩
    simp -implicitDefEqProofs only [go_sem, reduceIte, Nat.reduceEqDiff, Nat.reduceAdd, Nat.reduceMul, Nat.reduceLT, Nat.reduceLeDiff, reduceCtorEq, Int.reduceEq, Int.reduceNeg, Nat.reduceSub, Int.reduceLT, Int.reduceLE, Int.reduceGT, Int.reduceGE, Int.reduceAdd, Int.reduceSub, Int.reduceToNat, Int.reduceBNe, Int.reduceBEq, Nat.mul_one, Nat.zero_mul, g9, Option.isSome_some, ebF]
    refine hQ _ s1 L lv (get_four.2 ?_) ?_ (hP.keep hk1).drop (by omega)
    · simp -implicitDefEqProofs only [go_sem, reduceIte, Nat.reduceEqDiff, Nat.reduceAdd, Nat.reduceMul, Nat.reduceLT, Nat.reduceLeDiff, reduceCtorEq, Int.reduceEq, Int.reduceNeg, Nat.reduceSub, Int.reduceLT, Int.reduceLE, Int.reduceGT, Int.reduceGE, Int.reduceAdd, Int.reduceSub, Int.reduceToNat, Int.reduceBNe, Int.reduceBEq, Nat.mul_one, Nat.zero_mul]
    · simp -implicitDefEqProofs only [go_sem, reduceIte, Nat.reduceEqDiff, Nat.reduceAdd, Nat.reduceMul, Nat.reduceLT, Nat.reduceLeDiff, reduceCtorEq, Int.reduceEq, Int.reduceNeg, Nat.reduceSub, Int.reduceLT, Int.reduceLE, Int.reduceGT, Int.reduceGE, Int.reduceAdd, Int.reduceSub, Int.reduceToNat, Int.reduceBNe, Int.reduceBEq, Nat.mul_one, Nat.zero_mul, g6]
  | none =>
    rw [hp] at g9
    simp -implicitDefEqProofs only [a4_1, go_sem, reduceIte, Nat.reduceEqDiff, Nat.reduceAdd, Nat.reduceMul, Nat.reduceLT, Nat.reduceLeDiff, reduceCtorEq, Int.reduceEq, Int.reduceNeg, Nat.reduceSub, Int.reduceLT, Int.reduceLE, Int.reduceGT, Int.reduceGE, Int.reduceAdd, Int.reduceSub, Int.reduceToNat, Int.reduceBNe, Int.reduceBEq, Nat.mul_one, Nat.zero_mul, g0, g5, g6, g8, g9, Option.isSome_none, ha, f1, f2]
    refine WCall.mono (p18 T ho (r := a.r) hR hP.sorted (by omega) hp) ?_
    rintro v s1 ⟨rfl, S', hR1, hk1, hS1⟩
    have hab : s1.heap.get ab = some (.cells a.cells 37 0 false) := by
      rw [hk1.2 ab (hP.tlt ab (by simp)) (by
        simp only [List.mem_cons, not_or]
        refine ⟨fun h => hP.qT (by simp [h]), fun h => ?_⟩
        have := (hS ab h).2
        simp at this)]
      exact ha
    have hL1 : RowsP 28 5 s1 lv (cellsL L) SL := hLv.kept hk1 (fun x hx => by
      have := hSL x hx
      simp only [List.mem_cons, not_or]
      exact ⟨this.2.1, this.2.2.1⟩)
    simp -implicitDefEqProofs only [go_sem, reduceIte, Nat.reduceEqDiff, Nat.reduceAdd, Nat.reduceMul, Nat.reduceLT, Nat.reduceLeDiff, reduceCtorEq, Int.reduceEq, Int.reduceNeg, Nat.reduceSub, Int.reduceLT, Int.reduceLE, Int.reduceGT, Int.reduceGE, Int.reduceAdd, Int.reduceSub, Int.reduceToNat, Int.reduceBNe, Int.reduceBEq, Nat.mul_one, Nat.zero_mul, g0, g5, g6, g8, g9, Option.isSome_none, ebT, hab, f1, f2]
    refine WCall.mono (p17 T (r := a.r) hL1.toV (by omega) trivial) ?_
    rintro v s2 ⟨S2, hL2, hk2, hS2⟩
    simp -implicitDefEqProofs only [go_sem, reduceIte, Nat.reduceEqDiff, Nat.reduceAdd, Nat.reduceMul, Nat.reduceLT, Nat.reduceLeDiff, reduceCtorEq, Int.reduceEq, Int.reduceNeg, Nat.reduceSub, Int.reduceLT, Int.reduceLE, Int.reduceGT, Int.reduceGE, Int.reduceAdd, Int.reduceSub, Int.reduceToNat, Int.reduceBNe, Int.reduceBEq, Nat.mul_one, Nat.zero_mul]
    refine hQ _ s2 (insL a.r L) v (get_four.2 ?_) ?_ (hP.step (fun x hx => (hS x hx).1) hR1 hk1 hS1 hL2 hk2 hS2 (insL_sorted hP.sorted hp) (insL_uniq hP.uniq hp)) (by rw [insL_length]; exact Nat.le_refl _)
    · simp -implicitDefEqProofs only [go_sem, reduceIte, Nat.reduceEqDiff, Nat.reduceAdd, Nat.reduceMul, Nat.reduceLT, Nat.reduceLeDiff, reduceCtorEq, Int.reduceEq, Int.reduceNeg, Nat.reduceSub, Int.reduceLT, Int.reduceLE, Int.reduceGT, Int.reduceGE, Int.reduceAdd, Int.reduceSub, Int.reduceToNat, Int.reduceBNe, Int.reduceBEq, Nat.mul_one, Nat.zero_mul]
    · simp -implicitDefEqProofs only [go_sem, reduceIte, Nat.reduceEqDiff, Nat.reduceAdd, Nat.reduceMul, Nat.reduceLT, Nat.reduceLeDiff, reduceCtorEq, Int.reduceEq, Int.reduceNeg, Nat.reduceSub, Int.reduceLT, Int.reduceLE, Int.reduceGT, Int.reduceGE, Int.reduceAdd, Int.reduceSub, Int.reduceToNat, Int.reduceBNe, Int.reduceBEq, Nat.mul_one, Nat.zero_mul]

theorem act2 {e : Env} {q ab : Nat} {most : Int} {L : List QReq} {lv : Value} {a : QAct} {Q : AExit → Env → St → Prop} (hP : PR s0 s q most L lv [ab]) (hn : L.length < 1000) (ha : s.heap.get ab = some (.cells a.cells 37 0 false))
    (g0 : e.get 0 = some (i64 most)) (g5 : e.get 5 = some (ptr q)) (g6 : e.get 6 = some lv) (g8 : e.get 8 = some (ptr ab))
    (hQ : ∀ e' s' L' lv', (∀ t ∈ [0, 1, 5, 7], e'.get t = e.get t) → e'.get 6 = some lv' → PR s0 s' q most L' lv' [] → L'.length ≤ L.length + 1 → Q .normal e' s') :
    WCode (fun k => call tbl ov k) a4_2 e s Q := by
  obtain ⟨f1, f2, f3, f4, f5, f6⟩ := act_facts a
  obtain ⟨S, SL, hR, hLv, hS, hSL⟩ := hP.rep
  have e16 := fun K => p16 T (ov := ov) (x := a.n) hLv.toV (by omega) K
  cases hp : posL a.n L with
  | none =>
    rw [hp] at e16
    have d1 : decide (posV none ≥ 0) = false := by simp [posV]
    simp -implicitDefEqProofs only [a4_2, go_sem, reduceIte, Nat.reduceEqDiff, Nat.reduceAdd, Nat.reduceMul, Nat.reduceLT, Nat.reduceLeDiff, reduceCtorEq, Int.reduceEq, Int.reduceNeg, Nat.reduceSub, Int.reduceLT, Int.reduceLE, Int.reduceGT, Int.reduceGE, Int.reduceAdd, Int.reduceSub, Int.reduceToNat, Int.reduceBNe, Int.reduceBEq, Nat.mul_one, Nat.zero_mul, g0, g5, g6, g8, ha, f4, e16]
    refine WCall.mono (p14n T hR (by omega) hp) ?_
    rintro v s1 ⟨rfl, hk1⟩
    simp -implicitDefEqProofs only [go_sem, reduceIte, Nat.reduceEqDiff, Nat.reduceAdd, Nat.reduceMul, Nat.reduceLT, Nat.reduceLeDiff, reduceCtorEq, Int.reduceEq, Int.reduceNeg, Nat.reduceSub, Int.reduceLT, Int.reduceLE, Int.reduceGT, Int.reduceGE, Int.reduceAdd, Int.reduceSub, Int.reduceToNat, Int.reduceBNe, Int.reduceBEq, Nat.mul_one, Nat.zero_mul, d1]
    refine hQ _ s1 L lv (get_four.2 ?_) ?_ (hP.keep hk1).drop (by omega)
    · simp -implicitDefEqProofs only [go_sem, reduceIte, Nat.reduceEqDiff, Nat.reduceAdd, Nat.reduceMul, Nat.reduceLT, Nat.reduceLeDiff, reduceCtorEq, Int.reduceEq, Int.reduceNeg, Nat.reduceSub, Int.reduceLT, Int.reduceLE, Int.reduceGT, Int.reduceGE, Int.reduceAdd, Int.reduceSub, Int.reduceToNat, Int.reduceBNe, Int.reduceBEq, Nat.mul_one, Nat.zero_mul]
    · simp -implicitDefEqProofs only [go_sem, reduceIte, Nat.reduceEqDiff, Nat.reduceAdd, Nat.reduceMul, Nat.reduceLT, Nat.reduceLeDiff, reduceCtorEq, Int.reduceEq, Int.reduceNeg, Nat.reduceSub, Int.reduceLT, Int.reduceLE, Int.reduceGT, Int.reduceGE, Int.reduceAdd, Int.reduceSub, Int.reduceToNat, Int.reduceBNe, Int.reduceBEq, Nat.mul_one, Nat.zero_mul, g6]
  | some k =>
    rw [hp] at e16
    have hpv : posV (some k) = (k : Int) := rfl
    rw [hpv] at e16
    have d1 : decide ((k : Int) ≥ 0) = true := by simp
    obtain ⟨hkl, _⟩ := posL_lt hp
    simp -implicitDefEqProofs only [a4_2, go_sem, reduceIte, Nat.reduceEqDiff, Nat.reduceAdd, Nat.reduceMul, Nat.reduceLT, Nat.reduceLeDiff, reduceCtorEq, Int.reduceEq, Int.reduceNeg, Nat.reduceSub, Int.reduceLT, Int.reduceLE, Int.reduceGT, Int.reduceGE, Int.reduceAdd, Int.reduceSub, Int.reduceToNat, Int.reduceBNe, Int.reduceBEq, Nat.mul_one, Nat.zero_mul, g0, g5, g6, g8, ha, f4, e16]
    refine WCall.mono (p14 T hR (by omega) hp) ?_
    rintro v s1 ⟨rfl, hR1, hk1⟩
    have hL1 : RowsP 28 5 s1 lv (cellsL L) SL := hLv.kept hk1 (fun x hx => by
      have := hSL x hx
      simp only [List.mem_cons, not_or]
      exact ⟨this.2.1, this.2.2.1⟩)
    simp -implicitDefEqProofs only [go_sem, reduceIte, Nat.reduceEqDiff, Nat.reduceAdd, Nat.reduceMul, Nat.reduceLT, Nat.reduceLeDiff, reduceCtorEq, Int.reduceEq, Int.reduceNeg, Nat.reduceSub, Int.reduceLT, Int.reduceLE, Int.reduceGT, Int.reduceGE, Int.reduceAdd, Int.reduceSub, Int.reduceToNat, Int.reduceBNe, Int.reduceBEq, Nat.mul_one, Nat.zero_mul, d1, g6]
    refine WCall.mono (p19 T hL1.toV hkl (by omega)) ?_
    rintro v s2 ⟨S2, hL2, hk2, hS2⟩
    simp -implicitDefEqProofs only [go_sem, reduceIte, Nat.reduceEqDiff, Nat.reduceAdd, Nat.reduceMul, Nat.reduceLT, Nat.reduceLeDiff, reduceCtorEq, Int.reduceEq, Int.reduceNeg, Nat.reduceSub, Int.reduceLT, Int.reduceLE, Int.reduceGT, Int.reduceGE, Int.reduceAdd, Int.reduceSub, Int.reduceToNat, Int.reduceBNe, Int.reduceBEq, Nat.mul_one, Nat.zero_mul]
    have hsub : (L.take k ++ L.drop (k + 1)).Sublist L := by
      conv => rhs; rw [← List.take_append_drop k L]
      exact List.Sublist.append (List.Sublist.refl _) (by rw [← List.drop_drop]; exact List.drop_sublist _ _)
    refine hQ _ s2 (L.take k ++ L.drop (k + 1)) v (get_four.2 ?_) ?_ (hP.step (fun x hx => (hS x hx).1) hR1 hk1 (fun x hx => .inl hx) hL2 hk2 hS2 (hP.sorted.sublist hsub) (hP.uniq.sublist hsub)) (by have := hsub.length_le; omega)
    · simp -implicitDefEqProofs only [go_sem, reduceIte, Nat.reduceEqDiff, Nat.reduceAdd, Nat.reduceMul, Nat.reduceLT, Nat.reduceLeDiff, reduceCtorEq, Int.reduceEq, Int.reduceNeg, Nat.reduceSub, Int.reduceLT, Int.reduceLE, Int.reduceGT, Int.reduceGE, Int.reduceAdd, Int.reduceSub, Int.reduceToNat, Int.reduceBNe, Int.reduceBEq, Nat.mul_one, Nat.zero_mul]
    · simp -implicitDefEqProofs only [go_sem, reduceIte, Nat.reduceEqDiff, Nat.reduceAdd, Nat.reduceMul, Nat.reduceLT, Nat.reduceLeDiff, reduceCtorEq, Int.reduceEq, Int.reduceNeg, Nat.reduceSub, Int.reduceLT, Int.reduceLE, Int.reduceGT, Int.reduceGE, Int.reduceAdd, Int.reduceSub, Int.reduceToNat, Int.reduceBNe, Int.reduceBEq, Nat.mul_one, Nat.zero_mul]
end

end Go.Proofs.Ytgnpafmhdmmmhaa
