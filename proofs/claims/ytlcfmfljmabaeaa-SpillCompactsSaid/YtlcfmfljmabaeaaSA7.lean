/-
  small, in, the reference's Reqs.
-/
import Derived.Test.YtlcfmfljmabaeaaSP11
import Derived.Test.YtlcfmfljmabaeaaS4
import Derived.Test.YtlcfmfljmabaeaaSA2
import Derived.Test.YtlcfmfljmabaeaaSE14
import Derived.Test.YtlcfmfljmabaeaaA48
import Derived.ProofKit
import Derived.OpenShut
set_option maxRecDepth 100000
set_option linter.unusedVariables false
set_option linter.unusedSimpArgs false
namespace Go.Proofs.Ytlcfmfljmabaeaa
open Go Go.Abs Go.Abs.K

def eqR (a b : RQ) : Bool := a.id == b.id && (a.host == b.host && (a.path == b.path && (a.prio == b.prio && a.till == b.till)))
theorem eqR_iff {a b : RQ} : eqR a b = true ↔ a = b := by
  obtain ⟨a1, a2, a3, a4, a5⟩ := a
  obtain ⟨b1, b2, b3, b4, b5⟩ := b
  simp only [eqR, Bool.and_eq_true, beq_iff_eq, bytes_eq_iff, RQ.mk.injEq]
theorem eqV_req (a b : RQ) : cellsEqK [.int, .string, .string, .int, .int] a.cells b.cells = some (eqR a b) := by
  simp only [RQ.cells, cellsEqK, cellEqK, keyOk, keyEq, Bool.and_self, if_true, Option.bind_some, Option.map_some, eqR, Bool.and_true]
def memB (M : List RQ) (r : RQ) : Bool := M.any fun x => eqR x r
theorem memB_iff {M : List RQ} {r : RQ} : memB M r = true ↔ r ∈ M := by
  unfold memB
  rw [List.any_eq_true]
  constructor
  · rintro ⟨x, hx, h⟩; rw [← eqR_iff.1 h]; exact hx
  · intro h; exact ⟨r, h, eqR_iff.2 rfl⟩
def smallB (r : RQ) : Bool := if decide ((r.host.size : Int) ≤ 300) then decide ((r.path.size : Int) ≤ 800) else false

section
variable {tbl : FuncId → Option AFun} {ov : CallSem} {s : St} (T : STbl tbl)

theorem q21 (t21 : tbl 21 = some fun21) {r : RQ} : WCall (fun k => call tbl ov k) 21 [r.val] s fun u s' => u = .bool (smallB r) ∧ Kept [] s s' := by
  refine WCall.of t21 rfl ?_
  have c1 : r.cells[1]? = some (.string r.host) := rfl
  have c2 : r.cells[2]? = some (.string r.path) := rfl
  unfold smallB
  cases h1 : decide ((r.host.size : Int) ≤ 300)
  · simp -implicitDefEqProofs only [fun21, code21, params, go_sem, reduceIte, Nat.reduceEqDiff, Nat.reduceAdd, Nat.reduceMul, Nat.reduceLT, Nat.reduceLeDiff, reduceCtorEq, Int.reduceEq, Int.reduceNeg, Nat.reduceSub, Int.reduceLT, Int.reduceLE, Int.reduceGT, Int.reduceGE, Int.reduceAdd, Int.reduceSub, Int.reduceToNat, Int.reduceBNe, Int.reduceBEq, Nat.mul_one, Nat.zero_mul, c1, c2, h1]
    exact kept_put_nil (Nat.le_refl _) (Nat.le_succ _)
  · simp -implicitDefEqProofs only [fun21, code21, params, go_sem, reduceIte, Nat.reduceEqDiff, Nat.reduceAdd, Nat.reduceMul, Nat.reduceLT, Nat.reduceLeDiff, reduceCtorEq, Int.reduceEq, Int.reduceNeg, Nat.reduceSub, Int.reduceLT, Int.reduceLE, Int.reduceGT, Int.reduceGE, Int.reduceAdd, Int.reduceSub, Int.reduceToNat, Int.reduceBNe, Int.reduceBEq, Nat.mul_one, Nat.zero_mul, c1, c2, h1]
    exact kept_put_nil (Nat.le_refl _) (Nat.le_succ _)

theorem q23 (t23 : tbl 23 = some fun23) {M : List RQ} {lv : Value} {r : RQ} (hr : RowV 5 s lv (rqsR M)) (hn : M.length < 2 ^ 40) :
    WCall (fun k => call tbl ov k) 23 [lv, r.val] s fun u s' => u = .bool (memB M r) ∧ Kept [] s s' := by
  refine WCall.of t23 rfl ?_
  obtain ⟨a, cap, hlv⟩ := hr.len
  rw [List.length_map] at hlv
  subst hlv
  obtain ⟨b, hb⟩ : ∃ b, b = s.next := ⟨_, rfl⟩
  obtain ⟨s1, hs1⟩ : ∃ s1 : St, s1 = ⟨s.heap.put b (some (.cells r.cells 32 0 false)), b + 1⟩ := ⟨_, rfl⟩
  have hk1 : Kept [] s s1 := by rw [hs1, hb]; exact kept_put_nil (Nat.le_refl _) (Nat.le_succ _)
  have hp1 : s1.heap.get b = some (.cells r.cells 32 0 false) := by rw [hs1]; simp only [Heap.get_put, if_true]
  have hr1 := hr.kept hk1
  have lr : r.cells.length = 5 := rfl
  have tr : r.cells.take 5 = r.cells := rfl
  have dr : r.cells.drop 0 = r.cells := rfl
  simp -implicitDefEqProofs only [fun23, code23, params, go_sem, reduceIte, Nat.reduceEqDiff, Nat.reduceAdd, Nat.reduceMul, Nat.reduceLT, Nat.reduceLeDiff, reduceCtorEq, Int.reduceEq, Int.reduceNeg, Nat.reduceSub, Int.reduceLT, Int.reduceLE, Int.reduceGT, Int.reduceGE, Int.reduceAdd, Int.reduceSub, Int.reduceToNat, Int.reduceBNe, Int.reduceBEq, Nat.mul_one, Nat.zero_mul, ← hs1, ← hb]
  obtain ⟨I, hI⟩ : ∃ I : Nat → List Value → St → Prop, I = fun m vs s' => s' = s1 ∧ ∃ i, i ≤ M.length ∧ m = M.length - i ∧ vs = [.slice a M.length cap, ptr b, i64 (i : Nat)] ∧ memB (M.take i) r = false := ⟨_, rfl⟩
  refine wc_loopV I M.length ?_ ?_
  · simp -implicitDefEqProofs only [go_sem, reduceIte, Nat.reduceEqDiff, Nat.reduceAdd, Nat.reduceMul, Nat.reduceLT, Nat.reduceLeDiff, reduceCtorEq, Int.reduceEq, Int.reduceNeg, Nat.reduceSub, Int.reduceLT, Int.reduceLE, Int.reduceGT, Int.reduceGE, Int.reduceAdd, Int.reduceSub, Int.reduceToNat, Int.reduceBNe, Int.reduceBEq, Nat.mul_one, Nat.zero_mul]
    rw [hI]
    exact ⟨rfl, 0, by omega, by omega, rfl, rfl⟩
  · intro m vs s2 hi _
    rw [hI] at hi
    obtain ⟨rfl, i, hil, rfl, rfl, hm⟩ := hi
    cases hlt : decide ((i : Int) < (M.length : Int))
    · have hie : i = M.length := by have := of_decide_eq_false hlt; omega
      subst hie
      rw [List.take_length] at hm
      simp -implicitDefEqProofs only [go_sem, reduceIte, Nat.reduceEqDiff, Nat.reduceAdd, Nat.reduceMul, Nat.reduceLT, Nat.reduceLeDiff, reduceCtorEq, Int.reduceEq, Int.reduceNeg, Nat.reduceSub, Int.reduceLT, Int.reduceLE, Int.reduceGT, Int.reduceGE, Int.reduceAdd, Int.reduceSub, Int.reduceToNat, Int.reduceBNe, Int.reduceBEq, Nat.mul_one, Nat.zero_mul, hlt, hm]
      exact hk1
    · have hiN : i < M.length := by have := of_decide_eq_true hlt; omega
      obtain ⟨x, hx⟩ : ∃ x, M[i]? = some x := ⟨_, List.getElem?_eq_getElem hiN⟩
      obtain ⟨id, o, cap', c, T', ro, hv, hid, hg, hle, hrw, hgi⟩ := row_one hr1 hiN hx
      cases hv
      have hix : 0 ≤ (i : Int) ∧ (i : Int) < (M.length : Int) := by omega
      have w1 : IntKind.i64.wrap ((i : Int) + 1) = ((i + 1 : Nat) : Int) := by rw [IntKind.wrap_i64]; omega
      cases hc : eqR x r
      · simp -implicitDefEqProofs only [go_sem, reduceIte, Nat.reduceEqDiff, Nat.reduceAdd, Nat.reduceMul, Nat.reduceLT, Nat.reduceLeDiff, reduceCtorEq, Int.reduceEq, Int.reduceNeg, Nat.reduceSub, Int.reduceLT, Int.reduceLE, Int.reduceGT, Int.reduceGE, Int.reduceAdd, Int.reduceSub, Int.reduceToNat, Int.reduceBNe, Int.reduceBEq, Nat.mul_one, Nat.zero_mul, hlt, hix, hg, hle, hrw, hp1, lr, tr, dr, Nat.add_zero, eqV_req, hc, w1]
        rw [hI]
        refine ⟨M.length - (i + 1), by omega, rfl, i + 1, by omega, rfl, rfl, ?_⟩
        rw [take_snoc hx]
        unfold memB at hm ⊢
        rw [List.any_append, hm]
        simp [hc]
      · have hm1 : memB M r = true := memB_iff.2 (by rw [← eqR_iff.1 hc]; exact List.mem_of_getElem? hx)
        simp -implicitDefEqProofs only [go_sem, reduceIte, Nat.reduceEqDiff, Nat.reduceAdd, Nat.reduceMul, Nat.reduceLT, Nat.reduceLeDiff, reduceCtorEq, Int.reduceEq, Int.reduceNeg, Nat.reduceSub, Int.reduceLT, Int.reduceLE, Int.reduceGT, Int.reduceGE, Int.reduceAdd, Int.reduceSub, Int.reduceToNat, Int.reduceBNe, Int.reduceBEq, Nat.mul_one, Nat.zero_mul, hlt, hix, hg, hle, hrw, hp1, lr, tr, dr, Nat.add_zero, eqV_req, hc, hm1]
        exact hk1

theorem q24 (t24 : tbl 24 = some fun24) {M N : List RQ} {lv mv : Value} (hr : RowV 5 s lv (rqsR M)) (hm : RowV 5 s mv (rqsR N)) (hn : M.length < 2 ^ 40) (he : M = N) (K : Value → St → Prop) : WCall (fun k => call tbl ov k) 24 [lv, mv] s K = K (.bool true) s := by
  subst he
  refine WCall.eq (WCall.of t24 rfl ?_) K
  obtain ⟨a, cap, hlv⟩ := hr.len
  obtain ⟨a2, cap2, hmv⟩ := hm.len
  rw [List.length_map] at hlv hmv
  subst hlv
  subst hmv
  have hll : ((M.length : Int) != (M.length : Int)) = false := by simp
  simp -implicitDefEqProofs only [fun24, code24, params, go_sem, reduceIte, Nat.reduceEqDiff, Nat.reduceAdd, Nat.reduceMul, Nat.reduceLT, Nat.reduceLeDiff, reduceCtorEq, Int.reduceEq, Int.reduceNeg, Nat.reduceSub, Int.reduceLT, Int.reduceLE, Int.reduceGT, Int.reduceGE, Int.reduceAdd, Int.reduceSub, Int.reduceToNat, Int.reduceBNe, Int.reduceBEq, Nat.mul_one, Nat.zero_mul, hll]
  refine wc_loopV (fun m vs s' => s' = s ∧ ∃ i, i ≤ M.length ∧ m = M.length - i ∧ vs = [.slice a M.length cap, .slice a2 M.length cap2, i64 (i : Nat)]) M.length ?_ ?_
  · simp -implicitDefEqProofs only [go_sem, reduceIte, Nat.reduceEqDiff, Nat.reduceAdd, Nat.reduceMul, Nat.reduceLT, Nat.reduceLeDiff, reduceCtorEq, Int.reduceEq, Int.reduceNeg, Nat.reduceSub, Int.reduceLT, Int.reduceLE, Int.reduceGT, Int.reduceGE, Int.reduceAdd, Int.reduceSub, Int.reduceToNat, Int.reduceBNe, Int.reduceBEq, Nat.mul_one, Nat.zero_mul]
    exact ⟨0, by omega, by omega, rfl⟩
  · rintro m vs s1 ⟨rfl, i, hi, rfl, rfl⟩ _
    cases hlt : decide ((i : Int) < (M.length : Int))
    · simp -implicitDefEqProofs only [go_sem, reduceIte, Nat.reduceEqDiff, Nat.reduceAdd, Nat.reduceMul, Nat.reduceLT, Nat.reduceLeDiff, reduceCtorEq, Int.reduceEq, Int.reduceNeg, Nat.reduceSub, Int.reduceLT, Int.reduceLE, Int.reduceGT, Int.reduceGE, Int.reduceAdd, Int.reduceSub, Int.reduceToNat, Int.reduceBNe, Int.reduceBEq, Nat.mul_one, Nat.zero_mul, hlt]
    · have hiN : i < M.length := by have := of_decide_eq_true hlt; omega
      obtain ⟨x, hx⟩ : ∃ x, M[i]? = some x := ⟨_, List.getElem?_eq_getElem hiN⟩
      obtain ⟨id, o, cap', c, T', ro, hv, hid, hg, hle, hrow, _⟩ := row_one hr hiN hx
      cases hv
      obtain ⟨id2, o2, cap2', c2, T2', ro2, hv, hid2, hg2, hle2, hrow2, _⟩ := row_one hm hiN hx
      cases hv
      have hix : 0 ≤ (i : Int) ∧ (i : Int) < (M.length : Int) := by omega
      have w1 : IntKind.i64.wrap ((i : Int) + 1) = ((i + 1 : Nat) : Int) := by rw [IntKind.wrap_i64]; omega
      have heq : eqR x x = true := eqR_iff.2 rfl
      simp -implicitDefEqProofs only [go_sem, reduceIte, Nat.reduceEqDiff, Nat.reduceAdd, Nat.reduceMul, Nat.reduceLT, Nat.reduceLeDiff, reduceCtorEq, Int.reduceEq, Int.reduceNeg, Nat.reduceSub, Int.reduceLT, Int.reduceLE, Int.reduceGT, Int.reduceGE, Int.reduceAdd, Int.reduceSub, Int.reduceToNat, Int.reduceBNe, Int.reduceBEq, Nat.mul_one, Nat.zero_mul, hlt, hix, hg, hle, hrow, hg2, hle2, hrow2, eqV_req, heq, w1]
      exact ⟨M.length - (i + 1), by omega, i + 1, by omega, rfl, rfl⟩
end
end Go.Proofs.Ytlcfmfljmabaeaa


/-
  SpillLasts: parts of the law's walk.
-/
set_option maxRecDepth 100000
set_option linter.unusedVariables false
set_option linter.unusedSimpArgs false
namespace Go.Proofs.Ytlcfmfljmabaeaa
open Go Go.Abs Go.Abs.K

def flt6 : ACode :=
 (.seq (R [o 112 (.buildSlice 32 5 0 [] []), o 13 (.mov (v 112))])
          (.seq (.seq (R [o 14 (.mov (i 0))])
           (.block 3 (.loop [0, 1, 5, 6, 8, 9, 10, 11, 13, 14] (.seq (.seq (R [o 113 (.mov (v 14)), o 114 (.mov (v 9)), o 115 (.len .slice (v 114)), o 116 (.bin .lss (v 113) (v 115))])
              (.cond (v 116) (.skip)
              (.exit 3)))
             (.seq (.block 4 (.seq (R [o 119 (.mov (v 9)), o 120 (.mov (v 14)), o 121 (.indexAddr 5 (v 119) (v 120)), o 122 (.fieldAddr 0 (v 121)), o 123 (.load none (v 122)), o 124 (.fieldAddr 1 (v 11)), o 125 (.load none (v 124)), o 126 (.bin .neq (v 123) (v 125))])
               (.cond (v 126) (R [o 127 (.mov (v 13)), o 128 (.mov (v 9)), o 129 (.mov (v 14)), o 130 (.indexAddr 5 (v 128) (v 129)), o 131 (.load (some 5) (v 130)), o 132 (.buildSlice 32 5 1 [(.int .i64 0), (.string ⟨#[]⟩), (.string ⟨#[]⟩), (.int .i64 0), (.int .i64 0)] [(0, 5, (v 131))]), o 133 (.append 32 5 56 (v 127) (v 132)), o 13 (.mov (v 133))])
               (.skip))))
             (R [o 117 (.mov (v 14)), o 118 (.bin .add (v 117) (i 1)), o 14 (.mov (v 118))]))))))
          (R [o 134 (.mov (v 13)), o 9 (.mov (v 134))])))
def chk6 : ACode :=
 (.seq (R [o 155 (.mov (v 6)), o 156 (.call (.func 17) [(v 155)]), o 17 (.mov (v 156))])
      (.seq (.seq (R [o 18 (.mov (i 0))])
       (.block 5 (.loop [0, 1, 5, 6, 8, 9, 10, 17, 18] (.seq (.seq (R [o 157 (.mov (v 18)), o 158 (.mov (v 9)), o 159 (.len .slice (v 158)), o 160 (.bin .lss (v 157) (v 159))])
          (.cond (v 160) (.skip)
          (.exit 5)))
         (.seq (.block 6 (.seq (R [o 163 (.mov (v 17)), o 164 (.mov (v 9)), o 165 (.mov (v 18)), o 166 (.indexAddr 5 (v 164) (v 165)), o 167 (.load (some 5) (v 166)), o 168 (.call (.func 23) [(v 163), (v 167)]), o 169 (.un .not (v 168))])
           (.cond (v 169) (.seq (R [o 4 (.mov ff)])
            (.ret))
           (.skip))))
         (R [o 161 (.mov (v 18)), o 162 (.bin .add (v 161) (i 1)), o 18 (.mov (v 162))]))))))
      (.seq (R [o 19 (.mov (i 0))])
      (.block 7 (.loop [0, 1, 5, 6, 8, 9, 10, 17, 19] (.seq (.seq (R [o 170 (.mov (v 19)), o 171 (.mov (v 17)), o 172 (.len .slice (v 171)), o 173 (.bin .lss (v 170) (v 172))])
         (.cond (v 173) (.skip)
         (.exit 7)))
        (.seq (.block 8 (.seq (R [o 176 (.mov (v 8)), o 177 (.mov (v 17)), o 178 (.mov (v 19)), o 179 (.indexAddr 5 (v 177) (v 178)), o 180 (.load (some 5) (v 179)), o 181 (.call (.func 23) [(v 176), (v 180)]), o 182 (.un .not (v 181)), o 183 (.mov (v 182)), of 183 184 (.mov (v 19)), of 183 185 (.bin .gtr (v 184) (i 0)), of 183 186 (.mov (v 185)), ot 186 187 (.mov (v 17)), ot 186 188 (.mov (v 19)), ot 186 189 (.bin .sub (v 188) (i 1)), ot 186 190 (.indexAddr 5 (v 187) (v 189)), ot 186 191 (.fieldAddr 0 (v 190)), ot 186 192 (.load none (v 191)), ot 186 193 (.mov (v 17)), ot 186 194 (.mov (v 19)), ot 186 195 (.indexAddr 5 (v 193) (v 194)), ot 186 196 (.fieldAddr 0 (v 195)), ot 186 197 (.load none (v 196)), ot 186 198 (.bin .geq (v 192) (v 197)), of 183 199 (.pick (v 186) (v 198) ff), o 200 (.pick (v 183) tt (v 199))])
          (.cond (v 200) (.seq (R [o 4 (.mov ff)])
           (.ret))
          (.skip))))
        (R [o 174 (.mov (v 19)), o 175 (.bin .add (v 174) (i 1)), o 19 (.mov (v 175))]))))))))
def tail6 : ACode :=
 (.seq (R [o 201 (.mov (v 5)), o 202 (.mov (v 1)), o 203 (.call (.func 20) [(v 201), (v 202)])])
 (.seq (R [o 205 (.mov (v 5)), o 206 (.call (.func 9) [(v 205), (i 4)]), o 204 (.mov (v 206)), o 207 (.extract (v 204) 0), o 208 (.extract (v 204) 1), o 20 (.mov (v 207)), o 21 (.mov (v 208))])
 (.seq (.seq (R [o 209 (.mov (v 21)), o 210 (.bin .neq (v 209) (i 0)), o 211 (.mov (v 210)), of 211 212 (.mov (v 20)), of 211 213 (.eq false .pointer (v 212) (.const (.pointer none))), o 214 (.pick (v 211) tt (v 213))])
  (.cond (v 214) (.seq (R [o 4 (.mov ff)])
   (.ret))
  (.skip)))
 (.seq (R [o 215 (.mov (v 20)), o 216 (.call (.func 17) [(v 215)]), o 22 (.mov (v 216))])
 (.seq (.seq (R [o 23 (.mov (i 0))])
  (.block 9 (.loop [8, 9, 22, 23] (.seq (.seq (R [o 217 (.mov (v 23)), o 218 (.mov (v 9)), o 219 (.len .slice (v 218)), o 220 (.bin .lss (v 217) (v 219))])
     (.cond (v 220) (.skip)
     (.exit 9)))
    (.seq (.block 10 (.seq (R [o 223 (.mov (v 22)), o 224 (.mov (v 9)), o 225 (.mov (v 23)), o 226 (.indexAddr 5 (v 224) (v 225)), o 227 (.load (some 5) (v 226)), o 228 (.call (.func 23) [(v 223), (v 227)]), o 229 (.un .not (v 228))])
      (.cond (v 229) (.seq (R [o 4 (.mov ff)])
       (.ret))
      (.skip))))
    (R [o 221 (.mov (v 23)), o 222 (.bin .add (v 221) (i 1)), o 23 (.mov (v 222))]))))))
 (.seq (.seq (R [o 24 (.mov (i 0))])
  (.block 11 (.loop [8, 22, 24] (.seq (.seq (R [o 230 (.mov (v 24)), o 231 (.mov (v 22)), o 232 (.len .slice (v 231)), o 233 (.bin .lss (v 230) (v 232))])
     (.cond (v 233) (.skip)
     (.exit 11)))
    (.seq (.block 12 (.seq (R [o 236 (.mov (v 8)), o 237 (.mov (v 22)), o 238 (.mov (v 24)), o 239 (.indexAddr 5 (v 237) (v 238)), o 240 (.load (some 5) (v 239)), o 241 (.call (.func 23) [(v 236), (v 240)]), o 242 (.un .not (v 241))])
      (.cond (v 242) (.seq (R [o 4 (.mov ff)])
       (.ret))
      (.skip))))
    (R [o 234 (.mov (v 24)), o 235 (.bin .add (v 234) (i 1)), o 24 (.mov (v 235))]))))))
 (.seq (R [o 243 (.call (.func 14) []), o 4 (.mov (v 243))])
 (.ret))))))))
theorem code6_eq : code6 =
 .seq (R [o 4 (.mov ff)])
 (.seq (R [o 25 (.call (.func 8) [(i 9)]), o 5 (.mov (v 25))])
 (.seq (R [o 27 (.mov (v 5)), o 28 (.call (.func 9) [(v 27), (i 4)]), o 26 (.mov (v 28)), o 29 (.extract (v 26) 0), o 30 (.extract (v 26) 1), o 6 (.mov (v 29)), o 7 (.mov (v 30))])
 (.seq (.seq (R [o 31 (.mov (v 7)), o 32 (.bin .neq (v 31) (i 0)), o 33 (.mov (v 32)), of 33 34 (.mov (v 6)), of 33 35 (.eq false .pointer (v 34) (.const (.pointer none))), o 36 (.pick (v 33) tt (v 35))])
  (.cond (v 36) (.seq (R [o 4 (.mov ff)])
   (.ret))
  (.skip)))
 (.seq (R [o 37 (.buildSlice 32 5 0 [] []), o 8 (.mov (v 37))])
 (.seq (R [o 38 (.buildSlice 32 5 0 [] []), o 9 (.mov (v 38))])
 (.seq (.seq (R [o 10 (.mov (i 0))])
  (.block 0 (.loop [0, 1, 5, 6, 8, 9, 10] (.seq (.seq (R [o 39 (.mov (v 10)), o 40 (.mov (v 0)), o 41 (.len .slice (v 40)), o 42 (.bin .lss (v 39) (v 41)), o 43 (.mov (v 42)), ot 43 44 (.mov (v 10)), ot 43 45 (.bin .lss (v 44) (i 60)), o 46 (.pick (v 43) (v 45) ff)])
     (.cond (v 46) (.skip)
     (.exit 0)))
    (.seq (.block 1 (.seq (R [o 49 (.mov (v 0)), o 50 (.mov (v 10)), o 51 (.indexAddr 9 (v 49) (v 50)), o 52 (.load (some 9) (v 51)), o 11 (.alloc 52 [(.int .i64 0), (.int .i64 0), (.int .i64 0), (.int .i64 0), (.string ⟨#[]⟩), (.string ⟨#[]⟩), (.int .i64 0), (.int .i64 0), (.string ⟨#[]⟩)]), on (.store 9 (v 11) (v 52))])
      (.seq (.seq (R [o 53 (.fieldAddr 3 (v 11)), o 54 (.load (some 5) (v 53)), o 55 (.call (.func 21) [(v 54)]), o 56 (.un .not (v 55))])
       (.cond (v 56) (.exit 1)
       (.skip)))
      (.seq (.seq (R [o 57 (.fieldAddr 0 (v 11)), o 58 (.load none (v 57))])
       (.block 2 (.seq (R [o 79 (.bin .eql (v 58) (i 0)), o 78 (.mov (v 79))])
        (.cond (v 78) (.seq (R [o 80 (.fieldAddr 3 (v 11)), o 81 (.load (some 5) (v 80)), o 12 (.alloc 32 [(.int .i64 0), (.string ⟨#[]⟩), (.string ⟨#[]⟩), (.int .i64 0), (.int .i64 0)]), on (.store 5 (v 12) (v 81))])
         (.seq (R [o 82 (.mov (v 6)), o 83 (.call (.func 10) [(v 82)]), o 84 (.fieldAddr 0 (v 12)), on (.store 1 (v 84) (v 83))])
         (.seq (.seq (R [o 85 (.fieldAddr 0 (v 12)), o 86 (.load none (v 85)), o 87 (.bin .lss (v 86) (i 0)), o 88 (.mov (v 87)), of 88 89 (.fieldAddr 0 (v 12)), of 88 90 (.load none (v 89)), of 88 91 (.bin .gtr (v 90) (i 1152921504606846976)), o 92 (.pick (v 88) tt (v 91))])
          (.cond (v 92) (.seq (R [o 93 (.call (.func 14) []), o 4 (.mov (v 93))])
           (.ret))
          (.skip)))
         (.seq (R [o 94 (.mov (v 8)), o 95 (.load (some 5) (v 12)), o 96 (.buildSlice 32 5 1 [(.int .i64 0), (.string ⟨#[]⟩), (.string ⟨#[]⟩), (.int .i64 0), (.int .i64 0)] [(0, 5, (v 95))]), o 97 (.append 32 5 56 (v 94) (v 96)), o 8 (.mov (v 97))])
         (.seq (R [o 98 (.mov (v 6)), o 99 (.load (some 5) (v 12)), o 100 (.call (.func 11) [(v 98), (v 99)]), o 101 (.bin .eql (v 100) (i 0))])
         (.cond (v 101) (R [o 102 (.mov (v 9)), o 103 (.load (some 5) (v 12)), o 104 (.buildSlice 32 5 1 [(.int .i64 0), (.string ⟨#[]⟩), (.string ⟨#[]⟩), (.int .i64 0), (.int .i64 0)] [(0, 5, (v 103))]), o 105 (.append 32 5 56 (v 102) (v 104)), o 9 (.mov (v 105))])
         (.skip)))))))
        (.seq (R [o 107 (.bin .eql (v 58) (i 1)), o 106 (.mov (v 107))])
         (.cond (v 106) (.seq (R [o 108 (.mov (v 6)), o 109 (.fieldAddr 1 (v 11)), o 110 (.load none (v 109)), o 111 (.call (.func 12) [(v 108), (v 110)])])
          flt6)
         (.seq (R [o 136 (.bin .eql (v 58) (i 2)), o 135 (.mov (v 136))])
          (.cond (v 135) (R [o 137 (.mov (v 6)), o 138 (.fieldAddr 8 (v 11)), o 139 (.load none (v 138)), o 140 (.fieldAddr 1 (v 11)), o 141 (.load none (v 140)), o 142 (.call (.func 16) [(v 137), (v 139), (v 141)])])
          (.seq (R [o 144 (.bin .eql (v 58) (i 3)), o 143 (.mov (v 144))])
           (.cond (v 143) (R [o 145 (.mov (v 6)), o 146 (.call (.func 13) [(v 145)])])
           (.seq (R [o 148 (.bin .eql (v 58) (i 4)), o 147 (.mov (v 148))])
            (.cond (v 147) (R [o 149 (.mov (v 5)), o 150 (.fieldAddr 1 (v 11)), o 151 (.load none (v 150)), o 152 (.fieldAddr 2 (v 11)), o 153 (.load none (v 152)), o 154 (.call (.func 22) [(v 149), (v 151), (v 153)])])
            (.seq (.seq (R [o 59 (.fieldAddr 0 (v 11)), o 60 (.load none (v 59)), o 61 (.bin .eql (v 60) (i 5))])
              (.cond (v 61) (R [o 62 (.mov (v 5)), o 63 (.fieldAddr 1 (v 11)), o 64 (.load none (v 63)), o 65 (.call (.func 20) [(v 62), (v 64)])])
              (.skip)))
             (.seq (R [o 67 (.mov (v 5)), o 68 (.call (.func 9) [(v 67), (i 4)]), o 66 (.mov (v 68)), o 69 (.extract (v 66) 0), o 70 (.extract (v 66) 1), o 15 (.mov (v 69)), o 16 (.mov (v 70))])
             (.seq (.seq (R [o 71 (.mov (v 16)), o 72 (.bin .neq (v 71) (i 0)), o 73 (.mov (v 72)), of 73 74 (.mov (v 15)), of 73 75 (.eq false .pointer (v 74) (.const (.pointer none))), o 76 (.pick (v 73) tt (v 75))])
              (.cond (v 76) (.seq (R [o 4 (.mov ff)])
               (.ret))
              (.skip)))
             (R [o 77 (.mov (v 15)), o 6 (.mov (v 77))]))))))))))))))))
      chk6))))
    (R [o 47 (.mov (v 10)), o 48 (.bin .add (v 47) (i 1)), o 10 (.mov (v 48))]))))))
 tail6)))))) := rfl

structure SAct where
  what : Int
  n : Int
  m : Int
  r : RQ
  host : ByteArray
def SAct.cells (a : SAct) : List Value := [i64 a.what, i64 a.n, i64 a.m, i64 a.r.id, .string a.r.host, .string a.r.path, i64 a.r.prio, i64 a.r.till, .string a.host]
structure SAct.Wide (a : SAct) : Prop where
  n : W64 a.n
  m : W64 a.m
  r : a.r.Wide

theorem dropR_snoc (n : Int) (l : List RQ) (x : RQ) : dropR n (l ++ [x]) = if x.id == n then dropR n l else dropR n l ++ [x] := by
  unfold dropR
  rw [List.filter_append]
  cases h : (x.id == n) <;> simp [h]

section
variable {tbl : FuncId → Option AFun} {ov : CallSem} {s : St}

theorem flt6_spec {e : Env} {a : SAct} {A : Nat} {t : TypeId} {sure : List RQ} {v9 v0 v1 v5 v6 v8 v10 : Value} (hA : s.heap.get A = some (.cells a.cells t 0 false)) (hAn : A < s.next) (hr : RowV 5 s v9 (rqsR sure)) (hn : sure.length < 2 ^ 20)
    (g0 : e.get 0 = some v0) (g1 : e.get 1 = some v1) (g5 : e.get 5 = some v5) (g6 : e.get 6 = some v6) (g8 : e.get 8 = some v8) (g9 : e.get 9 = some v9) (g10 : e.get 10 = some v10) (g11 : e.get 11 = some (ptr A)) :
    WCode (fun k => call tbl ov k) flt6 e s fun x e' s' => x = .normal ∧ e'.get 0 = some v0 ∧ e'.get 1 = some v1 ∧ e'.get 5 = some v5 ∧ e'.get 6 = some v6 ∧ e'.get 8 = some v8 ∧ e'.get 10 = some v10 ∧ Kept [] s s' ∧
      ∃ v S, e'.get 9 = some v ∧ RowsO 32 5 s' v (rqsR (dropR a.n sure)) S ∧ ∀ x ∈ S, s.next ≤ x := by
  obtain ⟨la, lc, hlv⟩ := hr.len
  rw [List.length_map] at hlv
  subst hlv
  have cA : a.cells[1]? = some (i64 a.n) := rfl
  have ef : fillL [] [] = some [] := rfl
  obtain ⟨s1, hs1⟩ : ∃ s1 : St, s1 = ⟨s.heap.put s.next (some (.cells [] 32 5 false)), s.next + 1⟩ := ⟨_, rfl⟩
  have hk1 : Kept [] s s1 := by rw [hs1]; exact kept_put_nil (Nat.le_refl _) (Nat.le_succ _)
  have hR1 : RowsO 32 5 s1 (.slice (some ⟨s.next, 0, none⟩) 0 0) [] [s.next] := by rw [hs1]; exact rowsO_empty (Nat.lt_succ_self _)
  simp -implicitDefEqProofs only [flt6, go_sem, reduceIte, Nat.reduceEqDiff, Nat.reduceAdd, Nat.reduceMul, Nat.reduceLT, Nat.reduceLeDiff, reduceCtorEq, Int.reduceEq, Int.reduceNeg, Nat.reduceSub, Int.reduceLT, Int.reduceLE, Int.reduceGT, Int.reduceGE, Int.reduceAdd, Int.reduceSub, Int.reduceToNat, Int.reduceBNe, Int.reduceBEq, Nat.mul_one, Nat.zero_mul, ev_buildSlice, ef, ← hs1]
  obtain ⟨I, hI⟩ : ∃ I : Nat → List Value → St → Prop, I = fun m vs s' => Kept [] s s' ∧ ∃ (i : Nat) (v : Value) (S : List Nat), i ≤ sure.length ∧ m = sure.length - i ∧ vs = [v0, v1, v5, v6, v8, .slice la sure.length lc, v10, ptr A, v, i64 (i : Nat)] ∧
    RowsO 32 5 s' v (rqsR (dropR a.n (sure.take i))) S ∧ ∀ x ∈ S, s.next ≤ x := ⟨_, rfl⟩
  refine wc_loopV I sure.length ?_ ?_
  · simp -implicitDefEqProofs only [go_sem, reduceIte, Nat.reduceEqDiff, Nat.reduceAdd, Nat.reduceMul, Nat.reduceLT, Nat.reduceLeDiff, reduceCtorEq, Int.reduceEq, Int.reduceNeg, Nat.reduceSub, Int.reduceLT, Int.reduceLE, Int.reduceGT, Int.reduceGE, Int.reduceAdd, Int.reduceSub, Int.reduceToNat, Int.reduceBNe, Int.reduceBEq, Nat.mul_one, Nat.zero_mul, g0, g1, g5, g6, g8, g9, g10, g11]
    rw [hI]
    exact ⟨hk1, 0, _, [s.next], by omega, by omega, rfl, hR1, fun x hx => by rw [List.mem_singleton.1 hx]; exact Nat.le_refl _⟩
  · intro m vs s2 hi _
    rw [hI] at hi
    obtain ⟨hk2, i, v, S, hil, rfl, rfl, hR, hS⟩ := hi
    cases hlt : decide ((i : Int) < (sure.length : Int))
    · have hie : i = sure.length := by have := of_decide_eq_false hlt; omega
      subst hie
      rw [List.take_length] at hR
      simp -implicitDefEqProofs only [go_sem, reduceIte, Nat.reduceEqDiff, Nat.reduceAdd, Nat.reduceMul, Nat.reduceLT, Nat.reduceLeDiff, reduceCtorEq, Int.reduceEq, Int.reduceNeg, Nat.reduceSub, Int.reduceLT, Int.reduceLE, Int.reduceGT, Int.reduceGE, Int.reduceAdd, Int.reduceSub, Int.reduceToNat, Int.reduceBNe, Int.reduceBEq, Nat.mul_one, Nat.zero_mul, hlt]
      exact ⟨hk2, v, S, rfl, hR, hS⟩
    · have hiN : i < sure.length := by have := of_decide_eq_true hlt; omega
      obtain ⟨x, hx⟩ : ∃ x, sure[i]? = some x := ⟨_, List.getElem?_eq_getElem hiN⟩
      obtain ⟨id, o, cap', c, T', ro, hv, hid, hg, hle, hrw, hgi⟩ := row_one (hr.kept hk2) hiN hx
      cases hv
      have hix : 0 ≤ (i : Int) ∧ (i : Int) < (sure.length : Int) := by omega
      have w1 : IntKind.i64.wrap ((i : Int) + 1) = ((i + 1 : Nat) : Int) := by rw [IntKind.wrap_i64]; omega
      have hA2 : s2.heap.get A = some (.cells a.cells t 0 false) := (hk2.2 A hAn (by simp)).trans hA
      have g0' : c[o + i * 5]? = some (i64 x.id) := by
        have := hgi 0 (by omega)
        rw [Nat.add_zero] at this
        rw [this]; rfl
      have hsn := dropR_snoc a.n (sure.take i) x
      rw [← take_snoc hx] at hsn
      have hlen : (dropR a.n (sure.take i)).length ≤ i := Nat.le_trans (List.length_filter_le ..) (by rw [List.length_take]; omega)
      cases hc : (x.id == a.n)
      · have hc' : (x.id != a.n) = true := by simp [bne, hc]
        rw [hc] at hsn
        simp only [Bool.false_eq_true, if_false] at hsn
        have eb : ∀ g nx, evP g nx (.buildSlice 32 5 1 [i64 0, .string ⟨#[]⟩, .string ⟨#[]⟩, i64 0, i64 0] [(0, 5, .agg x.cells.toArray)]) = _ := fun g nx => ev_build1 rfl rfl
        obtain ⟨val, sx, he, hR3, hk3, hS3⟩ := hR.push (b := 56) (c := x.cells) rfl rfl (by rw [List.length_map]; omega) (by omega)
        simp -implicitDefEqProofs only [go_sem, reduceIte, Nat.reduceEqDiff, Nat.reduceAdd, Nat.reduceMul, Nat.reduceLT, Nat.reduceLeDiff, reduceCtorEq, Int.reduceEq, Int.reduceNeg, Nat.reduceSub, Int.reduceLT, Int.reduceLE, Int.reduceGT, Int.reduceGE, Int.reduceAdd, Int.reduceSub, Int.reduceToNat, Int.reduceBNe, Int.reduceBEq, Nat.mul_one, Nat.zero_mul, hlt, hix, hg, g0', hA2, cA, hc', hle, hrw, Nat.add_zero, eb, he, w1]
        rw [hI]
        refine ⟨sure.length - (i + 1), by omega, hk2.comp hk3 fun x hx => .inr (hS x hx), i + 1, val, wrOf val, by omega, rfl, rfl, ?_, fun x hx => (hS3 x hx).elim (hS x) fun h => Nat.le_trans hk2.1 h⟩
        rw [hsn, rqsR, List.map_append]
        exact hR3
      · have hc' : (x.id != a.n) = false := by simp [bne, hc]
        rw [hc] at hsn
        simp only [if_true] at hsn
        simp -implicitDefEqProofs only [go_sem, reduceIte, Nat.reduceEqDiff, Nat.reduceAdd, Nat.reduceMul, Nat.reduceLT, Nat.reduceLeDiff, reduceCtorEq, Int.reduceEq, Int.reduceNeg, Nat.reduceSub, Int.reduceLT, Int.reduceLE, Int.reduceGT, Int.reduceGE, Int.reduceAdd, Int.reduceSub, Int.reduceToNat, Int.reduceBNe, Int.reduceBEq, Nat.mul_one, Nat.zero_mul, hlt, hix, hg, g0', hA2, cA, hc', Nat.add_zero, w1]
        rw [hI]
        exact ⟨sure.length - (i + 1), by omega, hk2, i + 1, v, S, by omega, rfl, rfl, by rw [hsn]; exact hR, hS⟩

theorem chk6_spec (T : STbl tbl) (t23 : tbl 23 = some fun23) (ho : OvS ov) {e : Env} {l p : Nat} {L : LM} {O : List Nat} {sure ever : List RQ} {v8 v9 v0 v1 v5 v10 : Value} (h : LRep s l p L O) (hl : L.live.length < 2 ^ 20) (hr8 : RowV 5 s v8 (rqsR ever)) (hr9 : RowV 5 s v9 (rqsR sure)) (hn8 : ever.length < 2 ^ 20) (hn9 : sure.length < 2 ^ 20)
    (c1 : ∀ r ∈ sure, r ∈ pendL L) (c2 : ∀ r ∈ pendL L, r ∈ ever) (c3 : ((pendL L).map fun r => r.id).Pairwise (· < ·))
    (g0 : e.get 0 = some v0) (g1 : e.get 1 = some v1) (g5 : e.get 5 = some v5) (g6 : e.get 6 = some (ptr l)) (g8 : e.get 8 = some v8) (g9 : e.get 9 = some v9) (g10 : e.get 10 = some v10) :
    WCode (fun k => call tbl ov k) chk6 e s fun x e' s' => x = .normal ∧ e'.get 0 = some v0 ∧ e'.get 1 = some v1 ∧ e'.get 5 = some v5 ∧ e'.get 6 = some (ptr l) ∧ e'.get 8 = some v8 ∧ e'.get 9 = some v9 ∧ e'.get 10 = some v10 ∧ Kept [] s s' := by
  obtain ⟨a8, cc8, h8⟩ := hr8.len
  obtain ⟨a9, cc9, h9⟩ := hr9.len
  rw [List.length_map] at h8 h9
  subst h8
  subst h9
  have hpl : (pendL L).length = L.live.length := by rw [pendL, List.length_map, idsL_len]
  simp -implicitDefEqProofs only [chk6, go_sem, reduceIte, Nat.reduceEqDiff, Nat.reduceAdd, Nat.reduceMul, Nat.reduceLT, Nat.reduceLeDiff, reduceCtorEq, Int.reduceEq, Int.reduceNeg, Nat.reduceSub, Int.reduceLT, Int.reduceLE, Int.reduceGT, Int.reduceGE, Int.reduceAdd, Int.reduceSub, Int.reduceToNat, Int.reduceBNe, Int.reduceBEq, Nat.mul_one, Nat.zero_mul, g6]
  refine WCall.mono (q17 (ov := ov) T ho h hl) ?_
  rintro u s1 ⟨hrp, hk1, _⟩
  obtain ⟨ap, cp, hp⟩ := hrp.len
  rw [List.length_map] at hp
  subst hp
  simp -implicitDefEqProofs only [go_sem, reduceIte, Nat.reduceEqDiff, Nat.reduceAdd, Nat.reduceMul, Nat.reduceLT, Nat.reduceLeDiff, reduceCtorEq, Int.reduceEq, Int.reduceNeg, Nat.reduceSub, Int.reduceLT, Int.reduceLE, Int.reduceGT, Int.reduceGE, Int.reduceAdd, Int.reduceSub, Int.reduceToNat, Int.reduceBNe, Int.reduceBEq, Nat.mul_one, Nat.zero_mul]
  obtain ⟨I, hI⟩ : ∃ I : Nat → List Value → St → Prop, I = fun m vs s' => Kept [] s1 s' ∧ ∃ (i : Nat), i ≤ sure.length ∧ m = sure.length - i ∧ vs = [v0, v1, v5, ptr l, .slice a8 ever.length cc8, .slice a9 sure.length cc9, v10, .slice ap (pendL L).length cp, i64 (i : Nat)] := ⟨_, rfl⟩
  refine wc_loopV I sure.length ?_ ?_
  · simp -implicitDefEqProofs only [go_sem, reduceIte, Nat.reduceEqDiff, Nat.reduceAdd, Nat.reduceMul, Nat.reduceLT, Nat.reduceLeDiff, reduceCtorEq, Int.reduceEq, Int.reduceNeg, Nat.reduceSub, Int.reduceLT, Int.reduceLE, Int.reduceGT, Int.reduceGE, Int.reduceAdd, Int.reduceSub, Int.reduceToNat, Int.reduceBNe, Int.reduceBEq, Nat.mul_one, Nat.zero_mul, g0, g1, g5, g6, g8, g9, g10]
    rw [hI]
    exact ⟨Kept.refl _ _, 0, by omega, by omega, rfl⟩
  · intro m vs s2 hi _
    rw [hI] at hi
    obtain ⟨hk2, i, hil, rfl, rfl⟩ := hi
    have hk02 := hk1.trans hk2
    cases hlt : decide ((i : Int) < (sure.length : Int))
    · simp -implicitDefEqProofs only [go_sem, reduceIte, Nat.reduceEqDiff, Nat.reduceAdd, Nat.reduceMul, Nat.reduceLT, Nat.reduceLeDiff, reduceCtorEq, Int.reduceEq, Int.reduceNeg, Nat.reduceSub, Int.reduceLT, Int.reduceLE, Int.reduceGT, Int.reduceGE, Int.reduceAdd, Int.reduceSub, Int.reduceToNat, Int.reduceBNe, Int.reduceBEq, Nat.mul_one, Nat.zero_mul, hlt]
      obtain ⟨J, hJ⟩ : ∃ J : Nat → List Value → St → Prop, J = fun m vs s' => Kept [] s2 s' ∧ ∃ (i : Nat), i ≤ (pendL L).length ∧ m = (pendL L).length - i ∧ vs = [v0, v1, v5, ptr l, .slice a8 ever.length cc8, .slice a9 sure.length cc9, v10, .slice ap (pendL L).length cp, i64 (i : Nat)] := ⟨_, rfl⟩
      refine wc_loopV J (pendL L).length ?_ ?_
      · simp -implicitDefEqProofs only [go_sem, reduceIte, Nat.reduceEqDiff, Nat.reduceAdd, Nat.reduceMul, Nat.reduceLT, Nat.reduceLeDiff, reduceCtorEq, Int.reduceEq, Int.reduceNeg, Nat.reduceSub, Int.reduceLT, Int.reduceLE, Int.reduceGT, Int.reduceGE, Int.reduceAdd, Int.reduceSub, Int.reduceToNat, Int.reduceBNe, Int.reduceBEq, Nat.mul_one, Nat.zero_mul]
        rw [hJ]
        exact ⟨Kept.refl _ _, 0, by omega, by omega, rfl⟩
      · intro m vs s3 hi _
        rw [hJ] at hi
        obtain ⟨hk3, j, hjl, rfl, rfl⟩ := hi
        have hk23 := hk2.trans hk3
        have hk03 := hk02.trans hk3
        cases hlt2 : decide ((j : Int) < ((pendL L).length : Int))
        · simp -implicitDefEqProofs only [go_sem, reduceIte, Nat.reduceEqDiff, Nat.reduceAdd, Nat.reduceMul, Nat.reduceLT, Nat.reduceLeDiff, reduceCtorEq, Int.reduceEq, Int.reduceNeg, Nat.reduceSub, Int.reduceLT, Int.reduceLE, Int.reduceGT, Int.reduceGE, Int.reduceAdd, Int.reduceSub, Int.reduceToNat, Int.reduceBNe, Int.reduceBEq, Nat.mul_one, Nat.zero_mul, hlt2]
          exact hk03
        · have hjN : j < (pendL L).length := by have := of_decide_eq_true hlt2; omega
          obtain ⟨x, hx⟩ : ∃ x, (pendL L)[j]? = some x := ⟨_, List.getElem?_eq_getElem hjN⟩
          obtain ⟨id, o, cap', c, T', ro, hv, hid, hg, hle, hrw, hgi⟩ := row_one (hrp.kept hk23) hjN hx
          cases hv
          have hix : 0 ≤ (j : Int) ∧ (j : Int) < ((pendL L).length : Int) := by omega
          have w1 : IntKind.i64.wrap ((j : Int) + 1) = ((j + 1 : Nat) : Int) := by rw [IntKind.wrap_i64]; omega
          have hmem : memB ever x = true := memB_iff.2 (c2 x (List.mem_of_getElem? hx))
          have e34 : (Value.agg x.cells.toArray) = x.val := rfl
          simp -implicitDefEqProofs only [go_sem, reduceIte, Nat.reduceEqDiff, Nat.reduceAdd, Nat.reduceMul, Nat.reduceLT, Nat.reduceLeDiff, reduceCtorEq, Int.reduceEq, Int.reduceNeg, Nat.reduceSub, Int.reduceLT, Int.reduceLE, Int.reduceGT, Int.reduceGE, Int.reduceAdd, Int.reduceSub, Int.reduceToNat, Int.reduceBNe, Int.reduceBEq, Nat.mul_one, Nat.zero_mul, hlt2, hix, hg, hle, hrw, Nat.add_zero, e34]
          refine WCall.mono (q23 (ov := ov) t23 (hr8.kept hk03) (by omega)) ?_
          rintro u s4 ⟨rfl, hk4⟩
          rw [hmem]
          have hg4 : s4.heap.get id = some (.cells c T' 5 ro) := by rw [hk4.2 id hid (by simp)]; exact hg
          cases h0 : decide ((j : Int) > 0)
          · simp -implicitDefEqProofs only [go_sem, reduceIte, Nat.reduceEqDiff, Nat.reduceAdd, Nat.reduceMul, Nat.reduceLT, Nat.reduceLeDiff, reduceCtorEq, Int.reduceEq, Int.reduceNeg, Nat.reduceSub, Int.reduceLT, Int.reduceLE, Int.reduceGT, Int.reduceGE, Int.reduceAdd, Int.reduceSub, Int.reduceToNat, Int.reduceBNe, Int.reduceBEq, Nat.mul_one, Nat.zero_mul, h0, w1]
            rw [hJ]
            exact ⟨(pendL L).length - (j + 1), by omega, hk3.trans hk4, j + 1, by omega, rfl, rfl⟩
          · have hj0 : 0 < j := by have := of_decide_eq_true h0; omega
            have w2 : IntKind.i64.wrap ((j : Int) - 1) = ((j - 1 : Nat) : Int) := by rw [IntKind.wrap_i64]; omega
            have hj1 : j - 1 < (pendL L).length := by omega
            obtain ⟨y, hy⟩ : ∃ y, (pendL L)[j - 1]? = some y := ⟨_, List.getElem?_eq_getElem hj1⟩
            have hpair : y.id < x.id := by
              have := List.pairwise_iff_getElem.1 c3 (j - 1) j (by rw [List.length_map]; exact hj1) (by rw [List.length_map]; exact hjN) (by omega)
              simp only [List.getElem_map] at this
              rw [List.getElem?_eq_getElem hj1] at hy
              rw [List.getElem?_eq_getElem hjN] at hx
              cases hy
              cases hx
              exact this
            obtain ⟨id2, o2, cap2, c2', T2', ro2, hv2, _, hg2, _, _, hgi2⟩ := row_one (hrp.kept hk23) hj1 hy
            cases hv2
            rw [hg] at hg2
            cases hg2
            have e1 : c[o + j * 5]? = some (i64 x.id) := by
              have := hgi 0 (by omega)
              rw [Nat.add_zero] at this
              rw [this]; rfl
            have e2 : c[o + (j - 1) * 5]? = some (i64 y.id) := by
              have := hgi2 0 (by omega)
              rw [Nat.add_zero] at this
              rw [this]; rfl
            have hix2 : 0 ≤ ((j - 1 : Nat) : Int) ∧ ((j - 1 : Nat) : Int) < ((pendL L).length : Int) := by omega
            have dge : decide (y.id ≥ x.id) = false := decide_eq_false (by omega)
            simp -implicitDefEqProofs only [go_sem, reduceIte, Nat.reduceEqDiff, Nat.reduceAdd, Nat.reduceMul, Nat.reduceLT, Nat.reduceLeDiff, reduceCtorEq, Int.reduceEq, Int.reduceNeg, Nat.reduceSub, Int.reduceLT, Int.reduceLE, Int.reduceGT, Int.reduceGE, Int.reduceAdd, Int.reduceSub, Int.reduceToNat, Int.reduceBNe, Int.reduceBEq, Nat.mul_one, Nat.zero_mul, h0, w2, hix, hix2, hg4, e1, e2, Nat.add_zero, dge, w1]
            rw [hJ]
            exact ⟨(pendL L).length - (j + 1), by omega, hk3.trans hk4, j + 1, by omega, rfl, rfl⟩
    · have hiN : i < sure.length := by have := of_decide_eq_true hlt; omega
      obtain ⟨x, hx⟩ : ∃ x, sure[i]? = some x := ⟨_, List.getElem?_eq_getElem hiN⟩
      obtain ⟨id, o, cap', c, T', ro, hv, hid, hg, hle, hrw, hgi⟩ := row_one (hr9.kept hk02) hiN hx
      cases hv
      have hix : 0 ≤ (i : Int) ∧ (i : Int) < (sure.length : Int) := by omega
      have w1 : IntKind.i64.wrap ((i : Int) + 1) = ((i + 1 : Nat) : Int) := by rw [IntKind.wrap_i64]; omega
      have hmem : memB (pendL L) x = true := memB_iff.2 (c1 x (List.mem_of_getElem? hx))
      have e34 : (Value.agg x.cells.toArray) = x.val := rfl
      simp -implicitDefEqProofs only [go_sem, reduceIte, Nat.reduceEqDiff, Nat.reduceAdd, Nat.reduceMul, Nat.reduceLT, Nat.reduceLeDiff, reduceCtorEq, Int.reduceEq, Int.reduceNeg, Nat.reduceSub, Int.reduceLT, Int.reduceLE, Int.reduceGT, Int.reduceGE, Int.reduceAdd, Int.reduceSub, Int.reduceToNat, Int.reduceBNe, Int.reduceBEq, Nat.mul_one, Nat.zero_mul, hlt, hix, hg, hle, hrw, Nat.add_zero, e34]
      refine WCall.mono (q23 (ov := ov) t23 (hrp.kept hk2) (by omega)) ?_
      rintro u s3 ⟨rfl, hk3⟩
      rw [hmem]
      simp -implicitDefEqProofs only [go_sem, reduceIte, Nat.reduceEqDiff, Nat.reduceAdd, Nat.reduceMul, Nat.reduceLT, Nat.reduceLeDiff, reduceCtorEq, Int.reduceEq, Int.reduceNeg, Nat.reduceSub, Int.reduceLT, Int.reduceLE, Int.reduceGT, Int.reduceGE, Int.reduceAdd, Int.reduceSub, Int.reduceToNat, Int.reduceBNe, Int.reduceBEq, Nat.mul_one, Nat.zero_mul, w1]
      rw [hI]
      exact ⟨sure.length - (i + 1), by omega, hk2.trans hk3, i + 1, by omega, rfl, rfl⟩
end
end Go.Proofs.Ytlcfmfljmabaeaa


/-
  An act, as it is read.
-/
set_option maxRecDepth 100000
set_option linter.unusedVariables false
namespace Go.Proofs.Ytlcfmfljmabaeaa
open Go Go.Abs Go.ChangeShapes

theorem req_of_trod {H : Type} {enc : TypeId × Value → H} {w : World} {n : Nat} {cs : List Value} {x : DataW H × List MemPlace} (h : DataW.trod enc Try.prog w 0 (fun _ => true) true n 32 cs = some x) (hl : cs.length = 5) : ∃ r : RQ, cs = r.cells ∧ r.Wide := by
  have c3 : Try.prog.cellsOf 3 = 1 := by kernel_rfl
  have c9 : Try.prog.cellsOf 9 = 1 := by kernel_rfl
  obtain ⟨c0, c1, c2, d3, c4, rfl⟩ : ∃ c0 c1 c2 c3 c4, cs = [c0, c1, c2, c3, c4] := by
    match cs, hl with
    | [c0, c1, c2, c3, c4], _ => exact ⟨c0, c1, c2, c3, c4, rfl⟩
  obtain ⟨zs, m2, _, _, _, hzl, hg⟩ := DataW.trod_struct Try.underlying32 h
  obtain ⟨z0, hz0⟩ := one_of hzl (i := 0) (by decide)
  obtain ⟨z1, hz1⟩ := one_of hzl (i := 1) (by decide)
  obtain ⟨z2, hz2⟩ := one_of hzl (i := 2) (by decide)
  obtain ⟨z3, hz3⟩ := one_of hzl (i := 3) (by decide)
  obtain ⟨z4, hz4⟩ := one_of hzl (i := 4) (by decide)
  have g0 : DataW.trod enc Try.prog w 0 (fun _ => true) true m2 3 (([c0, c1, c2, d3, c4].drop 0).take (Try.prog.cellsOf 3)) = zs[0]? := hg 0 _ rfl
  have g1 : DataW.trod enc Try.prog w 0 (fun _ => true) true m2 9 (([c0, c1, c2, d3, c4].drop 1).take (Try.prog.cellsOf 9)) = zs[1]? := hg 1 _ rfl
  have g2 : DataW.trod enc Try.prog w 0 (fun _ => true) true m2 9 (([c0, c1, c2, d3, c4].drop 2).take (Try.prog.cellsOf 9)) = zs[2]? := hg 2 _ rfl
  have g3 : DataW.trod enc Try.prog w 0 (fun _ => true) true m2 3 (([c0, c1, c2, d3, c4].drop 3).take (Try.prog.cellsOf 3)) = zs[3]? := hg 3 _ rfl
  have g4 : DataW.trod enc Try.prog w 0 (fun _ => true) true m2 3 (([c0, c1, c2, d3, c4].drop 4).take (Try.prog.cellsOf 3)) = zs[4]? := hg 4 _ rfl
  rw [c3, hz0] at g0
  rw [c9, hz1] at g1
  rw [c9, hz2] at g2
  rw [c3, hz3] at g3
  rw [c3, hz4] at g4
  obtain ⟨n1, e1, _, w1⟩ := DataW.trod_int Try.underlying3 g0
  obtain ⟨b2, e2, _, _⟩ := DataW.trod_string Try.underlying9 g1
  obtain ⟨b3, e3, _, _⟩ := DataW.trod_string Try.underlying9 g2
  obtain ⟨n4, e4, _, w4⟩ := DataW.trod_int Try.underlying3 g3
  obtain ⟨n5, e5, _, w5⟩ := DataW.trod_int Try.underlying3 g4
  simp only [List.drop_zero, List.drop_succ_cons, List.take_succ_cons, List.take_zero, List.cons.injEq, and_true] at e1 e2 e3 e4 e5
  subst e1 e2 e3 e4 e5
  exact ⟨⟨n1, b2, b3, n4, n5⟩, rfl, w64_of_wf w1, w64_of_wf w4, w64_of_wf w5⟩

theorem act_of_trod {H : Type} {enc : TypeId × Value → H} {w : World} {n : Nat} {cs : List Value} {x : DataW H × List MemPlace} (h : DataW.trod enc Try.prog w 0 (fun _ => true) true n 52 cs = some x) (hl : cs.length = 9) : ∃ a : SAct, cs = a.cells ∧ a.Wide := by
  have c3 : Try.prog.cellsOf 3 = 1 := by kernel_rfl
  have c9 : Try.prog.cellsOf 9 = 1 := by kernel_rfl
  have c32 : Try.prog.cellsOf 32 = 5 := by kernel_rfl
  obtain ⟨c0, c1, c2, d3, d4, d5, d6, d7, d8, rfl⟩ : ∃ c0 c1 c2 c3 c4 c5 c6 c7 c8, cs = [c0, c1, c2, c3, c4, c5, c6, c7, c8] := by
    match cs, hl with
    | [c0, c1, c2, c3, c4, c5, c6, c7, c8], _ => exact ⟨c0, c1, c2, c3, c4, c5, c6, c7, c8, rfl⟩
  obtain ⟨zs, m2, _, _, _, hzl, hg⟩ := DataW.trod_struct Try.underlying52 h
  obtain ⟨z0, hz0⟩ := one_of hzl (i := 0) (by decide)
  obtain ⟨z1, hz1⟩ := one_of hzl (i := 1) (by decide)
  obtain ⟨z2, hz2⟩ := one_of hzl (i := 2) (by decide)
  obtain ⟨z3, hz3⟩ := one_of hzl (i := 3) (by decide)
  obtain ⟨z4, hz4⟩ := one_of hzl (i := 4) (by decide)
  have g0 : DataW.trod enc Try.prog w 0 (fun _ => true) true m2 3 (([c0, c1, c2, d3, d4, d5, d6, d7, d8].drop 0).take (Try.prog.cellsOf 3)) = zs[0]? := hg 0 _ rfl
  have g1 : DataW.trod enc Try.prog w 0 (fun _ => true) true m2 3 (([c0, c1, c2, d3, d4, d5, d6, d7, d8].drop 1).take (Try.prog.cellsOf 3)) = zs[1]? := hg 1 _ rfl
  have g2 : DataW.trod enc Try.prog w 0 (fun _ => true) true m2 3 (([c0, c1, c2, d3, d4, d5, d6, d7, d8].drop 2).take (Try.prog.cellsOf 3)) = zs[2]? := hg 2 _ rfl
  have g3 : DataW.trod enc Try.prog w 0 (fun _ => true) true m2 32 (([c0, c1, c2, d3, d4, d5, d6, d7, d8].drop 3).take (Try.prog.cellsOf 32)) = zs[3]? := hg 3 _ rfl
  have g4 : DataW.trod enc Try.prog w 0 (fun _ => true) true m2 9 (([c0, c1, c2, d3, d4, d5, d6, d7, d8].drop 8).take (Try.prog.cellsOf 9)) = zs[4]? := hg 4 _ rfl
  rw [c3, hz0] at g0
  rw [c3, hz1] at g1
  rw [c3, hz2] at g2
  rw [c32, hz3] at g3
  rw [c9, hz4] at g4
  obtain ⟨n0, e0, _, w0⟩ := DataW.trod_int Try.underlying3 g0
  obtain ⟨n1, e1, _, w1⟩ := DataW.trod_int Try.underlying3 g1
  obtain ⟨n2, e2, _, w2⟩ := DataW.trod_int Try.underlying3 g2
  obtain ⟨r, e3, wr⟩ := req_of_trod g3 rfl
  obtain ⟨b, e4, _, _⟩ := DataW.trod_string Try.underlying9 g4
  simp only [List.drop_zero, List.drop_succ_cons, List.take_succ_cons, List.take_zero, List.cons.injEq, and_true, RQ.cells] at e0 e1 e2 e3 e4
  obtain ⟨f0, f1, f2, f3, f4⟩ := e3
  subst e0 e1 e2 e4 f0 f1 f2 f3 f4
  exact ⟨⟨n0, n1, n2, r, b⟩, rfl, w64_of_wf w1, w64_of_wf w2, wr⟩

end Go.Proofs.Ytlcfmfljmabaeaa
