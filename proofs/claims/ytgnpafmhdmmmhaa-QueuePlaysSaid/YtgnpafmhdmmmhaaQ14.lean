/-
  QueuePlays: what is looked at behind each act; and the whole.
-/
import Derived.Test.YtgnpafmhdmmmhaaQ13
set_option maxRecDepth 100000
set_option linter.unusedVariables false
set_option linter.unusedSimpArgs false
namespace Go.Proofs.Ytgnpafmhdmmmhaa
open Go Go.Abs Go.Abs.K

section
variable {tbl : FuncId → Option AFun} {ov : CallSem} {s0 s : St} (T : QTbl tbl)
include T

theorem check4 {e : Env} {q : Nat} {most : Int} {L : List QReq} {lv : Value} {Q : AExit → Env → St → Prop} (hP : PR s0 s q most L lv []) (hn : L.length < 1000)
    (g5 : e.get 5 = some (ptr q)) (g6 : e.get 6 = some lv)
    (hQ : ∀ e' s', (∀ t ∈ [0, 1, 5, 7], e'.get t = e.get t) → e'.get 6 = some lv → PR s0 s' q most L lv [] → Q .normal e' s') :
    WCode (fun k => call tbl ov k) a4_c e s Q := by
  obtain ⟨S, SL, hR, hLv, hS, hSL⟩ := hP.rep
  obtain ⟨qv, hq, hrow, hqS, hql⟩ := id hR
  obtain ⟨va, vc, hlv⟩ := hLv.toV.len
  rw [List.length_map] at hlv
  subst hlv
  obtain ⟨qa, qc, hqv⟩ := hrow.toV.len
  rw [List.length_map] at hqv
  subst hqv
  cases L with
  | nil =>
    have e13 := fun K => WCall.pureEq (p13n T (ov := ov) hq hql) K
    have n13 := nxt_le (fun k => call tbl ov k) 13 [ptr q] s
    generalize nxt (fun k => call tbl ov k) 13 [ptr q] s = n1 at e13 n13
    have hqn : (q = n1) = False := by simp; omega
    obtain ⟨s2, hs2⟩ : ∃ s2 : St, s2 = ⟨(s.heap.put n1 (some (.cells zC 28 0 false))).put n1 (some (.cells zC 28 0 false)), n1 + 1⟩ := ⟨_, rfl⟩
    have hk2 : Kept [] s s2 := by
      rw [hs2]
      exact ⟨by simp only; omega, fun j hj _ => by simp only [Heap.get_put]; rw [if_neg (by omega), if_neg (by omega)]⟩
    have e22 := fun K => p22 T (ov := ov) (s := s2) (q := q) (mv := i64 (mostOf most)) (a := i64 0) (ad := qa) (n := 0) (c := qc) (by rw [hk2.2 q hql (by simp)]; exact hq) K
    rw [hs2] at e22
    have d1 : decide ((([] : List QReq).length : Int) > 0) = false := rfl
    have d2 : ((0 : Int) != (0 : Int)) = false := rfl
    have c0 : ((0 : Nat) : Int) = 0 := rfl
    simp -implicitDefEqProofs only [a4_c, go_sem, reduceIte, Nat.reduceEqDiff, Nat.reduceAdd, Nat.reduceMul, Nat.reduceLT, Nat.reduceLeDiff, reduceCtorEq, Int.reduceEq, Int.reduceNeg, Nat.reduceSub, Int.reduceLT, Int.reduceLE, Int.reduceGT, Int.reduceGE, Int.reduceAdd, Int.reduceSub, Int.reduceToNat, Int.reduceBNe, Int.reduceBEq, Nat.mul_one, Nat.zero_mul, g5, g6, e13, e22, c0]
    rw [← hs2]
    refine WCall.mono (p23 T (hR.kept hk2 (by simp) (by simp)) (by simp)) ?_
    rintro u s3 ⟨S3, hu, hk3, _⟩
    have hlk := (hLv.kept hk2 (by simp)).kept hk3 (by simp)
    have hlk' : RowV 5 s3 (.slice va 0 vc) (cellsL []) := hlk.toV
    simp -implicitDefEqProofs only [go_sem, reduceIte, Nat.reduceEqDiff, Nat.reduceAdd, Nat.reduceMul, Nat.reduceLT, Nat.reduceLeDiff, reduceCtorEq, Int.reduceEq, Int.reduceNeg, Nat.reduceSub, Int.reduceLT, Int.reduceLE, Int.reduceGT, Int.reduceGE, Int.reduceAdd, Int.reduceSub, Int.reduceToNat, Int.reduceBNe, Int.reduceBEq, Nat.mul_one, Nat.zero_mul, g6, p20 T hu.toV hlk' (by simp) rfl]
    refine hQ _ s3 (get_four.2 ?_) ?_ ((hP.keep hk2).keep hk3)
    · simp -implicitDefEqProofs only [go_sem, reduceIte, Nat.reduceEqDiff, Nat.reduceAdd, Nat.reduceMul, Nat.reduceLT, Nat.reduceLeDiff, reduceCtorEq, Int.reduceEq, Int.reduceNeg, Nat.reduceSub, Int.reduceLT, Int.reduceLE, Int.reduceGT, Int.reduceGE, Int.reduceAdd, Int.reduceSub, Int.reduceToNat, Int.reduceBNe, Int.reduceBEq, Nat.mul_one, Nat.zero_mul]
    · simp -implicitDefEqProofs only [go_sem, reduceIte, Nat.reduceEqDiff, Nat.reduceAdd, Nat.reduceMul, Nat.reduceLT, Nat.reduceLeDiff, reduceCtorEq, Int.reduceEq, Int.reduceNeg, Nat.reduceSub, Int.reduceLT, Int.reduceLE, Int.reduceGT, Int.reduceGE, Int.reduceAdd, Int.reduceSub, Int.reduceToNat, Int.reduceBNe, Int.reduceBEq, Nat.mul_one, Nat.zero_mul, g6]
  | cons r L' =>
    have e13 := fun K => WCall.pureEq (p13 T (ov := ov) hq hql hrow.toV) K
    have n13 := nxt_le (fun k => call tbl ov k) 13 [ptr q] s
    generalize nxt (fun k => call tbl ov k) 13 [ptr q] s = n1 at e13 n13
    obtain ⟨f1, f2, f3, f4, f5, f6⟩ := req_facts r
    obtain ⟨s2, hs2⟩ : ∃ s2 : St, s2 = ⟨(s.heap.put n1 (some (.cells zC 28 0 false))).put n1 (some (.cells r.cells 28 0 false)), n1 + 1⟩ := ⟨_, rfl⟩
    have hk2 : Kept [] s s2 := by
      rw [hs2]
      exact ⟨by simp only; omega, fun j hj _ => by simp only [Heap.get_put]; rw [if_neg (by omega), if_neg (by omega)]⟩
    obtain ⟨id, o, cap, c, T', ro, hv, hg, hle, hrw, h0, _⟩ := row_read (hLv.kept hk2 (by simp)).toV (i := 0) (by simp)
    obtain ⟨id', o', cap', c', T'', ro', hv', hg', hle', hrw', h0', _⟩ := row_read hLv.toV (i := 0) (by simp)
    have hidn : id < s.next := by
      have := wrOf_rowV hLv.toV
      rw [hv] at this
      exact this id (by simp [wrOf])
    have hrw2 : (c.drop o).take 5 = r.cells := by simpa [rG] using hrw
    have hle2 : o + 5 ≤ c.length := by omega
    have hgn : ((s.heap.put n1 (some (.cells zC 28 0 false))).put n1 (some (.cells r.cells 28 0 false))).get id = some (.cells c T' 5 ro) := by rw [hs2] at hg; exact hg
    have hgid : s.heap.get id = some (.cells c T' 5 ro) := by rw [← hk2.2 id hidn (by simp)]; exact hg
    have hidx : (id = n1) = False := by simp; omega
    obtain ⟨n, hnn⟩ : ∃ n, n = (r :: L').length := ⟨_, rfl⟩
    rw [← hnn] at hv
    simp only [Value.slice.injEq] at hv
    obtain ⟨rfl, -, rfl⟩ := hv
    have e22 := fun K => p22 T (ov := ov) (s := s2) (q := q) (mv := i64 (mostOf most)) (a := i64 0) (ad := qa) (n := n) (c := qc) (by rw [hk2.2 q hql (by simp), hnn]; exact hq) K
    rw [hs2] at e22
    rw [← hnn] at g6
    have hn0 : 0 < n := by rw [hnn]; simp
    have d1 : decide ((n : Int) > 0) = true := by simp; omega
    have d2 : ((n : Int) != (n : Int)) = false := by simp
    have hix : (0 : Int) < (n : Int) := by omega
    have heq : eqR r r = true := eqR_iff.2 rfl
    simp -implicitDefEqProofs only [a4_c, go_sem, reduceIte, Nat.reduceEqDiff, Nat.reduceAdd, Nat.reduceMul, Nat.reduceLT, Nat.reduceLeDiff, reduceCtorEq, Int.reduceEq, Int.reduceNeg, Nat.reduceSub, Int.reduceLT, Int.reduceLE, Int.reduceGT, Int.reduceGE, Int.reduceAdd, Int.reduceSub, Int.reduceToNat, Int.reduceBNe, Int.reduceBEq, Nat.mul_one, Nat.zero_mul, g5, g6, e13, e22, d1, d2, hix, hidx, hgid, hle2, hrw2, f1, f2, f3, f5, eqV_req, heq, List.drop_zero, Nat.add_zero]
    rw [← hs2]
    refine WCall.mono (p23 T (hR.kept hk2 (by simp) (by simp)) (by omega)) ?_
    rintro u s3 ⟨S3, hu, hk3, _⟩
    have hlk := (hLv.kept hk2 (by simp)).kept hk3 (by simp)
    rw [← hnn] at hlk
    simp -implicitDefEqProofs only [go_sem, reduceIte, Nat.reduceEqDiff, Nat.reduceAdd, Nat.reduceMul, Nat.reduceLT, Nat.reduceLeDiff, reduceCtorEq, Int.reduceEq, Int.reduceNeg, Nat.reduceSub, Int.reduceLT, Int.reduceLE, Int.reduceGT, Int.reduceGE, Int.reduceAdd, Int.reduceSub, Int.reduceToNat, Int.reduceBNe, Int.reduceBEq, Nat.mul_one, Nat.zero_mul, g6, p20 T hu.toV hlk.toV (by omega) rfl]
    rw [← hnn] at hQ
    refine hQ _ s3 (get_four.2 ?_) ?_ (by rw [hnn]; exact (hP.keep hk2).keep hk3)
    · simp -implicitDefEqProofs only [go_sem, reduceIte, Nat.reduceEqDiff, Nat.reduceAdd, Nat.reduceMul, Nat.reduceLT, Nat.reduceLeDiff, reduceCtorEq, Int.reduceEq, Int.reduceNeg, Nat.reduceSub, Int.reduceLT, Int.reduceLE, Int.reduceGT, Int.reduceGE, Int.reduceAdd, Int.reduceSub, Int.reduceToNat, Int.reduceBNe, Int.reduceBEq, Nat.mul_one, Nat.zero_mul]
    · simp -implicitDefEqProofs only [go_sem, reduceIte, Nat.reduceEqDiff, Nat.reduceAdd, Nat.reduceMul, Nat.reduceLT, Nat.reduceLeDiff, reduceCtorEq, Int.reduceEq, Int.reduceNeg, Nat.reduceSub, Int.reduceLT, Int.reduceLE, Int.reduceGT, Int.reduceGE, Int.reduceAdd, Int.reduceSub, Int.reduceToNat, Int.reduceBNe, Int.reduceBEq, Nat.mul_one, Nat.zero_mul, g6]
end

end Go.Proofs.Ytgnpafmhdmmmhaa
