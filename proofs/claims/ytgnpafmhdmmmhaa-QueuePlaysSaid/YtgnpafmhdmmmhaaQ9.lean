/-
  The queue: All (slices.Clone, slices.Clip) and Late.
-/
import Derived.Test.YtgnpafmhdmmmhaaQ8
set_option maxRecDepth 100000
set_option linter.unusedVariables false
set_option linter.unusedSimpArgs false
namespace Go.Proofs.Ytgnpafmhdmmmhaa
open Go Go.Abs Go.Abs.K

theorem rows_clip {s : St} {v : Value} {cs : List (List Value)} {S : List Nat} (h : RowsP 28 5 s v cs S) :
    ∃ v', evP s.heap.get s.next (.slice (.slice 5) v none (some (.int .i64 (cs.length : Nat))) (some (.int .i64 (cs.length : Nat)))) = some ⟨v', [], s.next⟩ ∧ RowsP 28 5 s v' cs S := by
  obtain ⟨hz, ⟨rfl, rfl, rfl⟩ | ⟨id, o, cap, c, rfl, rfl, h1, h2, h3, hcp, h4, h5⟩⟩ := h
  · exact ⟨.slice none 0 0, by simp [evP, boundsV, boundV], by simp, .inl ⟨rfl, rfl, rfl⟩⟩
  · have hm : cs.length * 5 ≤ cap * 5 := Nat.mul_le_mul_right _ h1
    have a1 : (cs.length : Int) ≤ cap := by omega
    refine ⟨.slice (some ⟨id, o, none⟩) cs.length cs.length, by simp [evP, boundsV, boundV, a1, h3], hz, .inr ⟨id, o, cs.length, c, rfl, rfl, Nat.le_refl _, h2, h3, hcp, by omega, h5⟩⟩

section
variable {tbl : FuncId → Option AFun} {ov : CallSem} {s : St} (T : QTbl tbl)
include T

theorem p47 {lv : Value} {L : List QReq} {S : List Nat} (hR : RowsP 28 5 s lv (cellsL L) S) (hn : L.length < 2 ^ 20) :
    WCall (fun k => call tbl ov k) 47 [lv] s fun u s' => ∃ S', RowsP 28 5 s' u (cellsL L) S' ∧ Kept [] s s' ∧ ∀ x ∈ S', s.next ≤ x := by
  refine WCall.of T.t47 rfl ?_
  have hRV := hR.toV
  obtain ⟨hz, ⟨rfl, hL, rfl⟩ | ⟨id, o, cap, c, rfl, rfl, h1, h2, h3, hcp, h4, h5⟩⟩ := hR
  · simp -implicitDefEqProofs only [fun47, code47, params, go_sem, reduceIte, Nat.reduceEqDiff, Nat.reduceAdd, Nat.reduceMul, Nat.reduceLT, Nat.reduceLeDiff, reduceCtorEq, Int.reduceEq, Int.reduceNeg, Nat.reduceSub, Int.reduceLT, Int.reduceLE, Int.reduceGT, Int.reduceGE, Int.reduceAdd, Int.reduceSub, Int.reduceToNat, Int.reduceBNe, Int.reduceBEq, Nat.mul_one, Nat.zero_mul, Option.isNone_none]
    rw [hL]
    exact ⟨[], .nil, Kept.refl _ _, by simp⟩
  · have hk1 : Kept [] s ⟨s.heap.put s.next (some (.cells [] 28 5 false)), s.next + 1⟩ := kept_put_nil (Nat.le_refl _) (Nat.le_succ _)
    have hR1 : RowsP 28 5 ⟨s.heap.put s.next (some (.cells [] 28 5 false)), s.next + 1⟩ (.slice (some ⟨s.next, 0, none⟩) 0 0) [] [s.next] :=
      ⟨by simp, .inr ⟨s.next, 0, 0, [], rfl, rfl, Nat.le_refl _, Nat.lt_succ_self _, by simp only [Heap.get_put, if_true], rfl, by simp, rfl⟩⟩
    obtain ⟨val, upd, nx, S', he, hR2, hk2, hS2⟩ := hR1.append (b := 56) (hRV.kept hk1) (fun c hc => (hz c hc).2) (big_small (by simp only [List.length_map, List.length_nil]; omega)) (fun n _ h => big_small (by simp only [List.length_map] at h; omega))
    rw [List.nil_append] at hR2
    simp -implicitDefEqProofs only [fun47, code47, params, go_sem, reduceIte, Nat.reduceEqDiff, Nat.reduceAdd, Nat.reduceMul, Nat.reduceLT, Nat.reduceLeDiff, reduceCtorEq, Int.reduceEq, Int.reduceNeg, Nat.reduceSub, Int.reduceLT, Int.reduceLE, Int.reduceGT, Int.reduceGE, Int.reduceAdd, Int.reduceSub, Int.reduceToNat, Int.reduceBNe, Int.reduceBEq, Nat.mul_one, Nat.zero_mul, ev_buildSlice, fillL, he]
    refine ⟨S', hR2, ⟨Nat.le_trans hk1.1 hk2.1, fun j hj _ => ?_⟩, fun x hx => ?_⟩
    · rw [hk2.2 j (by simp only; omega) (by simp only [List.mem_singleton]; omega)]
      exact hk1.2 j hj (by simp)
    · rcases hS2 x hx with h | h
      · rw [List.mem_singleton.1 h]; exact Nat.le_refl _
      · simp only at h; omega

theorem p46 {lv : Value} {L : List QReq} {S : List Nat} (hR : RowsP 28 5 s lv (cellsL L) S) :
    WCall (fun k => call tbl ov k) 46 [lv] s fun u s' => RowsP 28 5 s u (cellsL L) S ∧ s' = s := by
  refine WCall.of T.t46 rfl ?_
  obtain ⟨v', he, hR'⟩ := rows_clip hR
  obtain ⟨a, cap, rfl⟩ := hR.toV.len
  simp -implicitDefEqProofs only [fun46, code46, params, go_sem, reduceIte, Nat.reduceEqDiff, Nat.reduceAdd, Nat.reduceMul, Nat.reduceLT, Nat.reduceLeDiff, reduceCtorEq, Int.reduceEq, Int.reduceNeg, Nat.reduceSub, Int.reduceLT, Int.reduceLE, Int.reduceGT, Int.reduceGE, Int.reduceAdd, Int.reduceSub, Int.reduceToNat, Int.reduceBNe, Int.reduceBEq, Nat.mul_one, Nat.zero_mul, he]
  exact hR'

/-- All. -/
theorem p23 {q : Nat} {most : Int} {L : List QReq} {S : List Nat} (hR : QRep s q most L S) (hn : L.length < 2 ^ 20) :
    WCall (fun k => call tbl ov k) 23 [ptr q] s fun u s' => ∃ S', RowsP 28 5 s' u (cellsL L) S' ∧ Kept [] s s' ∧ ∀ x ∈ S', s.next ≤ x := by
  refine WCall.of T.t23 rfl ?_
  obtain ⟨lv, hq, hrow, hqS, hql⟩ := hR
  simp -implicitDefEqProofs only [fun23, code23, params, go_sem, reduceIte, Nat.reduceEqDiff, Nat.reduceAdd, Nat.reduceMul, Nat.reduceLT, Nat.reduceLeDiff, reduceCtorEq, Int.reduceEq, Int.reduceNeg, Nat.reduceSub, Int.reduceLT, Int.reduceLE, Int.reduceGT, Int.reduceGE, Int.reduceAdd, Int.reduceSub, Int.reduceToNat, Int.reduceBNe, Int.reduceBEq, Nat.mul_one, Nat.zero_mul, hq]
  refine WCall.mono (p47 T hrow hn) ?_
  rintro v s1 ⟨S1, hR1, hk1, hS1⟩
  simp -implicitDefEqProofs only [go_sem, reduceIte, Nat.reduceEqDiff, Nat.reduceAdd, Nat.reduceMul, Nat.reduceLT, Nat.reduceLeDiff, reduceCtorEq, Int.reduceEq, Int.reduceNeg, Nat.reduceSub, Int.reduceLT, Int.reduceLE, Int.reduceGT, Int.reduceGE, Int.reduceAdd, Int.reduceSub, Int.reduceToNat, Int.reduceBNe, Int.reduceBEq, Nat.mul_one, Nat.zero_mul]
  refine WCall.mono (p46 T hR1) ?_
  rintro v s2 ⟨hR2, rfl⟩
  simp -implicitDefEqProofs only [go_sem, reduceIte, Nat.reduceEqDiff, Nat.reduceAdd, Nat.reduceMul, Nat.reduceLT, Nat.reduceLeDiff, reduceCtorEq, Int.reduceEq, Int.reduceNeg, Nat.reduceSub, Int.reduceLT, Int.reduceLE, Int.reduceGT, Int.reduceGE, Int.reduceAdd, Int.reduceSub, Int.reduceToNat, Int.reduceBNe, Int.reduceBEq, Nat.mul_one, Nat.zero_mul]
  exact ⟨S1, hR2, hk1, hS1⟩

/-- Is its time over? -/
def lateR (now : Int) (r : QReq) : Bool := decide (r.til > 0) && decide (r.til < now)

omit T in
theorem filter_take {p : QReq → Bool} {L : List QReq} {i : Nat} (hi : i < L.length) : (L.take (i + 1)).filter p = (L.take i).filter p ++ (if p (rG L i) then [rG L i] else []) := by
  rw [List.take_add_one, List.getElem?_eq_getElem hi, List.filter_append, rG_lt hi]
  cases h : p L[i] <;> simp [h]

/-- Late. -/
theorem p21 {q : Nat} {most now : Int} {L : List QReq} {S : List Nat} (hR : QRep s q most L S) (hn : L.length < 2 ^ 20) :
    WCall (fun k => call tbl ov k) 21 [ptr q, i64 now] s fun u s' => ∃ S1 S2, RowsP 28 5 s' u (cellsL (L.filter (lateR now))) S1 ∧ QRep s' q most (L.filter fun r => !lateR now r) S2 ∧ Kept [q] s s' ∧ (∀ x ∈ S1, s.next ≤ x ∧ x ∉ S2) ∧ (∀ x ∈ S2, s.next ≤ x) := by
  refine WCall.of T.t21 rfl ?_
  obtain ⟨lv, hq, hrow, hqS, hql⟩ := hR
  obtain ⟨a, cap, hlv⟩ := hrow.toV.len
  rw [List.length_map] at hlv
  subst hlv
  simp -implicitDefEqProofs only [fun21, code21, params, go_sem, reduceIte, Nat.reduceEqDiff, Nat.reduceAdd, Nat.reduceMul, Nat.reduceLT, Nat.reduceLeDiff, reduceCtorEq, Int.reduceEq, Int.reduceNeg, Nat.reduceSub, Int.reduceLT, Int.reduceLE, Int.reduceGT, Int.reduceGE, Int.reduceAdd, Int.reduceSub, Int.reduceToNat, Int.reduceBNe, Int.reduceBEq, Nat.mul_one, Nat.zero_mul, hq]
  obtain ⟨I, hI⟩ : ∃ I : Nat → List Value → St → Prop, I = fun m vs s' => Kept [] s s' ∧ ∃ i ovv rv S1 S2, i ≤ L.length ∧ m = L.length - i ∧ vs = [ptr q, i64 now, ovv, rv, .slice a L.length cap, i64 L.length, i64 i] ∧
    RowsP 28 5 s' ovv (cellsL ((L.take i).filter (lateR now))) S1 ∧ RowsP 28 5 s' rv (cellsL ((L.take i).filter fun r => !lateR now r)) S2 ∧ (∀ x ∈ S1, s.next ≤ x ∧ x ∉ S2) ∧ (∀ x ∈ S2, s.next ≤ x) := ⟨_, rfl⟩
  refine wc_loopV I L.length ?_ ?_
  · simp -implicitDefEqProofs only [go_sem, reduceIte, Nat.reduceEqDiff, Nat.reduceAdd, Nat.reduceMul, Nat.reduceLT, Nat.reduceLeDiff, reduceCtorEq, Int.reduceEq, Int.reduceNeg, Nat.reduceSub, Int.reduceLT, Int.reduceLE, Int.reduceGT, Int.reduceGE, Int.reduceAdd, Int.reduceSub, Int.reduceToNat, Int.reduceBNe, Int.reduceBEq, Nat.mul_one, Nat.zero_mul]
    rw [hI]
    exact ⟨Kept.refl _ _, 0, _, _, [], [], by omega, by omega, rfl, .nil, .nil, by simp, by simp⟩
  · intro m vs s1 h _
    rw [hI] at h
    obtain ⟨hk, i, ovv, rv, S1, S2, hi, rfl, rfl, hR1, hR2, hS1, hS2⟩ := h
    cases hlt : decide ((i : Int) < (L.length : Int))
    · simp only [decide_eq_false_iff_not] at hlt
      have hd : decide ((i : Int) < (L.length : Int)) = false := by simp; omega
      have hil : i = L.length := by omega
      subst hil
      rw [List.take_length] at hR1 hR2
      have hq1 : s1.heap.get q = some (.cells [i64 most, .slice a L.length cap] 80 0 false) := by rw [hk.2 q hql (by simp)]; exact hq
      obtain ⟨a2, c2, hrv⟩ := hR2.toV.len
      subst hrv
      obtain ⟨h1, h2⟩ := QRep.store (s0 := s) (most := most) hR2 hk hql (by simp) (fun x hx => .inr (hS2 x hx))
      have hk3 : Kept [q] s1 ⟨s1.heap.put q (some (.cells [i64 most, .slice a2 (cellsL (L.filter fun r => !lateR now r)).length c2] 80 0 false)), s1.next⟩ := ⟨Nat.le_refl _, fun j _ hj => by rw [Heap.get_put, if_neg (by simpa using hj)]⟩
      simp -implicitDefEqProofs only [go_sem, reduceIte, Nat.reduceEqDiff, Nat.reduceAdd, Nat.reduceMul, Nat.reduceLT, Nat.reduceLeDiff, reduceCtorEq, Int.reduceEq, Int.reduceNeg, Nat.reduceSub, Int.reduceLT, Int.reduceLE, Int.reduceGT, Int.reduceGE, Int.reduceAdd, Int.reduceSub, Int.reduceToNat, Int.reduceBNe, Int.reduceBEq, Nat.mul_one, Nat.zero_mul, hd, hq1]
      exact ⟨S1, S2, hR1.kept hk3 (fun x hx => by simp only [List.mem_singleton]; have := (hS1 x hx).1; omega), h1, h2, hS1, hS2⟩
    · simp only [decide_eq_true_eq] at hlt
      have hd : decide ((i : Int) < (L.length : Int)) = true := by simp; omega
      obtain ⟨id, o, cap', c, T', ro, hv, hg, hle, hrw, h0, h3, h4⟩ := row_read hrow.toV (i := i) (by omega)
      cases hv
      obtain ⟨f1, f2, f3, f4, f5, f6⟩ := req_facts (rG L i)
      have r4 : (rG L i).cells[4]? = some (i64 (rG L i).til) := rfl
      have hidn : id < s.next := by
        obtain ⟨_, ⟨h1, _⟩ | ⟨id', o', cap', c', h1, _, _, h2, _⟩⟩ := hrow
        · cases h1
        · simp only [Value.slice.injEq, Option.some.injEq, Addr.mk.injEq] at h1
          have := h1.1.1
          omega
      have hg1 : s1.heap.get id = some (.cells c T' 5 ro) := by rw [hk.2 id hidn (by simp)]; exact hg
      have hix : 0 ≤ (i : Int) ∧ (i : Int) < (L.length : Int) := by omega
      have w1 : IntKind.i64.wrap ((i : Int) + 1) = ((i + 1 : Nat) : Int) := by rw [IntKind.wrap_i64]; omega
      have hnn := hk.1
      have hidx : (id = s1.next) = False := by simp; omega
      obtain ⟨s2, hs2⟩ : ∃ s2 : St, s2 = ⟨((s1.heap.put s1.next (some (.cells zC 28 0 false))).put s1.next (some (.cells (rG L i).cells 28 0 false))).put (s1.next + 1) (some (.cells (rG L i).cells 28 5 false)), s1.next + 1 + 1⟩ := ⟨_, rfl⟩
      have hk2 : Kept [] s1 s2 := by
        rw [hs2]
        exact ⟨by simp only; omega, fun j hj _ => by simp only [Heap.get_put]; rw [if_neg (by omega), if_neg (by omega), if_neg (by omega)]⟩
      have hy : RowV 5 s2 (.slice (some ⟨s1.next + 1, 0, none⟩) 1 1) [(rG L i).cells] :=
        ⟨fun c hc => by rw [List.mem_singleton.1 hc]; exact ⟨f1, f3⟩, .inr ⟨s1.next + 1, 0, 1, (rG L i).cells, 28, false, rfl, Nat.le_refl _, by rw [hs2]; exact Nat.lt_succ_self _, by rw [hs2]; simp only [Heap.get_put, if_true], by simp [f1], by simp [f2]⟩⟩
      have hlen1 : ((L.take i).filter (lateR now)).length ≤ i := by
        have := List.length_filter_le (lateR now) (L.take i); simp only [List.length_take] at this; omega
      have hlen2 : ((L.take i).filter fun r => !lateR now r).length ≤ i := by
        have := List.length_filter_le (fun r => !lateR now r) (L.take i); simp only [List.length_take] at this; omega
      have hft1 := filter_take (p := lateR now) (L := L) (i := i) (by omega)
      have hft2 := filter_take (p := fun r => !lateR now r) (L := L) (i := i) (by omega)
      cases hlate : lateR now (rG L i)
      · obtain ⟨val, upd, nx, S', he, hR3, hk3, hS3⟩ := (hR2.kept hk2 (by simp)).append (b := 56) hy (fun c hc => by rw [List.mem_singleton.1 hc]; exact f4) (big_small (by simp only [List.length_map, List.length_cons, List.length_nil]; omega)) (fun n _ h => big_small (by simp only [List.length_cons, List.length_nil] at h; omega))
        rw [hlate] at hft1 hft2
        simp only [Bool.false_eq_true, if_false, List.append_nil, Bool.not_false, if_true] at hft1 hft2
        have hcl : cellsL ((L.take i).filter fun r => !lateR now r) ++ [(rG L i).cells] = cellsL ((L.take (i + 1)).filter fun r => !lateR now r) := by rw [hft2]; simp only [cellsL, List.map_append, List.map_cons, List.map_nil]
        rw [hcl] at hR3
        rw [hs2] at he
        have hlt2 : ∀ x ∈ S1, x < s2.next := fun x hx => Nat.lt_of_lt_of_le (hR1.lt x hx) hk2.1
        have hfin : ∃ m' , m' < L.length - i ∧ I m' [ptr q, i64 now, ovv, val, .slice (some ⟨id, o, none⟩) L.length cap, i64 L.length, i64 ((i + 1 : Nat) : Int)] ⟨applyUpd s2.heap upd, nx⟩ := by
          refine ⟨L.length - (i + 1), by omega, ?_⟩
          rw [hI]
          refine ⟨⟨Nat.le_trans (Nat.le_trans hk.1 hk2.1) hk3.1, fun j hj _ => ?_⟩, i + 1, ovv, val, S1, S', by omega, rfl, rfl, ?_, hR3, fun x hx => ⟨(hS1 x hx).1, fun hx' => ?_⟩, fun x hx => ?_⟩
          · rw [hk3.2 j (by have := hk2.1; omega) (fun h => by have := hS2 j h; omega), hk2.2 j (by omega) (by simp)]
            exact hk.2 j hj (by simp)
          · rw [hft1]
            exact (hR1.kept hk2 (by simp)).kept hk3 (fun x hx => (hS1 x hx).2)
          · rcases hS3 x hx' with h | h
            · exact (hS1 x hx).2 h
            · have := hlt2 x hx; omega
          · rcases hS3 x hx with h | h
            · exact hS2 x h
            · have := hk2.1; omega
        rw [hs2] at hfin
        simp only [lateR, Bool.and_eq_false_iff] at hlate
        by_cases hpos : (rG L i).til > 0
        · have d1 : decide ((rG L i).til > 0) = true := by simpa using hpos
          have d2 : decide ((rG L i).til < now) = false := by
            rcases hlate with h | h
            · rw [d1] at h; cases h
            · exact h
          simp -implicitDefEqProofs only [go_sem, reduceIte, Nat.reduceEqDiff, Nat.reduceAdd, Nat.reduceMul, Nat.reduceLT, Nat.reduceLeDiff, reduceCtorEq, Int.reduceEq, Int.reduceNeg, Nat.reduceSub, Int.reduceLT, Int.reduceLE, Int.reduceGT, Int.reduceGE, Int.reduceAdd, Int.reduceSub, Int.reduceToNat, Int.reduceBNe, Int.reduceBEq, Nat.mul_one, Nat.zero_mul, hd, hix, hg1, hidx, hle, hrw, f1, f2, f3, f5, r4, d1, d2, w1, List.drop_zero, ev_buildSlice, fillL, he]
          exact hfin
        · have d1 : decide ((rG L i).til > 0) = false := by simpa using hpos
          simp -implicitDefEqProofs only [go_sem, reduceIte, Nat.reduceEqDiff, Nat.reduceAdd, Nat.reduceMul, Nat.reduceLT, Nat.reduceLeDiff, reduceCtorEq, Int.reduceEq, Int.reduceNeg, Nat.reduceSub, Int.reduceLT, Int.reduceLE, Int.reduceGT, Int.reduceGE, Int.reduceAdd, Int.reduceSub, Int.reduceToNat, Int.reduceBNe, Int.reduceBEq, Nat.mul_one, Nat.zero_mul, hd, hix, hg1, hidx, hle, hrw, f1, f2, f3, f5, r4, d1, w1, List.drop_zero, ev_buildSlice, fillL, he]
          exact hfin
      · obtain ⟨val, upd, nx, S', he, hR3, hk3, hS3⟩ := (hR1.kept hk2 (by simp)).append (b := 56) hy (fun c hc => by rw [List.mem_singleton.1 hc]; exact f4) (big_small (by simp only [List.length_map, List.length_cons, List.length_nil]; omega)) (fun n _ h => big_small (by simp only [List.length_cons, List.length_nil] at h; omega))
        rw [hlate] at hft1 hft2
        simp only [Bool.false_eq_true, if_false, List.append_nil, Bool.not_true, if_true] at hft1 hft2
        have hcl : cellsL ((L.take i).filter (lateR now)) ++ [(rG L i).cells] = cellsL ((L.take (i + 1)).filter (lateR now)) := by rw [hft1]; simp only [cellsL, List.map_append, List.map_cons, List.map_nil]
        rw [hcl] at hR3
        rw [hs2] at he
        have hlt2 : ∀ x ∈ S2, x < s2.next := fun x hx => Nat.lt_of_lt_of_le (hR2.lt x hx) hk2.1
        have hfin : ∃ m' , m' < L.length - i ∧ I m' [ptr q, i64 now, val, rv, .slice (some ⟨id, o, none⟩) L.length cap, i64 L.length, i64 ((i + 1 : Nat) : Int)] ⟨applyUpd s2.heap upd, nx⟩ := by
          refine ⟨L.length - (i + 1), by omega, ?_⟩
          rw [hI]
          refine ⟨⟨Nat.le_trans (Nat.le_trans hk.1 hk2.1) hk3.1, fun j hj _ => ?_⟩, i + 1, val, rv, S', S2, by omega, rfl, rfl, hR3, ?_, fun x hx => ⟨?_, fun hx' => ?_⟩, hS2⟩
          · rw [hk3.2 j (by have := hk2.1; omega) (fun h => by have := (hS1 j h).1; omega), hk2.2 j (by omega) (by simp)]
            exact hk.2 j hj (by simp)
          · rw [hft2]
            exact (hR2.kept hk2 (by simp)).kept hk3 (fun x hx hx' => (hS1 x hx').2 hx)
          · rcases hS3 x hx with h | h
            · exact (hS1 x h).1
            · have := hk2.1; omega
          · rcases hS3 x hx with h | h
            · exact (hS1 x h).2 hx'
            · have := hlt2 x hx'; omega
        rw [hs2] at hfin
        simp only [lateR, Bool.and_eq_true] at hlate
        obtain ⟨d1, d2⟩ := hlate
        simp -implicitDefEqProofs only [go_sem, reduceIte, Nat.reduceEqDiff, Nat.reduceAdd, Nat.reduceMul, Nat.reduceLT, Nat.reduceLeDiff, reduceCtorEq, Int.reduceEq, Int.reduceNeg, Nat.reduceSub, Int.reduceLT, Int.reduceLE, Int.reduceGT, Int.reduceGE, Int.reduceAdd, Int.reduceSub, Int.reduceToNat, Int.reduceBNe, Int.reduceBEq, Nat.mul_one, Nat.zero_mul, hd, hix, hg1, hidx, hle, hrw, f1, f2, f3, f5, r4, d1, d2, w1, List.drop_zero, ev_buildSlice, fillL, he]
        exact hfin
end

end Go.Proofs.Ytgnpafmhdmmmhaa
