/-
  QueuePlays: what is late goes.
-/
import Derived.Test.YtgnpafmhdmmmhaaQ12
set_option maxRecDepth 100000
set_option linter.unusedVariables false
set_option linter.unusedSimpArgs false
namespace Go.Proofs.Ytgnpafmhdmmmhaa
open Go Go.Abs Go.Abs.K

section
variable {tbl : FuncId → Option AFun} {ov : CallSem} {s0 s : St} (T : QTbl tbl)
include T

theorem act3 {e : Env} {q ab : Nat} {most : Int} {L : List QReq} {lv pv iv : Value} {a : QAct} {Q : AExit → Env → St → Prop} (hP : PR s0 s q most L lv [ab]) (hn : L.length < 1000) (ha : s.heap.get ab = some (.cells a.cells 37 0 false))
    (g0 : e.get 0 = some (i64 most)) (g1 : e.get 1 = some pv) (g5 : e.get 5 = some (ptr q)) (g6 : e.get 6 = some lv) (g7 : e.get 7 = some iv) (g8 : e.get 8 = some (ptr ab))
    (hQ : ∀ e' s' L' lv', (∀ t ∈ [0, 1, 5, 7], e'.get t = e.get t) → e'.get 6 = some lv' → PR s0 s' q most L' lv' [] → L'.length ≤ L.length + 1 → Q .normal e' s') :
    WCode (fun k => call tbl ov k) a4_3 e s Q := by
  obtain ⟨f1, f2, f3, f4, f5, f6⟩ := act_facts a
  obtain ⟨S, SL, hR, hLv, hS, hSL⟩ := hP.rep
  have hq0 := hR.lt
  have habl := hP.tlt ab (by simp)
  obtain ⟨va, vc, hlv⟩ := hLv.toV.len
  rw [List.length_map] at hlv
  subst hlv
  obtain ⟨s1, hs1⟩ : ∃ s1 : St, s1 = ⟨(s.heap.put s.next (some (.cells [] 28 5 false))).put (s.next + 1) (some (.cells [] 28 5 false)), s.next + 1 + 1⟩ := ⟨_, rfl⟩
  have hk1 : Kept [] s s1 := by
    rw [hs1]
    exact ⟨by simp only; omega, fun j hj _ => by simp only [Heap.get_put]; rw [if_neg (by omega), if_neg (by omega)]⟩
  have hG0 : RowsP 28 5 s1 (.slice (some ⟨s.next, 0, none⟩) 0 0) [] [s.next] := by
    rw [hs1]
    exact ⟨by simp, .inr ⟨s.next, 0, 0, [], rfl, rfl, Nat.le_refl _, by simp only; omega, by simp only [Heap.get_put, if_true]; rw [if_neg (by omega)], rfl, by simp, rfl⟩⟩
  have hE0 : RowsP 28 5 s1 (.slice (some ⟨s.next + 1, 0, none⟩) 0 0) [] [s.next + 1] := by
    rw [hs1]
    exact ⟨by simp, .inr ⟨s.next + 1, 0, 0, [], rfl, rfl, Nat.le_refl _, Nat.lt_succ_self _, by simp only [Heap.get_put, if_true], rfl, by simp, rfl⟩⟩
  simp -implicitDefEqProofs only [a4_3, go_sem, reduceIte, Nat.reduceEqDiff, Nat.reduceAdd, Nat.reduceMul, Nat.reduceLT, Nat.reduceLeDiff, reduceCtorEq, Int.reduceEq, Int.reduceNeg, Nat.reduceSub, Int.reduceLT, Int.reduceLE, Int.reduceGT, Int.reduceGE, Int.reduceAdd, Int.reduceSub, Int.reduceToNat, Int.reduceBNe, Int.reduceBEq, Nat.mul_one, Nat.zero_mul, ev_buildSlice, fillL]
  rw [← hs1]
  obtain ⟨I, hI⟩ : ∃ I : Nat → List Value → St → Prop, I = fun m vs s' => Kept [] s s' ∧ ∃ i gv rv S1 S2, i ≤ L.length ∧ m = L.length - i ∧ vs = [i64 most, pv, ptr q, .slice va L.length vc, iv, ptr ab, gv, rv, i64 i] ∧
    RowsP 28 5 s' gv (cellsL ((L.take i).filter (lateR a.n))) S1 ∧ RowsP 28 5 s' rv (cellsL ((L.take i).filter fun r => !lateR a.n r)) S2 ∧ (∀ x ∈ S1, s.next ≤ x ∧ x ∉ S2) ∧ (∀ x ∈ S2, s.next ≤ x) := ⟨_, rfl⟩
  refine wc_loopV I L.length ?_ ?_
  · simp -implicitDefEqProofs only [go_sem, reduceIte, Nat.reduceEqDiff, Nat.reduceAdd, Nat.reduceMul, Nat.reduceLT, Nat.reduceLeDiff, reduceCtorEq, Int.reduceEq, Int.reduceNeg, Nat.reduceSub, Int.reduceLT, Int.reduceLE, Int.reduceGT, Int.reduceGE, Int.reduceAdd, Int.reduceSub, Int.reduceToNat, Int.reduceBNe, Int.reduceBEq, Nat.mul_one, Nat.zero_mul, g0, g1, g5, g6, g7, g8]
    rw [hI]
    exact ⟨hk1, 0, _, _, [s.next], [s.next + 1], by omega, by omega, rfl, hG0, hE0, by simp, by simp⟩
  intro m vs s2 h _
  rw [hI] at h
  obtain ⟨hk, i, gv, rv, S1, S2, hi, rfl, rfl, hR1, hR2, hS1, hS2⟩ := h
  have ha2 : s2.heap.get ab = some (.cells a.cells 37 0 false) := by rw [hk.2 ab habl (by simp)]; exact ha
  cases hlt : decide ((i : Int) < (L.length : Int))
  · simp only [decide_eq_false_iff_not] at hlt
    have hd : decide ((i : Int) < (L.length : Int)) = false := by simp; omega
    have hil : i = L.length := by omega
    subst hil
    rw [List.take_length] at hR1 hR2
    simp -implicitDefEqProofs only [go_sem, reduceIte, Nat.reduceEqDiff, Nat.reduceAdd, Nat.reduceMul, Nat.reduceLT, Nat.reduceLeDiff, reduceCtorEq, Int.reduceEq, Int.reduceNeg, Nat.reduceSub, Int.reduceLT, Int.reduceLE, Int.reduceGT, Int.reduceGE, Int.reduceAdd, Int.reduceSub, Int.reduceToNat, Int.reduceBNe, Int.reduceBEq, Nat.mul_one, Nat.zero_mul, hd, ha2, f4]
    refine WCall.mono (p21 T (now := a.n) (hR.kept hk (by simp) (by simp)) (by omega)) ?_
    rintro u s3 ⟨S3, S4, hu, hE, hk3, hS3, hS4⟩
    have hkq : ∀ {x}, s.next ≤ x → x ∉ [q] := fun h => by simp only [List.mem_singleton]; omega
    simp -implicitDefEqProofs only [go_sem, reduceIte, Nat.reduceEqDiff, Nat.reduceAdd, Nat.reduceMul, Nat.reduceLT, Nat.reduceLeDiff, reduceCtorEq, Int.reduceEq, Int.reduceNeg, Nat.reduceSub, Int.reduceLT, Int.reduceLE, Int.reduceGT, Int.reduceGE, Int.reduceAdd, Int.reduceSub, Int.reduceToNat, Int.reduceBNe, Int.reduceBEq, Nat.mul_one, Nat.zero_mul, p20 T hu.toV (hR1.kept hk3 (fun x hx => hkq (hS1 x hx).1)).toV (Nat.lt_of_le_of_lt (List.length_filter_le _ _) (by omega)) rfl]
    have hks := hk.1
    have hk0 := hP.kept.1
    refine hQ _ s3 (L.filter fun r => !lateR a.n r) rv (get_four.2 ?_) ?_ ⟨⟨S4, S2, hE, hR2.kept hk3 (fun x hx => hkq (hS2 x hx)), fun x hx => ⟨?_, by simp⟩, fun x hx => ⟨?_, ?_, ?_, by simp⟩⟩, hP.sorted.filter _, hP.uniq.filter _, hP.q0, by simp, by simp, ⟨Nat.le_trans (Nat.le_trans hk0 hks) hk3.1, fun j hj _ => ?_⟩⟩ (Nat.le_succ_of_le (List.length_filter_le _ _))
    · simp -implicitDefEqProofs only [go_sem, reduceIte, Nat.reduceEqDiff, Nat.reduceAdd, Nat.reduceMul, Nat.reduceLT, Nat.reduceLeDiff, reduceCtorEq, Int.reduceEq, Int.reduceNeg, Nat.reduceSub, Int.reduceLT, Int.reduceLE, Int.reduceGT, Int.reduceGE, Int.reduceAdd, Int.reduceSub, Int.reduceToNat, Int.reduceBNe, Int.reduceBEq, Nat.mul_one, Nat.zero_mul, g0, g1, g5, g7]
    · simp -implicitDefEqProofs only [go_sem, reduceIte, Nat.reduceEqDiff, Nat.reduceAdd, Nat.reduceMul, Nat.reduceLT, Nat.reduceLeDiff, reduceCtorEq, Int.reduceEq, Int.reduceNeg, Nat.reduceSub, Int.reduceLT, Int.reduceLE, Int.reduceGT, Int.reduceGE, Int.reduceAdd, Int.reduceSub, Int.reduceToNat, Int.reduceBNe, Int.reduceBEq, Nat.mul_one, Nat.zero_mul]
    · have := hS4 x hx; omega
    · have := hS2 x hx; omega
    · have := hS2 x hx; omega
    · intro h
      have := hS4 x h
      have := hR2.lt x hx
      omega
    · rw [hk3.2 j (by omega) (by simp only [List.mem_singleton]; have := hP.q0; omega), hk.2 j (by omega) (by simp)]
      exact hP.kept.2 j hj (by simp)
  · simp only [decide_eq_true_eq] at hlt
    have hd : decide ((i : Int) < (L.length : Int)) = true := by simp; omega
    obtain ⟨id, o, cap', c, T', ro, hv, hg, hle, hrw, h0, h3, h4⟩ := row_read (hLv.kept hk (by simp)).toV (i := i) (by omega)
    cases hv
    obtain ⟨r1, r2, r3, r4, r5, r6⟩ := req_facts (rG L i)
    have hix : 0 ≤ (i : Int) ∧ (i : Int) < (L.length : Int) := by omega
    have w1 : IntKind.i64.wrap ((i : Int) + 1) = ((i + 1 : Nat) : Int) := by rw [IntKind.wrap_i64]; omega
    obtain ⟨s3, hs3⟩ : ∃ s3 : St, s3 = ⟨s2.heap.put s2.next (some (.cells (rG L i).cells 28 5 false)), s2.next + 1⟩ := ⟨_, rfl⟩
    have hk2 : Kept [] s2 s3 := by rw [hs3]; exact kept_put_nil (Nat.le_refl _) (Nat.le_succ _)
    have hy : RowV 5 s3 (.slice (some ⟨s2.next, 0, none⟩) 1 1) [(rG L i).cells] := by rw [hs3]; exact rowV_put ⟨r1, r3⟩ (Nat.lt_succ_self _)
    have hlen1 : ((L.take i).filter (lateR a.n)).length ≤ i := by
      have := List.length_filter_le (lateR a.n) (L.take i); simp only [List.length_take] at this; omega
    have hlen2 : ((L.take i).filter fun r => !lateR a.n r).length ≤ i := by
      have := List.length_filter_le (fun r => !lateR a.n r) (L.take i); simp only [List.length_take] at this; omega
    have hft1 := filter_take (p := lateR a.n) (L := L) (i := i) (by omega)
    have hft2 := filter_take (p := fun r => !lateR a.n r) (L := L) (i := i) (by omega)
    have hnn := hk.1
    cases hlate : lateR a.n (rG L i)
    · obtain ⟨val, upd, nx, S', he, hR3, hk3, hS3⟩ := (hR2.kept hk2 (by simp)).append (b := 56) hy (fun c hc => by rw [List.mem_singleton.1 hc]; exact r4) (big_small (by simp only [List.length_map, List.length_cons, List.length_nil]; omega)) (fun n _ h => big_small (by simp only [List.length_cons, List.length_nil] at h; omega))
      rw [hlate] at hft1 hft2
      simp only [Bool.false_eq_true, if_false, List.append_nil, Bool.not_false, if_true] at hft1 hft2
      have hcl : cellsL ((L.take i).filter fun r => !lateR a.n r) ++ [(rG L i).cells] = cellsL ((L.take (i + 1)).filter fun r => !lateR a.n r) := by rw [hft2]; simp only [cellsL, List.map_append, List.map_cons, List.map_nil]
      rw [hcl] at hR3
      rw [hs3] at he
      have hlt2 : ∀ x ∈ S1, x < s3.next := fun x hx => Nat.lt_of_lt_of_le (hR1.lt x hx) hk2.1
      have hfin : ∃ m' , m' < L.length - i ∧ I m' [i64 most, pv, ptr q, .slice (some ⟨id, o, none⟩) L.length vc, iv, ptr ab, gv, val, i64 ((i + 1 : Nat) : Int)] ⟨applyUpd s3.heap upd, nx⟩ := by
        refine ⟨L.length - (i + 1), by omega, ?_⟩
        rw [hI]
        refine ⟨⟨Nat.le_trans (Nat.le_trans hk.1 hk2.1) hk3.1, fun j hj _ => ?_⟩, i + 1, gv, val, S1, S', by omega, rfl, rfl, ?_, hR3, fun x hx => ⟨(hS1 x hx).1, fun hx' => ?_⟩, fun x hx => ?_⟩
        · rw [hk3.2 j (by have := hk2.1; omega) (fun h => by have := hS2 j h; omega), hk2.2 j (by omega) (by simp)]
          exact hk.2 j hj (by simp)
        · rw [hft1]
          exact (hR1.kept hk2 (by simp)).kept hk3 (fun x hx => (hS1 x hx).2)
        · rcases hS3 x hx' with h | h
          · exact (hS1 x hx).2 h
          · have := hlt2 x hx; omega
        · rcases hS3 x hx with h | h
          · exact hS2 x h
          · have := hk2.1; omega
      rw [hs3] at hfin
      simp only [lateR, Bool.and_eq_false_iff] at hlate
      by_cases hpos : (rG L i).til > 0
      · have d1 : decide ((rG L i).til > 0) = true := by simpa using hpos
        have d2 : decide ((rG L i).til < a.n) = false := by
          rcases hlate with h | h
          · rw [d1] at h; cases h
          · exact h
        simp -implicitDefEqProofs only [go_sem, reduceIte, Nat.reduceEqDiff, Nat.reduceAdd, Nat.reduceMul, Nat.reduceLT, Nat.reduceLeDiff, reduceCtorEq, Int.reduceEq, Int.reduceNeg, Nat.reduceSub, Int.reduceLT, Int.reduceLE, Int.reduceGT, Int.reduceGE, Int.reduceAdd, Int.reduceSub, Int.reduceToNat, Int.reduceBNe, Int.reduceBEq, Nat.mul_one, Nat.zero_mul, hd, hix, hg, hle, hrw, h4, ha2, f4, r1, r2, r3, r5, d1, d2, w1, List.drop_zero, ev_buildSlice, fillL, he]
        exact hfin
      · have d1 : decide ((rG L i).til > 0) = false := by simpa using hpos
        simp -implicitDefEqProofs only [go_sem, reduceIte, Nat.reduceEqDiff, Nat.reduceAdd, Nat.reduceMul, Nat.reduceLT, Nat.reduceLeDiff, reduceCtorEq, Int.reduceEq, Int.reduceNeg, Nat.reduceSub, Int.reduceLT, Int.reduceLE, Int.reduceGT, Int.reduceGE, Int.reduceAdd, Int.reduceSub, Int.reduceToNat, Int.reduceBNe, Int.reduceBEq, Nat.mul_one, Nat.zero_mul, hd, hix, hg, hle, hrw, h4, ha2, f4, r1, r2, r3, r5, d1, w1, List.drop_zero, ev_buildSlice, fillL, he]
        exact hfin
    · obtain ⟨val, upd, nx, S', he, hR3, hk3, hS3⟩ := (hR1.kept hk2 (by simp)).append (b := 56) hy (fun c hc => by rw [List.mem_singleton.1 hc]; exact r4) (big_small (by simp only [List.length_map, List.length_cons, List.length_nil]; omega)) (fun n _ h => big_small (by simp only [List.length_cons, List.length_nil] at h; omega))
      rw [hlate] at hft1 hft2
      simp only [Bool.false_eq_true, if_false, List.append_nil, Bool.not_true, if_true] at hft1 hft2
      have hcl : cellsL ((L.take i).filter (lateR a.n)) ++ [(rG L i).cells] = cellsL ((L.take (i + 1)).filter (lateR a.n)) := by rw [hft1]; simp only [cellsL, List.map_append, List.map_cons, List.map_nil]
      rw [hcl] at hR3
      rw [hs3] at he
      have hlt2 : ∀ x ∈ S2, x < s3.next := fun x hx => Nat.lt_of_lt_of_le (hR2.lt x hx) hk2.1
      have hfin : ∃ m' , m' < L.length - i ∧ I m' [i64 most, pv, ptr q, .slice (some ⟨id, o, none⟩) L.length vc, iv, ptr ab, val, rv, i64 ((i + 1 : Nat) : Int)] ⟨applyUpd s3.heap upd, nx⟩ := by
        refine ⟨L.length - (i + 1), by omega, ?_⟩
        rw [hI]
        refine ⟨⟨Nat.le_trans (Nat.le_trans hk.1 hk2.1) hk3.1, fun j hj _ => ?_⟩, i + 1, val, rv, S', S2, by omega, rfl, rfl, hR3, ?_, fun x hx => ⟨?_, fun hx' => ?_⟩, hS2⟩
        · rw [hk3.2 j (by have := hk2.1; omega) (fun h => by have := (hS1 j h).1; omega), hk2.2 j (by omega) (by simp)]
          exact hk.2 j hj (by simp)
        · rw [hft2]
          exact (hR2.kept hk2 (by simp)).kept hk3 (fun x hx hx' => (hS1 x hx').2 hx)
        · rcases hS3 x hx with h | h
          · exact (hS1 x h).1
          · have := hk2.1; omega
        · rcases hS3 x hx with h | h
          · exact (hS1 x h).2 hx'
          · have := hlt2 x hx'; omega
      rw [hs3] at hfin
      simp only [lateR, Bool.and_eq_true] at hlate
      obtain ⟨d1, d2⟩ := hlate
      simp -implicitDefEqProofs only [go_sem, reduceIte, Nat.reduceEqDiff, Nat.reduceAdd, Nat.reduceMul, Nat.reduceLT, Nat.reduceLeDiff, reduceCtorEq, Int.reduceEq, Int.reduceNeg, Nat.reduceSub, Int.reduceLT, Int.reduceLE, Int.reduceGT, Int.reduceGE, Int.reduceAdd, Int.reduceSub, Int.reduceToNat, Int.reduceBNe, Int.reduceBEq, Nat.mul_one, Nat.zero_mul, hd, hix, hg, hle, hrw, h4, ha2, f4, r1, r2, r3, r5, d1, d2, w1, List.drop_zero, ev_buildSlice, fillL, he]
      exact hfin
end

end Go.Proofs.Ytgnpafmhdmmmhaa
