/-
  Where a request goes: slices.BinarySearchFunc.
-/
import Derived.Test.YtgnpafmhdmmmhaaQ4
set_option maxRecDepth 100000
set_option linter.unusedVariables false
set_option linter.unusedSimpArgs false
namespace Go.Proofs.Ytgnpafmhdmmmhaa
open Go Go.Abs Go.Abs.K

theorem before_iff {a b : QReq} : beforeR a b = true ↔ a.prio < b.prio ∨ (a.prio = b.prio ∧ a.id < b.id) := by
  simp only [beforeR, Bool.or_eq_true, Bool.and_eq_true, decide_eq_true_eq, beq_iff_eq]
theorem cmp_before (a b : QReq) : decide (cmpR a b < 0) = beforeR a b := by
  rw [Bool.eq_iff_iff, before_iff, decide_eq_true_eq]
  unfold cmpR cmpI
  split <;> split <;> (try split at *) <;> omega
theorem before_trans {a b c : QReq} (h : beforeR a b = true) (k : beforeR b c = true) : beforeR a c = true := by
  rw [before_iff] at h k ⊢; omega
theorem before_irrefl (a : QReq) : beforeR a a = false := by
  cases h : beforeR a a
  · rfl
  · rw [before_iff] at h; omega

def SortedR (L : List QReq) : Prop := L.Pairwise fun a b => beforeR a b = true

theorem SortedR.lt {L : List QReq} (h : SortedR L) {i j : Nat} (hij : i < j) (hj : j < L.length) : beforeR (rG L i) (rG L j) = true := by
  rw [rG_lt hj, rG_lt (by omega)]
  exact List.pairwise_iff_getElem.1 h i j (by omega) hj hij

/-- How many are ahead of one. -/
def insI (r : QReq) : List QReq → Nat
  | [] => 0
  | a :: L => if beforeR a r then insI r L + 1 else 0

theorem insI_le (r : QReq) (L : List QReq) : insI r L ≤ L.length := by
  induction L with
  | nil => exact Nat.le_refl _
  | cons a L ih => simp only [insI]; split <;> simp only [List.length_cons] <;> omega

theorem insI_eq {r : QReq} : ∀ {L : List QReq} {i : Nat}, i ≤ L.length → (∀ k, k < i → beforeR (rG L k) r = true) → (i < L.length → beforeR (rG L i) r = false) → i = insI r L := by
  intro L
  induction L with
  | nil => intro i hi _ _; simp only [List.length_nil] at hi; simp only [insI]; omega
  | cons a L ih =>
    intro i hi h1 h2
    cases i with
    | zero =>
      have := h2 (by simp)
      simp only [rG, List.getD_cons_zero] at this
      simp only [insI, this]; rfl
    | succ i =>
      have h0 := h1 0 (by omega)
      simp only [rG, List.getD_cons_zero] at h0
      simp only [insI, h0, if_true]
      rw [← ih (i := i) (by simpa using hi) (fun k hk => by have := h1 (k + 1) (by omega); simpa [rG] using this) (fun hk => by have := h2 (by simpa using hk); simpa [rG] using this)]

section
variable {tbl : FuncId → Option AFun} {ov : CallSem} {s : St} (T : QTbl tbl)
include T

theorem p43 {L : List QReq} {lv : Value} {r : QReq} (hr : RowV 5 s lv (cellsL L)) (hn : L.length < 2 ^ 62) (hs : SortedR L) :
    Pure tbl ov 43 [lv, r.val, .func (.func 44) #[] #[]] s (.tuple #[i64 (insI r L), .bool (decide (insI r L < L.length) && decide (cmpR (rG L (insI r L)) r = 0))]) := by
  refine WCall.pure T.t43 rfl (by decide) rfl ?_
  obtain ⟨a, cap, hlv⟩ := hr.len
  rw [List.length_map] at hlv
  subst hlv
  have hr5 : r.cells.take 5 = r.cells := rfl
  have hl5 : r.cells.length = 5 := rfl
  obtain ⟨s0, hs0⟩ : ∃ s0 : St, s0 = ⟨s.heap.put s.next (some (.cells r.cells 28 0 false)), s.next + 1⟩ := ⟨_, rfl⟩
  have hr0 : RowV 5 s0 (.slice a L.length cap) (cellsL L) := by rw [hs0]; exact hr.kept (kept_nil (Nat.le_succ _))
  have hbox : s0.heap.get s.next = some (.cells r.cells 28 0 false) := by rw [hs0]; simp only [Heap.get_put, if_true]
  have hk0 : KeptAll s s0 := by rw [hs0]; exact kept_put
  have hn0 : s0.next = s.next + 1 := by rw [hs0]
  simp -implicitDefEqProofs only [fun43, code43, params, go_sem, reduceIte, Nat.reduceEqDiff, Nat.reduceAdd, Nat.reduceMul, Nat.reduceLT, Nat.reduceLeDiff, reduceCtorEq, Int.reduceEq, Int.reduceNeg, Nat.reduceSub, Int.reduceLT, Int.reduceLE, Int.reduceGT, Int.reduceGE, Int.reduceAdd, Int.reduceSub, Int.reduceToNat, Int.reduceBNe, Int.reduceBEq, Nat.mul_one, Nat.zero_mul]
  rw [← hs0]
  refine wc_loopV (fun m vs s' => s'.heap = s0.heap ∧ s0.next ≤ s'.next ∧ ∃ i j, i ≤ j ∧ j ≤ L.length ∧ m = j - i ∧ vs = [.slice a L.length cap, .func (.func 44) #[] #[], .pointer (some ⟨s.next, 0, none⟩), i64 L.length, i64 i, i64 j] ∧ (∀ k, k < i → beforeR (rG L k) r = true) ∧ (j < L.length → beforeR (rG L j) r = false)) L.length ?_ ?_
  · simp -implicitDefEqProofs only [go_sem, reduceIte, Nat.reduceEqDiff, Nat.reduceAdd, Nat.reduceMul, Nat.reduceLT, Nat.reduceLeDiff, reduceCtorEq, Int.reduceEq, Int.reduceNeg, Nat.reduceSub, Int.reduceLT, Int.reduceLE, Int.reduceGT, Int.reduceGE, Int.reduceAdd, Int.reduceSub, Int.reduceToNat, Int.reduceBNe, Int.reduceBEq, Nat.mul_one, Nat.zero_mul]
    exact ⟨0, L.length, by omega, by omega, by omega, rfl, fun k hk => by omega, fun hk => by omega⟩
  · rintro m vs s1 ⟨hh, hnx, i, j, hij, hj, rfl, rfl, h1, h2⟩ _
    cases hlt : decide ((i : Int) < (j : Int))
    · simp only [decide_eq_false_iff_not] at hlt
      have hij' : j = i := by omega
      subst hij'
      have hi := insI_eq hj h1 h2
      by_cases hl : j < L.length
      · obtain ⟨id, o, cap', c, T', ro, hv, hg, hle, hrow, h0, _⟩ := row_read hr0 (i := j) hl
        cases hv
        have hd0 : decide ((j : Int) < (j : Int)) = false := by simp
        have hd : decide ((j : Int) < (L.length : Int)) = true := by simp; omega
        have hix : 0 ≤ (j : Int) ∧ (j : Int) < (L.length : Int) := by omega
        rw [← hh] at hg hbox
        have e44 := fun K => WCall.pureEq (p44 (ov := ov) (s := s1) T (a := rG L j) (b := r)) K
        have n44 := nxt_le (fun k => call tbl ov k) 44 [(rG L j).val, r.val] s1
        have hb : (cmpR (rG L j) r == 0) = decide (cmpR (rG L j) r = 0) := by rw [Bool.eq_iff_iff]; simp
        simp -implicitDefEqProofs only [go_sem, reduceIte, Nat.reduceEqDiff, Nat.reduceAdd, Nat.reduceMul, Nat.reduceLT, Nat.reduceLeDiff, reduceCtorEq, Int.reduceEq, Int.reduceNeg, Nat.reduceSub, Int.reduceLT, Int.reduceLE, Int.reduceGT, Int.reduceGE, Int.reduceAdd, Int.reduceSub, Int.reduceToNat, Int.reduceBNe, Int.reduceBEq, Nat.mul_one, Nat.zero_mul, hd0, hd, hix, hg, hle, hrow, hbox, hr5, hl5, List.drop_zero, e44, hb]
        rw [← hi]
        refine ⟨?_, by omega, fun id hid => by rw [hh]; exact hk0 id hid⟩
        simp [hl]
      · have hd0 : decide ((j : Int) < (j : Int)) = false := by simp
        have hd : decide ((j : Int) < (L.length : Int)) = false := by simp; omega
        simp -implicitDefEqProofs only [go_sem, reduceIte, Nat.reduceEqDiff, Nat.reduceAdd, Nat.reduceMul, Nat.reduceLT, Nat.reduceLeDiff, reduceCtorEq, Int.reduceEq, Int.reduceNeg, Nat.reduceSub, Int.reduceLT, Int.reduceLE, Int.reduceGT, Int.reduceGE, Int.reduceAdd, Int.reduceSub, Int.reduceToNat, Int.reduceBNe, Int.reduceBEq, Nat.mul_one, Nat.zero_mul, hd0, hd]
        rw [← hi]
        refine ⟨?_, by omega, fun id hid => by rw [hh]; exact hk0 id hid⟩
        simp [hl]
    · simp only [decide_eq_true_eq] at hlt
      have hlt' : i < j := by omega
      obtain ⟨h, hh2⟩ : ∃ h, h = (i + j) / 2 := ⟨_, rfl⟩
      have hd : decide ((i : Int) < (j : Int)) = true := by simp; omega
      obtain ⟨id, o, cap', c, T', ro, hv, hg, hle, hrow, h0, _⟩ := row_read hr0 (i := h) (by omega)
      cases hv
      have hix : 0 ≤ (h : Int) ∧ (h : Int) < (L.length : Int) := by omega
      rw [← hh] at hg hbox
      have e44 := fun K => WCall.pureEq (p44 (ov := ov) (s := s1) T (a := rG L h) (b := r)) K
      have n44 := nxt_le (fun k => call tbl ov k) 44 [(rG L h).val, r.val] s1
      have w1 : IntKind.i64.wrap ((i : Int) + (j : Int)) = ((i + j : Nat) : Int) := by rw [IntKind.wrap_i64]; omega
      have w2 : IntKind.u64.wrap ((i + j : Nat) : Int) = ((i + j : Nat) : Int) := by rw [IntKind.wrap_u64]; omega
      have w3 : binV .shr (.int .u64 ((i + j : Nat) : Int)) (.int .u64 1) = some (.int .u64 ((h : Nat) : Int)) := by
        simp only [binV]
        rw [if_neg (by decide)]
        congr 2
        show ((i + j : Nat) : Int).fdiv (2 ^ 1) = _
        rw [Int.fdiv_eq_ediv_of_nonneg _ (by decide)]
        omega
      have w4 : IntKind.i64.wrap ((h : Nat) : Int) = ((h : Nat) : Int) := by rw [IntKind.wrap_i64]; omega
      have w5 : IntKind.i64.wrap (((h : Nat) : Int) + 1) = ((h + 1 : Nat) : Int) := by rw [IntKind.wrap_i64]; omega
      have hcb := cmp_before (rG L h) r
      cases hb : beforeR (rG L h) r
      · rw [hb] at hcb
        simp -implicitDefEqProofs only [go_sem, reduceIte, Nat.reduceEqDiff, Nat.reduceAdd, Nat.reduceMul, Nat.reduceLT, Nat.reduceLeDiff, reduceCtorEq, Int.reduceEq, Int.reduceNeg, Nat.reduceSub, Int.reduceLT, Int.reduceLE, Int.reduceGT, Int.reduceGE, Int.reduceAdd, Int.reduceSub, Int.reduceToNat, Int.reduceBNe, Int.reduceBEq, Nat.mul_one, Nat.zero_mul, hd, w1, w2, w3, w4, hix, hg, hle, hrow, hbox, hr5, hl5, List.drop_zero, e44, hcb]
        exact ⟨h - i, by omega, hh, by omega, i, h, by omega, by omega, rfl, rfl, h1, fun _ => hb⟩
      · rw [hb] at hcb
        simp -implicitDefEqProofs only [go_sem, reduceIte, Nat.reduceEqDiff, Nat.reduceAdd, Nat.reduceMul, Nat.reduceLT, Nat.reduceLeDiff, reduceCtorEq, Int.reduceEq, Int.reduceNeg, Nat.reduceSub, Int.reduceLT, Int.reduceLE, Int.reduceGT, Int.reduceGE, Int.reduceAdd, Int.reduceSub, Int.reduceToNat, Int.reduceBNe, Int.reduceBEq, Nat.mul_one, Nat.zero_mul, hd, w1, w2, w3, w4, w5, hix, hg, hle, hrow, hbox, hr5, hl5, List.drop_zero, e44, hcb]
        refine ⟨j - (h + 1), by omega, hh, by omega, h + 1, j, by omega, by omega, rfl, rfl, fun k hk => ?_, h2⟩
        by_cases hkh : k = h
        · rw [hkh]; exact hb
        · exact before_trans (hs.lt (i := k) (j := h) (by omega) (by omega)) hb
end

end Go.Proofs.Ytgnpafmhdmmmhaa
