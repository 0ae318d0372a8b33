/-
  QueueOrder, in plain terms and as a walk.
-/
import Derived.Test.YtgnpafmhdmmmhaaQ7
set_option maxRecDepth 100000
set_option linter.unusedVariables false
set_option linter.unusedSimpArgs false
namespace Go.Abs
open Go
/-- An assignment under a condition. -/
theorem ccond_assign {cs : Nat → CallSem} {t : Nat} {old new : Value} {e : Env} {s : St} {Q : AExit → Env → St → Prop} {b : Bool} (hQ : Up Q) (hv : e.get t = some old) (h : Q .normal ((t, if b then new else old) :: e) s) :
    ccond cs (.region [⟨some t, .mov (.const new), none⟩] none) .skip e s Q b := by
  rw [ccond_iff]
  refine ⟨fun hb => ?_, fun hb => ?_⟩
  · subst hb
    exact h
  · subst hb
    refine hQ _ _ _ _ (fun t' v' hv' => ?_) h
    simp only [Env.get] at hv'
    split at hv'
    · rename_i he
      subst he
      rw [hv]; exact hv'
    · exact hv'
end Go.Abs
namespace Go.Proofs.Ytgnpafmhdmmmhaa
open Go Go.Abs Go.Abs.K

theorem insL_mem {r x : QReq} {L : List QReq} : x ∈ insL r L ↔ x = r ∨ x ∈ L := by
  unfold insL
  rw [List.mem_append, List.mem_cons]
  constructor
  · rintro (h | h | h)
    · exact .inr (List.mem_of_mem_take h)
    · exact .inl h
    · exact .inr (List.mem_of_mem_drop h)
  · rintro (h | h)
    · exact .inr (.inl h)
    · rw [← List.take_append_drop (insI r L) L, List.mem_append] at h
      rcases h with h | h
      · exact .inl h
      · exact .inr (.inr h)
theorem insL_length (r : QReq) (L : List QReq) : (insL r L).length = L.length + 1 := by
  have := insI_le r L
  unfold insL
  simp only [List.length_append, List.length_cons, List.length_take, List.length_drop]
  omega

theorem posL_none {x : Int} {L : List QReq} : posL x L = none ↔ ∀ r ∈ L, r.id ≠ x := by
  induction L with
  | nil => simp [posL]
  | cons r L ih =>
    simp only [posL, List.mem_cons, forall_eq_or_imp]
    by_cases h : r.id = x
    · simp [h]
    · rw [if_neg h, Option.map_eq_none_iff, ih]; simp [h]

/-- The list with one put in is in order. -/
theorem insL_sorted {r : QReq} {L : List QReq} (hs : SortedR L) (hp : posL r.id L = none) : SortedR (insL r L) := by
  rw [posL_none] at hp
  have h1 : ∀ {L : List QReq}, ∀ x ∈ L.take (insI r L), beforeR x r = true := by
    intro L
    induction L with
    | nil => simp [insI]
    | cons a L ih =>
      intro x hx
      simp only [insI] at hx
      cases ha : beforeR a r
      · rw [ha] at hx; simp at hx
      · rw [ha] at hx
        simp only [if_true, List.take_succ_cons, List.mem_cons] at hx
        rcases hx with rfl | hx
        · exact ha
        · exact ih x hx
  have h2 : ∀ {L : List QReq}, SortedR L → (∀ x ∈ L, x.id ≠ r.id) → ∀ x ∈ L.drop (insI r L), beforeR r x = true := by
    intro L
    induction L with
    | nil => simp [insI]
    | cons a L ih =>
      intro hs hp x hx
      obtain ⟨ha, hs'⟩ := List.pairwise_cons.1 hs
      simp only [insI] at hx
      cases hb : beforeR a r
      · rw [hb] at hx
        simp only [Bool.false_eq_true, if_false, List.drop_zero] at hx
        have hra : beforeR r a = true := by
          have hne := hp a (List.mem_cons_self ..)
          have hnb : ¬ beforeR a r = true := by rw [hb]; decide
          rw [before_iff] at hnb ⊢
          omega
        rcases List.mem_cons.1 hx with rfl | hx
        · exact hra
        · exact before_trans hra (ha x hx)
      · rw [hb] at hx
        simp only [if_true, List.drop_succ_cons] at hx
        exact ih hs' (fun y hy => hp y (List.mem_cons_of_mem _ hy)) x hx
  have hs0 := hs
  rw [SortedR, ← List.take_append_drop (insI r L) L, List.pairwise_append] at hs0
  unfold insL SortedR
  rw [List.pairwise_append, List.pairwise_cons]
  refine ⟨hs0.1, ⟨h2 hs hp, hs0.2.1⟩, fun x hx y hy => ?_⟩
  rcases List.mem_cons.1 hy with rfl | hy
  · exact h1 x hx
  · exact hs0.2.2 x hx y hy

theorem before_asymm {a b : QReq} (h : beforeR a b = true) : beforeR b a = false := by
  cases h2 : beforeR b a
  · rfl
  · rw [before_iff] at h h2; omega

/-- A zero request in a block of its own, and then another there. -/
abbrev zC : List Value := [.int .i64 0, .string ⟨#[]⟩, .string ⟨#[]⟩, .int .i64 0, .int .i64 0]

section
variable {tbl : FuncId → Option AFun} {ov : CallSem} (T : QTbl tbl)
include T

theorem law3 (ho : OvOK ov) (h3 : tbl 3 = some fun3) {s0 : St} {pv : Value} {zs : List Int} {len : Nat} (hz : IntsAt .u8 s0 pv zs len) (hw : ∀ z ∈ zs, 0 ≤ z ∧ z ≤ 255) :
    WCall (fun k => call tbl ov k) 3 [pv] s0 fun u _ => u = .bool true := by
  refine WCall.of h3 rfl ?_
  obtain ⟨a, cap, hpv⟩ : ∃ a cap, pv = .slice a len cap := by
    obtain ⟨_, ⟨rfl, rfl⟩ | ⟨a, cap, T', rfl, _⟩⟩ := hz
    · exact ⟨_, _, rfl⟩
    · exact ⟨_, _, rfl⟩
  subst hpv
  have h200 : (if (0 : Int) > 200 then 0 else 200) = 200 := rfl
  simp -implicitDefEqProofs only [fun3, code3, params, go_sem, reduceIte, Nat.reduceEqDiff, Nat.reduceAdd, Nat.reduceMul, Nat.reduceLT, Nat.reduceLeDiff, reduceCtorEq, Int.reduceEq, Int.reduceNeg, Nat.reduceSub, Int.reduceLT, Int.reduceLE, Int.reduceGT, Int.reduceGE, Int.reduceAdd, Int.reduceSub, Int.reduceToNat, Int.reduceBNe, Int.reduceBEq, Nat.mul_one, Nat.zero_mul, p11 T, h200]
  refine ccond_assign (Up.next (Up.ends _ _) (UpN.sq (Up.ends _ _))) (old := .int .i64 len) rfl ?_
  obtain ⟨n, hn⟩ : ∃ n, n = min len 80 := ⟨_, rfl⟩
  have hif : (if decide ((len : Int) > 80) = true then Value.int .i64 80 else .int .i64 len) = i64 n := by
    by_cases h : (len : Int) > 80
    · rw [if_pos (by simpa using h)]; congr 1; omega
    · rw [if_neg (by simpa using h)]; congr 1; omega
  rw [hif]
  obtain ⟨s1, hs1⟩ : ∃ s1 : St, s1 = ⟨s0.heap.put s0.next (some (.cells [i64 200, .slice none 0 0] 80 0 false)), s0.next + 1⟩ := ⟨_, rfl⟩
  have hR1 : QRep s1 s0.next 200 [] [] := ⟨.slice none 0 0, by rw [hs1]; simp only [Heap.get_put, if_true], .nil, by simp, by rw [hs1]; exact Nat.lt_succ_self _⟩
  have hk1 : Kept [] s0 s1 := by rw [hs1]; exact kept_put_nil (Nat.le_refl _) (Nat.le_succ _)
  simp -implicitDefEqProofs only [go_sem, reduceIte, Nat.reduceEqDiff, Nat.reduceAdd, Nat.reduceMul, Nat.reduceLT, Nat.reduceLeDiff, reduceCtorEq, Int.reduceEq, Int.reduceNeg, Nat.reduceSub, Int.reduceLT, Int.reduceLE, Int.reduceGT, Int.reduceGE, Int.reduceAdd, Int.reduceSub, Int.reduceToNat, Int.reduceBNe, Int.reduceBEq, Nat.mul_one, Nat.zero_mul]
  rw [← hs1]
  refine wc_loopV (fun m vs s' => Kept [] s0 s' ∧ ∃ i L S, i ≤ n ∧ m = n - i ∧ vs = [.slice a len cap, ptr s0.next, i64 n, i64 i] ∧ QRep s' s0.next 200 L S ∧ (∀ x ∈ S, s0.next ≤ x) ∧ SortedR L ∧ L.length = i ∧ ∀ r ∈ L, r.id ≤ i ∧ 0 ≤ r.prio) n ?_ ?_
  · simp -implicitDefEqProofs only [go_sem, reduceIte, Nat.reduceEqDiff, Nat.reduceAdd, Nat.reduceMul, Nat.reduceLT, Nat.reduceLeDiff, reduceCtorEq, Int.reduceEq, Int.reduceNeg, Nat.reduceSub, Int.reduceLT, Int.reduceLE, Int.reduceGT, Int.reduceGE, Int.reduceAdd, Int.reduceSub, Int.reduceToNat, Int.reduceBNe, Int.reduceBEq, Nat.mul_one, Nat.zero_mul]
    exact ⟨hk1, 0, [], [], by omega, by omega, rfl, hR1, by simp, .nil, rfl, by simp⟩
  · rintro m vs s' ⟨hk, i, L, S, hi, rfl, rfl, hR, hS, hso, hL, hid⟩ _
    cases hlt : decide ((i : Int) < (n : Int))
    · simp -implicitDefEqProofs only [go_sem, reduceIte, Nat.reduceEqDiff, Nat.reduceAdd, Nat.reduceMul, Nat.reduceLT, Nat.reduceLeDiff, reduceCtorEq, Int.reduceEq, Int.reduceNeg, Nat.reduceSub, Int.reduceLT, Int.reduceLE, Int.reduceGT, Int.reduceGE, Int.reduceAdd, Int.reduceSub, Int.reduceToNat, Int.reduceBNe, Int.reduceBEq, Nat.mul_one, Nat.zero_mul, hlt, fillL]
      simp only [decide_eq_false_iff_not] at hlt
      have hin : i = n := by omega
      have hRl := hR.lt
      have hqn : s0.next < s'.next := hRl.1
      refine wc_loopV (fun m vs s' => Kept [] s0 s' ∧ ∃ i L S p last, i ≤ n ∧ m = n - i ∧ vs = [ptr s0.next, i64 n, ptr p, i64 i] ∧ QRep s' s0.next 200 L S ∧ (∀ x ∈ S, s0.next ≤ x) ∧ SortedR L ∧ L.length = n - i ∧
        s'.heap.get p = some (.cells (QReq.cells last) 28 0 false) ∧ p ≠ s0.next ∧ p ∉ S ∧ s0.next ≤ p ∧ p < s'.next ∧ ∀ r ∈ L, beforeR r last = false) n ?_ ?_
      · simp -implicitDefEqProofs only [go_sem, reduceIte, Nat.reduceEqDiff, Nat.reduceAdd, Nat.reduceMul, Nat.reduceLT, Nat.reduceLeDiff, reduceCtorEq, Int.reduceEq, Int.reduceNeg, Nat.reduceSub, Int.reduceLT, Int.reduceLE, Int.reduceGT, Int.reduceGE, Int.reduceAdd, Int.reduceSub, Int.reduceToNat, Int.reduceBNe, Int.reduceBEq, Nat.mul_one, Nat.zero_mul]
        have hk2 : Kept [] s' ⟨(s'.heap.put s'.next (some (.cells zC 28 0 false))).put s'.next (some (.cells (QReq.cells ⟨0, ⟨#[]⟩, ⟨#[]⟩, -1, 0⟩) 28 0 false)), s'.next + 1⟩ :=
          ⟨Nat.le_succ _, fun j hj _ => by simp only [Heap.get_put]; rw [if_neg (by omega), if_neg (by omega)]⟩
        refine ⟨hk.trans hk2, 0, L, S, s'.next, ⟨0, ⟨#[]⟩, ⟨#[]⟩, -1, 0⟩, by omega, by omega, rfl, hR.kept hk2 (by simp) (by simp), hS, hso, by omega, by simp only [Heap.get_put, if_true]; rfl, by omega, fun h => by have := hRl.2 _ h; omega, by omega, Nat.lt_succ_self _, fun r hr => ?_⟩
        have := (hid r hr).2
        cases hb : beforeR r ⟨0, ⟨#[]⟩, ⟨#[]⟩, -1, 0⟩
        · rfl
        · rw [before_iff] at hb
          simp only at hb
          omega
      · clear hk hR hS hso hL hid hlt hRl hqn
        rintro m vs s' ⟨hk, i, L, S, p, last, hi, rfl, rfl, hR, hS, hso, hL, hp, hpq, hpS, hp0, hpn, hla⟩ _
        have hR0 := hR
        obtain ⟨lv, hq, hrow, hqS, hql⟩ := hR
        cases hlt : decide ((i : Int) < (n : Int))
        · simp only [decide_eq_false_iff_not] at hlt
          have hd : decide ((i : Int) < (n : Int)) = false := by simp; omega
          have hL0 : L = [] := List.eq_nil_of_length_eq_zero (by omega)
          subst hL0
          obtain ⟨va, vc, rfl⟩ := hrow.toV.len
          have e13 := fun K => WCall.pureEq (p13n T (ov := ov) hq hql) K
          have e15 := fun s K => WCall.eq (K := K) (WCall.ov (tbl := tbl) (ov := ov) T.t15 (r := (.bool true, s)) (ho.awake s) ⟨rfl, rfl⟩)
          simp -implicitDefEqProofs only [go_sem, reduceIte, Nat.reduceEqDiff, Nat.reduceAdd, Nat.reduceMul, Nat.reduceLT, Nat.reduceLeDiff, reduceCtorEq, Int.reduceEq, Int.reduceNeg, Nat.reduceSub, Int.reduceLT, Int.reduceLE, Int.reduceGT, Int.reduceGE, Int.reduceAdd, Int.reduceSub, Int.reduceToNat, Int.reduceBNe, Int.reduceBEq, Nat.mul_one, Nat.zero_mul, hd, e13, e15]
        · simp only [decide_eq_true_eq] at hlt
          have hd : decide ((i : Int) < (n : Int)) = true := by simp; omega
          obtain ⟨r, L', rfl⟩ : ∃ r L', L = r :: L' := by
            cases L with
            | nil => simp only [List.length_nil] at hL; omega
            | cons r L' => exact ⟨r, L', rfl⟩
          have e13 := fun K => WCall.pureEq (p13 T (ov := ov) hq hql hrow.toV) K
          have n13 := nxt_le (fun k => call tbl ov k) 13 [ptr s0.next] s'
          generalize nxt (fun k => call tbl ov k) 13 [ptr s0.next] s' = n1 at e13 n13
          obtain ⟨f1, f2, f3, f4, f5, f6⟩ := req_facts r
          have r3 : r.cells[3]? = some (i64 r.prio) := rfl
          have l0 : last.cells[0]? = some (i64 last.id) := rfl
          have l3 : last.cells[3]? = some (i64 last.prio) := rfl
          have hpn1 : (p = n1) = False := by simp; omega
          have hbl := hla r (List.mem_cons_self ..)
          have hnb : ¬ beforeR r last = true := by rw [hbl]; decide
          rw [before_iff] at hnb
          have d1 : decide (r.prio < last.prio) = false := by rw [decide_eq_false_iff_not]; omega
          obtain ⟨s2, hs2⟩ : ∃ s2 : St, s2 = ⟨(s'.heap.put n1 (some (.cells zC 28 0 false))).put n1 (some (.cells r.cells 28 0 false)), n1 + 1⟩ := ⟨_, rfl⟩
          have hk2 : Kept [] s' s2 := by
            rw [hs2]
            exact ⟨by simp only; omega, fun j hj _ => by simp only [Heap.get_put]; rw [if_neg (by omega), if_neg (by omega)]⟩
          have h14 := p14 T (ov := ov) (hR0.kept hk2 (by simp) (by simp)) (x := r.id) (k := 0) (by omega) (by simp [posL])
          have w1 : IntKind.i64.wrap ((i : Int) + 1) = ((i + 1 : Nat) : Int) := by rw [IntKind.wrap_i64]; omega
          have hfin : ∀ s3, QRep s3 s0.next 200 ((r :: L').take 0 ++ (r :: L').drop 1) S → Kept (s0.next :: S) s2 s3 → s3.heap.get p = some (.cells last.cells 28 0 false) ∧ s3.heap.get n1 = some (.cells r.cells 28 0 false) ∧
              (Kept [] s0 ⟨s3.heap.put p (some (.cells r.cells 28 0 false)), s3.next⟩ ∧ ∃ i' L S p' last, i' ≤ n ∧ n - (i + 1) = n - i' ∧ [ptr s0.next, i64 n, ptr p, i64 ((i + 1 : Nat) : Int)] = [ptr s0.next, i64 n, ptr p', i64 i'] ∧
                QRep ⟨s3.heap.put p (some (.cells r.cells 28 0 false)), s3.next⟩ s0.next 200 L S ∧ (∀ x ∈ S, s0.next ≤ x) ∧ SortedR L ∧ L.length = n - i' ∧
                (⟨s3.heap.put p (some (.cells r.cells 28 0 false)), s3.next⟩ : St).heap.get p' = some (.cells (QReq.cells last) 28 0 false) ∧ p' ≠ s0.next ∧ p' ∉ S ∧ s0.next ≤ p' ∧ p' < s3.next ∧ ∀ r ∈ L, beforeR r last = false) := by
            intro s3 hR3 hk3
            have hkk : Kept [] s0 s2 := hk.trans hk2
            have hk4 : Kept [p] s3 ⟨s3.heap.put p (some (.cells r.cells 28 0 false)), s3.next⟩ := ⟨Nat.le_refl _, fun j _ hj => by rw [Heap.get_put, if_neg (by simpa using hj)]⟩
            have hS' := hR0.lt.2
            have hlt2 : s'.next ≤ s2.next := hk2.1
            refine ⟨by rw [hk3.2 p (by omega) (by simp [hpq, hpS]), hk2.2 p hpn (by simp)]; exact hp, ?_, ⟨Nat.le_trans hkk.1 hk3.1, fun j hj _ => ?_⟩, i + 1, L', S, p, r, by omega, rfl, rfl, by simpa using hR3.kept hk4 (by simpa using Ne.symm hpq) (fun x hx => by simp only [List.mem_singleton]; intro h; rw [h] at hx; exact hpS hx), hS, (List.pairwise_cons.1 hso).2, ?_, by simp only [Heap.get_put, if_true], hpq, hpS, hp0, Nat.lt_of_lt_of_le hpn (Nat.le_trans hlt2 hk3.1), fun x hx => before_asymm ((List.pairwise_cons.1 hso).1 x hx)⟩
            · rw [hk3.2 n1 (by rw [hs2]; exact Nat.lt_succ_self _) (by
                simp only [List.mem_cons, not_or]
                refine ⟨by omega, fun h => ?_⟩
                have := hS' _ h
                omega), hs2]
              simp only [Heap.get_put, if_true]
            · simp only [Heap.get_put]
              rw [if_neg (by omega), hk3.2 j (by have := hkk.1; omega) (by
                simp only [List.mem_cons, not_or]
                refine ⟨by omega, fun h => ?_⟩
                have := hS _ h
                omega)]
              exact hkk.2 j hj (by simp)
            · simp only [List.length_cons] at hL; omega
          cases d2 : r.prio == last.prio
          · simp -implicitDefEqProofs only [go_sem, reduceIte, Nat.reduceEqDiff, Nat.reduceAdd, Nat.reduceMul, Nat.reduceLT, Nat.reduceLeDiff, reduceCtorEq, Int.reduceEq, Int.reduceNeg, Nat.reduceSub, Int.reduceLT, Int.reduceLE, Int.reduceGT, Int.reduceGE, Int.reduceAdd, Int.reduceSub, Int.reduceToNat, Int.reduceBNe, Int.reduceBEq, Nat.mul_one, Nat.zero_mul, hd, e13, f1, f2, f3, f5, f6, r3, l0, l3, hpn1, hp, d1, d2, List.drop_zero]
            rw [← hs2]
            refine WCall.mono h14 ?_
            rintro v s3 ⟨rfl, hR3, hk3⟩
            obtain ⟨g1, g2, g3⟩ := hfin s3 hR3 hk3
            have la5 : last.cells.length = 5 := rfl
            have hsl : storeL last.cells 0 r.cells = r.cells := rfl
            simp -implicitDefEqProofs only [go_sem, reduceIte, Nat.reduceEqDiff, Nat.reduceAdd, Nat.reduceMul, Nat.reduceLT, Nat.reduceLeDiff, reduceCtorEq, Int.reduceEq, Int.reduceNeg, Nat.reduceSub, Int.reduceLT, Int.reduceLE, Int.reduceGT, Int.reduceGE, Int.reduceAdd, Int.reduceSub, Int.reduceToNat, Int.reduceBNe, Int.reduceBEq, Nat.mul_one, Nat.zero_mul, f1, f2, f3, f5, g1, g2, la5, hsl, w1, List.drop_zero]
            refine ⟨n - (i + 1), by omega, ?_⟩
            simpa only [Heap.get_put, ne_eq] using g3
          · have d3 : decide (r.id < last.id) = false := by
              rw [decide_eq_false_iff_not]
              have := eq_of_beq d2
              omega
            simp -implicitDefEqProofs only [go_sem, reduceIte, Nat.reduceEqDiff, Nat.reduceAdd, Nat.reduceMul, Nat.reduceLT, Nat.reduceLeDiff, reduceCtorEq, Int.reduceEq, Int.reduceNeg, Nat.reduceSub, Int.reduceLT, Int.reduceLE, Int.reduceGT, Int.reduceGE, Int.reduceAdd, Int.reduceSub, Int.reduceToNat, Int.reduceBNe, Int.reduceBEq, Nat.mul_one, Nat.zero_mul, hd, e13, f1, f2, f3, f5, f6, r3, l0, l3, hpn1, hp, d1, d2, d3, List.drop_zero]
            rw [← hs2]
            refine WCall.mono h14 ?_
            rintro v s3 ⟨rfl, hR3, hk3⟩
            obtain ⟨g1, g2, g3⟩ := hfin s3 hR3 hk3
            have la5 : last.cells.length = 5 := rfl
            have hsl : storeL last.cells 0 r.cells = r.cells := rfl
            simp -implicitDefEqProofs only [go_sem, reduceIte, Nat.reduceEqDiff, Nat.reduceAdd, Nat.reduceMul, Nat.reduceLT, Nat.reduceLeDiff, reduceCtorEq, Int.reduceEq, Int.reduceNeg, Nat.reduceSub, Int.reduceLT, Int.reduceLE, Int.reduceGT, Int.reduceGE, Int.reduceAdd, Int.reduceSub, Int.reduceToNat, Int.reduceBNe, Int.reduceBEq, Nat.mul_one, Nat.zero_mul, f1, f2, f3, f5, g1, g2, la5, hsl, w1, List.drop_zero]
            refine ⟨n - (i + 1), by omega, ?_⟩
            simpa only [Heap.get_put, ne_eq] using g3
    · simp only [decide_eq_true_eq] at hlt
      have hd : decide ((i : Int) < (n : Int)) = true := by simp; omega
      obtain ⟨hzl, ⟨h0, h1⟩ | ⟨b, cap', T', hv, hb, hg⟩⟩ := hz
      · omega
      cases hv
      have hz1 : (zs.map (Value.int .u8))[i]? = some (.int .u8 (zs[i]'(by omega))) := by rw [List.getElem?_map, List.getElem?_eq_getElem (by omega)]; rfl
      have hz2 := hw _ (List.getElem_mem (l := zs) (n := i) (by omega))
      generalize zs[i]'(by omega) = z at hz1 hz2
      have hg1 : s'.heap.get b = some (.cells (zs.map (.int .u8)) T' 1 true) := by rw [hk.2 b hb (by simp)]; exact hg
      have hix : 0 ≤ (i : Int) ∧ (i : Int) < (len : Int) := by omega
      have w1 : IntKind.i64.wrap ((i : Int) + 1) = ((i + 1 : Nat) : Int) := by rw [IntKind.wrap_i64]; omega
      have w2 : binV .rem (.int .u8 z) (.int .u8 8) = some (.int .u8 (z.tmod 8)) := rfl
      have htm : z.tmod 8 = z % 8 := Int.tmod_eq_emod_of_nonneg hz2.1
      have w3 : IntKind.i64.wrap (z.tmod 8) = z % 8 := by rw [htm, IntKind.wrap_i64]; omega
      simp -implicitDefEqProofs only [go_sem, reduceIte, Nat.reduceEqDiff, Nat.reduceAdd, Nat.reduceMul, Nat.reduceLT, Nat.reduceLeDiff, reduceCtorEq, Int.reduceEq, Int.reduceNeg, Nat.reduceSub, Int.reduceLT, Int.reduceLE, Int.reduceGT, Int.reduceGE, Int.reduceAdd, Int.reduceSub, Int.reduceToNat, Int.reduceBNe, Int.reduceBEq, Nat.mul_one, Nat.zero_mul, hd, hix, hg1, hz1, w1, w2, w3, fillL]
      refine WCall.mono (p12 T ho (r := ⟨((i + 1 : Nat) : Int), ⟨#[]⟩, ⟨#[]⟩, z % 8, 0⟩) hR hso (by omega) (posL_none.2 fun r hr => by have := (hid r hr).1; simp only; omega) (by omega)) ?_
      rintro v s2 ⟨rfl, S', hR2, hk2, hS2⟩
      simp -implicitDefEqProofs only [go_sem, reduceIte, Nat.reduceEqDiff, Nat.reduceAdd, Nat.reduceMul, Nat.reduceLT, Nat.reduceLeDiff, reduceCtorEq, Int.reduceEq, Int.reduceNeg, Nat.reduceSub, Int.reduceLT, Int.reduceLE, Int.reduceGT, Int.reduceGE, Int.reduceAdd, Int.reduceSub, Int.reduceToNat, Int.reduceBNe, Int.reduceBEq, Nat.mul_one, Nat.zero_mul, w1]
      refine ⟨n - (i + 1), by omega, ⟨Nat.le_trans hk.1 hk2.1, fun j hj _ => ?_⟩, i + 1, insL ⟨((i + 1 : Nat) : Int), ⟨#[]⟩, ⟨#[]⟩, z % 8, 0⟩ L, S', by omega, rfl, rfl, hR2, fun x hx => ?_, insL_sorted hso (posL_none.2 fun r hr => by have := (hid r hr).1; simp only; omega), by rw [insL_length, hL], fun r hr => ?_⟩
      · rw [hk2.2 j (Nat.lt_of_lt_of_le hj hk.1) (by
          simp only [List.mem_cons, not_or]
          refine ⟨by omega, fun h => ?_⟩
          have := hS _ h
          omega)]
        exact hk.2 j hj (by simp)
      · rcases hS2 x hx with h | h
        · exact hS x h
        · exact Nat.le_trans hk.1 h
      · rcases insL_mem.1 hr with rfl | hr
        · simp only; omega
        · have := hid r hr; omega
end

end Go.Proofs.Ytgnpafmhdmmmhaa
