/-
  QueueLate, as a walk.
-/
import Derived.Test.YtgnpafmhdmmmhaaQ9
set_option maxRecDepth 100000
set_option linter.unusedVariables false
set_option linter.unusedSimpArgs false
namespace Go.Proofs.Ytgnpafmhdmmmhaa
open Go Go.Abs Go.Abs.K

/-- No number twice. -/
def UniqR (L : List QReq) : Prop := L.Pairwise fun a b => a.id ≠ b.id

theorem insL_uniq {r : QReq} {L : List QReq} (hu : UniqR L) (hp : posL r.id L = none) : UniqR (insL r L) := by
  rw [posL_none] at hp
  have hu0 := hu
  rw [UniqR, ← List.take_append_drop (insI r L) L, List.pairwise_append] at hu0
  unfold insL UniqR
  rw [List.pairwise_append, List.pairwise_cons]
  refine ⟨hu0.1, ⟨fun x hx => Ne.symm (hp x (List.mem_of_mem_drop hx)), hu0.2.1⟩, fun x hx y hy => ?_⟩
  rcases List.mem_cons.1 hy with rfl | hy
  · exact hp x (List.mem_of_mem_take hx)
  · exact hu0.2.2 x hx y hy

theorem uniq_eq {L : List QReq} (hu : UniqR L) {a b : QReq} (ha : a ∈ L) (hb : b ∈ L) (h : a.id = b.id) : a = b := by
  induction L with
  | nil => cases ha
  | cons c L ih =>
    obtain ⟨h1, h2⟩ := List.pairwise_cons.1 hu
    rcases List.mem_cons.1 ha with e1 | ha'
    · rcases List.mem_cons.1 hb with e2 | hb'
      · rw [e1, e2]
      · rw [e1] at h; exact absurd h (h1 b hb')
    · rcases List.mem_cons.1 hb with e2 | hb'
      · rw [e2] at h; exact absurd h.symm (h1 _ ha')
      · exact ih h2 ha' hb'

theorem filter_len (p : QReq → Bool) (L : List QReq) : (L.filter p).length + (L.filter fun r => !p r).length = L.length := by
  induction L with
  | nil => rfl
  | cons a L ih =>
    cases h : p a
    · simp only [List.filter_cons, h, Bool.not_false, if_true, Bool.false_eq_true, if_false, List.length_cons]; omega
    · simp only [List.filter_cons, h, Bool.not_true, if_true, Bool.false_eq_true, if_false, List.length_cons]; omega

theorem rG_mem {L : List QReq} {i : Nat} (h : i < L.length) : rG L i ∈ L := by rw [rG_lt h]; exact List.getElem_mem h

section
variable {tbl : FuncId → Option AFun} {ov : CallSem} (T : QTbl tbl)
include T

theorem law6 (ho : OvOK ov) (h6 : tbl 6 = some fun6) {s0 : St} {pv : Value} {M : List QReq} {now : Int} (hM : RowV 5 s0 pv (cellsL M)) :
    WCall (fun k => call tbl ov k) 6 [pv, i64 now] s0 fun u _ => u = .bool true := by
  refine WCall.of h6 rfl ?_
  obtain ⟨a, cap, hpv⟩ := hM.len
  rw [List.length_map] at hpv
  subst hpv
  have h100 : (if (0 : Int) > 100 then 0 else 100) = 100 := rfl
  simp -implicitDefEqProofs only [fun6, code6, params, go_sem, reduceIte, Nat.reduceEqDiff, Nat.reduceAdd, Nat.reduceMul, Nat.reduceLT, Nat.reduceLeDiff, reduceCtorEq, Int.reduceEq, Int.reduceNeg, Nat.reduceSub, Int.reduceLT, Int.reduceLE, Int.reduceGT, Int.reduceGE, Int.reduceAdd, Int.reduceSub, Int.reduceToNat, Int.reduceBNe, Int.reduceBEq, Nat.mul_one, Nat.zero_mul, p11 T, h100]
  obtain ⟨s1, hs1⟩ : ∃ s1 : St, s1 = ⟨s0.heap.put s0.next (some (.cells [i64 100, .slice none 0 0] 80 0 false)), s0.next + 1⟩ := ⟨_, rfl⟩
  have hR1 : QRep s1 s0.next 100 [] [] := ⟨.slice none 0 0, by rw [hs1]; simp only [Heap.get_put, if_true], .nil, by simp, by rw [hs1]; exact Nat.lt_succ_self _⟩
  have hk1 : Kept [] s0 s1 := by rw [hs1]; exact kept_put_nil (Nat.le_refl _) (Nat.le_succ _)
  rw [← hs1]
  obtain ⟨I, hI⟩ : ∃ I : Nat → List Value → St → Prop, I = fun m vs s' => Kept [] s0 s' ∧ ∃ i L S, i ≤ M.length ∧ i ≤ 60 ∧ m = 60 - i ∧ vs = [.slice a M.length cap, i64 now, ptr s0.next, i64 L.length, i64 i] ∧ QRep s' s0.next 100 L S ∧ (∀ x ∈ S, s0.next ≤ x) ∧ SortedR L ∧ UniqR L ∧ L.length ≤ i := ⟨_, rfl⟩
  refine wc_loopV I 60 ?_ ?_
  · simp -implicitDefEqProofs only [go_sem, reduceIte, Nat.reduceEqDiff, Nat.reduceAdd, Nat.reduceMul, Nat.reduceLT, Nat.reduceLeDiff, reduceCtorEq, Int.reduceEq, Int.reduceNeg, Nat.reduceSub, Int.reduceLT, Int.reduceLE, Int.reduceGT, Int.reduceGE, Int.reduceAdd, Int.reduceSub, Int.reduceToNat, Int.reduceBNe, Int.reduceBEq, Nat.mul_one, Nat.zero_mul]
    rw [hI]
    exact ⟨hk1, 0, [], [], by omega, by omega, by omega, rfl, hR1, by simp, .nil, .nil, by simp⟩
  intro m vs s' h _
  rw [hI] at h
  obtain ⟨hk, i, L, S, hi, hi60, rfl, rfl, hR, hS, hso, hun, hL⟩ := h
  by_cases hlt : i < M.length ∧ i < 60
  · -- one is pushed
    have hd : decide ((i : Int) < (M.length : Int)) = true := by simp; omega
    have hd2 : decide ((i : Int) < 60) = true := by simp; omega
    obtain ⟨id, o, cap', c, T', ro, hv, hg, hle, hrw, h0, h3, h4⟩ := row_read hM (i := i) (by omega)
    cases hv
    have hidn : id < s0.next := by
      obtain ⟨_, ⟨h1, _⟩ | ⟨id', o', cap', c', T'', ro', h1, _, h2, _⟩⟩ := hM
      · cases h1
      · simp only [Value.slice.injEq, Option.some.injEq, Addr.mk.injEq] at h1
        have := h1.1.1
        omega
    have hg1 : s'.heap.get id = some (.cells c T' 5 ro) := by rw [hk.2 id hidn (by simp)]; exact hg
    have hix : 0 ≤ (i : Int) ∧ (i : Int) < (M.length : Int) := by omega
    have w1 : IntKind.i64.wrap ((i : Int) + 1) = ((i + 1 : Nat) : Int) := by rw [IntKind.wrap_i64]; omega
    have w2 : IntKind.i64.wrap ((L.length : Int) + 1) = ((L.length + 1 : Nat) : Int) := by rw [IntKind.wrap_i64]; omega
    simp -implicitDefEqProofs only [go_sem, reduceIte, Nat.reduceEqDiff, Nat.reduceAdd, Nat.reduceMul, Nat.reduceLT, Nat.reduceLeDiff, reduceCtorEq, Int.reduceEq, Int.reduceNeg, Nat.reduceSub, Int.reduceLT, Int.reduceLE, Int.reduceGT, Int.reduceGE, Int.reduceAdd, Int.reduceSub, Int.reduceToNat, Int.reduceBNe, Int.reduceBEq, Nat.mul_one, Nat.zero_mul, hd, hd2, hix, hg1, hle, hrw]
    cases hp : posL (rG M i).id L with
    | some j =>
      refine WCall.mono (p12d T (r := rG M i) hR (by omega) (by rw [hp]; simp)) ?_
      rintro v s2 ⟨rfl, hk2⟩
      have hfin : I (60 - (i + 1)) [.slice (some ⟨id, o, none⟩) M.length cap, i64 now, ptr s0.next, i64 L.length, i64 ((i + 1 : Nat) : Int)] s2 := by
        rw [hI]
        exact ⟨hk.trans hk2, i + 1, L, S, by omega, by omega, rfl, rfl, hR.kept hk2 (by simp) (by simp), hS, hso, hun, by omega⟩
      simp -implicitDefEqProofs only [go_sem, reduceIte, Nat.reduceEqDiff, Nat.reduceAdd, Nat.reduceMul, Nat.reduceLT, Nat.reduceLeDiff, reduceCtorEq, Int.reduceEq, Int.reduceNeg, Nat.reduceSub, Int.reduceLT, Int.reduceLE, Int.reduceGT, Int.reduceGE, Int.reduceAdd, Int.reduceSub, Int.reduceToNat, Int.reduceBNe, Int.reduceBEq, Nat.mul_one, Nat.zero_mul, w1]
      exact ⟨60 - (i + 1), by omega, hfin⟩
    | none =>
      refine WCall.mono (p12 T ho (r := rG M i) hR hso (by omega) hp (by omega)) ?_
      rintro v s2 ⟨rfl, S', hR2, hk2, hS2⟩
      have hfin : I (60 - (i + 1)) [.slice (some ⟨id, o, none⟩) M.length cap, i64 now, ptr s0.next, i64 ((L.length + 1 : Nat) : Int), i64 ((i + 1 : Nat) : Int)] s2 := by
        rw [hI]
        refine ⟨⟨Nat.le_trans hk.1 hk2.1, fun j hj _ => ?_⟩, i + 1, insL (rG M i) L, S', by omega, by omega, rfl, by rw [insL_length], hR2, fun x hx => ?_, insL_sorted hso hp, insL_uniq hun hp, by rw [insL_length]; omega⟩
        · rw [hk2.2 j (Nat.lt_of_lt_of_le hj hk.1) (by
            simp only [List.mem_cons, not_or]
            refine ⟨by omega, fun h => ?_⟩
            have := hS _ h
            omega)]
          exact hk.2 j hj (by simp)
        · rcases hS2 x hx with h | h
          · exact hS x h
          · exact Nat.le_trans hk.1 h
      simp -implicitDefEqProofs only [go_sem, reduceIte, Nat.reduceEqDiff, Nat.reduceAdd, Nat.reduceMul, Nat.reduceLT, Nat.reduceLeDiff, reduceCtorEq, Int.reduceEq, Int.reduceNeg, Nat.reduceSub, Int.reduceLT, Int.reduceLE, Int.reduceGT, Int.reduceGE, Int.reduceAdd, Int.reduceSub, Int.reduceToNat, Int.reduceBNe, Int.reduceBEq, Nat.mul_one, Nat.zero_mul, w1, w2]
      exact ⟨60 - (i + 1), by omega, hfin⟩
  · -- all are in
    have hL20 : L.length < 2 ^ 20 := by omega
    have hend : decide ((i : Int) < (M.length : Int)) = false ∨ (decide ((i : Int) < (M.length : Int)) = true ∧ decide ((i : Int) < 60) = false) := by
      by_cases h : i < M.length
      · exact .inr ⟨by simp; omega, by simp; omega⟩
      · exact .inl (by simp; omega)
    have hq0 : s0.next < s'.next := hR.lt.1
    have htail : WCall (fun k => call tbl ov k) 21 [ptr s0.next, i64 now] s' (fun u s2 => ∃ S1 S2, RowsP 28 5 s2 u (cellsL (L.filter (lateR now))) S1 ∧ QRep s2 s0.next 100 (L.filter fun r => !lateR now r) S2 ∧ (∀ x ∈ S1, s0.next < x ∧ x ∉ S2) ∧ (∀ x ∈ S2, s0.next < x)) :=
      WCall.mono (p21 T (now := now) hR hL20) fun u s2 ⟨S1, S2, h1, h2, _, h4, h5⟩ => ⟨S1, S2, h1, h2, fun x hx => ⟨Nat.lt_of_lt_of_le hq0 (h4 x hx).1, (h4 x hx).2⟩, fun x hx => Nat.lt_of_lt_of_le hq0 (h5 x hx)⟩
    have hso2 : SortedR (L.filter fun r => !lateR now r) := hso.filter _
    have hfl := filter_len (lateR now) L
    have hgone : ∀ r ∈ L.filter (lateR now), lateR now r = true ∧ posL r.id (L.filter fun r => !lateR now r) = none := fun r hr => by
      obtain ⟨h1, h2⟩ := List.mem_filter.1 hr
      refine ⟨h2, posL_none.2 fun x hx he => ?_⟩
      obtain ⟨h3, h4⟩ := List.mem_filter.1 hx
      rw [uniq_eq hun h3 h1 he, h2] at h4
      cases h4
    have hleft : ∀ r ∈ L.filter fun r => !lateR now r, lateR now r = false := fun r hr => by
      simpa using (List.mem_filter.1 hr).2
    have hlate2 : (L.filter fun r => !lateR now r).filter (lateR now) = [] := by
      rw [List.filter_eq_nil_iff]
      intro r hr
      rw [hleft r hr]; decide
    have hleft2 : ((L.filter fun r => !lateR now r).filter fun r => !lateR now r) = L.filter fun r => !lateR now r := by
      rw [List.filter_eq_self]
      intro r hr
      rw [hleft r hr]; rfl
    have hcnt : L.length < 2 ^ 20 := hL20
    generalize hG : L.filter (lateR now) = G at htail hfl hgone
    generalize hE : (L.filter fun r => !lateR now r) = E at htail hso2 hfl hgone hleft hlate2 hleft2
    clear hI hk hR hS
    have e15 := fun s K => WCall.eq (K := K) (WCall.ov (tbl := tbl) (ov := ov) T.t15 (r := (.bool true, s)) (ho.awake s) ⟨rfl, rfl⟩)
    -- what comes behind
    have hrest : ∀ (gv : Value) (s2 : St) (S1 S2 : List Nat), RowsP 28 5 s2 gv (cellsL G) S1 → QRep s2 s0.next 100 E S2 → (∀ x ∈ S1, s0.next < x ∧ x ∉ S2) → (∀ x ∈ S2, s0.next < x) → True := fun _ _ _ _ _ _ _ _ => trivial
    rcases hend with hd | ⟨hd, hd2⟩
    all_goals
      first
        | simp -implicitDefEqProofs only [go_sem, reduceIte, Nat.reduceEqDiff, Nat.reduceAdd, Nat.reduceMul, Nat.reduceLT, Nat.reduceLeDiff, reduceCtorEq, Int.reduceEq, Int.reduceNeg, Nat.reduceSub, Int.reduceLT, Int.reduceLE, Int.reduceGT, Int.reduceGE, Int.reduceAdd, Int.reduceSub, Int.reduceToNat, Int.reduceBNe, Int.reduceBEq, Nat.mul_one, Nat.zero_mul, hd, hd2]
        | simp -implicitDefEqProofs only [go_sem, reduceIte, Nat.reduceEqDiff, Nat.reduceAdd, Nat.reduceMul, Nat.reduceLT, Nat.reduceLeDiff, reduceCtorEq, Int.reduceEq, Int.reduceNeg, Nat.reduceSub, Int.reduceLT, Int.reduceLE, Int.reduceGT, Int.reduceGE, Int.reduceAdd, Int.reduceSub, Int.reduceToNat, Int.reduceBNe, Int.reduceBEq, Nat.mul_one, Nat.zero_mul, hd]
      refine WCall.mono htail ?_
      rintro gv s2 ⟨S1, S2, hG1, hE1, hS1, hS2⟩
      simp -implicitDefEqProofs only [go_sem, reduceIte, Nat.reduceEqDiff, Nat.reduceAdd, Nat.reduceMul, Nat.reduceLT, Nat.reduceLeDiff, reduceCtorEq, Int.reduceEq, Int.reduceNeg, Nat.reduceSub, Int.reduceLT, Int.reduceLE, Int.reduceGT, Int.reduceGE, Int.reduceAdd, Int.reduceSub, Int.reduceToNat, Int.reduceBNe, Int.reduceBEq, Nat.mul_one, Nat.zero_mul]
      obtain ⟨ga, gc, hgv⟩ := hG1.toV.len
      rw [List.length_map] at hgv
      subst hgv
      obtain ⟨J, hJ⟩ : ∃ J : Nat → List Value → St → Prop, J = fun m vs s' => ∃ i, i ≤ G.length ∧ m = G.length - i ∧ vs = [i64 now, ptr s0.next, i64 L.length, .slice ga G.length gc, i64 i] ∧ QRep s' s0.next 100 E S2 ∧ RowsP 28 5 s' (.slice ga G.length gc) (cellsL G) S1 := ⟨_, rfl⟩
      refine wc_loopV J G.length ?_ ?_
      · simp -implicitDefEqProofs only [go_sem, reduceIte, Nat.reduceEqDiff, Nat.reduceAdd, Nat.reduceMul, Nat.reduceLT, Nat.reduceLeDiff, reduceCtorEq, Int.reduceEq, Int.reduceNeg, Nat.reduceSub, Int.reduceLT, Int.reduceLE, Int.reduceGT, Int.reduceGE, Int.reduceAdd, Int.reduceSub, Int.reduceToNat, Int.reduceBNe, Int.reduceBEq, Nat.mul_one, Nat.zero_mul]
        rw [hJ]
        exact ⟨0, by omega, by omega, rfl, hE1, hG1⟩
      intro m vs s3 h _
      rw [hJ] at h
      obtain ⟨i, hi, rfl, rfl, hE3, hG3⟩ := h
      clear hE1 hG1 hd
      by_cases hlt : i < G.length
      · have hd : decide ((i : Int) < (G.length : Int)) = true := by simp; omega
        obtain ⟨id, o, cap', c, T', ro, hv, hg, hle, hrw, h0, h3, h4⟩ := row_read hG3.toV (i := i) hlt
        cases hv
        have hix : 0 ≤ (i : Int) ∧ (i : Int) < (G.length : Int) := by omega
        have w1 : IntKind.i64.wrap ((i : Int) + 1) = ((i + 1 : Nat) : Int) := by rw [IntKind.wrap_i64]; omega
        obtain ⟨g1, g2⟩ := hgone _ (rG_mem hlt)
        simp only [lateR, Bool.and_eq_true, decide_eq_true_eq] at g1
        have d1 : decide ((rG G i).til ≤ 0) = false := by rw [decide_eq_false_iff_not]; omega
        have d2 : decide ((rG G i).til ≥ now) = false := by rw [decide_eq_false_iff_not]; omega
        simp -implicitDefEqProofs only [go_sem, reduceIte, Nat.reduceEqDiff, Nat.reduceAdd, Nat.reduceMul, Nat.reduceLT, Nat.reduceLeDiff, reduceCtorEq, Int.reduceEq, Int.reduceNeg, Nat.reduceSub, Int.reduceLT, Int.reduceLE, Int.reduceGT, Int.reduceGE, Int.reduceAdd, Int.reduceSub, Int.reduceToNat, Int.reduceBNe, Int.reduceBEq, Nat.mul_one, Nat.zero_mul, hd, hix, hg, h4, h0, d1, d2, Nat.add_zero]
        refine WCall.mono (p14n T hE3 (by omega) g2) ?_
        rintro v s4 ⟨rfl, hk4⟩
        have hfin : J (G.length - (i + 1)) [i64 now, ptr s0.next, i64 L.length, .slice (some ⟨id, o, none⟩) G.length gc, i64 ((i + 1 : Nat) : Int)] s4 := by
          rw [hJ]
          exact ⟨i + 1, by omega, rfl, rfl, hE3.kept hk4 (by simp) (by simp), hG3.kept hk4 (by simp)⟩
        simp -implicitDefEqProofs only [go_sem, reduceIte, Nat.reduceEqDiff, Nat.reduceAdd, Nat.reduceMul, Nat.reduceLT, Nat.reduceLeDiff, reduceCtorEq, Int.reduceEq, Int.reduceNeg, Nat.reduceSub, Int.reduceLT, Int.reduceLE, Int.reduceGT, Int.reduceGE, Int.reduceAdd, Int.reduceSub, Int.reduceToNat, Int.reduceBNe, Int.reduceBEq, Nat.mul_one, Nat.zero_mul, w1]
        exact ⟨G.length - (i + 1), by omega, hfin⟩
      have hd : decide ((i : Int) < (G.length : Int)) = false := by simp; omega
      simp -implicitDefEqProofs only [go_sem, reduceIte, Nat.reduceEqDiff, Nat.reduceAdd, Nat.reduceMul, Nat.reduceLT, Nat.reduceLeDiff, reduceCtorEq, Int.reduceEq, Int.reduceNeg, Nat.reduceSub, Int.reduceLT, Int.reduceLE, Int.reduceGT, Int.reduceGE, Int.reduceAdd, Int.reduceSub, Int.reduceToNat, Int.reduceBNe, Int.reduceBEq, Nat.mul_one, Nat.zero_mul, hd]
      refine WCall.mono (p23 T hE3 (by omega)) ?_
      rintro lv s4 ⟨S3, hl4, hk4, hS3⟩
      have hE4 := hE3.kept hk4 (by simp) (by simp)
      have hG4 := hG3.kept hk4 (by simp)
      have hq3 : s0.next < s3.next := hE3.lt.1
      have hS3' : ∀ x ∈ S3, s0.next < x ∧ x ∉ S2 := fun x hx => ⟨Nat.lt_of_lt_of_le hq3 (hS3 x hx), fun h => by have := hE3.lt.2 x h; have := hS3 x hx; omega⟩
      clear hE3 hG3 hS3 hk4 hd
      simp -implicitDefEqProofs only [go_sem, reduceIte, Nat.reduceEqDiff, Nat.reduceAdd, Nat.reduceMul, Nat.reduceLT, Nat.reduceLeDiff, reduceCtorEq, Int.reduceEq, Int.reduceNeg, Nat.reduceSub, Int.reduceLT, Int.reduceLE, Int.reduceGT, Int.reduceGE, Int.reduceAdd, Int.reduceSub, Int.reduceToNat, Int.reduceBNe, Int.reduceBEq, Nat.mul_one, Nat.zero_mul]
      obtain ⟨la, lc, hlv⟩ := hl4.toV.len
      rw [List.length_map] at hlv
      subst hlv
      obtain ⟨J3, hJ3⟩ : ∃ J : Nat → List Value → St → Prop, J = fun m vs s' => ∃ i, i ≤ E.length ∧ m = E.length - i ∧ vs = [i64 now, ptr s0.next, i64 L.length, .slice ga G.length gc, .slice la E.length lc, i64 i] ∧ s'.heap = s4.heap ∧ s4.next ≤ s'.next := ⟨_, rfl⟩
      refine wc_loopV J3 E.length ?_ ?_
      · simp -implicitDefEqProofs only [go_sem, reduceIte, Nat.reduceEqDiff, Nat.reduceAdd, Nat.reduceMul, Nat.reduceLT, Nat.reduceLeDiff, reduceCtorEq, Int.reduceEq, Int.reduceNeg, Nat.reduceSub, Int.reduceLT, Int.reduceLE, Int.reduceGT, Int.reduceGE, Int.reduceAdd, Int.reduceSub, Int.reduceToNat, Int.reduceBNe, Int.reduceBEq, Nat.mul_one, Nat.zero_mul]
        rw [hJ3]
        exact ⟨0, by omega, by omega, rfl, rfl, Nat.le_refl _⟩
      intro m vs s5 h _
      rw [hJ3] at h
      obtain ⟨i, hi, rfl, rfl, hh, hnx⟩ := h
      have hk5 : Kept [] s4 s5 := ⟨hnx, fun j _ _ => by rw [hh]⟩
      have hE5 := hE4.kept hk5 (by simp) (by simp)
      have hG5 := hG4.kept hk5 (by simp)
      have hl5 := hl4.kept hk5 (by simp)
      by_cases hlt : i < E.length
      · have hd : decide ((i : Int) < (E.length : Int)) = true := by simp; omega
        obtain ⟨id, o, cap', c, T', ro, hv, hg, hle, hrw, h0, h3, h4⟩ := row_read hl5.toV (i := i) hlt
        cases hv
        have hix : 0 ≤ (i : Int) ∧ (i : Int) < (E.length : Int) := by omega
        have w1 : IntKind.i64.wrap ((i : Int) + 1) = ((i + 1 : Nat) : Int) := by rw [IntKind.wrap_i64]; omega
        have g1 := hleft _ (rG_mem hlt)
        simp only [lateR] at g1
        have hfin : ∀ n, s5.next ≤ n → J3 (E.length - (i + 1)) [i64 now, ptr s0.next, i64 L.length, .slice ga G.length gc, .slice (some ⟨id, o, none⟩) E.length lc, i64 ((i + 1 : Nat) : Int)] ⟨s5.heap, n⟩ := fun n hn => by
          rw [hJ3]
          exact ⟨i + 1, by omega, rfl, rfl, hh, by simp only; omega⟩
        cases i with
        | zero =>
          have dz : decide ((((0 : Nat) : Int)) > 0) = false := rfl
          by_cases hpos : (rG E 0).til > 0
          · have d1 : decide ((rG E 0).til > 0) = true := by simpa using hpos
            have d2 : decide ((rG E 0).til < now) = false := by rw [d1, Bool.true_and] at g1; exact g1
            simp -implicitDefEqProofs only [go_sem, reduceIte, Nat.reduceEqDiff, Nat.reduceAdd, Nat.reduceMul, Nat.reduceLT, Nat.reduceLeDiff, reduceCtorEq, Int.reduceEq, Int.reduceNeg, Nat.reduceSub, Int.reduceLT, Int.reduceLE, Int.reduceGT, Int.reduceGE, Int.reduceAdd, Int.reduceSub, Int.reduceToNat, Int.reduceBNe, Int.reduceBEq, Nat.mul_one, Nat.zero_mul, hd, hix, hg, h4, h0, d1, d2, dz, w1, Nat.add_zero]
            exact ⟨E.length - 1, by omega, hfin _ (Nat.le_refl _)⟩
          · have d1 : decide ((rG E 0).til > 0) = false := by simpa using hpos
            simp -implicitDefEqProofs only [go_sem, reduceIte, Nat.reduceEqDiff, Nat.reduceAdd, Nat.reduceMul, Nat.reduceLT, Nat.reduceLeDiff, reduceCtorEq, Int.reduceEq, Int.reduceNeg, Nat.reduceSub, Int.reduceLT, Int.reduceLE, Int.reduceGT, Int.reduceGE, Int.reduceAdd, Int.reduceSub, Int.reduceToNat, Int.reduceBNe, Int.reduceBEq, Nat.mul_one, Nat.zero_mul, hd, hix, hg, h4, h0, d1, dz, w1, Nat.add_zero]
            exact ⟨E.length - 1, by omega, hfin _ (Nat.le_refl _)⟩
        | succ j =>
          have dz : decide ((((j + 1 : Nat)) : Int) > 0) = true := by rw [decide_eq_true_eq]; omega
          have w2 : IntKind.i64.wrap (((j + 1 : Nat) : Int) - 1) = (j : Int) := by rw [IntKind.wrap_i64]; omega
          obtain ⟨id', o', cap'', c', T'', ro', hv, hg', hle', hrw', _⟩ := row_read hl5.toV (i := j) (by omega)
          cases hv
          rw [hg] at hg'
          cases hg'
          have hjx : 0 ≤ (j : Int) ∧ (j : Int) < (E.length : Int) := by omega
          have hbf := hso2.lt (i := j) (j := j + 1) (by omega) hlt
          have hp24 := p24 T (ov := ov) (s := s5) (a := rG E j) (b := rG E (j + 1))
          rw [hbf] at hp24
          have e24 := fun K => WCall.pureEq hp24 K
          have n24 := nxt_le (fun k => call tbl ov k) 24 [(rG E j).val, (rG E (j + 1)).val] s5
          by_cases hpos : (rG E (j + 1)).til > 0
          · have d1 : decide ((rG E (j + 1)).til > 0) = true := by simpa using hpos
            have d2 : decide ((rG E (j + 1)).til < now) = false := by rw [d1, Bool.true_and] at g1; exact g1
            simp -implicitDefEqProofs only [go_sem, reduceIte, Nat.reduceEqDiff, Nat.reduceAdd, Nat.reduceMul, Nat.reduceLT, Nat.reduceLeDiff, reduceCtorEq, Int.reduceEq, Int.reduceNeg, Nat.reduceSub, Int.reduceLT, Int.reduceLE, Int.reduceGT, Int.reduceGE, Int.reduceAdd, Int.reduceSub, Int.reduceToNat, Int.reduceBNe, Int.reduceBEq, Nat.mul_one, Nat.zero_mul, hd, hix, hjx, hg, h4, h0, hle, hrw, hle', hrw', d1, d2, dz, w1, w2, e24, Nat.add_zero]
            exact ⟨E.length - (j + 1 + 1), by omega, hfin _ n24⟩
          · have d1 : decide ((rG E (j + 1)).til > 0) = false := by simpa using hpos
            simp -implicitDefEqProofs only [go_sem, reduceIte, Nat.reduceEqDiff, Nat.reduceAdd, Nat.reduceMul, Nat.reduceLT, Nat.reduceLeDiff, reduceCtorEq, Int.reduceEq, Int.reduceNeg, Nat.reduceSub, Int.reduceLT, Int.reduceLE, Int.reduceGT, Int.reduceGE, Int.reduceAdd, Int.reduceSub, Int.reduceToNat, Int.reduceBNe, Int.reduceBEq, Nat.mul_one, Nat.zero_mul, hd, hix, hjx, hg, h4, h0, hle, hrw, hle', hrw', d1, dz, w1, w2, e24, Nat.add_zero]
            exact ⟨E.length - (j + 1 + 1), by omega, hfin _ n24⟩
      have hd : decide ((i : Int) < (E.length : Int)) = false := by simp; omega
      have hadd : ((G.length : Int) + (E.length : Int)) = (L.length : Int) := by omega
      have w3 : IntKind.i64.wrap ((G.length : Int) + (E.length : Int)) = (L.length : Int) := by rw [IntKind.wrap_i64]; omega
      have hll : ((L.length : Int) == (L.length : Int)) = true := by simp
      simp -implicitDefEqProofs only [go_sem, reduceIte, Nat.reduceEqDiff, Nat.reduceAdd, Nat.reduceMul, Nat.reduceLT, Nat.reduceLeDiff, reduceCtorEq, Int.reduceEq, Int.reduceNeg, Nat.reduceSub, Int.reduceLT, Int.reduceLE, Int.reduceGT, Int.reduceGE, Int.reduceAdd, Int.reduceSub, Int.reduceToNat, Int.reduceBNe, Int.reduceBEq, Nat.mul_one, Nat.zero_mul, hd, e15, w3, hll]
      refine WCall.mono (p21 T (now := now) hE5 (by omega)) ?_
      rintro u s6 ⟨S4, S5, hu, hE6, hk6, _, _⟩
      rw [hlate2] at hu
      rw [hleft2] at hE6
      obtain ⟨ua, uc, rfl⟩ := hu.toV.len
      have hz0 : ((((cellsL ([] : List QReq)).length : Nat) : Int) == 0) = true := rfl
      simp -implicitDefEqProofs only [go_sem, reduceIte, Nat.reduceEqDiff, Nat.reduceAdd, Nat.reduceMul, Nat.reduceLT, Nat.reduceLeDiff, reduceCtorEq, Int.reduceEq, Int.reduceNeg, Nat.reduceSub, Int.reduceLT, Int.reduceLE, Int.reduceGT, Int.reduceGE, Int.reduceAdd, Int.reduceSub, Int.reduceToNat, Int.reduceBNe, Int.reduceBEq, Nat.mul_one, Nat.zero_mul, hz0]
      refine WCall.mono (p23 T hE6 (by omega)) ?_
      rintro u2 s7 ⟨S6, hu2, hk7, _⟩
      have hl7 := (hl5.kept hk6 (fun x hx => by have := (hS3' x hx).1; simp only [List.mem_singleton]; omega)).kept hk7 (by simp)
      simp -implicitDefEqProofs only [go_sem, reduceIte, Nat.reduceEqDiff, Nat.reduceAdd, Nat.reduceMul, Nat.reduceLT, Nat.reduceLeDiff, reduceCtorEq, Int.reduceEq, Int.reduceNeg, Nat.reduceSub, Int.reduceLT, Int.reduceLE, Int.reduceGT, Int.reduceGE, Int.reduceAdd, Int.reduceSub, Int.reduceToNat, Int.reduceBNe, Int.reduceBEq, Nat.mul_one, Nat.zero_mul]
      rw [p20 T hu2.toV hl7.toV (by omega) rfl]
      simp -implicitDefEqProofs only [go_sem, reduceIte, Nat.reduceEqDiff, Nat.reduceAdd, Nat.reduceMul, Nat.reduceLT, Nat.reduceLeDiff, reduceCtorEq, Int.reduceEq, Int.reduceNeg, Nat.reduceSub, Int.reduceLT, Int.reduceLE, Int.reduceGT, Int.reduceGE, Int.reduceAdd, Int.reduceSub, Int.reduceToNat, Int.reduceBNe, Int.reduceBEq, Nat.mul_one, Nat.zero_mul]
end

end Go.Proofs.Ytgnpafmhdmmmhaa
