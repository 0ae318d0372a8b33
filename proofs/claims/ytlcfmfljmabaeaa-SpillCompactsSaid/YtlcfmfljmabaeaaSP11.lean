/-
  add, Put, Done, Wait.
-/
import Derived.Test.YtlcfmfljmabaeaaSP8
set_option maxRecDepth 100000
set_option linter.unusedVariables false
set_option linter.unusedSimpArgs false
namespace Go.Proofs.Ytlcfmfljmabaeaa
open Go Go.Abs Go.Abs.K

structure Room (D : DM) (L : LM) : Prop where
  next : 1 ≤ L.next
  live : L.live.length < 2 ^ 16
  wait : L.wait.length < 2 ^ 16
  loose : D.loose.length < 2 ^ 17
  last : L.last < 2 ^ 60

theorem wrL_eq (D : DM) (L : LM) (k : Nat) : wrL D L k = { L with last := (wrL D L k).last } ∧ L.last ≤ (wrL D L k).last ∧ (wrL D L k).last ≤ L.last + 1 := by
  unfold wrL
  split
  · exact ⟨rfl, by simp only; omega, by simp only; omega⟩
  · exact ⟨rfl, by omega, by omega⟩
theorem wrD_loose (D : DM) (L : LM) (bs : List Int) : (wrD D L bs).loose.length ≤ D.loose.length + 1 := by
  unfold wrD
  split
  · omega
  · exact appD_loose ..
theorem writeM_facts (D : DM) (L : LM) (bs : List Int) : (writeM D L bs).2.1 = { L with last := (writeM D L bs).2.1.last } ∧ L.last ≤ (writeM D L bs).2.1.last ∧ (writeM D L bs).2.1.last ≤ L.last + 1 ∧ (writeM D L bs).1.loose.length ≤ D.loose.length + 1 :=
  ⟨(wrL_eq D L bs.length).1, (wrL_eq D L bs.length).2.1, (wrL_eq D L bs.length).2.2, wrD_loose D L bs⟩

theorem lm_last {L L' : LM} (h : L' = { L with last := L'.last }) : L'.next = L.next ∧ L'.live = L.live ∧ L'.wait = L.wait ∧ L'.most = L.most := by
  rw [h]; exact ⟨rfl, rfl, rfl, rfl⟩
theorem recsL_last {L L' : LM} (h : L' = { L with last := L'.last }) : recsL L' = recsL L := by
  rw [h]; rfl

section
variable {tbl : FuncId → Option AFun} {ov : CallSem} {s : St} (T : STbl tbl)
include T

theorem q43b (ho : OvS ov) {l p : Nat} {D : DM} {L : LM} {O OD V : List Nat} {bv : Value} {bs : List Int} (h : SRep s l p D L O OD V) (hb : BytesV s bv bs) (hbO : ∀ y ∈ wrOf bv, y ∉ OD ∧ y ∉ O) (hll : D.loose.length < 2 ^ 20)
    (hla : L.last < 9223372036854775807) (hbl : bs.length < 2 ^ 40) :
    WCall (fun k => call tbl ov k) 43 [ptr l, bv] s fun u s' => u = i64 (writeM D L bs).2.2 ∧ ∃ OD' V', SRep s' l p (writeM D L bs).1 (writeM D L bs).2.1 O OD' V' ∧ GrownS s s' O OD V OD' V' := by
  refine WCall.mono (q43 T ho h hb (fun id o l c e => hbO id (wrOf_mem e)) hll hla hbl) ?_
  rintro u s' ⟨rfl, hk, OD', V', hS, hO, hV⟩
  exact ⟨rfl, OD', V', hS, hk, hO, hV⟩

omit T in
theorem bytes_grown {s s' : St} {O OD V OD' V' : List Nat} {bv : Value} {bs : List Int} (hb : BytesV s bv bs) (hg : GrownS s s' O OD V OD' V') (hd : ∀ y ∈ wrOf bv, y ∉ OD ∧ y ∉ O) (hl : ∀ y ∈ wrOf bv, y < s.next) :
    BytesV s' bv bs ∧ (∀ y ∈ wrOf bv, y ∉ OD' ∧ y ∉ O) ∧ ∀ y ∈ wrOf bv, y < s'.next := by
  have hn := hg.k.1
  refine ⟨BytesV.kept' (t := 0) (w := undefV) (zs := bs) (ws := []) hb hg.k (fun id o n c e hx => ?_), fun y hy => ⟨fun hx => ?_, (hd y hy).2⟩, fun y hy => by have := hl y hy; omega⟩
  · have := hd id (wrOf_mem e)
    rcases List.mem_append.1 hx with hx | hx
    · exact this.2 hx
    · exact this.1 hx
  · rcases hg.o y hx with h | h
    · exact (hd y hy).1 h
    · have := hl y hy; omega

theorem q29 (ho : OvS ov) {l p : Nat} {D : DM} {L : LM} {O OD V : List Nat} {r : FRec} (h : SRep s l p D L O OD V) (hR : Room D L) (hw : r.Wide) :
    WCall (fun k => call tbl ov k) 29 [ptr l, r.val] s fun u s' => u = i64 (addM D L r).2.2 ∧ ∃ OD' V', SRep s' l p (addM D L r).1 (addM D L r).2.1 O OD' V' ∧ GrownS s s' O OD V OD' V' := by
  refine WCall.of T.t29 rfl ?_
  have c1 : r.cells.length = 6 := rfl
  have c4 : r.cells.take 6 = r.cells := rfl
  have e34 : (Value.agg r.cells.toArray) = r.val := rfl
  have ecl : cellList r.val = r.cells := by simp [cellList, Value.cells]
  obtain ⟨s1, hs1⟩ : ∃ s1 : St, s1 = ⟨s.heap.put s.next (some (.cells r.cells 74 0 false)), s.next + 1⟩ := ⟨_, rfl⟩
  have hk1 : Kept [] s s1 := by rw [hs1]; exact kept_put_nil (Nat.le_refl _) (Nat.le_succ _)
  have hp1 : s1.heap.get s.next = some (.cells r.cells 74 0 false) := by rw [hs1]; simp only [Heap.get_put, if_true]
  have hdz : r.cells.drop 0 = r.cells := rfl
  obtain ⟨Y, hY⟩ : ∃ Y, Y = addM D L r := ⟨_, rfl⟩
  rw [← hY]
  simp -implicitDefEqProofs only [fun29, code29, params, go_sem, reduceIte, Nat.reduceEqDiff, Nat.reduceAdd, Nat.reduceMul, Nat.reduceLT, Nat.reduceLeDiff, reduceCtorEq, Int.reduceEq, Int.reduceNeg, Nat.reduceSub, Int.reduceLT, Int.reduceLE, Int.reduceGT, Int.reduceGE, Int.reduceAdd, Int.reduceSub, Int.reduceToNat, Int.reduceBNe, Int.reduceBEq, Nat.mul_one, Nat.zero_mul, c1, c4, hdz, e34, ← hs1, hp1]
  refine WCall.mono (q34 (ov := ov) (s := s1) T hw) ?_
  rintro u s2 ⟨bv, rfl, hb, hk2, hbn⟩
  have hS2 := (h.kept hk1 (by simp) (by simp) (by simp)).kept hk2 (by simp) (by simp) (by simp)
  have hn1 := hk1.1
  have hn2 := hk2.1
  unfold encE encB at *
  cases hs : r.sound with
  | false =>
    simp only [hs, Bool.false_eq_true, if_false] at hb ⊢
    have hYe : Y = (D, L, 2) := by rw [hY]; unfold addM; rw [if_neg (by rw [hs]; simp)]
    simp -implicitDefEqProofs only [go_sem, reduceIte, Nat.reduceEqDiff, Nat.reduceAdd, Nat.reduceMul, Nat.reduceLT, Nat.reduceLeDiff, reduceCtorEq, Int.reduceEq, Int.reduceNeg, Nat.reduceSub, Int.reduceLT, Int.reduceLE, Int.reduceGT, Int.reduceGE, Int.reduceAdd, Int.reduceSub, Int.reduceToNat, Int.reduceBNe, Int.reduceBEq, Nat.mul_one, Nat.zero_mul]
    rw [hYe]
    exact ⟨rfl, OD, V, hS2, GrownS.kept (hk1.trans hk2)⟩
  | true =>
    simp only [hs, if_true] at hb ⊢
    obtain ⟨h1r, h2r, _⟩ := r.of_sound hs
    have hbl : (recL r).length < 2 ^ 40 := by rw [recL_length, bodyL_length]; omega
    have hbO : ∀ y ∈ wrOf bv, y ∉ OD ∧ y ∉ O := fun y hy => ⟨fun hx => by have := hbn y hy; have := h.d.lt.1 y hx; omega, fun hx => by have := hbn y hy; have := h.l.lt y hx; omega⟩
    have hbl2 : ∀ y ∈ wrOf bv, y < s2.next := by
      obtain ⟨_, ⟨rfl, _⟩ | ⟨id, o, cap, c, t, sz, ro, rfl, _, h2, _⟩⟩ := hb
      · intro y hy; cases hy
      · intro y hy; rw [List.mem_singleton.1 hy]; exact h2
    have hYe : Y = if (roomM D L (recL r)).2.2 = 0 then (syncM (roomM D L (recL r)).1, (roomM D L (recL r)).2.1, syncE (roomM D L (recL r)).1) else roomM D L (recL r) := by rw [hY]; unfold addM; rw [if_pos hs]
    have fin : ∀ {s3 : St} {Z : DM × LM × Int} {OD3 V3 : List Nat}, SRep s3 l p Z.1 Z.2.1 O OD3 V3 → GrownS s s3 O OD V OD3 V3 → roomM D L (recL r) = Z → Z.2.2 = 0 →
        ∃ ml mw, s3.heap.get l = some (.cells [ptr p, i64 Z.2.1.most, i64 Z.2.1.last, .map (some ml), .map (some mw), i64 Z.2.1.next] 66 0 false) ∧ WCall (fun k => call tbl ov k) 44 [ptr p] s3 fun u s' => u = i64 Y.2.2 ∧ ∃ OD' V', SRep s' l p Y.1 Y.2.1 O OD' V' ∧ GrownS s s' O OD V OD' V' := by
      intro s3 Z OD3 V3 hS3 hG3 hZ hz
      obtain ⟨ml, mw, g1, _⟩ := hS3.setLast
      refine ⟨ml, mw, g1, ?_⟩
      rw [hZ, if_pos hz] at hYe
      refine WCall.mono (p44 (ov := ov) T.d hS3.d) ?_
      rintro u s4 ⟨rfl, hk4, OD4, hd4, hO4⟩
      rw [hYe]
      exact ⟨rfl, OD4, V3, ⟨hS3.l.kept hk4 fun x hx => (hS3.dis x hx).1, hd4, fun x hx => ⟨fun h => (hS3.dis x hx).1 (hO4 x h), (hS3.dis x hx).2⟩⟩, hG3.trans ⟨hk4.sub fun x hx => List.mem_append_right _ hx, fun x hx => .inl (hO4 x hx), fun x hx => .inl hx⟩⟩
    have hwf := writeM_facts D L (recL r)
    simp -implicitDefEqProofs only [go_sem, reduceIte, Nat.reduceEqDiff, Nat.reduceAdd, Nat.reduceMul, Nat.reduceLT, Nat.reduceLeDiff, reduceCtorEq, Int.reduceEq, Int.reduceNeg, Nat.reduceSub, Int.reduceLT, Int.reduceLE, Int.reduceGT, Int.reduceGE, Int.reduceAdd, Int.reduceSub, Int.reduceToNat, Int.reduceBNe, Int.reduceBEq, Nat.mul_one, Nat.zero_mul]
    have hRl := hR.last; have hRo := hR.loose
    refine WCall.mono (q43b (ov := ov) T ho hS2 hb hbO (by omega) (by omega) hbl) ?_
    rintro u s3 ⟨rfl, OD3, V3, hS3, hG3⟩
    have hG03 : GrownS s s3 O OD V OD3 V3 := (GrownS.kept (hk1.trans hk2)).trans hG3
    have hrm : roomM D L (recL r) = if (writeM D L (recL r)).2.2 = 5 then (if (compactM (writeM D L (recL r)).1 (writeM D L (recL r)).2.1).2.2 = 0 then writeM (compactM (writeM D L (recL r)).1 (writeM D L (recL r)).2.1).1 (compactM (writeM D L (recL r)).1 (writeM D L (recL r)).2.1).2.1 (recL r) else compactM (writeM D L (recL r)).1 (writeM D L (recL r)).2.1) else writeM D L (recL r) := rfl
    obtain ⟨W1, hW1⟩ : ∃ W1, W1 = writeM D L (recL r) := ⟨_, rfl⟩
    rw [← hW1] at hrm hS3 hwf ⊢
    cases he : (W1.2.2 == 5)
    · rw [if_neg (by simpa using he)] at hrm
      simp -implicitDefEqProofs only [go_sem, reduceIte, Nat.reduceEqDiff, Nat.reduceAdd, Nat.reduceMul, Nat.reduceLT, Nat.reduceLeDiff, reduceCtorEq, Int.reduceEq, Int.reduceNeg, Nat.reduceSub, Int.reduceLT, Int.reduceLE, Int.reduceGT, Int.reduceGE, Int.reduceAdd, Int.reduceSub, Int.reduceToNat, Int.reduceBNe, Int.reduceBEq, Nat.mul_one, Nat.zero_mul, he]
      cases he0 : (W1.2.2 != 0)
      · obtain ⟨ml, mw, g1, hc⟩ := fin hS3 hG03 hrm (by simpa using he0)
        simp -implicitDefEqProofs only [go_sem, reduceIte, Nat.reduceEqDiff, Nat.reduceAdd, Nat.reduceMul, Nat.reduceLT, Nat.reduceLeDiff, reduceCtorEq, Int.reduceEq, Int.reduceNeg, Nat.reduceSub, Int.reduceLT, Int.reduceLE, Int.reduceGT, Int.reduceGE, Int.reduceAdd, Int.reduceSub, Int.reduceToNat, Int.reduceBNe, Int.reduceBEq, Nat.mul_one, Nat.zero_mul, he0, g1]
        refine WCall.mono hc ?_
        rintro u s4 hh
        simp -implicitDefEqProofs only [go_sem, reduceIte, Nat.reduceEqDiff, Nat.reduceAdd, Nat.reduceMul, Nat.reduceLT, Nat.reduceLeDiff, reduceCtorEq, Int.reduceEq, Int.reduceNeg, Nat.reduceSub, Int.reduceLT, Int.reduceLE, Int.reduceGT, Int.reduceGE, Int.reduceAdd, Int.reduceSub, Int.reduceToNat, Int.reduceBNe, Int.reduceBEq, Nat.mul_one, Nat.zero_mul]
        exact hh
      · rw [hrm, if_neg (by simpa using he0)] at hYe
        simp -implicitDefEqProofs only [go_sem, reduceIte, Nat.reduceEqDiff, Nat.reduceAdd, Nat.reduceMul, Nat.reduceLT, Nat.reduceLeDiff, reduceCtorEq, Int.reduceEq, Int.reduceNeg, Nat.reduceSub, Int.reduceLT, Int.reduceLE, Int.reduceGT, Int.reduceGE, Int.reduceAdd, Int.reduceSub, Int.reduceToNat, Int.reduceBNe, Int.reduceBEq, Nat.mul_one, Nat.zero_mul, he0]
        rw [hYe]
        exact ⟨rfl, OD3, V3, hS3, hG03⟩
    · rw [if_pos (by simpa using he)] at hrm
      obtain ⟨hnx, hlv, hwt, _⟩ := lm_last hwf.1
      simp -implicitDefEqProofs only [go_sem, reduceIte, Nat.reduceEqDiff, Nat.reduceAdd, Nat.reduceMul, Nat.reduceLT, Nat.reduceLeDiff, reduceCtorEq, Int.reduceEq, Int.reduceNeg, Nat.reduceSub, Int.reduceLT, Int.reduceLE, Int.reduceGT, Int.reduceGE, Int.reduceAdd, Int.reduceSub, Int.reduceToNat, Int.reduceBNe, Int.reduceBEq, Nat.mul_one, Nat.zero_mul, he]
      have hRv := hR.live; have hRw := hR.wait
      refine WCall.mono (q13 (ov := ov) T ho hS3 (by rw [hnx]; exact hR.next) (by rw [hlv]; omega) (by rw [hwt]; omega) (by omega) (by omega)) ?_
      rintro u s4 ⟨rfl, OD4, V4, hS4, hG4⟩
      have hG04 := hG03.trans hG4
      have hcf := compactM_facts W1.1 W1.2.1
      have hrl := recsL_len W1.2.1
      rw [hlv, hwt] at hrl
      obtain ⟨C, hC⟩ : ∃ C, C = compactM W1.1 W1.2.1 := ⟨_, rfl⟩
      rw [← hC] at hrm hS4 hcf ⊢
      obtain ⟨b3, d3, l3⟩ := bytes_grown hb hG3 hbO hbl2
      obtain ⟨b4, d4, l4⟩ := bytes_grown b3 hG4 d3 l3
      cases he2 : (C.2.2 == 0)
      · rw [if_neg (by simpa using he2)] at hrm
        rw [hrm, if_neg (by simpa using he2)] at hYe
        have he3 : (C.2.2 != 0) = true := by simpa using he2
        simp -implicitDefEqProofs only [go_sem, reduceIte, Nat.reduceEqDiff, Nat.reduceAdd, Nat.reduceMul, Nat.reduceLT, Nat.reduceLeDiff, reduceCtorEq, Int.reduceEq, Int.reduceNeg, Nat.reduceSub, Int.reduceLT, Int.reduceLE, Int.reduceGT, Int.reduceGE, Int.reduceAdd, Int.reduceSub, Int.reduceToNat, Int.reduceBNe, Int.reduceBEq, Nat.mul_one, Nat.zero_mul, he2, he3]
        rw [hYe]
        exact ⟨rfl, OD4, V4, hS4, hG04⟩
      · rw [if_pos (by simpa using he2)] at hrm
        simp -implicitDefEqProofs only [go_sem, reduceIte, Nat.reduceEqDiff, Nat.reduceAdd, Nat.reduceMul, Nat.reduceLT, Nat.reduceLeDiff, reduceCtorEq, Int.reduceEq, Int.reduceNeg, Nat.reduceSub, Int.reduceLT, Int.reduceLE, Int.reduceGT, Int.reduceGE, Int.reduceAdd, Int.reduceSub, Int.reduceToNat, Int.reduceBNe, Int.reduceBEq, Nat.mul_one, Nat.zero_mul, he2]
        refine WCall.mono (q43b (ov := ov) T ho hS4 b4 d4 (by omega) (by omega) hbl) ?_
        rintro u s5 ⟨rfl, OD5, V5, hS5, hG5⟩
        have hG05 := hG04.trans hG5
        obtain ⟨W2, hW2⟩ : ∃ W2, W2 = writeM C.1 C.2.1 (recL r) := ⟨_, rfl⟩
        rw [← hW2] at hrm hS5 ⊢
        cases he0 : (W2.2.2 != 0)
        · obtain ⟨ml, mw, g1, hc⟩ := fin hS5 hG05 hrm (by simpa using he0)
          simp -implicitDefEqProofs only [go_sem, reduceIte, Nat.reduceEqDiff, Nat.reduceAdd, Nat.reduceMul, Nat.reduceLT, Nat.reduceLeDiff, reduceCtorEq, Int.reduceEq, Int.reduceNeg, Nat.reduceSub, Int.reduceLT, Int.reduceLE, Int.reduceGT, Int.reduceGE, Int.reduceAdd, Int.reduceSub, Int.reduceToNat, Int.reduceBNe, Int.reduceBEq, Nat.mul_one, Nat.zero_mul, he0, g1]
          refine WCall.mono hc ?_
          rintro u s4 hh
          simp -implicitDefEqProofs only [go_sem, reduceIte, Nat.reduceEqDiff, Nat.reduceAdd, Nat.reduceMul, Nat.reduceLT, Nat.reduceLeDiff, reduceCtorEq, Int.reduceEq, Int.reduceNeg, Nat.reduceSub, Int.reduceLT, Int.reduceLE, Int.reduceGT, Int.reduceGE, Int.reduceAdd, Int.reduceSub, Int.reduceToNat, Int.reduceBNe, Int.reduceBEq, Nat.mul_one, Nat.zero_mul]
          exact hh
        · rw [hrm, if_neg (by simpa using he0)] at hYe
          simp -implicitDefEqProofs only [go_sem, reduceIte, Nat.reduceEqDiff, Nat.reduceAdd, Nat.reduceMul, Nat.reduceLT, Nat.reduceLeDiff, reduceCtorEq, Int.reduceEq, Int.reduceNeg, Nat.reduceSub, Int.reduceLT, Int.reduceLE, Int.reduceGT, Int.reduceGE, Int.reduceAdd, Int.reduceSub, Int.reduceToNat, Int.reduceBNe, Int.reduceBEq, Nat.mul_one, Nat.zero_mul, he0]
          rw [hYe]
          exact ⟨rfl, OD5, V5, hS5, hG05⟩
end
end Go.Proofs.Ytlcfmfljmabaeaa


/-
  Put, Done, Wait.
-/
set_option maxRecDepth 100000
set_option linter.unusedVariables false
set_option linter.unusedSimpArgs false
namespace Go.Proofs.Ytlcfmfljmabaeaa
open Go Go.Abs Go.Abs.K

theorem lm_trans {L L1 L2 : LM} (h : L1 = { L with last := L1.last }) (k : L2 = { L1 with last := L2.last }) : L2 = { L with last := L2.last } := by
  obtain ⟨a1, a2, a3, a4⟩ := lm_last h
  obtain ⟨b1, b2, b3, b4⟩ := lm_last k
  rw [a1] at b1; rw [a2] at b2; rw [a3] at b3; rw [a4] at b4
  obtain ⟨x1, x2, x3, x4, x5⟩ := L2
  simp only at b1 b2 b3 b4
  rw [b1, b2, b3, b4]

theorem roomM_facts (D : DM) (L : LM) (bs : List Int) : (roomM D L bs).2.1 = { L with last := (roomM D L bs).2.1.last } ∧ L.last ≤ (roomM D L bs).2.1.last ∧ (roomM D L bs).2.1.last ≤ L.last + 4 + L.wait.length + L.live.length ∧ (roomM D L bs).1.loose.length ≤ D.loose.length + 3 + L.wait.length + L.live.length := by
  have h1 := writeM_facts D L bs
  unfold roomM
  simp only
  split
  · have h2 := compactM_facts (writeM D L bs).1 (writeM D L bs).2.1
    have h3 := recsL_len (writeM D L bs).2.1
    obtain ⟨a1, a2, a3, a4⟩ := lm_last h1.1
    rw [a2, a3] at h3
    have hC : (compactM (writeM D L bs).1 (writeM D L bs).2.1).2.1 = { L with last := (compactM (writeM D L bs).1 (writeM D L bs).2.1).2.1.last } := lm_trans h1.1 h2.1
    split
    · have h4 := writeM_facts (compactM (writeM D L bs).1 (writeM D L bs).2.1).1 (compactM (writeM D L bs).1 (writeM D L bs).2.1).2.1 bs
      exact ⟨lm_trans hC h4.1, by omega, by omega, by omega⟩
    · exact ⟨hC, by omega, by omega, by omega⟩
  · exact ⟨h1.1, by omega, by omega, by omega⟩

theorem addM_facts (D : DM) (L : LM) (r : FRec) : (addM D L r).2.1 = { L with last := (addM D L r).2.1.last } ∧ L.last ≤ (addM D L r).2.1.last ∧ (addM D L r).2.1.last ≤ L.last + 4 + L.wait.length + L.live.length ∧ (addM D L r).1.loose.length ≤ D.loose.length + 3 + L.wait.length + L.live.length := by
  unfold addM
  split
  · have h := roomM_facts D L (recL r)
    simp only
    split
    · exact ⟨h.1, h.2.1, h.2.2.1, Nat.le_trans (syncM_loose _) h.2.2.2⟩
    · exact h
  · exact ⟨rfl, by simp only; omega, by simp only; omega, by simp only; omega⟩

theorem SRep.liveAt {s : St} {l p : Nat} {D : DM} {L : LM} {O OD V : List Nat} (h : SRep s l p D L O OD V) : ∃ ml mw es c, s.heap.get l = some (.cells (logC p ml mw L) 66 0 false) ∧ s.heap.get ml = some (.map es c) ∧ MOK KInt es c ∧ GR ekI RQ.val es L.live ∧ ml ∈ O ∧ l ∈ O ∧ l ≠ ml ∧ ml < s.next ∧ l < s.next ∧
    ∀ es' c' F, MOK KInt es' c' → GR ekI RQ.val es' F → (∀ q ∈ F, W64 q.1 ∧ q.2.Wide) → SRep ⟨s.heap.put ml (some (.map es' c')), s.next⟩ l p D { L with live := F } O OD V ∧ Kept [ml] s ⟨s.heap.put ml (some (.map es' c')), s.next⟩ := by
  obtain ⟨⟨ml, mw, es, c, es', c', h1, rfl, h2, h3, h4, h5, h6, h7, h8, h9, h10, h11, h12, h13, h14⟩, hd, hdis⟩ := h
  refine ⟨ml, mw, es, c, h1, h2, h3, h4, by simp, by simp, h8, h12, h11, fun es2 c2 F a1 a2 a3 => ?_⟩
  have n2 : ¬ mw = ml := fun e => h10 e.symm
  have hk2 : Kept [ml] s ⟨s.heap.put ml (some (.map es2 c2)), s.next⟩ := kept_put1 (Nat.le_refl _)
  have hlx : ∀ x ∈ OD, x ∉ [ml] := fun x hx e => by rw [List.mem_singleton.1 e] at hx; exact (hdis ml (by simp)).1 hx
  have hlv : ∀ x ∈ V, x ∉ [ml] := fun x hx e => by rw [List.mem_singleton.1 e] at hx; exact (hdis ml (by simp)).2 hx
  exact ⟨⟨⟨ml, mw, es2, c2, es', c', by simp only [Heap.get_put, h8, if_false]; exact h1, rfl, by simp only [Heap.get_put, if_true], a1, a2, by simp only [Heap.get_put, n2, if_false]; exact h5, h6, h7, h8, h9, h10, h11, h12, h13, ⟨h14.most, h14.last, h14.next, a3, h14.wait⟩⟩, hd.kept hk2 hlx hlv, hdis⟩, hk2⟩

def putL (L : LM) (r : RQ) (e : Int) : LM :=
  let L1 := if e = 2 then L else { L with next := max L.next (r.id + 1) }
  if e = 0 then { L1 with live := putG L1.live r.id r } else L1
def putM (D : DM) (L : LM) (r : RQ) : DM × LM × Int := ((addM D L (r.toF 1)).1, putL (addM D L (r.toF 1)).2.1 r (addM D L (r.toF 1)).2.2, (addM D L (r.toF 1)).2.2)
def doneM (D : DM) (L : LM) (n : Int) : DM × LM × Int := if (lookG L.live n).isSome = true then addM D { L with live := delG L.live n } (doneF n) else (D, L, 4)
def waitM (D : DM) (L : LM) (b : ByteArray) (t : Int) : DM × LM × Int := if (waitF b t).sound = true then addM D (applyL L (waitF b t)) (waitF b t) else (D, L, 2)

section
variable {tbl : FuncId → Option AFun} {ov : CallSem} {s : St} (T : STbl tbl)
include T

theorem q11 (ho : OvS ov) {l p : Nat} {D : DM} {L : LM} {O OD V : List Nat} {r : RQ} (h : SRep s l p D L O OD V) (hR : Room D L) (hw : r.Wide) (hid : r.id < 9223372036854775807) :
    WCall (fun k => call tbl ov k) 11 [ptr l, r.val] s fun u s' => u = i64 (putM D L r).2.2 ∧ ∃ OD' V', SRep s' l p (putM D L r).1 (putM D L r).2.1 O OD' V' ∧ GrownS s s' O OD V OD' V' := by
  refine WCall.of T.t11 rfl ?_
  have c1 : r.cells.length = 5 := rfl
  have c4 : r.cells.take 5 = r.cells := rfl
  have hdz : r.cells.drop 0 = r.cells := rfl
  have cid : r.cells[0]? = some (i64 r.id) := rfl
  have erv : (Value.agg r.cells.toArray) = r.val := rfl
  obtain ⟨s1, hs1⟩ : ∃ s1 : St, s1 = ⟨s.heap.put s.next (some (.cells r.cells 32 0 false)), s.next + 1⟩ := ⟨_, rfl⟩
  have hk1 : Kept [] s s1 := by rw [hs1]; exact kept_put_nil (Nat.le_refl _) (Nat.le_succ _)
  have hp1 : s1.heap.get s.next = some (.cells r.cells 32 0 false) := by rw [hs1]; simp only [Heap.get_put, if_true]
  have hn1 : s1.next = s.next + 1 := by rw [hs1]
  obtain ⟨Y, hY⟩ : ∃ Y, Y = putM D L r := ⟨_, rfl⟩
  rw [← hY]
  have ef : fillL [i64 0, i64 0, .string ⟨#[]⟩, .string ⟨#[]⟩, i64 0, i64 0] [(0, 1, i64 1), (1, 5, .agg r.cells.toArray)] = some (r.toF 1).cells := rfl
  have e34 : (Value.agg (r.toF 1).cells.toArray) = (r.toF 1).val := rfl
  simp -implicitDefEqProofs only [fun11, code11, params, go_sem, reduceIte, Nat.reduceEqDiff, Nat.reduceAdd, Nat.reduceMul, Nat.reduceLT, Nat.reduceLeDiff, reduceCtorEq, Int.reduceEq, Int.reduceNeg, Nat.reduceSub, Int.reduceLT, Int.reduceLE, Int.reduceGT, Int.reduceGE, Int.reduceAdd, Int.reduceSub, Int.reduceToNat, Int.reduceBNe, Int.reduceBEq, Nat.mul_one, Nat.zero_mul, c1, c4, hdz, ← hs1, hp1, ef, e34]
  have hS1 := h.kept hk1 (by simp) (by simp) (by simp)
  refine WCall.mono (q29 (ov := ov) (r := r.toF 1) T ho hS1 hR ⟨hw.id, hw.till, by simp [RQ.toF], hw.prio⟩) ?_
  rintro u s2 ⟨rfl, OD2, V2, hS2, hG2⟩
  have hG02 := (GrownS.kept (O := O) (OD := OD) (V := V) hk1).trans hG2
  have haf := addM_facts D L (r.toF 1)
  obtain ⟨W, hW⟩ : ∃ W, W = addM D L (r.toF 1) := ⟨_, rfl⟩
  have hYe : Y = (W.1, putL W.2.1 r W.2.2, W.2.2) := by rw [hY, hW]; rfl
  rw [← hW] at hS2 haf ⊢
  have hp2 : s2.heap.get s.next = some (.cells r.cells 32 0 false) := by
    rw [hG2.k.2 s.next (by omega) (fun hx => ?_)]
    · exact hp1
    · rcases List.mem_append.1 hx with hx | hx
      · exact Nat.lt_irrefl _ (h.l.lt _ hx)
      · exact Nat.lt_irrefl _ (h.d.lt.1 _ hx)
  have hwid := hw.id
  unfold W64 at hwid
  have w1 : IntKind.i64.wrap (r.id + 1) = r.id + 1 := by rw [IntKind.wrap_i64]; omega
  obtain ⟨ml, mw, g1, g11, hlO, hset⟩ := hS2.setNext
  simp only [logC] at g1 hset
  have hWl := hS2.l.wide
  have tail : ∀ {s3 : St} {L3 : LM} (e : Int), SRep s3 l p W.1 L3 O OD2 V2 → GrownS s s3 O OD V OD2 V2 → e = W.2.2 → L3 = (if W.2.2 = 2 then W.2.1 else { W.2.1 with next := max W.2.1.next (r.id + 1) }) → s3.heap.get s.next = some (.cells r.cells 32 0 false) →
      (W.2.2 = 0 → ∃ ml mw es c, s3.heap.get l = some (.cells [ptr p, i64 L3.most, i64 L3.last, .map (some ml), .map (some mw), i64 L3.next] 66 0 false) ∧ (∀ nx, evP s3.heap.get nx (.mapUpdate .int (.map (some ml)) (i64 r.id) r.val) = some ⟨undefV, [(ml, some (.map es c))], nx⟩) ∧
        SRep ⟨s3.heap.put ml (some (.map es c)), s3.next⟩ l p Y.1 Y.2.1 O OD2 V2 ∧ GrownS s ⟨s3.heap.put ml (some (.map es c)), s3.next⟩ O OD V OD2 V2) ∧
      (W.2.2 ≠ 0 → SRep s3 l p Y.1 Y.2.1 O OD2 V2) := by
    intro s3 L3 e hS3 hG3 he hL3 hp3
    refine ⟨fun h0 => ?_, fun h0 => ?_⟩
    · obtain ⟨ml, mw, es, c, a1, a2, a3, a4, a5, a6, a7, a8, a9, a10⟩ := hS3.liveAt
      obtain ⟨b1, b2⟩ := a10 _ _ _ (a3.mput kindI ⟨r.id, rfl⟩ r.val) (gr_put keyG_int a4 r.id r) (fun q hq => (putG_mem hq).elim (hS3.l.wide.live q) fun e => by subst e; exact ⟨hw.id, hw⟩)
      refine ⟨ml, mw, _, _, a1, fun nx => ev_mapUpdate kindI a3 a2 ⟨_, rfl⟩, ?_, hG3.trans (GrownS.one b2 fun x hx => by rw [List.mem_singleton.1 hx]; exact a5)⟩
      have : Y.2.1 = { L3 with live := putG L3.live r.id r } := by
        rw [hYe]; simp only [putL, h0, if_true]; rw [hL3, h0]
      rw [this, show Y.1 = W.1 by rw [hYe]]
      exact b1
    · have : Y.2.1 = L3 := by
        rw [hYe]; simp only [putL, if_neg h0]; rw [hL3]
      rw [this, show Y.1 = W.1 by rw [hYe]]
      exact hS3
  have hY2 : Y.2.2 = W.2.2 := by rw [hYe]
  rw [hY2]
  cases he2 : (W.2.2 != 2)
  · have he0 : (W.2.2 == 0) = false := by
      have : W.2.2 = 2 := by simpa using he2
      rw [this]; rfl
    simp -implicitDefEqProofs only [go_sem, reduceIte, Nat.reduceEqDiff, Nat.reduceAdd, Nat.reduceMul, Nat.reduceLT, Nat.reduceLeDiff, reduceCtorEq, Int.reduceEq, Int.reduceNeg, Nat.reduceSub, Int.reduceLT, Int.reduceLE, Int.reduceGT, Int.reduceGE, Int.reduceAdd, Int.reduceSub, Int.reduceToNat, Int.reduceBNe, Int.reduceBEq, Nat.mul_one, Nat.zero_mul, he2, he0]
    exact ⟨OD2, V2, (tail W.2.2 hS2 hG02 rfl (by rw [if_pos (by simpa using he2)]) hp2).2 (by simpa using he0), hG02⟩
  · have hN : W64 (max W.2.1.next (r.id + 1)) := by
      have := hWl.next
      unfold W64 at *; omega
    obtain ⟨hS3, hk3⟩ := hset _ hN
    obtain ⟨s3, hs3⟩ : ∃ s3 : St, s3 = ⟨s2.heap.put l (some (.cells [ptr p, i64 W.2.1.most, i64 W.2.1.last, .map (some ml), .map (some mw), i64 (max W.2.1.next (r.id + 1))] 66 0 false)), s2.next⟩ := ⟨_, rfl⟩
    rw [← hs3] at hS3 hk3
    have hG3 := hG02.trans (GrownS.one hk3 fun x hx => by rw [List.mem_singleton.1 hx]; exact hlO)
    have hp3 : s3.heap.get s.next = some (.cells r.cells 32 0 false) := by
      have := hG2.k.1
      rw [hk3.2 s.next (by omega) (by have := h.l.lt l hlO; simp; omega)]
      exact hp2
    simp -implicitDefEqProofs only [go_sem, reduceIte, Nat.reduceEqDiff, Nat.reduceAdd, Nat.reduceMul, Nat.reduceLT, Nat.reduceLeDiff, reduceCtorEq, Int.reduceEq, Int.reduceNeg, Nat.reduceSub, Int.reduceLT, Int.reduceLE, Int.reduceGT, Int.reduceGE, Int.reduceAdd, Int.reduceSub, Int.reduceToNat, Int.reduceBNe, Int.reduceBEq, Nat.mul_one, Nat.zero_mul, he2, g1, hp2, cid, w1, ev_max, ← hs3]
    have ht := tail W.2.2 hS3 hG3 rfl (by rw [if_neg (by simpa using he2)]) hp3
    cases he0 : (W.2.2 == 0)
    · simp -implicitDefEqProofs only [go_sem, reduceIte, Nat.reduceEqDiff, Nat.reduceAdd, Nat.reduceMul, Nat.reduceLT, Nat.reduceLeDiff, reduceCtorEq, Int.reduceEq, Int.reduceNeg, Nat.reduceSub, Int.reduceLT, Int.reduceLE, Int.reduceGT, Int.reduceGE, Int.reduceAdd, Int.reduceSub, Int.reduceToNat, Int.reduceBNe, Int.reduceBEq, Nat.mul_one, Nat.zero_mul, he0]
      exact ⟨OD2, V2, ht.2 (by simpa using he0), hG3⟩
    · obtain ⟨ml, mw, es, c, a1, a2, a3, a4⟩ := ht.1 (by simpa using he0)
      simp only at a1
      simp -implicitDefEqProofs only [go_sem, reduceIte, Nat.reduceEqDiff, Nat.reduceAdd, Nat.reduceMul, Nat.reduceLT, Nat.reduceLeDiff, reduceCtorEq, Int.reduceEq, Int.reduceNeg, Nat.reduceSub, Int.reduceLT, Int.reduceLE, Int.reduceGT, Int.reduceGE, Int.reduceAdd, Int.reduceSub, Int.reduceToNat, Int.reduceBNe, Int.reduceBEq, Nat.mul_one, Nat.zero_mul, he0, a1, hp3, c1, c4, hdz, cid, erv, a2]
      exact ⟨OD2, V2, a3, a4⟩

theorem q12 (ho : OvS ov) {l p : Nat} {D : DM} {L : LM} {O OD V : List Nat} {n : Int} (h : SRep s l p D L O OD V) (hR : Room D L) (hn : W64 n) :
    WCall (fun k => call tbl ov k) 12 [ptr l, i64 n] s fun u s' => u = i64 (doneM D L n).2.2 ∧ ∃ OD' V', SRep s' l p (doneM D L n).1 (doneM D L n).2.1 O OD' V' ∧ GrownS s s' O OD V OD' V' := by
  refine WCall.of T.t12 rfl ?_
  obtain ⟨ml, mw, es, c, a1, a2, a3, a4, a5, a6, a7, a8, a9, a10⟩ := h.liveAt
  simp only [logC] at a1
  have n1 : ¬ l = s.next := by omega
  have n2 : ¬ ml = s.next := by omega
  cases hq : lookG L.live n with
  | none =>
    have el : ∀ nx, evP s.heap.get nx (.lookup .int (.agg #[i64 0, .string ⟨#[]⟩, .string ⟨#[]⟩, i64 0, i64 0]) true (.map (some ml)) (i64 n)) = some ⟨.tuple #[RQ0.val, .bool false], [], nx⟩ := fun nx => by
      rw [ev_lookup kindI a3 a2 ⟨_, rfl⟩, gr_get keyG_int a4, hq]; rfl
    have c1 : RQ0.cells.length = 5 := rfl
    have c2 : RQ0.cells.all isCell = true := rfl
    have hd : doneM D L n = (D, L, 4) := by unfold doneM; rw [hq]; rfl
    have hk : Kept [] s ⟨(s.heap.put s.next (some (.cells [i64 0, .string ⟨#[]⟩, .string ⟨#[]⟩, i64 0, i64 0] 32 0 false))).put s.next (some (.cells (storeL [i64 0, .string ⟨#[]⟩, .string ⟨#[]⟩, i64 0, i64 0] 0 RQ0.cells) 32 0 false)), s.next + 1⟩ :=
      ⟨Nat.le_succ _, fun j hj _ => by have : ¬ j = s.next := by omega
                                       simp only [Heap.get_put, this, if_false]⟩
    rw [hd]
    simp -implicitDefEqProofs only [fun12, code12, params, go_sem, reduceIte, Nat.reduceEqDiff, Nat.reduceAdd, Nat.reduceMul, Nat.reduceLT, Nat.reduceLeDiff, reduceCtorEq, Int.reduceEq, Int.reduceNeg, Nat.reduceSub, Int.reduceLT, Int.reduceLE, Int.reduceGT, Int.reduceGE, Int.reduceAdd, Int.reduceSub, Int.reduceToNat, Int.reduceBNe, Int.reduceBEq, Nat.mul_one, Nat.zero_mul, a1, n1, el, c1, c2]
    exact ⟨OD, V, h.kept hk (by simp) (by simp) (by simp), GrownS.kept hk⟩
  | some r =>
    have el : ∀ nx, evP s.heap.get nx (.lookup .int (.agg #[i64 0, .string ⟨#[]⟩, .string ⟨#[]⟩, i64 0, i64 0]) true (.map (some ml)) (i64 n)) = some ⟨.tuple #[r.val, .bool true], [], nx⟩ := fun nx => by
      rw [ev_lookup kindI a3 a2 ⟨_, rfl⟩, gr_get keyG_int a4, hq]; rfl
    have c1 : r.cells.length = 5 := rfl
    have c2 : r.cells.all isCell = true := rfl
    have c3 : storeL [i64 0, .string ⟨#[]⟩, .string ⟨#[]⟩, i64 0, i64 0] 0 r.cells = r.cells := rfl
    have hd : doneM D L n = addM D { L with live := delG L.live n } (doneF n) := by unfold doneM; rw [hq]; rfl
    obtain ⟨s1, hs1⟩ : ∃ s1 : St, s1 = ⟨(s.heap.put s.next (some (.cells [i64 0, .string ⟨#[]⟩, .string ⟨#[]⟩, i64 0, i64 0] 32 0 false))).put s.next (some (.cells r.cells 32 0 false)), s.next + 1⟩ := ⟨_, rfl⟩
    have hk : Kept [] s s1 := by
      rw [hs1]
      exact ⟨Nat.le_succ _, fun j hj _ => by have : ¬ j = s.next := by omega
                                             simp only [Heap.get_put, this, if_false]⟩
    have h1 : s1.heap.get l = some (.cells [ptr p, i64 L.most, i64 L.last, .map (some ml), .map (some mw), i64 L.next] 66 0 false) := (hk.2 l a9 (by simp)).trans a1
    have h2 : s1.heap.get ml = some (.map es c) := (hk.2 ml a8 (by simp)).trans a2
    have hS1 := h.kept hk (by simp) (by simp) (by simp)
    have ed : ∀ nx, evP s1.heap.get nx (.delete .int (.map (some ml)) (i64 n)) = some ⟨.tuple #[], [(ml, some (.map (mdel es (i64 n)) c))], nx⟩ := fun nx => ev_delete kindI a3 h2 ⟨_, rfl⟩
    obtain ⟨ml', mw', es', c', b1, b2, b3, b4, b5, b6, b7, b8, b9, b10⟩ := hS1.liveAt
    have hml : ml' = ml := by
      rw [h1] at b1
      simp only [logC, Option.some.injEq, AObj.cells.injEq, List.cons.injEq, Value.map.injEq, and_true, true_and] at b1
      exact b1.1.symm
    subst hml
    have hS2 := b10 (mdel es (i64 n)) c (delG L.live n) (a3.sub (mdel_sub _ _)) (gr_del keyG_int a4 _) (fun q hq => h.l.wide.live q ((delG_sub _ _).subset hq))
    obtain ⟨s2, hs2⟩ : ∃ s2 : St, s2 = ⟨s1.heap.put ml' (some (.map (mdel es (i64 n)) c)), s1.next⟩ := ⟨_, rfl⟩
    rw [← hs2] at hS2
    obtain ⟨hS2, hk2⟩ := hS2
    have hG2 : GrownS s s2 O OD V OD V := (GrownS.kept hk).trans (GrownS.one hk2 fun x hx => by rw [List.mem_singleton.1 hx]; exact b5)
    have ef1 : fillL [i64 0, .string ⟨#[]⟩, .string ⟨#[]⟩, i64 0, i64 0] [(0, 1, i64 n)] = some [i64 n, .string ⟨#[]⟩, .string ⟨#[]⟩, i64 0, i64 0] := rfl
    have ef2 : fillL [i64 0, i64 0, .string ⟨#[]⟩, .string ⟨#[]⟩, i64 0, i64 0] [(0, 1, i64 2), (1, 5, .agg [i64 n, .string ⟨#[]⟩, .string ⟨#[]⟩, i64 0, i64 0].toArray)] = some (doneF n).cells := rfl
    have e34 : (Value.agg (doneF n).cells.toArray) = (doneF n).val := rfl
    rw [hd]
    simp -implicitDefEqProofs only [fun12, code12, params, go_sem, reduceIte, Nat.reduceEqDiff, Nat.reduceAdd, Nat.reduceMul, Nat.reduceLT, Nat.reduceLeDiff, reduceCtorEq, Int.reduceEq, Int.reduceNeg, Nat.reduceSub, Int.reduceLT, Int.reduceLE, Int.reduceGT, Int.reduceGE, Int.reduceAdd, Int.reduceSub, Int.reduceToNat, Int.reduceBNe, Int.reduceBEq, Nat.mul_one, Nat.zero_mul, a1, n1, el, c1, c2, c3, ← hs1, h1, ed, ← hs2, ef1, ef2, e34]
    have hdl : (delG L.live n).length ≤ L.live.length := (delG_sub _ _).length_le
    refine WCall.mono (q29 (ov := ov) (r := doneF n) T ho hS2 ⟨hR.next, Nat.lt_of_le_of_lt hdl hR.live, hR.wait, hR.loose, hR.last⟩ ⟨by simpa [doneF, W64] using hn, by simp [doneF], by simp [doneF], by simp [doneF]⟩) ?_
    rintro u s3 ⟨rfl, OD3, V3, hS3, hG3⟩
    simp -implicitDefEqProofs only [go_sem, reduceIte, Nat.reduceEqDiff, Nat.reduceAdd, Nat.reduceMul, Nat.reduceLT, Nat.reduceLeDiff, reduceCtorEq, Int.reduceEq, Int.reduceNeg, Nat.reduceSub, Int.reduceLT, Int.reduceLE, Int.reduceGT, Int.reduceGE, Int.reduceAdd, Int.reduceSub, Int.reduceToNat, Int.reduceBNe, Int.reduceBEq, Nat.mul_one, Nat.zero_mul]
    exact ⟨OD3, V3, hS3, hG2.trans hG3⟩

theorem q16 (ho : OvS ov) {l p : Nat} {D : DM} {L : LM} {O OD V : List Nat} {b : ByteArray} {t : Int} (h : SRep s l p D L O OD V) (hR : Room D (applyL L (waitF b t))) (ht : W64 t) :
    WCall (fun k => call tbl ov k) 16 [ptr l, .string b, i64 t] s fun u s' => u = i64 (waitM D L b t).2.2 ∧ ∃ OD' V', SRep s' l p (waitM D L b t).1 (waitM D L b t).2.1 O OD' V' ∧ GrownS s s' O OD V OD' V' := by
  refine WCall.of T.t16 rfl ?_
  obtain ⟨r, hr⟩ : ∃ r, r = waitF b t := ⟨_, rfl⟩
  have c1 : r.cells.length = 6 := by rw [hr]; rfl
  have c2 : r.cells.all isCell = true := by rw [hr]; rfl
  have c3 : storeL [i64 0, i64 0, .string ⟨#[]⟩, .string ⟨#[]⟩, i64 0, i64 0] 0 r.cells = r.cells := by rw [hr]; rfl
  have c4 : r.cells.take 6 = r.cells := by rw [hr]; rfl
  have hdz : r.cells.drop 0 = r.cells := rfl
  have hw : r.Wide := by rw [hr]; exact ⟨by simp [waitF], by simpa [waitF, W64] using ht, by simp [waitF], by simp [waitF]⟩
  obtain ⟨s1, hs1⟩ : ∃ s1 : St, s1 = ⟨(s.heap.put s.next (some (.cells [i64 0, i64 0, .string ⟨#[]⟩, .string ⟨#[]⟩, i64 0, i64 0] 74 0 false))).put s.next (some (.cells r.cells 74 0 false)), s.next + 1⟩ := ⟨_, rfl⟩
  have hk1 : Kept [] s s1 := by
    rw [hs1]
    exact ⟨Nat.le_succ _, fun j hj _ => by have : ¬ j = s.next := by omega
                                           simp only [Heap.get_put, this, if_false]⟩
  have hp1 : s1.heap.get s.next = some (.cells r.cells 74 0 false) := by rw [hs1]; simp only [Heap.get_put, if_true]
  have ef1 : fillL [i64 0, .string ⟨#[]⟩, .string ⟨#[]⟩, i64 0, i64 0] [(1, 1, .string b), (4, 1, i64 t)] = some [i64 0, .string b, .string ⟨#[]⟩, i64 0, i64 t] := rfl
  have ef2 : fillL [i64 0, i64 0, .string ⟨#[]⟩, .string ⟨#[]⟩, i64 0, i64 0] [(0, 1, i64 3), (1, 5, .agg [i64 0, .string b, .string ⟨#[]⟩, i64 0, i64 t].toArray)] = some r.cells := by rw [hr]; rfl
  have e34 : (Value.agg r.cells.toArray) = r.val := rfl
  simp -implicitDefEqProofs only [fun16, code16, params, go_sem, reduceIte, Nat.reduceEqDiff, Nat.reduceAdd, Nat.reduceMul, Nat.reduceLT, Nat.reduceLeDiff, reduceCtorEq, Int.reduceEq, Int.reduceNeg, Nat.reduceSub, Int.reduceLT, Int.reduceLE, Int.reduceGT, Int.reduceGE, Int.reduceAdd, Int.reduceSub, Int.reduceToNat, Int.reduceBNe, Int.reduceBEq, Nat.mul_one, Nat.zero_mul, ef1, ef2, c1, c2, c3, c4, hdz, ← hs1, hp1, e34]
  refine WCall.mono (q34 (ov := ov) (s := s1) T hw) ?_
  rintro u s2 ⟨bv, rfl, hb, hk2, hbn⟩
  have hk12 := hk1.trans hk2
  have hS2 := h.kept hk12 (by simp) (by simp) (by simp)
  have hp2 : s2.heap.get s.next = some (.cells r.cells 74 0 false) := (hk2.2 s.next (by rw [hs1]; exact Nat.lt_succ_self _) (by simp)).trans hp1
  unfold encE
  cases hs : r.sound with
  | false =>
    have hd : waitM D L b t = (D, L, 2) := by unfold waitM; rw [← hr, hs]; rfl
    rw [hd]
    simp -implicitDefEqProofs only [go_sem, reduceIte, Nat.reduceEqDiff, Nat.reduceAdd, Nat.reduceMul, Nat.reduceLT, Nat.reduceLeDiff, reduceCtorEq, Int.reduceEq, Int.reduceNeg, Nat.reduceSub, Int.reduceLT, Int.reduceLE, Int.reduceGT, Int.reduceGE, Int.reduceAdd, Int.reduceSub, Int.reduceToNat, Int.reduceBNe, Int.reduceBEq, Nat.mul_one, Nat.zero_mul]
    exact ⟨OD, V, hS2, GrownS.kept hk12⟩
  | true =>
    have hd : waitM D L b t = addM D (applyL L r) r := by unfold waitM; rw [← hr, hs]; rfl
    rw [hd]
    obtain ⟨h1r, _⟩ := r.of_sound hs
    have hrid : r.id = 0 := by rw [hr]; rfl
    simp -implicitDefEqProofs only [go_sem, reduceIte, Nat.reduceEqDiff, Nat.reduceAdd, Nat.reduceMul, Nat.reduceLT, Nat.reduceLeDiff, reduceCtorEq, Int.reduceEq, Int.reduceNeg, Nat.reduceSub, Int.reduceLT, Int.reduceLE, Int.reduceGT, Int.reduceGE, Int.reduceAdd, Int.reduceSub, Int.reduceToNat, Int.reduceBNe, Int.reduceBEq, Nat.mul_one, Nat.zero_mul, hp2, c1, c4, hdz, e34]
    refine WCall.mono (q28 (ov := ov) T hS2.l hw (by omega) (by omega)) ?_
    rintro u s3 ⟨rfl, hL3, hk3⟩
    have hp3 : s3.heap.get s.next = some (.cells r.cells 74 0 false) := (hk3.2 s.next (by have := hk2.1; rw [hs1] at this; exact this) (fun hx => Nat.lt_irrefl _ (h.l.lt _ hx))).trans hp2
    have hS3 : SRep s3 l p D (applyL L r) O OD V := ⟨hL3, hS2.d.kept hk3 (fun x hx hx' => (h.dis x hx').1 hx) (fun x hx hx' => (h.dis x hx').2 hx), h.dis⟩
    have hG3 : GrownS s s3 O OD V OD V := (GrownS.kept hk12).trans (GrownS.one hk3 fun x hx => hx)
    simp -implicitDefEqProofs only [go_sem, reduceIte, Nat.reduceEqDiff, Nat.reduceAdd, Nat.reduceMul, Nat.reduceLT, Nat.reduceLeDiff, reduceCtorEq, Int.reduceEq, Int.reduceNeg, Nat.reduceSub, Int.reduceLT, Int.reduceLE, Int.reduceGT, Int.reduceGE, Int.reduceAdd, Int.reduceSub, Int.reduceToNat, Int.reduceBNe, Int.reduceBEq, Nat.mul_one, Nat.zero_mul, hp3, c1, c4, hdz, e34]
    refine WCall.mono (q29 (ov := ov) T ho hS3 (by rw [hr]; exact hR) hw) ?_
    rintro u s4 ⟨rfl, OD4, V4, hS4, hG4⟩
    simp -implicitDefEqProofs only [go_sem, reduceIte, Nat.reduceEqDiff, Nat.reduceAdd, Nat.reduceMul, Nat.reduceLT, Nat.reduceLeDiff, reduceCtorEq, Int.reduceEq, Int.reduceNeg, Nat.reduceSub, Int.reduceLT, Int.reduceLE, Int.reduceGT, Int.reduceGE, Int.reduceAdd, Int.reduceSub, Int.reduceToNat, Int.reduceBNe, Int.reduceBEq, Nat.mul_one, Nat.zero_mul]
    exact ⟨OD4, V4, hS4, hG3.trans hG4⟩
end
end Go.Proofs.Ytlcfmfljmabaeaa


/-
  Open.
-/
set_option maxRecDepth 100000
set_option linter.unusedVariables false
set_option linter.unusedSimpArgs false
namespace Go.Proofs.Ytlcfmfljmabaeaa
open Go Go.Abs Go.Abs.K

def applyAll (L : LM) (rs : List FRec) : LM := rs.foldl applyL L
def scanD (D : DM) (n : Int) : List FRec × Nat := scanL (readB D n).length (readB D n) 0
def openStep (D : DM) (L : LM) (n : Int) : LM := { applyAll L (scanD D n).1 with last := if (scanD D n).2 < (readB D n).length then n + 1 else n }
def openM (D : DM) (segs : Int) : LM := (keysF D).foldl (openStep D) ⟨segs, 0, 1, [], []⟩

theorem scanL_len : ∀ (f : Nat) (zs : List Int) (i : Nat), (scanL f zs i).1.length ≤ f := by
  intro f
  induction f with
  | zero => intro zs i; exact Nat.le_refl _
  | succ f ih =>
    intro zs i
    simp only [scanL]
    split
    · exact Nat.zero_le _
    · exact Nat.succ_le_succ (ih _ _)
theorem DRep.dw {s : St} {p : Nat} {D : DM} {O V : List Nat} (h : DRep s p D O V) : DW D := by
  obtain ⟨m, lv, S, es, clock, _, _, _, _, _, _, _, _, _, _, _, _, hw⟩ := h
  exact hw
theorem DW.key {D : DM} (h : DW D) {n : Int} (hn : n ∈ keysF D) : W64 n := by
  rw [(sortZ_perm _).mem_iff] at hn
  obtain ⟨q, hq, rfl⟩ := List.mem_map.1 hn
  exact h.keys q hq
theorem DW.keysLen {D : DM} (h : DW D) : (keysF D).length ≤ 16 := by
  have := h.fit; have := h.most
  simp only [sortZ_length, List.length_map]; omega
theorem DW.read {D : DM} (h : DW D) (n : Int) : (readB D n).length ≤ 2048 := by
  unfold readB
  cases hx : lookF D.F n with
  | none => simp
  | some b => exact h.len _ (lookF_mem hx)

theorem drop_cons {α : Type} {l : List α} {i : Nat} {x : α} (h : l[i]? = some x) : l.drop i = x :: l.drop (i + 1) := by
  obtain ⟨hi, he⟩ := List.getElem?_eq_some_iff.1 h
  rw [List.drop_eq_getElem_cons hi, he]

def i9 : ACode := match code9 with | .seq _ (.seq _ (.seq _ (.seq (.seq _ (.block _ (.loop _ (.seq _ (.seq _ (.seq (.block _ (.seq _ (.seq _ (.seq _ (.seq x _))))) _)))))) _))) => x | _ => .skip

theorem code9_eq : code9 =
 .seq (R [o 4 (.mov (.const (.pointer none))), o 5 (.mov (i 0))])
 (.seq (.seq (R [o 15 (.mov (v 0)), o 16 (.eq false .pointer (v 15) (.const (.pointer none)))])
  (.cond (v 16) (.seq (R [o 4 (.mov (.const (.pointer none))), o 5 (.mov (i 1))])
   (.ret))
  (.skip)))
 (.seq (R [o 17 (.mov (v 0)), o 18 (.mov (v 1)), o 19 (.mkMap none), o 20 (.mkMap none), o 21 (.build [(.pointer none), (.int .i64 0), (.int .i64 0), (.map none), (.map none), (.int .i64 0)] [(0, 1, (v 17)), (1, 1, (v 18)), (3, 1, (v 19)), (4, 1, (v 20)), (5, 1, (i 1))]), o 22 (.box 66 (v 21)), o 6 (.mov (v 22))])
 (.seq (.seq (R [o 23 (.mov (v 0)), o 24 (.call (.func 25) [(v 23)]), o 25 (.len .slice (v 24)), o 26 (.mov (i 0))])
  (.block 0 (.loop [0, 6, 24, 25, 26] (.seq (R [o 27 (.bin .lss (v 26) (v 25))])
    (.seq (.cond (v 27) (.skip)
     (.exit 0))
    (.seq (.block 1 (.seq (R [o 28 (.indexAddr 1 (v 24) (v 26)), o 29 (.load none (v 28)), o 8 (.mov (v 29))])
      (.seq (R [o 31 (.mov (v 0)), o 32 (.mov (v 8)), o 33 (.call (.func 26) [(v 31), (v 32)]), o 30 (.mov (v 33)), o 34 (.extract (v 30) 0), o 35 (.extract (v 30) 1), o 9 (.mov (v 34)), o 10 (.mov (v 35))])
      (.seq (R [o 37 (.mov (v 9)), o 38 (.call (.func 27) [(v 37)]), o 36 (.mov (v 38)), o 39 (.extract (v 36) 0), o 40 (.extract (v 36) 1), o 11 (.mov (v 39)), o 12 (.mov (v 40))])
      (.seq i9
      (.seq (R [o 51 (.mov (v 6)), o 52 (.mov (v 8)), o 53 (.nilCheck (v 51)), o 54 (.fieldAddr 2 (v 53)), on (.store 1 (v 54) (v 52))])
      (.seq (R [o 55 (.mov (v 12)), o 56 (.mov (v 9)), o 57 (.len .slice (v 56)), o 58 (.bin .lss (v 55) (v 57))])
      (.cond (v 58) (R [o 59 (.mov (v 6)), o 60 (.mov (v 8)), o 61 (.bin .add (v 60) (i 1)), o 62 (.nilCheck (v 59)), o 63 (.fieldAddr 2 (v 62)), on (.store 1 (v 63) (v 61))])
      (.skip)))))))))
    (R [o 64 (.bin .add (v 26) (i 1)), o 26 (.mov (v 64))])))))))
 (.seq (R [o 65 (.mov (v 6)), o 4 (.mov (v 65)), o 5 (.mov (i 0))])
 (.ret))))) := rfl

section
variable {tbl : FuncId → Option AFun} {ov : CallSem} {s : St} (T : STbl tbl)
include T

theorem i9_spec {l p : Nat} {L : LM} {O : List Nat} {lv : Value} {rs : List FRec} {e : Env} (h : LRep s l p L O) (hr : RowV 6 s lv (recsR rs)) (hd : ∀ x ∈ wrOf lv, x ∉ O) (hn : rs.length < 2 ^ 40)
    (hw : ∀ r ∈ rs, r.Wide ∧ r.id < 9223372036854775807 ∧ r.host.size ≤ 4611686018427387904) {v0 v8 v9 v12 v24 v25 v26 : Value}
    (g0 : e.get 0 = some v0) (g6 : e.get 6 = some (ptr l)) (g8 : e.get 8 = some v8) (g9 : e.get 9 = some v9) (g11 : e.get 11 = some lv) (g12 : e.get 12 = some v12) (g24 : e.get 24 = some v24) (g25 : e.get 25 = some v25) (g26 : e.get 26 = some v26) :
    WCode (fun k => call tbl ov k) i9 e s fun x e' s' => x = .normal ∧ e'.get 0 = some v0 ∧ e'.get 6 = some (ptr l) ∧ e'.get 8 = some v8 ∧ e'.get 9 = some v9 ∧ e'.get 12 = some v12 ∧ e'.get 24 = some v24 ∧ e'.get 25 = some v25 ∧ e'.get 26 = some v26 ∧
      LRep s' l p (applyAll L rs) O ∧ Kept O s s' := by
  obtain ⟨la, lc, hlv⟩ := hr.len
  rw [List.length_map] at hlv
  subst hlv
  simp -implicitDefEqProofs only [i9, code9, go_sem, reduceIte, Nat.reduceEqDiff, Nat.reduceAdd, Nat.reduceMul, Nat.reduceLT, Nat.reduceLeDiff, reduceCtorEq, Int.reduceEq, Int.reduceNeg, Nat.reduceSub, Int.reduceLT, Int.reduceLE, Int.reduceGT, Int.reduceGE, Int.reduceAdd, Int.reduceSub, Int.reduceToNat, Int.reduceBNe, Int.reduceBEq, Nat.mul_one, Nat.zero_mul, g11]
  obtain ⟨I, hI⟩ : ∃ I : Nat → List Value → St → Prop, I = fun m vs s' => Kept O s s' ∧ ∃ (i : Nat) (L1 : LM), i ≤ rs.length ∧ m = rs.length - i ∧ vs = [v0, ptr l, v8, v9, v12, v24, v25, v26, .slice la rs.length lc, i64 (rs.length : Nat), i64 (i : Nat)] ∧
    LRep s' l p L1 O ∧ applyAll L1 (rs.drop i) = applyAll L rs := ⟨_, rfl⟩
  refine wc_loopV I rs.length ?_ ?_
  · simp -implicitDefEqProofs only [go_sem, reduceIte, Nat.reduceEqDiff, Nat.reduceAdd, Nat.reduceMul, Nat.reduceLT, Nat.reduceLeDiff, reduceCtorEq, Int.reduceEq, Int.reduceNeg, Nat.reduceSub, Int.reduceLT, Int.reduceLE, Int.reduceGT, Int.reduceGE, Int.reduceAdd, Int.reduceSub, Int.reduceToNat, Int.reduceBNe, Int.reduceBEq, Nat.mul_one, Nat.zero_mul, g0, g6, g8, g9, g12, g24, g25, g26]
    rw [hI]
    exact ⟨Kept.refl _ _, 0, L, by omega, by omega, rfl, h, rfl⟩
  · intro m vs s1 hi _
    rw [hI] at hi
    obtain ⟨hk1, i, L1, hil, rfl, rfl, hL, hA⟩ := hi
    cases hlt : decide ((i : Int) < (rs.length : Int))
    · have hie : i = rs.length := by have := of_decide_eq_false hlt; omega
      subst hie
      rw [List.drop_length] at hA
      simp -implicitDefEqProofs only [go_sem, reduceIte, Nat.reduceEqDiff, Nat.reduceAdd, Nat.reduceMul, Nat.reduceLT, Nat.reduceLeDiff, reduceCtorEq, Int.reduceEq, Int.reduceNeg, Nat.reduceSub, Int.reduceLT, Int.reduceLE, Int.reduceGT, Int.reduceGE, Int.reduceAdd, Int.reduceSub, Int.reduceToNat, Int.reduceBNe, Int.reduceBEq, Nat.mul_one, Nat.zero_mul, hlt]
      rw [← hA]
      exact ⟨hL, hk1⟩
    · have hiN : i < rs.length := by have := of_decide_eq_true hlt; omega
      obtain ⟨r, hk⟩ : ∃ r, rs[i]? = some r := ⟨_, List.getElem?_eq_getElem hiN⟩
      rw [drop_cons hk] at hA
      obtain ⟨hw1, hw2, hw3⟩ := hw r (List.mem_of_getElem? hk)
      obtain ⟨id, o, cap, cc, T', ro, hv, hid, hg, hle, hrw, hgi⟩ := row_one (hr.keptT hk1 hd) hiN hk
      cases hv
      have n1 : ¬ id = s1.next := by omega
      have hix : 0 ≤ (i : Int) ∧ (i : Int) < (rs.length : Int) := by omega
      have w4 : IntKind.i64.wrap ((i : Int) + 1) = ((i + 1 : Nat) : Int) := by rw [IntKind.wrap_i64]; omega
      have c1 : r.cells.length = 6 := rfl
      have c2 : r.cells.all isCell = true := rfl
      have c3 : storeL [i64 0, i64 0, .string ⟨#[]⟩, .string ⟨#[]⟩, i64 0, i64 0] 0 r.cells = r.cells := rfl
      have c4 : r.cells.take 6 = r.cells := rfl
      have hdz : r.cells.drop 0 = r.cells := rfl
      have e34 : (Value.agg r.cells.toArray) = r.val := rfl
      obtain ⟨s3, hs3⟩ : ∃ s3 : St, s3 = ⟨(s1.heap.put s1.next (some (.cells [i64 0, i64 0, .string ⟨#[]⟩, .string ⟨#[]⟩, i64 0, i64 0] 74 0 false))).put s1.next (some (.cells r.cells 74 0 false)), s1.next + 1⟩ := ⟨_, rfl⟩
      have hk3 : Kept [] s1 s3 := by
        rw [hs3]
        exact ⟨Nat.le_succ _, fun j hj _ => by have : ¬ j = s1.next := by omega
                                               simp only [Heap.get_put, this, if_false]⟩
      have hp3 : s3.heap.get s1.next = some (.cells r.cells 74 0 false) := by rw [hs3]; simp only [Heap.get_put, if_true]
      simp -implicitDefEqProofs only [go_sem, reduceIte, Nat.reduceEqDiff, Nat.reduceAdd, Nat.reduceMul, Nat.reduceLT, Nat.reduceLeDiff, reduceCtorEq, Int.reduceEq, Int.reduceNeg, Nat.reduceSub, Int.reduceLT, Int.reduceLE, Int.reduceGT, Int.reduceGE, Int.reduceAdd, Int.reduceSub, Int.reduceToNat, Int.reduceBNe, Int.reduceBEq, Nat.mul_one, Nat.zero_mul, hlt, hix, hg, hle, hrw, n1, Nat.add_zero, c1, c2, c3, c4, hdz, e34, ← hs3, hp3]
      refine WCall.mono (q28 (ov := ov) T (hL.kept hk3 (by simp)) hw1 hw2 hw3) ?_
      rintro u s4 ⟨rfl, hL4, hk4⟩
      simp -implicitDefEqProofs only [go_sem, reduceIte, Nat.reduceEqDiff, Nat.reduceAdd, Nat.reduceMul, Nat.reduceLT, Nat.reduceLeDiff, reduceCtorEq, Int.reduceEq, Int.reduceNeg, Nat.reduceSub, Int.reduceLT, Int.reduceLE, Int.reduceGT, Int.reduceGE, Int.reduceAdd, Int.reduceSub, Int.reduceToNat, Int.reduceBNe, Int.reduceBEq, Nat.mul_one, Nat.zero_mul, w4]
      rw [hI]
      exact ⟨rs.length - (i + 1), by omega, (hk1.comp (hk3.sub (T := O) (by simp)) (fun x hx => .inl hx)).trans hk4, i + 1, applyL L1 r, by omega, rfl, rfl, hL4, hA⟩

theorem q9 (ho : OvS ov) {p : Nat} {D : DM} {OD V : List Nat} {segs : Int} (h : DRep s p D OD V) (hsg : W64 segs) (hk : ∀ n ∈ keysF D, n < 9223372036854775807 ∧ ∀ r ∈ (scanD D n).1, r.Wide ∧ r.id < 9223372036854775807 ∧ r.host.size ≤ 4611686018427387904) :
    WCall (fun k => call tbl ov k) 9 [ptr p, i64 segs] s fun u s' => ∃ l O, u = .tuple #[ptr l, i64 0] ∧ SRep s' l p D (openM D segs) O OD V ∧ Kept [] s s' ∧ ∀ x ∈ O, s.next ≤ x := by
  refine WCall.of T.t9 rfl ?_
  rw [show fun9.body = _ from code9_eq, show fun9.res = [.tmp 4, .tmp 5] from rfl]
  obtain ⟨L0, hL0⟩ : ∃ L0 : LM, L0 = ⟨segs, 0, 1, [], []⟩ := ⟨_, rfl⟩
  have ef : fillL [.pointer none, i64 0, i64 0, .map none, .map none, i64 0] [(0, 1, ptr p), (1, 1, i64 segs), (3, 1, .map (some s.next)), (4, 1, .map (some (s.next + 1))), (5, 1, i64 1)] = some [ptr p, i64 segs, i64 0, .map (some s.next), .map (some (s.next + 1)), i64 1] := rfl
  obtain ⟨s1, hs1⟩ : ∃ s1 : St, s1 = ⟨((s.heap.put s.next (some (.map [] 0))).put (s.next + 1) (some (.map [] 0))).put (s.next + 1 + 1) (some (.cells [ptr p, i64 segs, i64 0, .map (some s.next), .map (some (s.next + 1)), i64 1] 66 0 false)), s.next + 1 + 1 + 1⟩ := ⟨_, rfl⟩
  have hk1 : Kept [] s s1 := by
    rw [hs1]
    exact ⟨by simp only; omega, fun j hj _ => by simp only [Heap.get_put]; rw [if_neg (by omega), if_neg (by omega), if_neg (by omega)]⟩
  have hL1 : LRep s1 (s.next + 2) p L0 [s.next + 2, s.next, s.next + 1] := by
    rw [hs1, hL0]
    have n1 : ¬ s.next = s.next + 2 := by omega
    have n2 : ¬ s.next = s.next + 1 := by omega
    have n3 : ¬ s.next + 1 = s.next + 2 := by omega
    exact ⟨s.next, s.next + 1, [], 0, [], 0, by simp only [Heap.get_put, if_true], rfl, by simp only [Heap.get_put, n1, n2, if_false, if_true], ⟨by simp, by simp, by simp, .nil⟩, .nil, by simp only [Heap.get_put, n3, if_false, if_true], ⟨by simp, by simp, by simp, .nil⟩, .nil, by omega, by omega, by omega, by simp only; omega, by simp only; omega, by simp only; omega,
      ⟨hsg, by unfold W64; simp, by unfold W64; simp, by simp, by simp⟩⟩
  have hS1 : SRep s1 (s.next + 2) p D L0 [s.next + 2, s.next, s.next + 1] OD V := ⟨hL1, h.kept hk1 (by simp) (by simp), fun x hx => ⟨fun hx' => ?_, fun hx' => ?_⟩⟩
  rotate_left
  · have := h.lt.1 x hx'; simp only [List.mem_cons, List.not_mem_nil, or_false] at hx; omega
  · have := h.lt.2 x hx'; simp only [List.mem_cons, List.not_mem_nil, or_false] at hx; omega
  obtain ⟨O, hO⟩ : ∃ O, O = [s.next + 2, s.next, s.next + 1] := ⟨_, rfl⟩
  rw [← hO] at hS1
  have hOn : ∀ x ∈ O, s.next ≤ x := fun x hx => by rw [hO] at hx; simp only [List.mem_cons, List.not_mem_nil, or_false] at hx; omega
  have hOl : ∀ x ∈ O, x < s1.next := hS1.l.lt
  have e2 : s.next + 1 + 1 = s.next + 2 := by omega
  simp -implicitDefEqProofs only [params, go_sem, reduceIte, Nat.reduceEqDiff, Nat.reduceAdd, Nat.reduceMul, Nat.reduceLT, Nat.reduceLeDiff, reduceCtorEq, Int.reduceEq, Int.reduceNeg, Nat.reduceSub, Int.reduceLT, Int.reduceLE, Int.reduceGT, Int.reduceGE, Int.reduceAdd, Int.reduceSub, Int.reduceToNat, Int.reduceBNe, Int.reduceBEq, Nat.mul_one, Nat.zero_mul, ef, ← hs1, e2]
  refine WCall.mono (p25 (ov := ov) T.d ho.o hS1.d) ?_
  rintro u s2 ⟨hr2, hk2, hnew2⟩
  have hS2 := hS1.kept hk2 (by simp) (by simp) (by simp)
  have hn1 := hk1.1
  have hn2 := hk2.1
  obtain ⟨la, lc, hlv⟩ := hr2.len
  have hkl := h.dw.keysLen
  rw [List.length_map] at hlv
  subst hlv
  simp -implicitDefEqProofs only [go_sem, reduceIte, Nat.reduceEqDiff, Nat.reduceAdd, Nat.reduceMul, Nat.reduceLT, Nat.reduceLeDiff, reduceCtorEq, Int.reduceEq, Int.reduceNeg, Nat.reduceSub, Int.reduceLT, Int.reduceLE, Int.reduceGT, Int.reduceGE, Int.reduceAdd, Int.reduceSub, Int.reduceToNat, Int.reduceBNe, Int.reduceBEq, Nat.mul_one, Nat.zero_mul]
  obtain ⟨l, hl⟩ : ∃ l, l = s.next + 2 := ⟨_, rfl⟩
  have hlO : l ∈ O := by rw [hO, hl]; simp
  rw [← hl] at hS1 hS2 ⊢
  have hDk : ∀ {s' : St}, Kept O s2 s' → DRep s' p D OD V := fun hk => hS2.d.kept hk (fun x hx hx' => (hS1.dis x hx').1 hx) (fun x hx hx' => (hS1.dis x hx').2 hx)
  obtain ⟨I, hI⟩ : ∃ I : Nat → List Value → St → Prop, I = fun m vs s' => Kept O s2 s' ∧ ∃ (i : Nat) (L1 : LM), i ≤ (keysF D).length ∧ m = (keysF D).length - i ∧ vs = [ptr p, ptr l, .slice la (keysF D).length lc, i64 ((keysF D).length : Nat), i64 (i : Nat)] ∧
    LRep s' l p L1 O ∧ ((keysF D).drop i).foldl (openStep D) L1 = openM D segs := ⟨_, rfl⟩
  refine wc_loopV I (keysF D).length ?_ ?_
  · simp -implicitDefEqProofs only [go_sem, reduceIte, Nat.reduceEqDiff, Nat.reduceAdd, Nat.reduceMul, Nat.reduceLT, Nat.reduceLeDiff, reduceCtorEq, Int.reduceEq, Int.reduceNeg, Nat.reduceSub, Int.reduceLT, Int.reduceLE, Int.reduceGT, Int.reduceGE, Int.reduceAdd, Int.reduceSub, Int.reduceToNat, Int.reduceBNe, Int.reduceBEq, Nat.mul_one, Nat.zero_mul]
    rw [hI]
    refine ⟨Kept.refl _ _, 0, L0, by omega, by omega, rfl, hS2.l, by rw [hL0]; rfl⟩
  · intro m vs s3 hi _
    rw [hI] at hi
    obtain ⟨hk3, i, L1, hil, rfl, rfl, hL3, hF⟩ := hi
    have hn3 := hk3.1
    cases hlt : decide ((i : Int) < ((keysF D).length : Int))
    · have hie : i = (keysF D).length := by have := of_decide_eq_false hlt; omega
      subst hie
      rw [List.drop_length] at hF
      simp -implicitDefEqProofs only [go_sem, reduceIte, Nat.reduceEqDiff, Nat.reduceAdd, Nat.reduceMul, Nat.reduceLT, Nat.reduceLeDiff, reduceCtorEq, Int.reduceEq, Int.reduceNeg, Nat.reduceSub, Int.reduceLT, Int.reduceLE, Int.reduceGT, Int.reduceGE, Int.reduceAdd, Int.reduceSub, Int.reduceToNat, Int.reduceBNe, Int.reduceBEq, Nat.mul_one, Nat.zero_mul, hlt]
      rw [← hF]
      exact ⟨l, O, rfl, ⟨hL3, hDk hk3, hS1.dis⟩, ((hk1.trans hk2).comp hk3 fun x hx => .inr (hOn x hx)), hOn⟩
    · have hiN : i < (keysF D).length := by have := of_decide_eq_true hlt; omega
      obtain ⟨n, hnk⟩ : ∃ n, (keysF D)[i]? = some n := ⟨_, List.getElem?_eq_getElem hiN⟩
      rw [drop_cons hnk, List.foldl_cons] at hF
      obtain ⟨hkn, hkr⟩ := hk n (List.mem_of_getElem? hnk)
      obtain ⟨id, o, cap, cc, T', ro, hv, hid, hg, hgi⟩ := row1_at (hr2.keptT hk3 fun x hx hx' => by have := hnew2 x hx; have := hOl x hx'; omega) hiN hnk
      cases hv
      have hix : 0 ≤ (i : Int) ∧ (i : Int) < ((keysF D).length : Int) := by omega
      have w4 : IntKind.i64.wrap ((i : Int) + 1) = ((i + 1 : Nat) : Int) := by rw [IntKind.wrap_i64]; omega
      simp -implicitDefEqProofs only [go_sem, reduceIte, Nat.reduceEqDiff, Nat.reduceAdd, Nat.reduceMul, Nat.reduceLT, Nat.reduceLeDiff, reduceCtorEq, Int.reduceEq, Int.reduceNeg, Nat.reduceSub, Int.reduceLT, Int.reduceLE, Int.reduceGT, Int.reduceGE, Int.reduceAdd, Int.reduceSub, Int.reduceToNat, Int.reduceBNe, Int.reduceBEq, Nat.mul_one, Nat.zero_mul, hlt, hix, hg, hgi, Nat.add_zero, Nat.mul_one]
      refine WCall.mono (p26 (ov := ov) (n := n) T.d (hDk hk3)) ?_
      rintro u s4 ⟨bv, rfl, hb, hk4, hbn⟩
      obtain ⟨ba, bc, rfl⟩ := hb.len
      have hL4 := hL3.kept hk4 (by simp)
      have hbl : (readB D n).length ≤ 2048 := by
        obtain ⟨m, lv, S, es, clock, _, _, _, _, _, _, _, _, _, _, _, _, hw⟩ := h
        unfold readB
        cases hx : lookF D.F n with
        | none => simp
        | some b => exact hw.len _ (lookF_mem hx)
      simp -implicitDefEqProofs only [go_sem, reduceIte, Nat.reduceEqDiff, Nat.reduceAdd, Nat.reduceMul, Nat.reduceLT, Nat.reduceLeDiff, reduceCtorEq, Int.reduceEq, Int.reduceNeg, Nat.reduceSub, Int.reduceLT, Int.reduceLE, Int.reduceGT, Int.reduceGE, Int.reduceAdd, Int.reduceSub, Int.reduceToNat, Int.reduceBNe, Int.reduceBEq, Nat.mul_one, Nat.zero_mul]
      refine WCall.mono (scan_spec (ov := ov) T.f hb (by omega)) ?_
      rintro u s5 ⟨hk5, w, S, rfl, hR, hSn⟩
      have hwS := wrOf_rowsO hR
      have hL5 := hL4.kept hk5 (by simp)
      have hsl : (scanD D n).1.length < 2 ^ 40 := by have := scanL_len (readB D n).length (readB D n) 0; unfold scanD; omega
      simp -implicitDefEqProofs only [go_sem, reduceIte, Nat.reduceEqDiff, Nat.reduceAdd, Nat.reduceMul, Nat.reduceLT, Nat.reduceLeDiff, reduceCtorEq, Int.reduceEq, Int.reduceNeg, Nat.reduceSub, Int.reduceLT, Int.reduceLE, Int.reduceGT, Int.reduceGE, Int.reduceAdd, Int.reduceSub, Int.reduceToNat, Int.reduceBNe, Int.reduceBEq, Nat.mul_one, Nat.zero_mul]
      refine WCode.mono ?_ (i9_spec (lv := w) (rs := (scanD D n).1) T hL5 hR.toV (fun x hx hx' => by rw [hwS] at hx; have := hSn x hx; have := hL4.lt x hx'; omega) hsl hkr (by rfl) (by rfl) (by rfl) (by rfl) (by rfl) (by rfl) (by rfl) (by rfl) (by rfl))
      rintro x e6 s6 ⟨rfl, g0, g6, g8, g9, g12, g24, g25, g26, hL6, hk6⟩
      have hk36 : Kept O s3 s6 := ((hk4.trans hk5).sub (T := O) (by simp)).trans hk6
      have hS6 : SRep s6 l p D _ O OD V := ⟨hL6, hDk (hk3.trans hk36), hS1.dis⟩
      have hnW := h.dw.key (List.mem_of_getElem? hnk)
      obtain ⟨ml, mw, a1, a2, a3, hset⟩ := hS6.setLast
      simp only [logC] at a1 hset
      obtain ⟨hS7, hk7⟩ := hset n hnW
      obtain ⟨hS8, hk8⟩ := hset (n + 1) (by unfold W64 at *; omega)
      have w5 : IntKind.i64.wrap (n + 1) = n + 1 := by unfold W64 at hnW; rw [IntKind.wrap_i64]; omega
      have hcl : decide (((scanL (readB D n).length (readB D n) 0).2 : Int) < ((readB D n).length : Int)) = decide ((scanD D n).2 < (readB D n).length) := by unfold scanD; simp
      have hk7' : Kept O s6 _ := hk7.sub (T := O) fun x hx => by rw [List.mem_singleton.1 hx]; exact hlO
      cases hc : decide ((scanD D n).2 < (readB D n).length)
      · have hst : openStep D L1 n = { applyAll L1 (scanD D n).1 with last := n } := by unfold openStep; rw [if_neg (of_decide_eq_false hc)]
        rw [hc] at hcl
        simp -implicitDefEqProofs only [go_sem, reduceIte, Nat.reduceEqDiff, Nat.reduceAdd, Nat.reduceMul, Nat.reduceLT, Nat.reduceLeDiff, reduceCtorEq, Int.reduceEq, Int.reduceNeg, Nat.reduceSub, Int.reduceLT, Int.reduceLE, Int.reduceGT, Int.reduceGE, Int.reduceAdd, Int.reduceSub, Int.reduceToNat, Int.reduceBNe, Int.reduceBEq, Nat.mul_one, Nat.zero_mul, g0, g6, g8, g9, g12, g24, g25, g26, a1, hcl, w4]
        rw [hI]
        rw [hst] at hF
        exact ⟨(keysF D).length - (i + 1), by omega, hk3.trans (hk36.trans hk7'), i + 1, _, by omega, rfl, rfl, hS7.l, hF⟩
      · have hst : openStep D L1 n = { applyAll L1 (scanD D n).1 with last := n + 1 } := by unfold openStep; rw [if_pos (of_decide_eq_true hc)]
        rw [hc] at hcl
        obtain ⟨ml2, mw2, b1, _, _, hset2⟩ := hS7.setLast
        simp only [logC] at b1 hset2
        obtain ⟨hS9, hk9⟩ := hset2 (n + 1) (by unfold W64 at *; omega)
        simp only [Heap.get_put, if_true, Option.some.injEq, AObj.cells.injEq, List.cons.injEq, Value.map.injEq, and_true, true_and] at b1
        obtain ⟨rfl, rfl⟩ := b1
        have hk9' : Kept O _ _ := hk9.sub (T := O) fun x hx => by rw [List.mem_singleton.1 hx]; exact hlO
        simp -implicitDefEqProofs only [go_sem, reduceIte, Nat.reduceEqDiff, Nat.reduceAdd, Nat.reduceMul, Nat.reduceLT, Nat.reduceLeDiff, reduceCtorEq, Int.reduceEq, Int.reduceNeg, Nat.reduceSub, Int.reduceLT, Int.reduceLE, Int.reduceGT, Int.reduceGE, Int.reduceAdd, Int.reduceSub, Int.reduceToNat, Int.reduceBNe, Int.reduceBEq, Nat.mul_one, Nat.zero_mul, g0, g6, g8, g9, g12, g24, g25, g26, a1, hcl, w4, w5]
        rw [hI]
        rw [hst] at hF
        exact ⟨(keysF D).length - (i + 1), by omega, hk3.trans (hk36.trans (hk7'.trans hk9')), i + 1, _, by omega, rfl, rfl, hS9.l, hF⟩
end
end Go.Proofs.Ytlcfmfljmabaeaa
