/-
  The reference's disk: Crash.
-/
import Derived.Test.YtgnpafmhdmmmhaaD14
set_option maxRecDepth 100000
set_option linter.unusedVariables false
set_option linter.unusedSimpArgs false
namespace Go.Proofs.Ytgnpafmhdmmmhaa
open Go Go.Abs Go.Abs.K

/-- The marks of bytes that may not last. -/
def marksZ (bs : List (Int × Int)) : List Int := (bs.map fun z => z.2).filter fun x => decide (x ≥ 0)
def marksS (sg : List (Int × List (Int × Int))) : List Int := (sg.map fun p => marksZ p.2).flatten
/-- So many stand ahead. -/
def aheadN (ms : List Int) (x : Int) : Nat := (ms.filter fun y => decide (y < x)).length
def staysB (ms : List Int) (keep : Int) (z : Int × Int) : Bool := decide (z.2 < 0) || decide ((aheadN ms z.2 : Int) < keep)
def crashZ (ms : List Int) (keep : Int) (bs : List (Int × Int)) : List (Int × Int) := (bs.filter (staysB ms keep)).map lastZ
abbrev crashP (ms : List Int) (keep : Int) (p : Int × List (Int × Int)) : Int × List (Int × Int) := (p.1, crashZ ms keep p.2)
def rCrash (R : RM) (keep : Int) : RM := { R with segs := R.segs.map (crashP (marksS R.segs) keep), first := 0, fails := 0 }

abbrev rowM (m : Int) : List Value := [i64 m]

theorem RAt.kept {s s' : St} {q : Nat} {R : RM} {O : List Nat} {sv : Value} {S : List Nat} {rows : List (List Value)} {L : Nat → List Nat} {T : List Nat} (h : RAt s q R O sv S rows L) (hk : Kept T s s') (hO : ∀ x ∈ O, x ∉ T) : RAt s' q R O sv S rows L where
  cell := by rw [hk.2 q (h.lt q h.qO) (hO q h.qO)]; exact h.cell
  outer := RowsO.kept' h.outer hk fun x hx => hO x (h.SO x hx)
  len := h.len
  inner := fun i n bs hi => by
    obtain ⟨bv, a, b⟩ := h.inner i n bs hi
    exact ⟨bv, a, RowsO.kept' b hk fun x hx => hO x (h.LO i x (List.getElem?_eq_some_iff.1 hi).1 hx)⟩
  qS := h.qS
  apart := h.apart
  apart2 := h.apart2
  qO := h.qO
  SO := h.SO
  LO := h.LO
  lt := fun x hx => Nat.lt_of_lt_of_le (h.lt x hx) hk.1
  rw := h.rw

theorem marksZ_take {bs : List (Int × Int)} {k : Nat} {z : Int × Int} (h : bs[k]? = some z) : marksZ (bs.take (k + 1)) = marksZ (bs.take k) ++ (if z.2 ≥ 0 then [z.2] else []) := by
  unfold marksZ
  rw [List.take_add_one, h, List.map_append, List.filter_append]
  simp only [Option.toList_some, List.map_cons, List.map_nil, List.filter_cons, List.filter_nil]
  split
  · rename_i hx; rw [if_pos (of_decide_eq_true hx)]
  · rename_i hx; rw [if_neg (fun e => hx (decide_eq_true e))]
theorem marksS_take {sg : List (Int × List (Int × Int))} {i : Nat} {p : Int × List (Int × Int)} (h : sg[i]? = some p) : marksS (sg.take (i + 1)) = marksS (sg.take i) ++ marksZ p.2 := by
  unfold marksS
  rw [List.take_add_one, h, List.map_append, List.flatten_append]
  simp
theorem crashZ_take {ms : List Int} {keep : Int} {bs : List (Int × Int)} {k : Nat} {z : Int × Int} (h : bs[k]? = some z) : crashZ ms keep (bs.take (k + 1)) = crashZ ms keep (bs.take k) ++ (if staysB ms keep z then [lastZ z] else []) := by
  unfold crashZ
  rw [List.take_add_one, h, List.filter_append, List.map_append]
  simp only [Option.toList_some, List.filter_cons, List.filter_nil]
  split <;> simp
theorem marksZ_len (bs : List (Int × Int)) : (marksZ bs).length ≤ bs.length := by
  unfold marksZ
  have := List.length_filter_le (fun x : Int => decide (x ≥ 0)) (bs.map fun z => z.2)
  rwa [List.length_map] at this
theorem crashZ_len (ms : List Int) (keep : Int) (bs : List (Int × Int)) : (crashZ ms keep bs).length ≤ bs.length := by
  unfold crashZ
  rw [List.length_map]
  exact List.length_filter_le _ _

section
variable {tbl : FuncId → Option AFun} {ov : CallSem} {s : St} (T : DTbl tbl)
include T

theorem p37 {q : Nat} {R : RM} {O : List Nat} {keep : Int} (h : RRep s q R O) (hkp : W64 keep) : WCall (fun k => call tbl ov k) 37 [ptr q, i64 keep] s fun u s' => u = .tuple #[] ∧ Kept O s s' ∧ ∃ O', RRep s' q (rCrash R keep) O' ∧ ∀ x ∈ O', x ∈ O ∨ s.next ≤ x := by
  refine WCall.of T.t37 rfl ?_
  obtain ⟨sv, S, rows, L, hA⟩ := h.at
  have h16 := hA.rw.len
  obtain ⟨sa, scap, hsv⟩ := hA.slice
  subst hsv
  have htb8 : ∀ m, m < 2 ^ 40 → tooBig m 8 = false := fun m hm => by simp only [tooBig, Bool.or_eq_false_iff, decide_eq_false_iff_not]; omega
  have htb16 : ∀ m, m < 2 ^ 40 → tooBig m 16 = false := fun m hm => by simp only [tooBig, Bool.or_eq_false_iff, decide_eq_false_iff_not]; omega
  simp -implicitDefEqProofs only [fun37, code37, params, go_sem, reduceIte, Nat.reduceEqDiff, Nat.reduceAdd, Nat.reduceMul, Nat.reduceLT, Nat.reduceLeDiff, reduceCtorEq, Int.reduceEq, Int.reduceNeg, Nat.reduceSub, Int.reduceLT, Int.reduceLE, Int.reduceGT, Int.reduceGE, Int.reduceAdd, Int.reduceSub, Int.reduceToNat, Int.reduceBNe, Int.reduceBEq, Nat.mul_one, Nat.zero_mul, ev_buildSlice, fillL]
  obtain ⟨ms, hms⟩ : ∃ ms, ms = marksS R.segs := ⟨_, rfl⟩
  -- the marks
  obtain ⟨I, hI⟩ : ∃ I : Nat → List Value → St → Prop, I = fun m vs s' => Kept [] s s' ∧ ∃ (i : Nat) (mv : Value) (SM : List Nat), i ≤ R.segs.length ∧ m = R.segs.length - i ∧ vs = [ptr q, i64 keep, mv, i64 (i : Nat)] ∧ RowsO 3 1 s' mv ((marksS (R.segs.take i)).map rowM) SM ∧ (∀ x ∈ SM, s.next ≤ x) ∧ (marksS (R.segs.take i)).length ≤ 2048 * i := ⟨_, rfl⟩
  refine wc_loopV I R.segs.length ?_ ?_
  · simp -implicitDefEqProofs only [go_sem, reduceIte, Nat.reduceEqDiff, Nat.reduceAdd, Nat.reduceMul, Nat.reduceLT, Nat.reduceLeDiff, reduceCtorEq, Int.reduceEq, Int.reduceNeg, Nat.reduceSub, Int.reduceLT, Int.reduceLE, Int.reduceGT, Int.reduceGE, Int.reduceAdd, Int.reduceSub, Int.reduceToNat, Int.reduceBNe, Int.reduceBEq, Nat.mul_one, Nat.zero_mul]
    rw [hI]
    exact ⟨kept_put_nil (Nat.le_refl _) (Nat.le_succ _), 0, _, [s.next], by omega, by omega, rfl, ⟨by simp [marksS], .inr ⟨s.next, 0, 0, [], rfl, rfl, Nat.le_refl _, Nat.lt_succ_self _, by simp only [Heap.get_put, if_true], by simp, by simp [marksS]⟩⟩, by simp, by simp [marksS]⟩
  intro m vs s1 hx _
  rw [hI] at hx
  obtain ⟨hk1, i, mv, SM, hil, rfl, rfl, hM, hSM, hml⟩ := hx
  have hA1 := hA.kept hk1 (by simp)
  have hq1 := hA1.cell
  have hn1 := hk1.1
  have w1 : IntKind.i64.wrap ((i : Int) + 1) = ((i + 1 : Nat) : Int) := by rw [IntKind.wrap_i64]; omega
  cases hlt : decide ((i : Int) < (R.segs.length : Int))
  rotate_left
  · have hiN : i < R.segs.length := by have := of_decide_eq_true hlt; omega
    obtain ⟨n, bs, bv, id, o, cap, c, T', ro, hw, hrow, hB, hsv, hid, hidS, hgo, hle, hc0, hcb⟩ := hA.seg hiN
    cases hsv
    have hixi : 0 ≤ (i : Int) ∧ (i : Int) < (R.segs.length : Int) := by omega
    obtain ⟨hbl, hbr⟩ := hA.rw.bytes i n bs hw
    obtain ⟨ba, bc, hbe⟩ := hB.toV.len
    rw [List.length_map] at hbe
    subst hbe
    simp -implicitDefEqProofs only [go_sem, reduceIte, Nat.reduceEqDiff, Nat.reduceAdd, Nat.reduceMul, Nat.reduceLT, Nat.reduceLeDiff, reduceCtorEq, Int.reduceEq, Int.reduceNeg, Nat.reduceSub, Int.reduceLT, Int.reduceLE, Int.reduceGT, Int.reduceGE, Int.reduceAdd, Int.reduceSub, Int.reduceToNat, Int.reduceBNe, Int.reduceBEq, Nat.mul_one, Nat.zero_mul, hq1, hlt]
    obtain ⟨J, hJ⟩ : ∃ J : Nat → List Value → St → Prop, J = fun m vs s' => Kept [] s s' ∧ ∃ (k : Nat) (mv' : Value) (SM' : List Nat), k ≤ bs.length ∧ m = bs.length - k ∧ vs = [ptr q, i64 keep, mv', i64 (i : Nat), i64 (k : Nat)] ∧ RowsO 3 1 s' mv' ((marksS (R.segs.take i) ++ marksZ (bs.take k)).map rowM) SM' ∧ (∀ x ∈ SM', s.next ≤ x) := ⟨_, rfl⟩
    refine wc_loopV J bs.length ?_ ?_
    · simp -implicitDefEqProofs only [go_sem, reduceIte, Nat.reduceEqDiff, Nat.reduceAdd, Nat.reduceMul, Nat.reduceLT, Nat.reduceLeDiff, reduceCtorEq, Int.reduceEq, Int.reduceNeg, Nat.reduceSub, Int.reduceLT, Int.reduceLE, Int.reduceGT, Int.reduceGE, Int.reduceAdd, Int.reduceSub, Int.reduceToNat, Int.reduceBNe, Int.reduceBEq, Nat.mul_one, Nat.zero_mul]
      rw [hJ]
      exact ⟨hk1, 0, mv, SM, by omega, by omega, rfl, by simpa [marksZ] using hM, hSM⟩
    intro m vs s2 hx _
    rw [hJ] at hx
    obtain ⟨hk2, k, mv', SM', hkl, rfl, rfl, hM2, hSM2⟩ := hx
    have hn2 := hk2.1
    have hA2 := hA.kept hk2 (by simp)
    have hq2 := hA2.cell
    have hg2 : s2.heap.get id = some (.cells c T' 2 ro) := by rw [hk2.2 id hid (by simp)]; exact hgo
    have hB2 := RowsO.kept' hB hk2 (by simp)
    have w2 : IntKind.i64.wrap ((k : Int) + 1) = ((k + 1 : Nat) : Int) := by rw [IntKind.wrap_i64]; omega
    cases hlt2 : decide ((k : Int) < (bs.length : Int))
    · have hke : k = bs.length := by have := of_decide_eq_false hlt2; omega
      subst hke
      rw [List.take_length] at hM2
      simp -implicitDefEqProofs only [go_sem, reduceIte, Nat.reduceEqDiff, Nat.reduceAdd, Nat.reduceMul, Nat.reduceLT, Nat.reduceLeDiff, reduceCtorEq, Int.reduceEq, Int.reduceNeg, Nat.reduceSub, Int.reduceLT, Int.reduceLE, Int.reduceGT, Int.reduceGE, Int.reduceAdd, Int.reduceSub, Int.reduceToNat, Int.reduceBNe, Int.reduceBEq, Nat.mul_one, Nat.zero_mul, hq2, hixi, hg2, hcb, hlt2, w1]
      refine ⟨R.segs.length - (i + 1), by omega, ?_⟩
      rw [hI]
      refine ⟨hk2, i + 1, mv', SM', by omega, rfl, rfl, by rw [marksS_take hw]; exact hM2, hSM2, ?_⟩
      rw [marksS_take hw, List.length_append]
      have := marksZ_len bs
      simp only; omega
    · have hkN : k < bs.length := by have := of_decide_eq_true hlt2; omega
      obtain ⟨z, hz⟩ : ∃ z, bs[k]? = some z := ⟨_, List.getElem?_eq_getElem hkN⟩
      obtain ⟨ib, ob, capb, cb, Tb, rob, hvb, hidb, hgb, hleb, _, hcb2⟩ := row_read hB2.toV (i := k) (by rw [List.length_map]; exact hkN)
      rw [List.length_map] at hvb
      cases hvb
      have hcz := hcb2 1 (by decide)
      rw [List.getD_eq_getElem?_getD, List.getElem?_map, hz] at hcz
      simp only [Option.map_some, Option.getD_some, List.getElem?_cons_succ, List.getElem?_cons_zero] at hcz
      have hixk : 0 ≤ (k : Int) ∧ (k : Int) < (bs.length : Int) := by omega
      have hmt := marksZ_take hz
      have hmzl := marksZ_len (bs.take k)
      cases hge : decide (z.2 ≥ 0)
      · simp -implicitDefEqProofs only [go_sem, reduceIte, Nat.reduceEqDiff, Nat.reduceAdd, Nat.reduceMul, Nat.reduceLT, Nat.reduceLeDiff, reduceCtorEq, Int.reduceEq, Int.reduceNeg, Nat.reduceSub, Int.reduceLT, Int.reduceLE, Int.reduceGT, Int.reduceGE, Int.reduceAdd, Int.reduceSub, Int.reduceToNat, Int.reduceBNe, Int.reduceBEq, Nat.mul_one, Nat.zero_mul, hq2, hixi, hg2, hcb, hlt2, hixk, hgb, hcz, hge, w2]
        refine ⟨bs.length - (k + 1), by omega, ?_⟩
        rw [hJ]
        rw [if_neg (of_decide_eq_false hge), List.append_nil] at hmt
        exact ⟨hk2, k + 1, mv', SM', by omega, rfl, rfl, by rw [hmt]; exact hM2, hSM2⟩
      · rw [if_pos (of_decide_eq_true hge)] at hmt
        have hk3 : Kept [] s2 ⟨s2.heap.put s2.next (some (.cells [i64 z.2] 3 1 false)), s2.next + 1⟩ := kept_put_nil (Nat.le_refl _) (Nat.le_succ _)
        have hy : RowV 1 ⟨s2.heap.put s2.next (some (.cells [i64 z.2] 3 1 false)), s2.next + 1⟩ (.slice (some ⟨s2.next, 0, none⟩) 1 1) [rowM z.2] :=
          ⟨fun c hc => by rw [List.mem_singleton.1 hc]; exact ⟨rfl, rfl⟩, .inr ⟨s2.next, 0, 1, [i64 z.2], 3, false, rfl, Nat.le_refl _, Nat.lt_succ_self _, by simp only [Heap.get_put, if_true], by simp, by simp⟩⟩
        obtain ⟨val, upd, nx, S', he, hR2, hk4, hS2, _⟩ := (RowsO.kept' hM2 hk3 (by simp)).append (b := 8) hy (htb8 _ (by simp only [List.length_map, List.length_append, List.length_cons, List.length_nil]; simp only [List.length_take] at hmzl; omega)) (fun m _ h => htb8 _ (by simp only [List.length_cons, List.length_nil] at h; omega))
        have hfin : ∃ m', m' < bs.length - k ∧ J m' [ptr q, i64 keep, val, i64 (i : Nat), i64 ((k + 1 : Nat) : Int)] ⟨applyUpd (s2.heap.put s2.next (some (.cells [i64 z.2] 3 1 false))) upd, nx⟩ := by
          refine ⟨bs.length - (k + 1), by omega, ?_⟩
          rw [hJ]
          refine ⟨(hk2.trans hk3).comp hk4 fun x hx => .inr (hSM2 x hx), k + 1, val, S', by omega, rfl, rfl, ?_, fun x hx => ?_⟩
          · rw [hmt, ← List.append_assoc, List.map_append]; exact hR2
          · rcases hS2 x hx with h | h
            · exact hSM2 x h
            · simp only at h; omega
        simp -implicitDefEqProofs only [go_sem, reduceIte, Nat.reduceEqDiff, Nat.reduceAdd, Nat.reduceMul, Nat.reduceLT, Nat.reduceLeDiff, reduceCtorEq, Int.reduceEq, Int.reduceNeg, Nat.reduceSub, Int.reduceLT, Int.reduceLE, Int.reduceGT, Int.reduceGE, Int.reduceAdd, Int.reduceSub, Int.reduceToNat, Int.reduceBNe, Int.reduceBEq, Nat.mul_one, Nat.zero_mul, hq2, hixi, hg2, hcb, hlt2, hixk, hgb, hcz, hge, ev_buildSlice, fillL, he, w2]
        exact hfin
  · have hie : i = R.segs.length := by have := of_decide_eq_false hlt; omega
    subst hie
    rw [List.take_length, ← hms] at hM
    obtain ⟨ma, mc, hmv⟩ := rowsO_slice hM
    rw [List.length_map] at hmv
    subst hmv
    have hMl : ∀ x ∈ SM, x < s1.next := by
      intro x hx
      obtain ⟨_, ⟨_, _, hh⟩ | ⟨id', o', cap', c', _, hh, _, hlt, _⟩⟩ := hM
      · rw [hh] at hx; cases hx
      · rw [hh] at hx; rw [List.mem_singleton.1 hx]; exact hlt
    simp -implicitDefEqProofs only [go_sem, reduceIte, Nat.reduceEqDiff, Nat.reduceAdd, Nat.reduceMul, Nat.reduceLT, Nat.reduceLeDiff, reduceCtorEq, Int.reduceEq, Int.reduceNeg, Nat.reduceSub, Int.reduceLT, Int.reduceLE, Int.reduceGT, Int.reduceGE, Int.reduceAdd, Int.reduceSub, Int.reduceToNat, Int.reduceBNe, Int.reduceBEq, Nat.mul_one, Nat.zero_mul, hq1, hlt]
    -- the segments anew
    obtain ⟨G, hG⟩ : ∃ G : List (Int × List (Int × Int)) → Nat → Prop, G = fun sg i => sg.length = R.segs.length ∧ (∀ j, j < i → sg[j]? = (R.segs[j]?).map (crashP ms keep)) ∧ ∀ j, i ≤ j → sg[j]? = R.segs[j]? := ⟨_, rfl⟩
    obtain ⟨I2, hI2⟩ : ∃ I2 : Nat → List Value → St → Prop, I2 = fun m vs s' => Kept O s1 s' ∧ ∃ (i : Nat) (sg : List (Int × List (Int × Int))) (O' : List Nat), i ≤ R.segs.length ∧ m = R.segs.length - i ∧ vs = [ptr q, i64 keep, .slice ma ms.length mc, i64 (i : Nat)] ∧ G sg i ∧ RRep s' q { R with segs := sg } O' ∧ ∀ x ∈ O', x ∈ O ∨ s1.next ≤ x := ⟨_, rfl⟩
    refine wc_loopV I2 R.segs.length ?_ ?_
    · simp -implicitDefEqProofs only [go_sem, reduceIte, Nat.reduceEqDiff, Nat.reduceAdd, Nat.reduceMul, Nat.reduceLT, Nat.reduceLeDiff, reduceCtorEq, Int.reduceEq, Int.reduceNeg, Nat.reduceSub, Int.reduceLT, Int.reduceLE, Int.reduceGT, Int.reduceGE, Int.reduceAdd, Int.reduceSub, Int.reduceToNat, Int.reduceBNe, Int.reduceBEq, Nat.mul_one, Nat.zero_mul]
      rw [hI2]
      exact ⟨Kept.refl _ _, 0, R.segs, O, by omega, by omega, rfl, by rw [hG]; exact ⟨rfl, fun j hj => absurd hj (Nat.not_lt_zero j), fun j _ => rfl⟩, hA1.rep, fun x hx => .inl hx⟩
    intro m vs s2 hx _
    rw [hI2] at hx
    obtain ⟨hk2, i, sg, O2, hil2, rfl, rfl, hGi, hR2, hO2⟩ := hx
    have hGi' := hGi
    rw [hG] at hGi'
    obtain ⟨hg1, hg2, hg3⟩ := hGi'
    have hn2 := hk2.1
    obtain ⟨sv2, S2, rows2, L2, hA2⟩ := hR2.at
    obtain ⟨a2, c2, hsv2⟩ := hA2.slice
    simp only at hsv2
    rw [hg1] at hsv2
    subst hsv2
    have hq2 := hA2.cell
    simp only at hq2
    have w1 : IntKind.i64.wrap ((i : Int) + 1) = ((i + 1 : Nat) : Int) := by rw [IntKind.wrap_i64]; omega
    cases hlt2 : decide ((i : Int) < (R.segs.length : Int))
    · have hie : i = R.segs.length := by have := of_decide_eq_false hlt2; omega
      subst hie
      have hsg : sg = R.segs.map (crashP ms keep) := by
        apply List.ext_getElem?
        intro j
        rw [List.getElem?_map]
        by_cases hj : j < R.segs.length
        · exact hg2 j hj
        · rw [hg3 j (by omega), List.getElem?_eq_none (by omega)]; rfl
      simp -implicitDefEqProofs only [go_sem, reduceIte, Nat.reduceEqDiff, Nat.reduceAdd, Nat.reduceMul, Nat.reduceLT, Nat.reduceLeDiff, reduceCtorEq, Int.reduceEq, Int.reduceNeg, Nat.reduceSub, Int.reduceLT, Int.reduceLE, Int.reduceGT, Int.reduceGE, Int.reduceAdd, Int.reduceSub, Int.reduceToNat, Int.reduceBNe, Int.reduceBEq, Nat.mul_one, Nat.zero_mul, hq2, hlt2]
      obtain ⟨s8, hs8⟩ : ∃ s8 : St, s8 = ⟨(s2.heap.put q (some (.cells [i64 R.most, .slice a2 R.segs.length c2, i64 R.next, i64 0, i64 R.fails] 68 0 false))).put q (some (.cells [i64 R.most, .slice a2 R.segs.length c2, i64 R.next, i64 0, i64 0] 68 0 false)), s2.next⟩ := ⟨_, rfl⟩
      rw [← hs8]
      have hk8 : Kept [q] s2 s8 := by
        rw [hs8]
        refine ⟨Nat.le_refl _, fun j hj hn => ?_⟩
        simp only [List.mem_singleton] at hn
        simp only [Heap.get_put, hn, if_false]
      have hA8 := hA2.nums (a := R.next) (f := 0) (g := 0) hk8 (by rw [hs8]; simp only [Heap.get_put, if_true]) ⟨by simp, by simp⟩ ⟨by simp, by simp⟩ hA.rw.next
      have hkO : Kept O s s2 := (hk1.sub (by simp)).trans hk2
      have hkO8 : Kept O s s8 := hkO.trans (hk8.sub fun x hx => by rw [List.mem_singleton.1 hx]; exact hA.qO)
      refine ⟨hkO8, O2, ?_, fun x hx => (hO2 x hx).elim .inl fun h => .inr (by omega)⟩
      unfold rCrash
      rw [← hms, ← hsg]
      exact hA8.rep
    · have hiN : i < R.segs.length := by have := of_decide_eq_true hlt2; omega
      obtain ⟨n, bs, bv, id, o, cap, c, T', ro, hw, hrow, hB, hsv, hid, hidS, hgo, hle, hc0, hcb⟩ := hA2.seg (i := i) (by simp only; omega)
      simp only at hw hsv
      rw [hg1] at hsv
      cases hsv
      have hw0 : R.segs[i]? = some (n, bs) := by rw [← hg3 i (Nat.le_refl _)]; exact hw
      have hixi : 0 ≤ (i : Int) ∧ (i : Int) < (R.segs.length : Int) := by omega
      obtain ⟨hbl, hbr⟩ := hA.rw.bytes i n bs hw0
      obtain ⟨ba, bc, hbe⟩ := hB.toV.len
      rw [List.length_map] at hbe
      subst hbe
      -- the marks still lie
      have hM2 : RowsO 3 1 s2 (.slice ma ms.length mc) (ms.map rowM) SM := RowsO.kept' hM hk2 fun x hx hx' => by
        have := hSM x hx
        have := hA.lt x hx'
        omega
      simp -implicitDefEqProofs only [go_sem, reduceIte, Nat.reduceEqDiff, Nat.reduceAdd, Nat.reduceMul, Nat.reduceLT, Nat.reduceLeDiff, reduceCtorEq, Int.reduceEq, Int.reduceNeg, Nat.reduceSub, Int.reduceLT, Int.reduceLE, Int.reduceGT, Int.reduceGE, Int.reduceAdd, Int.reduceSub, Int.reduceToNat, Int.reduceBNe, Int.reduceBEq, Nat.mul_one, Nat.zero_mul, hq2, hlt2, ev_buildSlice, fillL]
      obtain ⟨J, hJ⟩ : ∃ J : Nat → List Value → St → Prop, J = fun m vs s' => Kept [] s2 s' ∧ ∃ (k : Nat) (lv : Value) (SL : List Nat), k ≤ bs.length ∧ m = bs.length - k ∧ vs = [ptr q, i64 keep, .slice ma ms.length mc, i64 (i : Nat), lv, i64 (k : Nat)] ∧ RowsO 97 2 s' lv ((crashZ ms keep (bs.take k)).map rowB) SL ∧ (∀ x ∈ SL, s2.next ≤ x) := ⟨_, rfl⟩
      refine wc_loopV J bs.length ?_ ?_
      · simp -implicitDefEqProofs only [go_sem, reduceIte, Nat.reduceEqDiff, Nat.reduceAdd, Nat.reduceMul, Nat.reduceLT, Nat.reduceLeDiff, reduceCtorEq, Int.reduceEq, Int.reduceNeg, Nat.reduceSub, Int.reduceLT, Int.reduceLE, Int.reduceGT, Int.reduceGE, Int.reduceAdd, Int.reduceSub, Int.reduceToNat, Int.reduceBNe, Int.reduceBEq, Nat.mul_one, Nat.zero_mul]
        rw [hJ]
        exact ⟨kept_put_nil (Nat.le_refl _) (Nat.le_succ _), 0, _, [s2.next], by omega, by omega, rfl, ⟨by simp [crashZ], .inr ⟨s2.next, 0, 0, [], rfl, rfl, Nat.le_refl _, Nat.lt_succ_self _, by simp only [Heap.get_put, if_true], by simp, by simp [crashZ]⟩⟩, by simp⟩
      intro m vs s3 hx _
      rw [hJ] at hx
      obtain ⟨hk3, k, lv, SL, hkl, rfl, rfl, hLv, hSL⟩ := hx
      have hn3 := hk3.1
      have hA3 := hA2.kept hk3 (by simp)
      have hq3 := hA3.cell
      simp only at hq3
      have hg3' : s3.heap.get id = some (.cells c T' 2 ro) := by rw [hk3.2 id hid (by simp)]; exact hgo
      have hB3 := RowsO.kept' hB hk3 (by simp)
      have w2 : IntKind.i64.wrap ((k : Int) + 1) = ((k + 1 : Nat) : Int) := by rw [IntKind.wrap_i64]; omega
      cases hlt3 : decide ((k : Int) < (bs.length : Int))
      · -- all are looked at
        have hke : k = bs.length := by have := of_decide_eq_false hlt3; omega
        subst hke
        rw [List.take_length] at hLv
        obtain ⟨va, vc, hlv⟩ := rowsO_slice hLv
        obtain ⟨id2, o2, cap2, c2', hsv2, hidS2, hg4, hle4, hA4, hk4⟩ := hA2.regrow (bs' := crashZ ms keep bs) (s2 := s3) hw (hk3.sub (by simp)) hLv (fun x hx => .inr (hSL x hx)) (by have := crashZ_len ms keep bs; omega) (fun z hz => by
          unfold crashZ at hz
          obtain ⟨y, hy, rfl⟩ := List.mem_map.1 hz
          exact hbr y (List.mem_filter.1 hy).1) (by rw [hlv]; rfl)
        simp only at hsv2 hA4
        rw [hg1] at hsv2
        cases hsv2
        subst hlv
        rw [hg3'] at hg4
        cases hg4
        have hle5 : o + i * 2 + 1 + 1 ≤ c.length := hle
        have hfin : ∃ m', m' < R.segs.length - i ∧ I2 m' [ptr q, i64 keep, .slice ma ms.length mc, i64 ((i + 1 : Nat) : Int)] ⟨s3.heap.put id (some (.cells (c.set (o + i * 2 + 1) (.slice va ((crashZ ms keep bs).map rowB).length vc)) 73 2 false)), s3.next⟩ := by
          refine ⟨R.segs.length - (i + 1), by omega, ?_⟩
          rw [hI2]
          refine ⟨?_, i + 1, _, O2 ++ SL, by omega, rfl, rfl, ?_, hA4.rep, fun x hx => ?_⟩
          · exact hk2.comp hk4 hO2
          · rw [hG]
            refine ⟨by rw [List.length_set]; exact hg1, fun j hj => ?_, fun j hj => ?_⟩
            · rw [List.getElem?_set]
              by_cases he : i = j
              · subst he
                rw [if_pos rfl, if_pos (by omega), hw0]; rfl
              · rw [if_neg he]; exact hg2 j (by omega)
            · rw [List.getElem?_set, if_neg (by omega)]; exact hg3 j (by omega)
          · rcases List.mem_append.1 hx with hx | hx
            · exact hO2 x hx
            · right; have := hSL x hx; omega
        simp -implicitDefEqProofs only [go_sem, reduceIte, Nat.reduceEqDiff, Nat.reduceAdd, Nat.reduceMul, Nat.reduceLT, Nat.reduceLeDiff, reduceCtorEq, Int.reduceEq, Int.reduceNeg, Nat.reduceSub, Int.reduceLT, Int.reduceLE, Int.reduceGT, Int.reduceGE, Int.reduceAdd, Int.reduceSub, Int.reduceToNat, Int.reduceBNe, Int.reduceBEq, Nat.mul_one, Nat.zero_mul, hq3, hixi, hg3', hcb, hlt3, hle5, w1]
        exact hfin
      · have hkN : k < bs.length := by have := of_decide_eq_true hlt3; omega
        obtain ⟨z, hz⟩ : ∃ z, bs[k]? = some z := ⟨_, List.getElem?_eq_getElem hkN⟩
        obtain ⟨ib, ob, capb, cb, Tb, rob, hvb, hidb, hgb, hleb, hrwb, _⟩ := row_read hB3.toV (i := k) (by rw [List.length_map]; exact hkN)
        rw [List.length_map] at hvb
        cases hvb
        have hgw : (bs.map rowB).getD k [] = rowB z := by rw [List.getD_eq_getElem?_getD, List.getElem?_map, hz]; rfl
        rw [hgw] at hrwb
        have hixk : 0 ≤ (k : Int) ∧ (k : Int) < (bs.length : Int) := by omega
        have hct := crashZ_take (ms := ms) (keep := keep) hz
        have f1 : (rowB z).length = 2 := rfl
        have f2 : (rowB z).take 2 = rowB z := rfl
        have f3 : (rowB z).all isCell = true := rfl
        have f4 : storeL [.int .u8 0, i64 0] 0 (rowB z) = rowB z := rfl
        have f5 : (rowB z)[0]? = some (.int .u8 z.1) := rfl
        have f6 : (rowB z)[1]? = some (i64 z.2) := rfl
        have hqx : (q = s3.next) = False := by have := hA3.lt q hA3.qO; simp; omega
        have hidx : (id = s3.next) = False := by simp; omega
        have hibx : (ib = s3.next) = False := by simp; omega
        obtain ⟨sX, hsX⟩ : ∃ sX : St, sX = ⟨(s3.heap.put s3.next (some (.cells [.int .u8 0, i64 0] 97 0 false))).put s3.next (some (.cells (rowB z) 97 0 false)), s3.next + 1⟩ := ⟨_, rfl⟩
        have hkX : Kept [] s3 sX := by
          rw [hsX]
          exact ⟨Nat.le_succ _, fun j hj _ => by simp only [Heap.get_put]; rw [if_neg (by omega), if_neg (by omega)]⟩
        have hxX : sX.heap.get s3.next = some (.cells (rowB z) 97 0 false) := by rw [hsX]; simp only [Heap.get_put, if_true]
        have hnX : sX.next = s3.next + 1 := by rw [hsX]
        have hLX := RowsO.kept' hLv hkX (by simp)
        have hkY : Kept [] sX ⟨sX.heap.put sX.next (some (.cells (rowB (lastZ z)) 97 2 false)), sX.next + 1⟩ := kept_put_nil (Nat.le_refl _) (Nat.le_succ _)
        have hy : RowV 2 ⟨sX.heap.put sX.next (some (.cells (rowB (lastZ z)) 97 2 false)), sX.next + 1⟩ (.slice (some ⟨sX.next, 0, none⟩) 1 1) [rowB (lastZ z)] :=
          ⟨fun c hc => by rw [List.mem_singleton.1 hc]; exact ⟨rfl, rfl⟩, .inr ⟨sX.next, 0, 1, rowB (lastZ z), 97, false, rfl, Nat.le_refl _, Nat.lt_succ_self _, by simp only [Heap.get_put, if_true], by simp, by simp⟩⟩
        have hcl := crashZ_len ms keep (bs.take k)
        obtain ⟨val, upd, nx, S', he, hR5, hk5, hS5, _⟩ := (RowsO.kept' hLX hkY (by simp)).append (b := 16) hy (htb16 _ (by simp only [List.length_map, List.length_cons, List.length_nil]; simp only [List.length_take] at hcl; omega)) (fun m _ h => htb16 _ (by simp only [List.length_cons, List.length_nil] at h; omega))
        have hstay : staysB ms keep z = true → ∃ m', m' < bs.length - k ∧ J m' [ptr q, i64 keep, .slice ma ms.length mc, i64 (i : Nat), val, i64 ((k + 1 : Nat) : Int)] ⟨applyUpd (sX.heap.put sX.next (some (.cells (rowB (lastZ z)) 97 2 false))) upd, nx⟩ := fun hs => by
          refine ⟨bs.length - (k + 1), by omega, ?_⟩
          rw [hJ]
          rw [if_pos hs] at hct
          refine ⟨((hk3.trans hkX).trans hkY).comp hk5 fun x hx => .inr (hSL x hx), k + 1, val, S', by omega, rfl, rfl, by rw [hct, List.map_append]; exact hR5, fun x hx => ?_⟩
          rcases hS5 x hx with h | h
          · exact hSL x h
          · simp only at h; omega
        have hgo' : staysB ms keep z = false → ∃ m', m' < bs.length - k ∧ J m' [ptr q, i64 keep, .slice ma ms.length mc, i64 (i : Nat), lv, i64 ((k + 1 : Nat) : Int)] sX := fun hs => by
          refine ⟨bs.length - (k + 1), by omega, ?_⟩
          rw [hJ]
          rw [if_neg (by rw [hs]; simp), List.append_nil] at hct
          exact ⟨hk3.trans hkX, k + 1, lv, SL, by omega, rfl, rfl, by rw [hct]; exact hLX, hSL⟩
        have hMX : RowsO 3 1 sX (.slice ma ms.length mc) (ms.map rowM) SM := RowsO.kept' hM2 (hk3.trans hkX) (by simp)
        cases hge : decide (z.2 ≥ 0)
        · have hs : staysB ms keep z = true := by
            unfold staysB
            have := of_decide_eq_false hge
            have h2 : decide (z.2 < 0) = true := by simp; omega
            rw [h2]; rfl
          have hst := hstay hs
          rw [hnX] at hst he
          rw [hsX] at hst he
          simp only at hst he
          simp -implicitDefEqProofs only [go_sem, reduceIte, Nat.reduceEqDiff, Nat.reduceAdd, Nat.reduceMul, Nat.reduceLT, Nat.reduceLeDiff, reduceCtorEq, Int.reduceEq, Int.reduceNeg, Nat.reduceSub, Int.reduceLT, Int.reduceLE, Int.reduceGT, Int.reduceGE, Int.reduceAdd, Int.reduceSub, Int.reduceToNat, Int.reduceBNe, Int.reduceBEq, Nat.mul_one, Nat.zero_mul, hq3, hixi, hg3', hcb, hlt3, hixk, hgb, hleb, hrwb, f1, f2, f3, f4, f5, f6, hge, ev_buildSlice, fillL, he, w2]
          exact hst
        · have hge' := of_decide_eq_true hge
          simp -implicitDefEqProofs only [go_sem, reduceIte, Nat.reduceEqDiff, Nat.reduceAdd, Nat.reduceMul, Nat.reduceLT, Nat.reduceLeDiff, reduceCtorEq, Int.reduceEq, Int.reduceNeg, Nat.reduceSub, Int.reduceLT, Int.reduceLE, Int.reduceGT, Int.reduceGE, Int.reduceAdd, Int.reduceSub, Int.reduceToNat, Int.reduceBNe, Int.reduceBEq, Nat.mul_one, Nat.zero_mul, hq3, hixi, hg3', hcb, hlt3, hixk, hgb, hleb, hrwb, f1, f2, f3, f4, f6, hge]
          rw [← hsX]
          obtain ⟨N, hN⟩ : ∃ N : Nat → List Value → St → Prop, N = fun m vs s' => s' = sX ∧ ∃ (j : Nat), j ≤ ms.length ∧ m = ms.length - j ∧ vs = [ptr q, i64 keep, .slice ma ms.length mc, i64 (i : Nat), lv, i64 (k : Nat), ptr s3.next, i64 (aheadN (ms.take j) z.2 : Nat), i64 (j : Nat)] := ⟨_, rfl⟩
          refine wc_loopV N ms.length ?_ ?_
          · simp -implicitDefEqProofs only [go_sem, reduceIte, Nat.reduceEqDiff, Nat.reduceAdd, Nat.reduceMul, Nat.reduceLT, Nat.reduceLeDiff, reduceCtorEq, Int.reduceEq, Int.reduceNeg, Nat.reduceSub, Int.reduceLT, Int.reduceLE, Int.reduceGT, Int.reduceGE, Int.reduceAdd, Int.reduceSub, Int.reduceToNat, Int.reduceBNe, Int.reduceBEq, Nat.mul_one, Nat.zero_mul]
            rw [hN]
            exact ⟨rfl, 0, by omega, by omega, rfl⟩
          intro m vs s5 hx _
          rw [hN] at hx
          obtain ⟨rfl, j, hjl, rfl, rfl⟩ := hx
          cases hlt5 : decide ((j : Int) < (ms.length : Int))
          · have hje : j = ms.length := by have := of_decide_eq_false hlt5; omega
            subst hje
            rw [List.take_length]
            cases hkeep : decide ((aheadN ms z.2 : Int) ≥ keep)
            · have hs : staysB ms keep z = true := by
                unfold staysB
                have := of_decide_eq_false hkeep
                have h2 : decide ((aheadN ms z.2 : Int) < keep) = true := by simp; omega
                rw [h2]; simp
              have hst := hstay hs
              simp -implicitDefEqProofs only [go_sem, reduceIte, Nat.reduceEqDiff, Nat.reduceAdd, Nat.reduceMul, Nat.reduceLT, Nat.reduceLeDiff, reduceCtorEq, Int.reduceEq, Int.reduceNeg, Nat.reduceSub, Int.reduceLT, Int.reduceLE, Int.reduceGT, Int.reduceGE, Int.reduceAdd, Int.reduceSub, Int.reduceToNat, Int.reduceBNe, Int.reduceBEq, Nat.mul_one, Nat.zero_mul, hlt5, hkeep, hxX, f5, ev_buildSlice, fillL, he, w2]
              exact hst
            · have hs : staysB ms keep z = false := by
                unfold staysB
                have := of_decide_eq_true hkeep
                have h1 : decide (z.2 < 0) = false := by simp; omega
                have h2 : decide ((aheadN ms z.2 : Int) < keep) = false := by simp; omega
                rw [h1, h2]; rfl
              have hst := hgo' hs
              simp -implicitDefEqProofs only [go_sem, reduceIte, Nat.reduceEqDiff, Nat.reduceAdd, Nat.reduceMul, Nat.reduceLT, Nat.reduceLeDiff, reduceCtorEq, Int.reduceEq, Int.reduceNeg, Nat.reduceSub, Int.reduceLT, Int.reduceLE, Int.reduceGT, Int.reduceGE, Int.reduceAdd, Int.reduceSub, Int.reduceToNat, Int.reduceBNe, Int.reduceBEq, Nat.mul_one, Nat.zero_mul, hlt5, hkeep, w2]
              exact hst
          · have hjN : j < ms.length := by have := of_decide_eq_true hlt5; omega
            obtain ⟨im, om, capm, cm, Tm, rom, hvm, hidm, hgm, hlem, _, hcm⟩ := row_read hMX.toV (i := j) (by rw [List.length_map]; exact hjN)
            rw [List.length_map] at hvm
            cases hvm
            obtain ⟨y, hy'⟩ : ∃ y, ms[j]? = some y := ⟨_, List.getElem?_eq_getElem hjN⟩
            have hcm0 := hcm 0 (by decide)
            rw [List.getD_eq_getElem?_getD, List.getElem?_map, hy'] at hcm0
            simp only [Option.map_some, Option.getD_some, Nat.add_zero, Nat.mul_one, List.getElem?_cons_zero] at hcm0
            have hixj : 0 ≤ (j : Int) ∧ (j : Int) < (ms.length : Int) := by omega
            have hms40 : ms.length ≤ 2048 * R.segs.length := by rw [hms]; rw [List.take_length] at hml; exact hml
            have w5 : IntKind.i64.wrap ((j : Int) + 1) = ((j + 1 : Nat) : Int) := by rw [IntKind.wrap_i64]; omega
            have hal : aheadN (ms.take j) z.2 ≤ j := by
              unfold aheadN
              have := List.length_filter_le (fun y : Int => decide (y < z.2)) (ms.take j)
              rw [List.length_take] at this; omega
            have w6 : IntKind.i64.wrap ((aheadN (ms.take j) z.2 : Int) + 1) = ((aheadN (ms.take j) z.2 + 1 : Nat) : Int) := by rw [IntKind.wrap_i64]; omega
            have hat : aheadN (ms.take (j + 1)) z.2 = aheadN (ms.take j) z.2 + (if decide (y < z.2) = true then 1 else 0) := by
              unfold aheadN
              rw [List.take_add_one, hy', List.filter_append, List.length_append]
              simp only [Option.toList_some, List.filter_cons, List.filter_nil]
              split <;> rfl
            cases hyz : decide (y < z.2)
            · rw [hyz] at hat
              simp only [Bool.false_eq_true, if_false, Nat.add_zero] at hat
              simp -implicitDefEqProofs only [go_sem, reduceIte, Nat.reduceEqDiff, Nat.reduceAdd, Nat.reduceMul, Nat.reduceLT, Nat.reduceLeDiff, reduceCtorEq, Int.reduceEq, Int.reduceNeg, Nat.reduceSub, Int.reduceLT, Int.reduceLE, Int.reduceGT, Int.reduceGE, Int.reduceAdd, Int.reduceSub, Int.reduceToNat, Int.reduceBNe, Int.reduceBEq, Nat.mul_one, Nat.zero_mul, hlt5, hixj, hgm, hcm0, hxX, f6, hyz, w5]
              refine ⟨ms.length - (j + 1), by omega, ?_⟩
              rw [hN]
              exact ⟨rfl, j + 1, by omega, rfl, by rw [hat]⟩
            · rw [hyz] at hat
              simp only [if_true] at hat
              simp -implicitDefEqProofs only [go_sem, reduceIte, Nat.reduceEqDiff, Nat.reduceAdd, Nat.reduceMul, Nat.reduceLT, Nat.reduceLeDiff, reduceCtorEq, Int.reduceEq, Int.reduceNeg, Nat.reduceSub, Int.reduceLT, Int.reduceLE, Int.reduceGT, Int.reduceGE, Int.reduceAdd, Int.reduceSub, Int.reduceToNat, Int.reduceBNe, Int.reduceBEq, Nat.mul_one, Nat.zero_mul, hlt5, hixj, hgm, hcm0, hxX, f6, hyz, w5, w6]
              refine ⟨ms.length - (j + 1), by omega, ?_⟩
              rw [hN]
              exact ⟨rfl, j + 1, by omega, rfl, by rw [hat]⟩
end

end Go.Proofs.Ytgnpafmhdmmmhaa
