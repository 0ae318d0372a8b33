/-
  The reference's disk: Sync.
-/
import Derived.Test.YtgnpafmhdmmmhaaD11
set_option maxRecDepth 100000
set_option linter.unusedVariables false
set_option linter.unusedSimpArgs false
namespace Go.Proofs.Ytgnpafmhdmmmhaa
open Go Go.Abs Go.Abs.K

structure RAt (s : St) (q : Nat) (R : RM) (O : List Nat) (sv : Value) (S : List Nat) (rows : List (List Value)) (L : Nat → List Nat) : Prop where
  cell : s.heap.get q = some (.cells [i64 R.most, sv, i64 R.next, i64 R.first, i64 R.fails] 68 0 false)
  outer : RowsO 73 2 s sv rows S
  len : rows.length = R.segs.length
  inner : ∀ (i : Nat) (n : Int) (bs : List (Int × Int)), R.segs[i]? = some (n, bs) → ∃ bv, rows[i]? = some [i64 n, bv] ∧ RowsO 97 2 s bv (bs.map rowB) (L i)
  qS : q ∉ S
  apart : ∀ (i x : Nat), i < R.segs.length → x ∈ L i → x ≠ q ∧ x ∉ S
  apart2 : ∀ (i j x : Nat), i < R.segs.length → j < R.segs.length → i ≠ j → x ∈ L i → x ∉ L j
  qO : q ∈ O
  SO : ∀ x ∈ S, x ∈ O
  LO : ∀ (i x : Nat), i < R.segs.length → x ∈ L i → x ∈ O
  lt : ∀ x ∈ O, x < s.next
  rw : RW R

theorem RRep.at {s : St} {q : Nat} {R : RM} {O : List Nat} (h : RRep s q R O) : ∃ sv S rows L, RAt s q R O sv S rows L := by
  obtain ⟨sv, S, rows, L, h1, h2, h3, h4, h5, h6, h7, h8, h9, h10, h11, h12⟩ := h
  exact ⟨sv, S, rows, L, h1, h2, h3, h4, h5, h6, h7, h8, h9, h10, h11, h12⟩
theorem RAt.rep {s : St} {q : Nat} {R : RM} {O : List Nat} {sv : Value} {S : List Nat} {rows : List (List Value)} {L : Nat → List Nat} (h : RAt s q R O sv S rows L) : RRep s q R O :=
  ⟨sv, S, rows, L, h.cell, h.outer, h.len, h.inner, h.qS, h.apart, h.apart2, h.qO, h.SO, h.LO, h.lt, h.rw⟩

section
variable {s s' : St} {q : Nat} {R : RM} {O : List Nat} {sv : Value} {S : List Nat} {rows : List (List Value)} {L : Nat → List Nat}

/-- The struct's numbers are written. -/
theorem RAt.nums (h : RAt s q R O sv S rows L) {a f g : Int} (hk : Kept [q] s s') (hc : s'.heap.get q = some (.cells [i64 R.most, sv, i64 a, i64 f, i64 g] 68 0 false)) (hf : N63 f) (hg : N63 g) (ha : 0 ≤ a ∧ a < 2 ^ 40) :
    RAt s' q { R with next := a, first := f, fails := g } O sv S rows L where
  cell := hc
  outer := RowsO.kept' h.outer hk fun x hx => by simp only [List.mem_singleton]; rintro rfl; exact h.qS hx
  len := h.len
  inner := fun i n bs hi => by
    obtain ⟨bv, h1, h2⟩ := h.inner i n bs hi
    exact ⟨bv, h1, RowsO.kept' h2 hk fun x hx => by simp only [List.mem_singleton]; exact (h.apart i x (List.getElem?_eq_some_iff.1 hi).1 hx).1⟩
  qS := h.qS
  apart := h.apart
  apart2 := h.apart2
  qO := h.qO
  SO := h.SO
  LO := h.LO
  lt := fun x hx => Nat.lt_of_lt_of_le (h.lt x hx) hk.1
  rw := ⟨hf, hg, ha, h.rw.len, h.rw.bytes⟩

/-- One segment's bytes are written where they lie. -/
theorem RAt.bytes (h : RAt s q R O sv S rows L) {i : Nat} {n : Int} {bs bs' : List (Int × Int)} (hi : R.segs[i]? = some (n, bs)) (hk : Kept (L i) s s') {bv : Value} (hr : rows[i]? = some [i64 n, bv]) (hb : RowsO 97 2 s' bv (bs'.map rowB) (L i)) (hl : bs'.length ≤ 2048) (hz : ∀ z ∈ bs', 0 ≤ z.1 ∧ z.1 ≤ 255) :
    RAt s' q { R with segs := R.segs.set i (n, bs') } O sv S rows L := by
  have hil := (List.getElem?_eq_some_iff.1 hi).1
  refine ⟨?_, RowsO.kept' h.outer hk fun x hx hx' => (h.apart i x hil hx').2 hx, by simp only [List.length_set]; exact h.len, fun j n2 bs2 hj => ?_, h.qS, fun j x hj => h.apart j x (by simpa using hj), fun j k x hj hk' => h.apart2 j k x (by simpa using hj) (by simpa using hk'), h.qO, h.SO, fun j x hj => h.LO j x (by simpa using hj), fun x hx => Nat.lt_of_lt_of_le (h.lt x hx) hk.1, ⟨h.rw.first, h.rw.fails, h.rw.next, by simpa using h.rw.len, fun j n2 bs2 hj => ?_⟩⟩
  · rw [hk.2 q (h.lt q h.qO) fun hx => (h.apart i q hil hx).1 rfl]; exact h.cell
  · simp only [List.getElem?_set] at hj
    by_cases he : i = j
    · subst he
      rw [if_pos rfl, if_pos hil] at hj
      cases hj
      exact ⟨bv, hr, hb⟩
    · rw [if_neg he] at hj
      obtain ⟨bv2, h1, h2⟩ := h.inner j n2 bs2 hj
      have hjl := (List.getElem?_eq_some_iff.1 hj).1
      exact ⟨bv2, h1, RowsO.kept' h2 hk fun x hx => h.apart2 j i x hjl hil (Ne.symm he) hx⟩
  · simp only [List.getElem?_set] at hj
    by_cases he : i = j
    · subst he
      rw [if_pos rfl, if_pos hil] at hj
      cases hj
      exact ⟨hl, hz⟩
    · rw [if_neg he] at hj
      exact h.rw.bytes j n2 bs2 hj

/-- A segment, as it is looked at. -/
theorem RAt.seg (h : RAt s q R O sv S rows L) {i : Nat} (hi : i < R.segs.length) : ∃ n bs bv id o cap c T' ro, R.segs[i]? = some (n, bs) ∧ rows[i]? = some [i64 n, bv] ∧ RowsO 97 2 s bv (bs.map rowB) (L i) ∧ sv = .slice (some ⟨id, o, none⟩) R.segs.length cap ∧ id < s.next ∧ id ∈ S ∧
    s.heap.get id = some (.cells c T' 2 ro) ∧ o + i * 2 + 2 ≤ c.length ∧ c[o + i * 2]? = some (i64 n) ∧ c[o + i * 2 + 1]? = some bv := by
  obtain ⟨⟨n, bs⟩, hw⟩ : ∃ w, R.segs[i]? = some w := ⟨_, List.getElem?_eq_getElem hi⟩
  obtain ⟨bv, hbv, hB⟩ := h.inner i n bs hw
  obtain ⟨id, o, cap, c, T', ro, hv, hid, hg, hle, hrw, hc⟩ := row_read h.outer.toV (i := i) (by rw [h.len]; exact hi)
  have hc0 := hc 0 (by decide)
  have hc1 := hc 1 (by decide)
  rw [List.getD_eq_getElem?_getD, hbv] at hc0 hc1
  simp only [Nat.add_zero, Option.getD_some, List.getElem?_cons_zero, List.getElem?_cons_succ] at hc0 hc1
  refine ⟨n, bs, bv, id, o, cap, c, T', ro, hw, hbv, hB, by rw [hv, h.len], hid, ?_, hg, hle, hc0, hc1⟩
  obtain ⟨_, ⟨hx, hr, _⟩ | ⟨id', o', cap', c', hx, hS, _⟩⟩ := h.outer
  · rw [hr] at hbv; cases hbv
  · rw [hx] at hv
    simp only [Value.slice.injEq, Option.some.injEq, Addr.mk.injEq] at hv
    rw [hS, ← hv.1.1]; exact List.mem_singleton.2 rfl
theorem RAt.slice (h : RAt s q R O sv S rows L) : ∃ a cap, sv = .slice a R.segs.length cap := by
  obtain ⟨a, cap, hv⟩ := h.outer.toV.len
  exact ⟨a, cap, by rw [hv, h.len]⟩
end

/-- All lasts. -/
abbrev lastZ (z : Int × Int) : Int × Int := (z.1, -1)
abbrev lastS (p : Int × List (Int × Int)) : Int × List (Int × Int) := (p.1, p.2.map lastZ)
def wR (R : RM) : RM := { R with first := wF R.first, fails := wG R.first R.fails }
def syncR (R : RM) : RM := if wB R.first R.fails then { wR R with segs := R.segs.map lastS } else wR R

section
variable {tbl : FuncId → Option AFun} {ov : CallSem} {s : St} (T : DTbl tbl)
include T

theorem p33 {q : Nat} {R : RM} {O : List Nat} (h : RRep s q R O) : WCall (fun k => call tbl ov k) 33 [ptr q] s fun u s' => u = i64 (if wB R.first R.fails then 0 else 7) ∧ Kept O s s' ∧ RRep s' q (syncR R) O := by
  refine WCall.of T.t33 rfl ?_
  obtain ⟨sv, S, rows, L, hA⟩ := h.at
  have h52 := p52 (ov := ov) T hA.cell hA.rw.first hA.rw.fails
  simp -implicitDefEqProofs only [fun33, code33, params, go_sem, reduceIte, Nat.reduceEqDiff, Nat.reduceAdd, Nat.reduceMul, Nat.reduceLT, Nat.reduceLeDiff, reduceCtorEq, Int.reduceEq, Int.reduceNeg, Nat.reduceSub, Int.reduceLT, Int.reduceLE, Int.reduceGT, Int.reduceGE, Int.reduceAdd, Int.reduceSub, Int.reduceToNat, Int.reduceBNe, Int.reduceBEq, Nat.mul_one, Nat.zero_mul]
  refine WCall.mono h52 ?_
  rintro u s1 ⟨rfl, hn1, hc1, ho1⟩
  have hkq : Kept [q] s s1 := ⟨by omega, fun j _ hj => ho1 j (by simpa using hj)⟩
  have hA1 := hA.nums hkq hc1 (wF_range hA.rw.first) (wG_range (f := R.first) hA.rw.fails) hA.rw.next
  cases hb : wB R.first R.fails
  · simp -implicitDefEqProofs only [go_sem, reduceIte, Nat.reduceEqDiff, Nat.reduceAdd, Nat.reduceMul, Nat.reduceLT, Nat.reduceLeDiff, reduceCtorEq, Int.reduceEq, Int.reduceNeg, Nat.reduceSub, Int.reduceLT, Int.reduceLE, Int.reduceGT, Int.reduceGE, Int.reduceAdd, Int.reduceSub, Int.reduceToNat, Int.reduceBNe, Int.reduceBEq, Nat.mul_one, Nat.zero_mul, Bool.not_false]
    refine ⟨hkq.sub (fun x hx => by rw [List.mem_singleton.1 hx]; exact hA.qO), ?_⟩
    simp only [syncR, hb]
    exact hA1.rep
  simp -implicitDefEqProofs only [go_sem, reduceIte, Nat.reduceEqDiff, Nat.reduceAdd, Nat.reduceMul, Nat.reduceLT, Nat.reduceLeDiff, reduceCtorEq, Int.reduceEq, Int.reduceNeg, Nat.reduceSub, Int.reduceLT, Int.reduceLE, Int.reduceGT, Int.reduceGE, Int.reduceAdd, Int.reduceSub, Int.reduceToNat, Int.reduceBNe, Int.reduceBEq, Nat.mul_one, Nat.zero_mul, Bool.not_true]
  have h16 := hA.rw.len
  -- the segments one by one
  obtain ⟨G, hG⟩ : ∃ G : List (Int × List (Int × Int)) → Nat → Prop, G = fun sg i => sg.length = R.segs.length ∧ (∀ j, j < i → sg[j]? = (R.segs[j]?).map lastS) ∧ ∀ j, i ≤ j → sg[j]? = R.segs[j]? := ⟨_, rfl⟩
  obtain ⟨I, hI⟩ : ∃ I : Nat → List Value → St → Prop, I = fun m vs s' => Kept O s s' ∧ ∃ (i : Nat) (sg : List (Int × List (Int × Int))), i ≤ R.segs.length ∧ m = R.segs.length - i ∧ vs = [ptr q, i64 (i : Nat)] ∧ G sg i ∧ RAt s' q { wR R with segs := sg } O sv S rows L := ⟨_, rfl⟩
  refine wc_loopV I R.segs.length ?_ ?_
  · simp -implicitDefEqProofs only [go_sem, reduceIte, Nat.reduceEqDiff, Nat.reduceAdd, Nat.reduceMul, Nat.reduceLT, Nat.reduceLeDiff, reduceCtorEq, Int.reduceEq, Int.reduceNeg, Nat.reduceSub, Int.reduceLT, Int.reduceLE, Int.reduceGT, Int.reduceGE, Int.reduceAdd, Int.reduceSub, Int.reduceToNat, Int.reduceBNe, Int.reduceBEq, Nat.mul_one, Nat.zero_mul]
    rw [hI]
    exact ⟨hkq.sub (fun x hx => by rw [List.mem_singleton.1 hx]; exact hA.qO), 0, R.segs, by omega, by omega, rfl, by rw [hG]; exact ⟨rfl, fun j hj => absurd hj (Nat.not_lt_zero j), fun j _ => rfl⟩, hA1⟩
  · intro m vs s2 hi _
    rw [hI] at hi
    obtain ⟨hk2, i, sg, hil, rfl, rfl, hGi, hA2⟩ := hi
    have hGi' := hGi
    rw [hG] at hGi'
    obtain ⟨hg1, hg2, hg3⟩ := hGi'
    obtain ⟨a, cap, hsv⟩ := hA2.slice
    simp only at hsv
    rw [hg1] at hsv
    have hcq := hA2.cell
    simp only at hcq
    cases hlt : decide ((i : Int) < (R.segs.length : Int))
    · have hie : i = R.segs.length := by have := of_decide_eq_false hlt; omega
      subst hie
      have hsg : sg = R.segs.map lastS := by
        apply List.ext_getElem?
        intro j
        rw [List.getElem?_map]
        by_cases hj : j < R.segs.length
        · exact hg2 j hj
        · rw [hg3 j (by omega), List.getElem?_eq_none (by omega)]; rfl
      rw [hsv] at hcq
      simp -implicitDefEqProofs only [go_sem, reduceIte, Nat.reduceEqDiff, Nat.reduceAdd, Nat.reduceMul, Nat.reduceLT, Nat.reduceLeDiff, reduceCtorEq, Int.reduceEq, Int.reduceNeg, Nat.reduceSub, Int.reduceLT, Int.reduceLE, Int.reduceGT, Int.reduceGE, Int.reduceAdd, Int.reduceSub, Int.reduceToNat, Int.reduceBNe, Int.reduceBEq, Nat.mul_one, Nat.zero_mul, hcq, hlt]
      refine ⟨hk2, ?_⟩
      simp only [syncR, hb, if_true]
      rw [← hsg]
      exact hA2.rep
    · have hiN : i < R.segs.length := by have := of_decide_eq_true hlt; omega
      obtain ⟨n, bs0, bv, id, o, cap', c, T', ro, hw, hrow, hB, hsv2, hid, hidS, hgo, hle, hc0, hcb⟩ := hA2.seg (i := i) (by simp only; omega)
      simp only at hsv2
      rw [hg1] at hsv2
      rw [hsv2] at hcq
      have hixi : 0 ≤ (i : Int) ∧ (i : Int) < (R.segs.length : Int) := by omega
      have hw0 : R.segs[i]? = some (n, bs0) := by rw [← hg3 i (Nat.le_refl _)]; exact hw
      have w4 : IntKind.i64.wrap ((i : Int) + 1) = ((i + 1 : Nat) : Int) := by rw [IntKind.wrap_i64]; omega
      have hbl := (hA2.rw.bytes i n bs0 hw).1
      obtain ⟨ba, bc, hbe⟩ := hB.toV.len
      rw [List.length_map] at hbe
      subst hbe
      simp -implicitDefEqProofs only [go_sem, reduceIte, Nat.reduceEqDiff, Nat.reduceAdd, Nat.reduceMul, Nat.reduceLT, Nat.reduceLeDiff, reduceCtorEq, Int.reduceEq, Int.reduceNeg, Nat.reduceSub, Int.reduceLT, Int.reduceLE, Int.reduceGT, Int.reduceGE, Int.reduceAdd, Int.reduceSub, Int.reduceToNat, Int.reduceBNe, Int.reduceBEq, Nat.mul_one, Nat.zero_mul, hcq, hlt]
      obtain ⟨J, hJ⟩ : ∃ J : Nat → List Value → St → Prop, J = fun m vs s' => Kept O s s' ∧ ∃ (k : Nat) (bs : List (Int × Int)) (sg' : List (Int × List (Int × Int))), k ≤ bs0.length ∧ m = bs0.length - k ∧ vs = [ptr q, i64 (i : Nat), i64 (k : Nat)] ∧ sg'.length = R.segs.length ∧ sg'[i]? = some (n, bs) ∧ (∀ j, j ≠ i → sg'[j]? = sg[j]?) ∧
        bs = (bs0.take k).map lastZ ++ bs0.drop k ∧ RAt s' q { wR R with segs := sg' } O sv S rows L ∧ rows[i]? = some [i64 n, .slice ba bs0.length bc] := ⟨_, rfl⟩
      refine wc_loopV J bs0.length ?_ ?_
      · simp -implicitDefEqProofs only [go_sem, reduceIte, Nat.reduceEqDiff, Nat.reduceAdd, Nat.reduceMul, Nat.reduceLT, Nat.reduceLeDiff, reduceCtorEq, Int.reduceEq, Int.reduceNeg, Nat.reduceSub, Int.reduceLT, Int.reduceLE, Int.reduceGT, Int.reduceGE, Int.reduceAdd, Int.reduceSub, Int.reduceToNat, Int.reduceBNe, Int.reduceBEq, Nat.mul_one, Nat.zero_mul]
        rw [hJ]
        exact ⟨hk2, 0, bs0, sg, by omega, by omega, rfl, hg1, hw, fun _ _ => rfl, rfl, hA2, hrow⟩
      · intro m vs s3 hj _
        rw [hJ] at hj
        obtain ⟨hk3, k, bs, sg', hkl, rfl, rfl, g1, g2, g3, hbs, hA3, hrow3⟩ := hj
        have hbsl : bs.length = bs0.length := by rw [hbs]; simp only [List.length_append, List.length_map, List.length_take, List.length_drop]; omega
        obtain ⟨n', bs', bv', id3, o3, cap3, c3, T3, ro3, hw3, hr3, hB3, hsv3, hid3, hidS3, hg3', hle3, hc03, hcb3⟩ := hA3.seg (i := i) (by simp only; omega)
        simp only at hw3 hsv3
        rw [g2] at hw3
        cases hw3
        rw [hrow3] at hr3
        cases hr3
        rw [g1] at hsv3
        have hcq3 := hA3.cell
        simp only at hcq3
        rw [hsv3] at hcq3
        cases hlt2 : decide ((k : Int) < (bs0.length : Int))
        · have hke : k = bs0.length := by have := of_decide_eq_false hlt2; omega
          subst hke
          simp -implicitDefEqProofs only [go_sem, reduceIte, Nat.reduceEqDiff, Nat.reduceAdd, Nat.reduceMul, Nat.reduceLT, Nat.reduceLeDiff, reduceCtorEq, Int.reduceEq, Int.reduceNeg, Nat.reduceSub, Int.reduceLT, Int.reduceLE, Int.reduceGT, Int.reduceGE, Int.reduceAdd, Int.reduceSub, Int.reduceToNat, Int.reduceBNe, Int.reduceBEq, Nat.mul_one, Nat.zero_mul, hcq3, hixi, hg3', hcb3, hlt2, w4]
          refine ⟨R.segs.length - (i + 1), by omega, ?_⟩
          rw [hI]
          refine ⟨hk3, i + 1, sg', by omega, rfl, rfl, ?_, hA3⟩
          rw [hG]
          refine ⟨g1, fun j hj => ?_, fun j hj => ?_⟩
          · by_cases he : j = i
            · subst he
              rw [g2, hw0, hbs, List.take_length, List.drop_length, List.append_nil]; rfl
            · rw [g3 j he]; exact hg2 j (by omega)
          · rw [g3 j (by omega)]; exact hg3 j (by omega)
        · have hkN : k < bs0.length := by have := of_decide_eq_true hlt2; omega
          obtain ⟨z, hz⟩ : ∃ z, bs[k]? = some z := ⟨_, List.getElem?_eq_getElem (by omega)⟩
          have hz0 : bs0[k]? = some z := by
            have h1 : ((bs0.take k).map lastZ).length = k := by simp only [List.length_map, List.length_take]; omega
            rw [hbs, List.getElem?_append_right (by omega), h1, List.getElem?_drop, Nat.sub_self, Nat.add_zero] at hz
            exact hz
          obtain ⟨ib, ob, capb, cb, hvb, hLi, hgb, hleb, hwr, hkw⟩ := hB3.write (i := k) (j := 1) (by rw [List.length_map]; omega) (by decide) (x := i64 (-1)) rfl
          rw [List.length_map, hbsl] at hvb
          simp only [Value.slice.injEq, true_and] at hvb
          obtain ⟨rfl, rfl⟩ := hvb
          have hixk : 0 ≤ (k : Int) ∧ (k : Int) < (bs0.length : Int) := by omega
          have w5 : IntKind.i64.wrap ((k : Int) + 1) = ((k + 1 : Nat) : Int) := by rw [IntKind.wrap_i64]; omega
          have hlc : (o3 + i * 2 + 1 < c3.length) := by omega
          have hcells : (bs.map rowB).set k (((bs.map rowB).getD k []).set 1 (i64 (-1))) = (bs.set k (lastZ z)).map rowB := by
            rw [List.map_set, List.getD_eq_getElem?_getD, List.getElem?_map, hz]
            rfl
          rw [hcells] at hwr
          have hnew := hA3.bytes (s' := ⟨s3.heap.put ib (some (.cells (cb.set (ob + k * 2 + 1) (i64 (-1))) 97 2 false)), s3.next⟩) g2 hkw hrow3 hwr (by rw [List.length_set]; exact (hA3.rw.bytes i n bs g2).1) (fun y hy => by
            rcases List.mem_or_eq_of_mem_set hy with hy | rfl
            · exact (hA3.rw.bytes i n bs g2).2 y hy
            · exact (hA3.rw.bytes i n bs g2).2 z (List.mem_of_getElem? hz))
          have hfin : ∃ m', m' < bs0.length - k ∧ J m' [ptr q, i64 (i : Nat), i64 ((k + 1 : Nat) : Int)] ⟨s3.heap.put ib (some (.cells (cb.set (ob + k * 2 + 1) (i64 (-1))) 97 2 false)), s3.next⟩ := by
            refine ⟨bs0.length - (k + 1), by omega, ?_⟩
            rw [hJ]
            refine ⟨hk3.trans (hkw.sub fun x hx => hA3.LO i x (by simp only; omega) hx), k + 1, bs.set k (lastZ z), sg'.set i (n, bs.set k (lastZ z)), by omega, rfl, rfl, by rw [List.length_set]; exact g1, by rw [List.getElem?_set, if_pos rfl, if_pos (by omega)], fun j hj => by rw [List.getElem?_set, if_neg (Ne.symm hj)]; exact g3 j hj, ?_, hnew, hrow3⟩
            have h1 : ((bs0.take k).map lastZ).length = k := by simp only [List.length_map, List.length_take]; omega
            have hd : bs0.drop k = z :: bs0.drop (k + 1) := by
              obtain ⟨hl, rfl⟩ := List.getElem?_eq_some_iff.1 hz0
              exact List.drop_eq_getElem_cons hl
            rw [hbs, List.set_append_right _ _ (by omega), h1, Nat.sub_self, hd, List.set_cons_zero, List.take_add_one, hz0, List.map_append]
            simp
          simp -implicitDefEqProofs only [go_sem, reduceIte, Nat.reduceEqDiff, Nat.reduceAdd, Nat.reduceMul, Nat.reduceLT, Nat.reduceLeDiff, reduceCtorEq, Int.reduceEq, Int.reduceNeg, Nat.reduceSub, Int.reduceLT, Int.reduceLE, Int.reduceGT, Int.reduceGE, Int.reduceAdd, Int.reduceSub, Int.reduceToNat, Int.reduceBNe, Int.reduceBEq, Nat.mul_one, Nat.zero_mul, hcq3, hixi, hg3', hcb3, hlt2, hixk, hgb, hleb, Nat.add_zero, w5]
          exact hfin
end

end Go.Proofs.Ytgnpafmhdmmmhaa
