/-
  The queue: Drop (with slices.Delete).
-/
import Derived.Test.YtgnpafmhdmmmhaaQ6
set_option maxRecDepth 100000
set_option linter.unusedVariables false
set_option linter.unusedSimpArgs false
namespace Go.Proofs.Ytgnpafmhdmmmhaa
open Go Go.Abs Go.Abs.K

theorem ev_slice3 {g : Nat → Option AObj} {nx id o lo hi mx len cap sz z : Nat} {c : List Value} {t : TypeId} {ro : Bool} {k k' k'' : IntKind} (hg : g id = some (.cells c t z ro)) (hz : ro = true ∨ z = sz ∨ z = sz + 4294967296) (h1 : lo ≤ hi) (h2 : hi ≤ mx) (h3 : mx ≤ cap) :
    evP g nx (.slice (.slice sz) (.slice (some ⟨id, o, none⟩) len cap) (some (.int k lo)) (some (.int k' hi)) (some (.int k'' mx))) = some ⟨.slice (some ⟨id, o + lo * sz, none⟩) (hi - lo) (mx - lo), [], nx⟩ := by
  have a1 : (lo : Int) ≤ hi := by omega
  have a2 : (hi : Int) ≤ mx := by omega
  have a3 : (mx : Int) ≤ cap := by omega
  simp [evP, boundsV, boundV, hg, hz, a1, a2, a3, h1, h2, h3]

theorem ev_clear {g : Nat → Option AObj} {nx id o len cap sz z : Nat} {c zl : List Value} {t : TypeId} (hg : g id = some (.cells c t z false)) (h0 : len ≠ 0) (hz : zl.length = sz) (h1 : o + len * sz ≤ c.length) :
    evP g nx (.clear sz zl (.slice (some ⟨id, o, none⟩) len cap)) = some ⟨.tuple #[], [(id, some (.cells (storeL c o (List.replicate len zl).flatten) t z false))], nx⟩ := by
  simp [evP, hg, h0, hz, h1]

section
variable {tbl : FuncId → Option AFun} {ov : CallSem} {s : St} (T : QTbl tbl)
include T

/-- slices.Delete of one. -/
theorem p41 {lv : Value} {cs : List (List Value)} {S : List Nat} {k : Nat} (hR : RowsP 28 5 s lv cs S) (hk : k < cs.length) (hn : cs.length < 2 ^ 20) :
    WCall (fun k => call tbl ov k) 41 [lv, i64 (k : Nat), i64 ((k + 1 : Nat) : Int)] s fun u s' => RowsP 28 5 s' u (cs.take k ++ cs.drop (k + 1)) S ∧ Kept S s s' := by
  refine WCall.of T.t41 rfl ?_
  have hz := hR.toO.1
  have hz1 := hR.1
  obtain ⟨_, ⟨rfl, rfl, rfl⟩ | ⟨id, o, cap, c, rfl, rfl, h1, h2, h3, hcp, h4, h5⟩⟩ := hR
  · simp at hk
  obtain ⟨p, hp⟩ : ∃ p, cs.length = p + 1 := ⟨cs.length - 1, by omega⟩
  rw [hp] at h1 h5 hk hn ⊢
  have hm : (p + 1) * 5 ≤ cap * 5 := Nat.mul_le_mul_right _ h1
  have hln : ((c.drop (o + (k + 1) * 5)).take ((p - k) * 5)).length = (p - k) * 5 := by simp only [List.length_take, List.length_drop]; omega
  have hcell : ((c.drop (o + (k + 1) * 5)).take ((p - k) * 5)).all isCell = true := prim_cells (List.all_eq_true.2 fun v hv => List.all_eq_true.1 hcp v (List.mem_of_mem_drop (List.mem_of_mem_take hv)))
  have hcp2 : ((c.drop (o + (k + 1) * 5)).take ((p - k) * 5)).all primV = true := List.all_eq_true.2 fun v hv => List.all_eq_true.1 hcp v (List.mem_of_mem_drop (List.mem_of_mem_take hv))
  have hpk : p + 1 - (k + 1) = p - k := by omega
  have hkp : k + (p - k) = p := by omega
  have e1 : evP s.heap.get s.next (.slice (.slice 5) (.slice (some ⟨id, o, none⟩) (p + 1) cap) (some (.int .i64 (k : Nat))) (some (.int .i64 ((k + 1 : Nat) : Int))) (some (.int .i64 ((p + 1 : Nat) : Int)))) = _ := ev_slice3 h3 (.inr (.inl rfl)) (by omega) (by omega) h1
  have d1 : ((k : Int) == ((k + 1 : Nat) : Int)) = false := by simp; omega
  have e2 : evP s.heap.get s.next (.slice (.slice 5) (.slice (some ⟨id, o, none⟩) (p + 1) cap) none (some (.int .i64 (k : Nat))) none) = _ := ev_sliceH h3 (.inr (.inl rfl)) (by omega)
  have e3 : evP s.heap.get s.next (.slice (.slice 5) (.slice (some ⟨id, o, none⟩) (p + 1) cap) (some (.int .i64 ((k + 1 : Nat) : Int))) none none) = _ := ev_sliceL h3 (.inr (.inl rfl)) (by omega) h1
  rw [hpk] at e3
  have e4 : evP s.heap.get s.next (.append 28 5 56 (.slice (some ⟨id, o, none⟩) k cap) (.slice (some ⟨id, o + (k + 1) * 5, none⟩) (p - k) (cap - (k + 1)))) = _ :=
    ev_append_in (n := p - k) rfl (firstL_cells h3 (Nat.le_refl _) (by omega)) hcell hln h3 (by omega) (by omega)
  rw [hkp] at e4
  have hsl1 : (storeL c (o + k * 5) ((c.drop (o + (k + 1) * 5)).take ((p - k) * 5))).length = c.length := storeL_length ..
  have hsp1 := all_storeL (i := o + k * 5) hcp hcp2
  have hse1 := storeL_eq ((c.drop (o + (k + 1) * 5)).take ((p - k) * 5)) c (o + k * 5) (by omega)
  generalize hc1 : storeL c (o + k * 5) ((c.drop (o + (k + 1) * 5)).take ((p - k) * 5)) = c1 at e4 hsl1 hsp1 hse1
  have g1 : (s.heap.put id (some (.cells c1 28 5 false))).get id = some (.cells c1 28 5 false) := by simp only [Heap.get_put, if_true]
  have e5 : evP (s.heap.put id (some (.cells c1 28 5 false))).get s.next (.slice (.slice 5) (.slice (some ⟨id, o, none⟩) p cap) (some (.int .i64 (p : Nat))) (some (.int .i64 ((p + 1 : Nat) : Int))) none) = _ := ev_slice2 g1 (.inr (.inl rfl)) (by omega) h1
  rw [show p + 1 - p = 1 by omega] at e5
  have e6 : evP (s.heap.put id (some (.cells c1 28 5 false))).get s.next (.clear 5 [i64 0, .string ⟨#[]⟩, .string ⟨#[]⟩, i64 0, i64 0] (.slice (some ⟨id, o + p * 5, none⟩) 1 (cap - p))) = _ := ev_clear g1 (by decide) rfl (by omega)
  have hzf : (List.replicate 1 [i64 0, .string ⟨#[]⟩, .string ⟨#[]⟩, i64 0, i64 0]).flatten = [i64 0, .string ⟨#[]⟩, .string ⟨#[]⟩, i64 0, i64 0] := rfl
  rw [hzf] at e6
  have hsl2 : (storeL c1 (o + p * 5) [i64 0, .string ⟨#[]⟩, .string ⟨#[]⟩, i64 0, i64 0]).length = c1.length := storeL_length ..
  have hsp2 := all_storeL (vs := [i64 0, .string ⟨#[]⟩, .string ⟨#[]⟩, i64 0, i64 0]) (i := o + p * 5) hsp1 rfl
  have hse2 := storeL_eq [i64 0, .string ⟨#[]⟩, .string ⟨#[]⟩, i64 0, i64 0] c1 (o + p * 5) (by simp only [List.length_cons, List.length_nil]; omega)
  generalize hc2 : storeL c1 (o + p * 5) [i64 0, .string ⟨#[]⟩, .string ⟨#[]⟩, i64 0, i64 0] = c2 at e6 hsl2 hsp2 hse2
  have hlen : (cs.take k ++ cs.drop (k + 1)).length = p := by simp only [List.length_append, List.length_take, List.length_drop]; omega
  have hfin : (c2.drop o).take (p * 5) = (cs.take k ++ cs.drop (k + 1)).flatten := by
    rw [List.flatten_append, (row_flat hz k).1, (row_flat hz (k + 1)).2, ← h5, List.take_take, List.drop_take, List.drop_drop]
    have h6 : (c2.drop o).take (p * 5) = (c1.drop o).take (p * 5) := by
      rw [hse2, List.append_assoc, List.drop_append_of_le_length (by simp only [List.length_take]; omega), List.take_append_of_le_length (by simp only [List.length_take, List.length_drop]; omega), List.drop_take, List.take_take]
      congr 1; omega
    rw [h6, hse1, hln, List.append_assoc, List.drop_append_of_le_length (by simp only [List.length_take]; omega), List.drop_take]
    have h7 : ((c.drop o).take (o + k * 5 - o)).length = k * 5 := by simp only [List.length_take, List.length_drop]; omega
    rw [List.take_append, h7, List.take_append_of_le_length (by omega), List.take_of_length_le (i := p * 5) (by omega), List.take_of_length_le (l := (c.drop (o + (k + 1) * 5)).take ((p - k) * 5)) (by omega)]
    congr 2
    · omega
    · omega
  simp -implicitDefEqProofs only [fun41, code41, params, go_sem, reduceIte, Nat.reduceEqDiff, Nat.reduceAdd, Nat.reduceMul, Nat.reduceLT, Nat.reduceLeDiff, reduceCtorEq, Int.reduceEq, Int.reduceNeg, Nat.reduceSub, Int.reduceLT, Int.reduceLE, Int.reduceGT, Int.reduceGE, Int.reduceAdd, Int.reduceSub, Int.reduceToNat, Int.reduceBNe, Int.reduceBEq, Nat.mul_one, Nat.zero_mul, e1, d1, e2, e3, e4, e5, e6]
  refine ⟨⟨fun d hd => ?_, .inr ⟨id, o, cap, c2, by rw [hlen], rfl, by rw [hlen]; omega, h2, by simp only [Heap.get_put, if_true], hsp2, by omega, by rw [hlen]; exact hfin⟩⟩, Nat.le_refl _, fun j hj hn => ?_⟩
  · rcases List.mem_append.1 hd with hd | hd
    · exact hz1 d (List.mem_of_mem_take hd)
    · exact hz1 d (List.mem_of_mem_drop hd)
  · simp only [List.mem_cons, List.not_mem_nil, or_false] at hn
    simp only [Heap.get_put, hn, if_false]

omit T in
theorem posL_lt {x : Int} : ∀ {L : List QReq} {k : Nat}, posL x L = some k → k < L.length ∧ (rG L k).id = x := by
  intro L
  induction L with
  | nil => intro k h; cases h
  | cons r L ih =>
    intro k h
    simp only [posL] at h
    by_cases hr : r.id = x
    · rw [if_pos hr] at h; cases h; exact ⟨by simp, by simpa [rG] using hr⟩
    · rw [if_neg hr, Option.map_eq_some_iff] at h
      obtain ⟨j, hj, rfl⟩ := h
      obtain ⟨h1, h2⟩ := ih hj
      exact ⟨by simpa using h1, by simpa [rG] using h2⟩

/-- Drop, of a number that is not there; of one that is. -/
theorem p14n {q : Nat} {most : Int} {L : List QReq} {S : List Nat} {x : Int} (hR : QRep s q most L S) (hn : L.length < 2 ^ 20) (hp : posL x L = none) :
    WCall (fun k => call tbl ov k) 14 [ptr q, i64 x] s fun u s' => u = .bool false ∧ Kept [] s s' := by
  refine WCall.of T.t14 rfl ?_
  obtain ⟨lv, hq, hrow, hqS, hql⟩ := hR
  have h40 := p40 (ov := ov) (s := s) T (q := q) (mv := i64 most) (lv := lv) (x := x) hq hql hrow.toV (by omega)
  rw [hp] at h40
  have e40 := fun K => WCall.pureEq h40 K
  have n40 := nxt_le (fun k => call tbl ov k) 40 [.pointer (some ⟨q, 1, none⟩), i64 x] s
  have hge : decide (posV none < 0) = true := by simp [posV]
  simp -implicitDefEqProofs only [fun14, code14, params, go_sem, reduceIte, Nat.reduceEqDiff, Nat.reduceAdd, Nat.reduceMul, Nat.reduceLT, Nat.reduceLeDiff, reduceCtorEq, Int.reduceEq, Int.reduceNeg, Nat.reduceSub, Int.reduceLT, Int.reduceLE, Int.reduceGT, Int.reduceGE, Int.reduceAdd, Int.reduceSub, Int.reduceToNat, Int.reduceBNe, Int.reduceBEq, Nat.mul_one, Nat.zero_mul, e40, hge]
  exact ⟨n40, fun j hj _ => rfl⟩

theorem p14 {q : Nat} {most : Int} {L : List QReq} {S : List Nat} {x : Int} {k : Nat} (hR : QRep s q most L S) (hn : L.length < 2 ^ 20) (hp : posL x L = some k) :
    WCall (fun k => call tbl ov k) 14 [ptr q, i64 x] s fun u s' => u = .bool true ∧ QRep s' q most (L.take k ++ L.drop (k + 1)) S ∧ Kept (q :: S) s s' := by
  refine WCall.of T.t14 rfl ?_
  obtain ⟨lv, hq, hrow, hqS, hql⟩ := hR
  have h40 := p40 (ov := ov) (s := s) T (q := q) (mv := i64 most) (lv := lv) (x := x) hq hql hrow.toV (by omega)
  rw [hp] at h40
  have e40 := fun K => WCall.pureEq h40 K
  have n40 := nxt_le (fun k => call tbl ov k) 40 [.pointer (some ⟨q, 1, none⟩), i64 x] s
  generalize nxt (fun k => call tbl ov k) 40 [.pointer (some ⟨q, 1, none⟩), i64 x] s = n1 at e40 n40
  have hk1 : Kept [] s ⟨s.heap, n1⟩ := ⟨n40, fun _ _ _ => rfl⟩
  have h40' := p40 (ov := ov) (s := ⟨s.heap, n1⟩) T (q := q) (mv := i64 most) (lv := lv) (x := x) hq (by simp only; omega) (hrow.toV.kept hk1) (by omega)
  rw [hp] at h40'
  have e40' := fun K => WCall.pureEq h40' K
  have n40' := nxt_le (fun k => call tbl ov k) 40 [.pointer (some ⟨q, 1, none⟩), i64 x] ⟨s.heap, n1⟩
  generalize nxt (fun k => call tbl ov k) 40 [.pointer (some ⟨q, 1, none⟩), i64 x] ⟨s.heap, n1⟩ = n2 at e40' n40'
  simp only at n40'
  have hk2 : Kept [] s ⟨s.heap, n2⟩ := ⟨by simp only; omega, fun _ _ _ => rfl⟩
  obtain ⟨hkl, _⟩ := posL_lt hp
  have hge : decide ((k : Int) < 0) = false := by rw [decide_eq_false_iff_not]; omega
  have hpv : posV (some k) = (k : Int) := rfl
  have w1 : IntKind.i64.wrap ((k : Int) + 1) = ((k + 1 : Nat) : Int) := by rw [IntKind.wrap_i64]; omega
  simp -implicitDefEqProofs only [fun14, code14, params, go_sem, reduceIte, Nat.reduceEqDiff, Nat.reduceAdd, Nat.reduceMul, Nat.reduceLT, Nat.reduceLeDiff, reduceCtorEq, Int.reduceEq, Int.reduceNeg, Nat.reduceSub, Int.reduceLT, Int.reduceLE, Int.reduceGT, Int.reduceGE, Int.reduceAdd, Int.reduceSub, Int.reduceToNat, Int.reduceBNe, Int.reduceBEq, Nat.mul_one, Nat.zero_mul, e40, e40', hge, hq, hpv, w1]
  refine WCall.mono (p41 T (hrow.kept hk2 (by simp)) (k := k) (by simp only [List.length_map]; exact hkl) (by simp only [List.length_map]; exact hn)) ?_
  rintro v s1 ⟨hR1, hk3⟩
  have hk4 : Kept S s s1 := (hk2.sub (by simp)).comp hk3 (fun x hx => .inl hx)
  have hq1 : s1.heap.get q = some (.cells [i64 most, lv] 80 0 false) := by rw [hk4.2 q hql hqS]; exact hq
  obtain ⟨va, vc, rfl⟩ := hR1.toV.len
  have hcl : (cellsL L).take k ++ (cellsL L).drop (k + 1) = cellsL (L.take k ++ L.drop (k + 1)) := by simp only [cellsL, List.map_append, List.map_take, List.map_drop]
  rw [hcl] at hR1 ⊢
  obtain ⟨h1, h2⟩ := QRep.store (most := most) hR1 hk4 hql hqS (fun x hx => .inl hx)
  simp -implicitDefEqProofs only [go_sem, reduceIte, Nat.reduceEqDiff, Nat.reduceAdd, Nat.reduceMul, Nat.reduceLT, Nat.reduceLeDiff, reduceCtorEq, Int.reduceEq, Int.reduceNeg, Nat.reduceSub, Int.reduceLT, Int.reduceLE, Int.reduceGT, Int.reduceGE, Int.reduceAdd, Int.reduceSub, Int.reduceToNat, Int.reduceBNe, Int.reduceBEq, Nat.mul_one, Nat.zero_mul, hq1]
  exact ⟨h1, h2⟩
end

end Go.Proofs.Ytgnpafmhdmmmhaa
