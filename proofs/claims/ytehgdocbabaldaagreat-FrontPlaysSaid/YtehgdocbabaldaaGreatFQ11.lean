/-
  The queue: All (slices.Clone, slices.Clip) and Late.
-/
import Derived.Test.YtehgdocbabaldaaGreatFQ7
set_option maxRecDepth 100000
set_option linter.unusedVariables false
set_option linter.unusedSimpArgs false
namespace Go.Proofs.YtehgdocbabaldaaGreat.Q
open Go Go.Abs Go.Abs.K

theorem rows_clip {s : St} {v : Value} {cs : List (List Value)} {S : List Nat} (h : RowsP 34 5 s v cs S) :
    ∃ v', evP s.heap.get s.next (.slice (.slice 5) v none (some (.int .i64 (cs.length : Nat))) (some (.int .i64 (cs.length : Nat)))) = some ⟨v', [], s.next⟩ ∧ RowsP 34 5 s v' cs S := by
  obtain ⟨hz, ⟨rfl, rfl, rfl⟩ | ⟨id, o, cap, c, rfl, rfl, h1, h2, h3, hcp, h4, h5⟩⟩ := h
  · exact ⟨.slice none 0 0, by simp [evP, boundsV, boundV], by simp, .inl ⟨rfl, rfl, rfl⟩⟩
  · have hm : cs.length * 5 ≤ cap * 5 := Nat.mul_le_mul_right _ h1
    have a1 : (cs.length : Int) ≤ cap := by omega
    refine ⟨.slice (some ⟨id, o, none⟩) cs.length cs.length, by simp [evP, boundsV, boundV, a1, h3], hz, .inr ⟨id, o, cs.length, c, rfl, rfl, Nat.le_refl _, h2, h3, hcp, by omega, h5⟩⟩

section
variable {tbl : FuncId → Option AFun} {ov : CallSem} {s : St} (T : QTbl tbl)
include T

theorem p63 {lv : Value} {L : List QReq} {S : List Nat} (hR : RowsP 34 5 s lv (cellsL L) S) (hn : L.length < 2 ^ 20) :
    WCall (fun k => call tbl ov k) 63 [lv] s fun u s' => ∃ S', RowsP 34 5 s' u (cellsL L) S' ∧ Kept [] s s' ∧ ∀ x ∈ S', s.next ≤ x := by
  refine WCall.of T.t63 rfl ?_
  have hRV := hR.toV
  obtain ⟨hz, ⟨rfl, hL, rfl⟩ | ⟨id, o, cap, c, rfl, rfl, h1, h2, h3, hcp, h4, h5⟩⟩ := hR
  · simp -implicitDefEqProofs only [fun63, code63, params, go_sem, Option.isNone_none]
    rw [hL]
    exact ⟨[], .nil, Kept.refl _ _, by simp⟩
  · have hk1 : Kept [] s ⟨s.heap.put s.next (some (.cells [] 34 5 false)), s.next + 1⟩ := kept_put_nil (Nat.le_refl _) (Nat.le_succ _)
    have hR1 : RowsP 34 5 ⟨s.heap.put s.next (some (.cells [] 34 5 false)), s.next + 1⟩ (.slice (some ⟨s.next, 0, none⟩) 0 0) [] [s.next] :=
      ⟨by simp, .inr ⟨s.next, 0, 0, [], rfl, rfl, Nat.le_refl _, Nat.lt_succ_self _, by simp only [Heap.get_put, if_true], rfl, by simp, rfl⟩⟩
    obtain ⟨val, upd, nx, S', he, hR2, hk2, hS2⟩ := hR1.append (b := 56) (hRV.kept hk1) (fun c hc => (hz c hc).2) (big_small (by simp only [List.length_map, List.length_nil]; omega)) (fun n _ h => big_small (by simp only [List.length_map] at h; omega))
    rw [List.nil_append] at hR2
    simp -implicitDefEqProofs only [fun63, code63, params, go_sem, ev_buildSlice, fillL, he]
    refine ⟨S', hR2, ⟨Nat.le_trans hk1.1 hk2.1, fun j hj _ => ?_⟩, fun x hx => ?_⟩
    · rw [hk2.2 j (by simp only; omega) (by simp only [List.mem_singleton]; omega)]
      exact hk1.2 j hj (by simp)
    · rcases hS2 x hx with h | h
      · rw [List.mem_singleton.1 h]; exact Nat.le_refl _
      · simp only at h; omega

theorem p62 {lv : Value} {L : List QReq} {S : List Nat} (hR : RowsP 34 5 s lv (cellsL L) S) :
    WCall (fun k => call tbl ov k) 62 [lv] s fun u s' => RowsP 34 5 s u (cellsL L) S ∧ s' = s := by
  refine WCall.of T.t62 rfl ?_
  obtain ⟨v', he, hR'⟩ := rows_clip hR
  obtain ⟨a, cap, rfl⟩ := hR.toV.len
  simp -implicitDefEqProofs only [fun62, code62, params, go_sem, he]
  exact hR'

theorem p39 {q : Nat} {most : Int} {L : List QReq} {S : List Nat} (hR : QRep s q most L S) (hn : L.length < 2 ^ 20) :
    WCall (fun k => call tbl ov k) 39 [ptr q] s fun u s' => ∃ S', RowsP 34 5 s' u (cellsL L) S' ∧ Kept [] s s' ∧ ∀ x ∈ S', s.next ≤ x := by
  refine WCall.of T.t39 rfl ?_
  obtain ⟨lv, hq, hrow, hqS, hql⟩ := hR
  simp -implicitDefEqProofs only [fun39, code39, params, go_sem, hq]
  refine WCall.mono (p63 T hrow hn) ?_
  rintro v s1 ⟨S1, hR1, hk1, hS1⟩
  simp -implicitDefEqProofs only [go_sem]
  refine WCall.mono (p62 T hR1) ?_
  rintro v s2 ⟨hR2, rfl⟩
  simp -implicitDefEqProofs only [go_sem]
  exact ⟨S1, hR2, hk1, hS1⟩

end

end Go.Proofs.YtehgdocbabaldaaGreat.Q


/-
  The reference's Insert and Without.
-/
set_option maxRecDepth 100000
set_option linter.unusedVariables false
set_option linter.unusedSimpArgs false
namespace Go.Proofs.YtehgdocbabaldaaGreat.Q
open Go Go.Abs Go.Abs.K

theorem rows_empty {s : St} {n : Nat} (h : s.next < n) : RowsP 34 5 ⟨s.heap.put s.next (some (.cells [] 34 5 false)), n⟩ (.slice (some ⟨s.next, 0, none⟩) 0 0) [] [s.next] :=
  ⟨by simp, .inr ⟨s.next, 0, 0, [], rfl, rfl, Nat.le_refl _, h, by simp only [Heap.get_put, if_true], rfl, by simp, rfl⟩⟩

def wrOf : Value → List Nat
  | .slice (some a) _ _ => [a.block]
  | _ => []

theorem wrOf_rows {s : St} {v : Value} {cs : List (List Value)} {S : List Nat} (h : RowsP 34 5 s v cs S) : wrOf v = S := by
  obtain ⟨_, ⟨rfl, _, rfl⟩ | ⟨id, o, cap, c, rfl, rfl, _⟩⟩ := h <;> rfl

theorem all_tt (l : List Nat) : (l.all fun _ => true) = true := by simp
theorem foot_append (e : TypeId) (sz b : Nat) (x y : Value) : footOf (.append e sz b x y) = (wrOf y, wrOf x) := rfl
theorem foot_slice (sz : Nat) (x : Value) (lo hi mx : Option Value) : footOf (.slice (.slice sz) x lo hi mx) = (wrOf x, []) := by
  cases x <;> try rfl
  rename_i a _ _
  cases a <;> rfl

theorem wrOf_rowV {s : St} {v : Value} {cs : List (List Value)} (h : RowV 5 s v cs) : ∀ x ∈ wrOf v, x < s.next := by
  obtain ⟨_, ⟨rfl, _⟩ | ⟨id, o, cap, c, T, ro, rfl, _, h, _⟩⟩ := h
  · intro x hx; cases hx
  · intro x hx; rw [List.mem_singleton.1 hx]; exact h

theorem disj_of {a b : List Nat} (h : ∀ x ∈ a, ∀ y ∈ b, x ≠ y) : disj a b = true := by
  simp only [disj, List.all_eq_true, decide_eq_true_eq]
  exact h

theorem rowV_put {s : St} {p n : Nat} {row : List Value} (hr : row.length = 5 ∧ row.all isCell = true) (hp : p < n) : RowV 5 ⟨s.heap.put p (some (.cells row 34 5 false)), n⟩ (.slice (some ⟨p, 0, none⟩) 1 1) [row] :=
  ⟨fun c hc => by rw [List.mem_singleton.1 hc]; exact hr, .inr ⟨p, 0, 1, row, 34, false, rfl, Nat.le_refl _, hp, by simp only [Heap.get_put, if_true], by simp [hr.1], by simp [List.take_of_length_le (Nat.le_of_eq hr.1)]⟩⟩

theorem ins_tail {s : St} {lv : Value} {L : List QReq} {r : QReq} {i : Nat} (hL : RowV 5 s lv (cellsL L)) (hi : i ≤ L.length) (hn : L.length < 2 ^ 20) :
    ∃ v23 val1 upd1 nx1 val2 upd2 nx2 v30 val3 upd3 nx3 S3,
      evP (s.heap.put s.next (some (.cells [] 34 5 false))).get (s.next + 1) (.slice (.slice 5) lv none (some (i64 i)) none) = some ⟨v23, [], s.next + 1⟩ ∧
      evP (s.heap.put s.next (some (.cells [] 34 5 false))).get (s.next + 1) (.append 34 5 56 (.slice (some ⟨s.next, 0, none⟩) 0 0) v23) = some ⟨val1, upd1, nx1⟩ ∧
      evP ((applyUpd (s.heap.put s.next (some (.cells [] 34 5 false))) upd1).put nx1 (some (.cells r.cells 34 5 false))).get (nx1 + 1) (.append 34 5 56 val1 (.slice (some ⟨nx1, 0, none⟩) 1 1)) = some ⟨val2, upd2, nx2⟩ ∧
      evP (applyUpd ((applyUpd (s.heap.put s.next (some (.cells [] 34 5 false))) upd1).put nx1 (some (.cells r.cells 34 5 false))) upd2).get nx2 (.slice (.slice 5) lv (some (i64 i)) none none) = some ⟨v30, [], nx2⟩ ∧
      evP (applyUpd ((applyUpd (s.heap.put s.next (some (.cells [] 34 5 false))) upd1).put nx1 (some (.cells r.cells 34 5 false))) upd2).get nx2 (.append 34 5 56 val2 v30) = some ⟨val3, upd3, nx3⟩ ∧
      RowsP 34 5 ⟨applyUpd (applyUpd ((applyUpd (s.heap.put s.next (some (.cells [] 34 5 false))) upd1).put nx1 (some (.cells r.cells 34 5 false))) upd2) upd3, nx3⟩ val3 (cellsL (L.take i ++ r :: L.drop i)) S3 ∧
      Kept [] s ⟨applyUpd (applyUpd ((applyUpd (s.heap.put s.next (some (.cells [] 34 5 false))) upd1).put nx1 (some (.cells r.cells 34 5 false))) upd2) upd3, nx3⟩ ∧
      (∀ x ∈ S3, s.next ≤ x) ∧ s.next < nx1 ∧ (∀ id, id < s.next → (applyUpd (s.heap.put s.next (some (.cells [] 34 5 false))) upd1).get id = s.heap.get id) ∧
      (∀ x ∈ wrOf val1, s.next ≤ x) := by
  have hcp : ∀ c ∈ cellsL L, c.all primV = true := fun c hc => by
    obtain ⟨x, _, rfl⟩ := List.mem_map.1 hc; rfl
  have hll : (cellsL L).length = L.length := List.length_map ..
  have hk1 : Kept [] s ⟨s.heap.put s.next (some (.cells [] 34 5 false)), s.next + 1⟩ := kept_put_nil (Nat.le_refl _) (Nat.le_succ _)
  obtain ⟨v23, hv23, e23⟩ := (hL.kept hk1).take (n := i) (by omega)
  obtain ⟨val1, upd1, nx1, S1, e24, hR1, hk2, hS1⟩ := (rows_empty (s := s) (Nat.lt_succ_self _)).append (b := 56) hv23 (fun c hc => hcp c (List.mem_of_mem_take hc)) (big_small (by simp only [List.length_nil, List.length_take]; omega)) (fun n _ h => big_small (by simp only [List.length_take] at h; omega))
  rw [List.nil_append] at hR1
  have hnx1 : s.next + 1 ≤ nx1 := hk2.1
  have hk12 : Kept [] s ⟨applyUpd (s.heap.put s.next (some (.cells [] 34 5 false))) upd1, nx1⟩ := ⟨by simp only; omega, fun j hj _ => by rw [hk2.2 j (by simp only; omega) (by simp only [List.mem_singleton]; omega)]; exact hk1.2 j hj (by simp)⟩
  have hS1' : ∀ x ∈ S1, s.next ≤ x := fun x hx => by
    rcases hS1 x hx with h | h
    · rw [List.mem_singleton.1 h]; exact Nat.le_refl _
    · simp only at h; omega
  have hk3 : Kept [] ⟨applyUpd (s.heap.put s.next (some (.cells [] 34 5 false))) upd1, nx1⟩ ⟨(applyUpd (s.heap.put s.next (some (.cells [] 34 5 false))) upd1).put nx1 (some (.cells r.cells 34 5 false)), nx1 + 1⟩ := kept_put_nil (Nat.le_refl _) (Nat.le_succ _)
  obtain ⟨f1, f2, f3, f4, f5, f6⟩ := req_facts r
  have hy : RowV 5 ⟨(applyUpd (s.heap.put s.next (some (.cells [] 34 5 false))) upd1).put nx1 (some (.cells r.cells 34 5 false)), nx1 + 1⟩ (.slice (some ⟨nx1, 0, none⟩) 1 1) [r.cells] := rowV_put (s := ⟨applyUpd (s.heap.put s.next (some (.cells [] 34 5 false))) upd1, nx1⟩) ⟨f1, f3⟩ (Nat.lt_succ_self _)
  obtain ⟨val2, upd2, nx2, S2, e27, hR2, hk4, hS2⟩ := (hR1.kept hk3 (by simp)).append (b := 56) hy (fun c hc => by rw [List.mem_singleton.1 hc]; exact f4) (big_small (by simp only [List.length_take, List.length_cons, List.length_nil]; omega)) (fun n _ h => big_small (by simp only [List.length_cons, List.length_nil] at h; omega))
  have hnx2 : nx1 + 1 ≤ nx2 := hk4.1
  have hk1234 : Kept [] s ⟨applyUpd ((applyUpd (s.heap.put s.next (some (.cells [] 34 5 false))) upd1).put nx1 (some (.cells r.cells 34 5 false))) upd2, nx2⟩ := ⟨by simp only; omega, fun j hj _ => by
    rw [hk4.2 j (by simp only; omega) (fun h => by have := hS1' j h; omega), hk3.2 j (by simp only; omega) (by simp)]
    exact hk12.2 j hj (by simp)⟩
  obtain ⟨v30, hv30, e30⟩ := (hL.kept hk1234).drop (n := i) (by omega)
  obtain ⟨val3, upd3, nx3, S3, e31, hR3, hk5, hS3⟩ := hR2.append (b := 56) hv30 (fun c hc => hcp c (List.mem_of_mem_drop hc)) (big_small (by simp only [List.length_append, List.length_take, List.length_drop, List.length_cons, List.length_nil]; omega)) (fun n _ h => big_small (by simp only [List.length_drop] at h; omega))
  have hS2' : ∀ x ∈ S2, s.next ≤ x := fun x hx => by
    rcases hS2 x hx with h | h
    · exact hS1' x h
    · simp only at h; omega
  refine ⟨v23, val1, upd1, nx1, val2, upd2, nx2, v30, val3, upd3, nx3, S3, e23 _, e24, e27, e30 _, e31, ?_, ⟨by have := hk5.1; simp only at this ⊢; omega, fun j hj _ => ?_⟩, fun x hx => ?_, by omega, fun j hj => hk12.2 j hj (by simp), by rw [wrOf_rows hR1]; exact hS1'⟩
  · have : cellsL (L.take i ++ r :: L.drop i) = (cellsL L).take i ++ [r.cells] ++ (cellsL L).drop i := by rw [cells_ins, List.append_assoc]; rfl
    rw [this]; exact hR3
  · rw [hk5.2 j (by simp only; omega) (fun h => by have := hS2' j h; omega)]
    exact hk1234.2 j hj (by simp)
  · rcases hS3 x hx with h | h
    · exact hS2' x h
    · simp only at h; omega

section
variable {tbl : FuncId → Option AFun} {ov : CallSem} {s : St} (T : QTbl tbl)
include T

theorem p18 {lv : Value} {L : List QReq} {r : QReq} (hL : RowV 5 s lv (cellsL L)) (hn : L.length < 2 ^ 20) (hLp : True) :
    WCall (fun k => call tbl ov k) 18 [lv, r.val] s fun u s' => ∃ S', RowsP 34 5 s' u (cellsL (insL r L)) S' ∧ Kept [] s s' ∧ ∀ x ∈ S', s.next ≤ x := by
  refine WCall.of T.t18 rfl ?_
  obtain ⟨a, cap, hlv⟩ := hL.len
  rw [List.length_map] at hlv
  subst hlv
  obtain ⟨f1, f2, f3, f4, f5, f6⟩ := req_facts r
  obtain ⟨s0, hs0⟩ : ∃ s0 : St, s0 = ⟨s.heap.put s.next (some (.cells r.cells 34 0 false)), s.next + 1⟩ := ⟨_, rfl⟩
  have hL0 : RowV 5 s0 (.slice a L.length cap) (cellsL L) := by rw [hs0]; exact hL.kept (kept_nil (Nat.le_succ _))
  have hbox : s0.heap.get s.next = some (.cells r.cells 34 0 false) := by rw [hs0]; simp only [Heap.get_put, if_true]
  have hk0 : Kept [] s s0 := by rw [hs0]; exact kept_put_nil (Nat.le_refl _) (Nat.le_succ _)
  have hn0 : s0.next = s.next + 1 := by rw [hs0]
  simp -implicitDefEqProofs only [fun18, code18, params, go_sem]
  rw [← hs0]
  obtain ⟨I, hI⟩ : ∃ I : Nat → List Value → St → Prop, I = fun m vs s' => s'.heap = s0.heap ∧ s0.next ≤ s'.next ∧ ∃ i, i ≤ L.length ∧ m = L.length - i ∧ vs = [.slice a L.length cap, ptr s.next, i64 i] ∧ ∀ k, k < i → beforeR (rG L k) r = true := ⟨_, rfl⟩
  refine wc_loopV I L.length ?_ ?_
  · simp -implicitDefEqProofs only [go_sem]
    rw [hI]
    exact ⟨rfl, Nat.le_refl _, 0, by omega, by omega, rfl, fun k hk => by omega⟩
  intro m vs s1 h _
  rw [hI] at h
  obtain ⟨hh, hnx, i, hi, rfl, rfl, hb⟩ := h
  have hk1 : Kept [] s0 s1 := ⟨hnx, fun j _ _ => by rw [hh]⟩
  have hL1 := hL0.kept hk1
  rw [← hh] at hbox
  have w1 : IntKind.i64.wrap ((i : Int) + 1) = ((i + 1 : Nat) : Int) := by rw [IntKind.wrap_i64]; omega
  by_cases hgo : i < L.length ∧ beforeR (rG L i) r = true
  · have hd : decide ((i : Int) < (L.length : Int)) = true := by simp; omega
    obtain ⟨id, o, cap', c, T', ro, hv, hg, hle, hrow, h0, _⟩ := row_read hL1 (i := i) hgo.1
    cases hv
    have hix : 0 ≤ (i : Int) ∧ (i : Int) < (L.length : Int) := by omega
    have hp24 := p13 T (ov := ov) (s := s1) (a := rG L i) (b := r)
    rw [hgo.2] at hp24
    have e24 := fun K => WCall.pureEq hp24 K
    have n24 := nxt_le (fun k => call tbl ov k) 13 [(rG L i).val, r.val] s1
    generalize nxt (fun k => call tbl ov k) 13 [(rG L i).val, r.val] s1 = n2 at e24 n24
    simp -implicitDefEqProofs only [go_sem, hd, hix, hg, hle, hrow, hbox, f1, f2, e24, w1, List.drop_zero]
    refine ⟨L.length - (i + 1), by omega, ?_⟩
    rw [hI]
    refine ⟨hh, by simp only; omega, i + 1, by omega, rfl, rfl, fun k hk => ?_⟩
    by_cases hki : k = i
    · rw [hki]; exact hgo.2
    · exact hb k (by omega)
  have hins : i = insI r L := insI_eq hi hb fun h => by
    cases hx : beforeR (rG L i) r
    · rfl
    · exact absurd ⟨h, hx⟩ hgo
  have hiI := insI_le r L
  have hlv := wrOf_rowV hL
  have hfin : ∀ n2, s0.next ≤ n2 → ∀ (val1 : Value) (nx1 : Nat), n2 < nx1 → (∀ x ∈ wrOf val1, n2 ≤ x) → disj [n2] [s.next] = true ∧ disj [n2] (List.range' nx1 (nx1 + 1 - nx1)) = true ∧ disj [n2] (wrOf (.slice a L.length cap)) = true ∧ disj (wrOf val1) (wrOf (.slice a L.length cap)) = true := by
    intro n2 h2 val1 nx1 h3 h4
    refine ⟨disj_of fun x hx y hy => ?_, disj_of fun x hx y hy => ?_, disj_of fun x hx y hy => ?_, disj_of fun x hx y hy => ?_⟩
    · rw [List.mem_singleton.1 hx, List.mem_singleton.1 hy]; omega
    · rw [List.mem_singleton.1 hx]
      have := List.mem_range'_1.1 hy
      omega
    · rw [List.mem_singleton.1 hx]
      have := hlv y hy
      omega
    · have := hlv y hy
      have := h4 x hx
      omega
  have hend : (i < L.length ∧ beforeR (rG L i) r = false) ∨ ¬ i < L.length := by
    by_cases h : i < L.length
    · refine .inl ⟨h, ?_⟩
      cases hx : beforeR (rG L i) r
      · rfl
      · exact absurd ⟨h, hx⟩ hgo
    · exact .inr h
  rcases hend with ⟨hlt, hbf⟩ | hlt
  · have hd : decide ((i : Int) < (L.length : Int)) = true := by simp; omega
    obtain ⟨id, o, cap', c, T', ro, hv, hg, hle, hrow, h0, _⟩ := row_read hL1 (i := i) hlt
    cases hv
    have hix : 0 ≤ (i : Int) ∧ (i : Int) < (L.length : Int) := by omega
    have hp24 := p13 T (ov := ov) (s := s1) (a := rG L i) (b := r)
    rw [hbf] at hp24
    have e24' := fun K => WCall.pureEq hp24 K
    have n24 := nxt_le (fun k => call tbl ov k) 13 [(rG L i).val, r.val] s1
    generalize nxt (fun k => call tbl ov k) 13 [(rG L i).val, r.val] s1 = n2 at e24' n24
    have hk2 : Kept [] s1 ⟨s1.heap, n2⟩ := ⟨n24, fun _ _ _ => rfl⟩
    obtain ⟨v23, val1, upd1, nx1, val2, upd2, nx2, v30, val3, upd3, nx3, S3, e23, e24, e27, e30, e31, hR3, hk3, hS3, hlt1, hold, hw1⟩ := ins_tail (s := ⟨s1.heap, n2⟩) (r := r) (i := i) (hL1.kept hk2) (by omega) hn
    simp only at e23 e24 e27 e30 e31 hR3 hk3 hS3 hlt1 hold hw1
    have hbx := (hold s.next (by omega)).trans hbox
    simp -implicitDefEqProofs only [↓foot_append, ↓foot_slice, go_sem, hd, hix, hg, hle, hrow, hbox, f1, f2, f3, f5, e24', w1, List.drop_zero, ev_buildSlice, fillL, e23, e24, e27, e30, e31, hbx]
    obtain ⟨z1, z2, z3, z4⟩ := hfin n2 (by omega) val1 nx1 hlt1 hw1
    simp only [disj, ne_eq] at z1 z2 z3 z4
    have hw2 : wrOf (.slice (some ⟨n2, 0, none⟩) 0 0) = [n2] := rfl
    have z5 : ([n2].all fun x => decide ¬x = s.next) = true := by simp; omega
    refine ⟨by simp only [hw2, z2, z3, z4, z5, all_tt, Bool.and_true], S3, ?_, ?_, fun x hx => ?_⟩
    · unfold insL; rw [← hins]; exact hR3
    · exact (hk0.trans (hk1.trans hk2)).trans hk3
    · have := hS3 x hx; omega
  · have hd : decide ((i : Int) < (L.length : Int)) = false := by simp; omega
    obtain ⟨v23, val1, upd1, nx1, val2, upd2, nx2, v30, val3, upd3, nx3, S3, e23, e24, e27, e30, e31, hR3, hk3, hS3, hlt1, hold, hw1⟩ := ins_tail (s := s1) (r := r) (i := i) hL1 (by omega) hn
    have hbx := (hold s.next (by omega)).trans hbox
    simp -implicitDefEqProofs only [↓foot_append, ↓foot_slice, go_sem, hd, hbox, f1, f2, f3, f5, List.drop_zero, ev_buildSlice, fillL, e23, e24, e27, e30, e31, hbx]
    obtain ⟨z1, z2, z3, z4⟩ := hfin s1.next (by omega) val1 nx1 hlt1 hw1
    simp only [disj, ne_eq] at z1 z2 z3 z4
    have hw2 : wrOf (.slice (some ⟨s1.next, 0, none⟩) 0 0) = [s1.next] := rfl
    have z5 : ([s1.next].all fun x => decide ¬x = s.next) = true := by simp; omega
    refine ⟨by simp only [hw2, z2, z3, z4, z5, all_tt, Bool.and_true], S3, ?_, ?_, fun x hx => ?_⟩
    · unfold insL; rw [← hins]; exact hR3
    · exact (hk0.trans hk1).trans hk3
    · have := hS3 x hx; omega

theorem p21 {lv : Value} {L : List QReq} {k : Nat} (hL : RowV 5 s lv (cellsL L)) (hk : k < L.length) (hn : L.length < 2 ^ 20) :
    WCall (fun k => call tbl ov k) 21 [lv, i64 (k : Nat)] s fun u s' => ∃ S', RowsP 34 5 s' u (cellsL (L.take k ++ L.drop (k + 1))) S' ∧ Kept [] s s' ∧ ∀ x ∈ S', s.next ≤ x := by
  refine WCall.of T.t21 rfl ?_
  have hcp : ∀ c ∈ cellsL L, c.all primV = true := fun c hc => by
    obtain ⟨x, _, rfl⟩ := List.mem_map.1 hc; rfl
  have hll : (cellsL L).length = L.length := List.length_map ..
  have hk1 : Kept [] s ⟨s.heap.put s.next (some (.cells [] 34 5 false)), s.next + 1⟩ := kept_put_nil (Nat.le_refl _) (Nat.le_succ _)
  obtain ⟨v23, hv23, e23⟩ := (hL.kept hk1).take (n := k) (by omega)
  have e23 := e23 .i64
  obtain ⟨val1, upd1, nx1, S1, e24, hR1, hk2, hS1⟩ := (rows_empty (s := s) (Nat.lt_succ_self _)).append (b := 56) hv23 (fun c hc => hcp c (List.mem_of_mem_take hc)) (big_small (by simp only [List.length_nil, List.length_take]; omega)) (fun n _ h => big_small (by simp only [List.length_take] at h; omega))
  rw [List.nil_append] at hR1
  have hnx1 : s.next + 1 ≤ nx1 := hk2.1
  have hk12 : Kept [] s ⟨applyUpd (s.heap.put s.next (some (.cells [] 34 5 false))) upd1, nx1⟩ := ⟨by simp only; omega, fun j hj _ => by rw [hk2.2 j (by simp only; omega) (by simp only [List.mem_singleton]; omega)]; exact hk1.2 j hj (by simp)⟩
  have hS1' : ∀ x ∈ S1, s.next ≤ x := fun x hx => by
    rcases hS1 x hx with h | h
    · rw [List.mem_singleton.1 h]; exact Nat.le_refl _
    · simp only at h; omega
  obtain ⟨v30, hv30, e30⟩ := (hL.kept hk12).drop (n := k + 1) (by omega)
  have e30 := e30 .i64
  obtain ⟨val3, upd3, nx3, S3, e31, hR3, hk5, hS3⟩ := hR1.append (b := 56) hv30 (fun c hc => hcp c (List.mem_of_mem_drop hc)) (big_small (by simp only [List.length_take, List.length_drop]; omega)) (fun n _ h => big_small (by simp only [List.length_drop] at h; omega))
  have w1 : IntKind.i64.wrap ((k : Int) + 1) = ((k + 1 : Nat) : Int) := by rw [IntKind.wrap_i64]; omega
  have hlv := wrOf_rowV hL
  have z1 : disj [s.next] (wrOf lv) = true := disj_of fun x hx y hy => by
    rw [List.mem_singleton.1 hx]
    have := hlv y hy
    omega
  simp only [disj, ne_eq] at z1
  have hw2 : wrOf (.slice (some ⟨s.next, 0, none⟩) 0 0) = [s.next] := rfl
  simp only at e23 e24 e30 e31 hR3 hk5
  simp -implicitDefEqProofs only [↓foot_append, ↓foot_slice, fun21, code21, params, go_sem, ev_buildSlice, fillL, e23, e24, w1, e30, e31]
  refine ⟨by simp only [hw2, z1, all_tt, Bool.and_true], S3, ?_, ⟨by have := hk5.1; simp only at this ⊢; omega, fun j hj _ => ?_⟩, fun x hx => ?_⟩
  · have : cellsL (L.take k ++ L.drop (k + 1)) = (cellsL L).take k ++ (cellsL L).drop (k + 1) := by simp only [cellsL, List.map_append, List.map_take, List.map_drop]
    rw [this]; exact hR3
  · rw [hk5.2 j (by simp only; omega) (fun h => by have := hS1' j h; omega)]
    exact hk12.2 j hj (by simp)
  · rcases hS3 x hx with h | h
    · exact hS1' x h
    · simp only at h; omega
end

end Go.Proofs.YtehgdocbabaldaaGreat.Q
