/-
  The queue: New, Len, First, Back, Push.
-/
import Derived.Test.YtehgdocbabaldaaGreatFQ5
import Derived.Test.YtehgdocbabaldaaGreatA48
set_option maxRecDepth 100000
set_option linter.unusedVariables false
set_option linter.unusedSimpArgs false
namespace Go.Proofs.YtehgdocbabaldaaGreat.Q
open Go Go.Abs Go.Abs.K

abbrev ptr (q : Nat) : Value := .pointer (some ⟨q, 0, none⟩)

def QRep (s : St) (q : Nat) (most : Int) (L : List QReq) (S : List Nat) : Prop :=
  ∃ lv, s.heap.get q = some (.cells [i64 most, lv] 110 0 false) ∧ RowsP 34 5 s lv (cellsL L) S ∧ q ∉ S ∧ q < s.next

theorem QRep.kept {s s' : St} {q : Nat} {most : Int} {L : List QReq} {S T : List Nat} (h : QRep s q most L S) (hk : Kept T s s') (hq : q ∉ T) (hd : ∀ x ∈ S, x ∉ T) : QRep s' q most L S := by
  obtain ⟨lv, h1, h2, h3, h4⟩ := h
  exact ⟨lv, by rw [hk.2 q h4 hq]; exact h1, h2.kept hk hd, h3, Nat.lt_of_lt_of_le h4 hk.1⟩

theorem QRep.lt {s : St} {q : Nat} {most : Int} {L : List QReq} {S : List Nat} (h : QRep s q most L S) : q < s.next ∧ ∀ x ∈ S, x < s.next := by
  obtain ⟨lv, h1, h2, h3, h4⟩ := h
  exact ⟨h4, h2.lt⟩

structure OvOK (ov : CallSem) : Prop where
  ins : ∀ a l s, ov 60 (a :: l) s = insSem 60 34 5 56 60 (a :: l) s
  awake : ∀ s, ov 9 [] s = some (.bool true, s)

def insL (r : QReq) (L : List QReq) : List QReq := L.take (insI r L) ++ r :: L.drop (insI r L)

theorem resV_cell (e : Env) (s : St) (a : Nat) (n : Option Nat) : resV e s (.cell a n) = (e.get a).bind (loadA s n) := rfl
theorem loadA_n (s : St) (n id o : Nat) : loadA s (some n) (.pointer (some ⟨id, o, none⟩)) = (cellsAt s.heap.get id o n).map fun l => .agg l.toArray := by
  simp only [loadA, evP]
  cases cellsAt s.heap.get id o n <;> rfl

section
variable {tbl : FuncId → Option AFun} {ov : CallSem} {s : St} (T : QTbl tbl)
include T

theorem p52 {n : Int} (K : Value → St → Prop) : WCall (fun k => call tbl ov k) 52 [i64 n] s K = K (ptr s.next) ⟨s.heap.put s.next (some (.cells [i64 (if 0 > n then 0 else n), .slice none 0 0] 110 0 false)), s.next + 1⟩ := by
  refine WCall.eq (WCall.of T.t52 rfl ?_) K
  have e1 : evP s.heap.get s.next (.minmax true [i64 n, i64 0]) = some ⟨i64 (if 0 > n then 0 else n), [], s.next⟩ := by simp [evP, minmaxV]
  simp -implicitDefEqProofs only [fun52, code52, params, go_sem, e1, fillL]

theorem p37 {q : Nat} {mv a : Value} {ad : Option Addr} {n c : Nat} (hq : s.heap.get q = some (.cells [mv, .slice ad n c] 110 0 false)) (K : Value → St → Prop) : WCall (fun k => call tbl ov k) 37 [ptr q] s K = K (i64 n) s := by
  refine WCall.eq (WCall.of T.t37 rfl ?_) K
  simp -implicitDefEqProofs only [fun37, code37, params, go_sem, hq]

theorem p30n {q : Nat} {mv : Value} {c : Nat} {ad : Option Addr} (hq : s.heap.get q = some (.cells [mv, .slice ad 0 c] 110 0 false)) (hql : q < s.next) :
    Pure tbl ov 30 [ptr q] s (.tuple #[.agg #[i64 0, .string ⟨#[]⟩, .string ⟨#[]⟩, i64 0, i64 0], .bool false]) := by
  refine WCall.pure T.t30 rfl (by decide) rfl ?_
  have hne : (q = s.next) = False := by simp; omega
  have c0 : (((0 : Nat) : Int) == 0) = true := rfl
  have e22 := fun K => p37 T (ov := ov) (s := ⟨s.heap.put s.next (some (.cells [i64 0, .string ⟨#[]⟩, .string ⟨#[]⟩, i64 0, i64 0] 34 0 false)), s.next + 1⟩) (q := q) (mv := mv) (a := mv) (ad := ad) (n := 0) (c := c) (by simp only [Heap.get_put, hne, if_false, hq]) K
  simp -implicitDefEqProofs only [fun30, code30, params, go_sem, hq, hne, e22, c0, fillL, resV_cell, loadA_n]
  exact ⟨rfl, Nat.le_succ _, kept_put2 (Nat.le_refl _)⟩

theorem p30 {q : Nat} {mv lv : Value} {r : QReq} {L : List QReq} (hq : s.heap.get q = some (.cells [mv, lv] 110 0 false)) (hql : q < s.next) (hr : RowV 5 s lv (cellsL (r :: L))) :
    Pure tbl ov 30 [ptr q] s (.tuple #[r.val, .bool true]) := by
  refine WCall.pure T.t30 rfl (by decide) rfl ?_
  have hne : (q = s.next) = False := by simp; omega
  obtain ⟨id, o, cap, c, T', ro, rfl, hg, hle, hrow, h0, _⟩ := row_read hr (i := 0) (by simp)
  have hid : (id = s.next) = False := by
    obtain ⟨_, h | ⟨id', o', cap', c', T'', ro', h1, h2, h3, _⟩⟩ := hr
    · cases h.1
    · simp only [Value.slice.injEq, Option.some.injEq, Addr.mk.injEq] at h1
      have := h1.1.1
      simp; omega
  obtain ⟨n, hn⟩ : ∃ n, n = (r :: L).length := ⟨_, rfl⟩
  rw [← hn] at hq
  have hn0 : 0 < n := by rw [hn]; simp
  have c0 : ((n : Int) == 0) = false := by simp; omega
  have hrow' : (c.drop o).take 5 = r.cells := by simpa [rG] using hrow
  have hle' : o + 5 ≤ c.length := by omega
  have hr5 : r.cells.length = 5 := rfl
  have hrt : r.cells.take 5 = r.cells := rfl
  have hra : r.cells.all isCell = true := rfl
  have hst : storeL [i64 0, .string ⟨#[]⟩, .string ⟨#[]⟩, i64 0, i64 0] 0 r.cells = r.cells := rfl
  have e22 := fun K => p37 T (ov := ov) (s := ⟨s.heap.put s.next (some (.cells [i64 0, .string ⟨#[]⟩, .string ⟨#[]⟩, i64 0, i64 0] 34 0 false)), s.next + 1⟩) (q := q) (mv := mv) (a := mv) (ad := some ⟨id, o, none⟩) (n := n) (c := cap) (by simp only [Heap.get_put, hne, if_false, hq]) K
  have hix : 0 < (n : Int) := by omega
  simp -implicitDefEqProofs only [fun30, code30, params, go_sem, hq, hne, hid, e22, c0, hix, hg, hle', hrow', Nat.add_zero, hr5, hrt, hra, resV_cell, loadA_n, List.drop_zero, hst]
  exact ⟨Nat.le_succ _, kept_put2 (Nat.le_refl _)⟩

omit T in
theorem req_facts (r : QReq) : r.cells.length = 5 ∧ r.cells.take 5 = r.cells ∧ r.cells.all isCell = true ∧ r.cells.all primV = true ∧ storeL [i64 0, .string ⟨#[]⟩, .string ⟨#[]⟩, i64 0, i64 0] 0 r.cells = r.cells ∧ r.cells[0]? = some (i64 r.id) := ⟨rfl, rfl, rfl, rfl, rfl, rfl⟩

omit T in
theorem kept_put_nil {s : St} {id : Nat} {o : Option AObj} {n : Nat} (h : s.next ≤ id) (hn : s.next ≤ n) : Kept [] s ⟨s.heap.put id o, n⟩ := ⟨hn, fun j hj _ => by rw [Heap.get_put, if_neg (by omega)]⟩

omit T in
theorem big_small {n : Nat} (h : n < 2 ^ 30) : tooBig n 56 = false := by
  simp only [tooBig, Bool.or_eq_false_iff, decide_eq_false_iff_not]
  omega

omit T in
theorem cells_ins (r : QReq) (L : List QReq) (k : Nat) : cellsL (L.take k ++ r :: L.drop k) = (cellsL L).take k ++ r.cells :: (cellsL L).drop k := by
  simp only [cellsL, List.map_append, List.map_cons, List.map_take, List.map_drop]

omit T in
theorem QRep.store {s0 s5 : St} {q : Nat} {most : Int} {M : List QReq} {S S' : List Nat} {val : Value} (hR : RowsP 34 5 s5 val (cellsL M) S') (hk : Kept S s0 s5) (hq : q < s0.next) (hqS : q ∉ S) (hS : ∀ x ∈ S', x ∈ S ∨ s0.next ≤ x) :
    QRep ⟨s5.heap.put q (some (.cells [i64 most, val] 110 0 false)), s5.next⟩ q most M S' ∧ Kept (q :: S) s0 ⟨s5.heap.put q (some (.cells [i64 most, val] 110 0 false)), s5.next⟩ := by
  have hqS' : q ∉ S' := fun h => by
    rcases hS q h with h | h
    · exact hqS h
    · omega
  have hk2 : Kept [q] s5 ⟨s5.heap.put q (some (.cells [i64 most, val] 110 0 false)), s5.next⟩ := ⟨Nat.le_refl _, fun j _ hj => by rw [Heap.get_put, if_neg (by simpa using hj)]⟩
  refine ⟨⟨val, by simp only [Heap.get_put, if_true], hR.kept hk2 (fun x hx he => hqS' (by rw [← List.mem_singleton.1 he]; exact hx)), hqS', Nat.lt_of_lt_of_le hq hk.1⟩, hk.1, fun j hj hn => ?_⟩
  simp only [List.mem_cons, not_or] at hn
  simp only [Heap.get_put]
  rw [if_neg hn.1]
  exact hk.2 j hj hn.2

theorem p36 {q : Nat} {most : Int} {L : List QReq} {S : List Nat} {r : QReq} (ho : OvOK ov) (hR : QRep s q most L S) (hs : SortedR L) (hn : L.length < 2 ^ 20) (hp : posL r.id L = none) :
    WCall (fun k => call tbl ov k) 36 [ptr q, r.val] s fun u s' => u = .bool true ∧ ∃ S', QRep s' q most (insL r L) S' ∧ Kept (q :: S) s s' ∧ ∀ x ∈ S', x ∈ S ∨ s.next ≤ x := by
  refine WCall.of T.t36 rfl ?_
  have hlt := hR.lt
  obtain ⟨lv, hq, hrow, hqS, hql⟩ := hR
  obtain ⟨f1, f2, f3, f4, f5, f6⟩ := req_facts r
  have hne : (q = s.next) = False := by simp; omega
  have hk1 : Kept [] s ⟨s.heap.put s.next (some (.cells r.cells 34 0 false)), s.next + 1⟩ := kept_put_nil (Nat.le_refl _) (Nat.le_succ _)
  have hq1 : (s.heap.put s.next (some (.cells r.cells 34 0 false))).get q = some (.cells [i64 most, lv] 110 0 false) := by simp only [Heap.get_put, hne, if_false, hq]
  have h40 := p55 (ov := ov) (s := ⟨s.heap.put s.next (some (.cells r.cells 34 0 false)), s.next + 1⟩) T (q := q) (mv := i64 most) (lv := lv) (x := r.id) hq1 (Nat.lt_succ_of_lt hql) (hrow.toV.kept hk1) (by omega)
  rw [hp] at h40
  have e40 := fun K => WCall.pureEq h40 K
  have n40 := nxt_le (fun k => call tbl ov k) 55 [.pointer (some ⟨q, 1, none⟩), i64 r.id] ⟨s.heap.put s.next (some (.cells r.cells 34 0 false)), s.next + 1⟩
  generalize nxt (fun k => call tbl ov k) 55 [.pointer (some ⟨q, 1, none⟩), i64 r.id] ⟨s.heap.put s.next (some (.cells r.cells 34 0 false)), s.next + 1⟩ = n2 at e40 n40
  have hk2 : Kept [] s ⟨s.heap.put s.next (some (.cells r.cells 34 0 false)), n2⟩ := kept_put_nil (Nat.le_refl _) (by simp only at n40; omega)
  have h43 := p58 (ov := ov) (s := ⟨s.heap.put s.next (some (.cells r.cells 34 0 false)), n2⟩) T (r := r) (hrow.toV.kept hk2) (by omega) hs
  have e43 := fun K => WCall.pureEq h43 K
  have n43 := nxt_le (fun k => call tbl ov k) 58 [lv, r.val, .func (.func 59) #[] #[]] ⟨s.heap.put s.next (some (.cells r.cells 34 0 false)), n2⟩
  generalize nxt (fun k => call tbl ov k) 58 [lv, r.val, .func (.func 59) #[] #[]] ⟨s.heap.put s.next (some (.cells r.cells 34 0 false)), n2⟩ = n3 at e43 n43
  simp only at n40 n43
  obtain ⟨s4, hs4⟩ : ∃ s4 : St, s4 = ⟨(s.heap.put s.next (some (.cells r.cells 34 0 false))).put n3 (some (.cells r.cells 34 5 false)), n3 + 1⟩ := ⟨_, rfl⟩
  have hk4 : Kept [] s s4 := by
    rw [hs4]
    exact ⟨by simp only; omega, fun j hj _ => by simp only [Heap.get_put]; rw [if_neg (by omega), if_neg (by omega)]⟩
  obtain ⟨val, s5, S', he, hR5, hk5, hS5⟩ := (hrow.kept hk4 (by simp)).insert (b := 56) (ki := 45) (by decide) (by decide) (yb := n3) (row := r.cells) (by rw [hs4]; simp only [Heap.get_put, if_true]) (by rw [hs4]; exact Nat.lt_succ_self _) rfl rfl
    (fun hx => by have := hlt.2 _ hx; omega) (k := insI r L) (by simp only [List.length_map]; exact insI_le r L) (big_small (by simp only [List.length_map]; omega)) (big_small (by omega))
  obtain ⟨va, vc, rfl⟩ := hR5.toV.len
  have e45 := fun K => WCall.eq (K := K) (WCall.ov (tbl := tbl) (ov := ov) T.t60 (r := (_, s5)) ((ho.ins _ _ _).trans he) ⟨rfl, rfl⟩)
  rw [hs4] at e45
  have hq5 : s5.heap.get q = some (.cells [i64 most, lv] 110 0 false) := by
    rw [hk5.2 q (by rw [hs4]; simp only; omega) hqS, hk4.2 q hql (by simp)]; exact hq
  have hge : decide (posV none ≥ 0) = false := by simp [posV]
  have hn3 : (q = n3) = False := by simp; omega
  have hn4 : (s.next = n3) = False := by simp; omega
  simp -implicitDefEqProofs only [fun36, code36, params, go_sem, hq, hne, hn3, hn4, f1, f2, f3, f5, f6, e40, hge, e43, ev_buildSlice, fillL, e45, hq5, List.drop_zero]
  have hk5' : Kept S s s5 := (hk4.sub (by simp)).comp hk5 (fun x hx => .inl hx)
  have hS5' : ∀ x ∈ S', x ∈ S ∨ s.next ≤ x := fun x hx => (hS5 x hx).imp_right fun h => Nat.le_trans hk4.1 h
  rw [← cells_ins] at hR5 ⊢
  obtain ⟨h1, h2⟩ := QRep.store (most := most) hR5 hk5' hql hqS hS5'
  exact ⟨S', h1, h2, hS5'⟩

end

end Go.Proofs.YtehgdocbabaldaaGreat.Q


/-
  The queue: Drop (with slices.Delete).
-/
set_option maxRecDepth 100000
set_option linter.unusedVariables false
set_option linter.unusedSimpArgs false
namespace Go.Proofs.YtehgdocbabaldaaGreat.Q
open Go Go.Abs Go.Abs.K

theorem ev_slice3 {g : Nat → Option AObj} {nx id o lo hi mx len cap sz z : Nat} {c : List Value} {t : TypeId} {ro : Bool} {k k' k'' : IntKind} (hg : g id = some (.cells c t z ro)) (hz : ro = true ∨ z = sz ∨ z = sz + 4294967296) (h1 : lo ≤ hi) (h2 : hi ≤ mx) (h3 : mx ≤ cap) :
    evP g nx (.slice (.slice sz) (.slice (some ⟨id, o, none⟩) len cap) (some (.int k lo)) (some (.int k' hi)) (some (.int k'' mx))) = some ⟨.slice (some ⟨id, o + lo * sz, none⟩) (hi - lo) (mx - lo), [], nx⟩ := by
  have a1 : (lo : Int) ≤ hi := by omega
  have a2 : (hi : Int) ≤ mx := by omega
  have a3 : (mx : Int) ≤ cap := by omega
  simp [evP, boundsV, boundV, hg, hz, a1, a2, a3, h1, h2, h3]

theorem ev_clear {g : Nat → Option AObj} {nx id o len cap sz z : Nat} {c zl : List Value} {t : TypeId} (hg : g id = some (.cells c t z false)) (h0 : len ≠ 0) (hz : zl.length = sz) (h1 : o + len * sz ≤ c.length) :
    evP g nx (.clear sz zl (.slice (some ⟨id, o, none⟩) len cap)) = some ⟨.tuple #[], [(id, some (.cells (storeL c o (List.replicate len zl).flatten) t z false))], nx⟩ := by
  simp [evP, hg, h0, hz, h1]

section
variable {tbl : FuncId → Option AFun} {ov : CallSem} {s : St} (T : QTbl tbl)
include T

theorem p56 {lv : Value} {cs : List (List Value)} {S : List Nat} {k : Nat} (hR : RowsP 34 5 s lv cs S) (hk : k < cs.length) (hn : cs.length < 2 ^ 20) :
    WCall (fun k => call tbl ov k) 56 [lv, i64 (k : Nat), i64 ((k + 1 : Nat) : Int)] s fun u s' => RowsP 34 5 s' u (cs.take k ++ cs.drop (k + 1)) S ∧ Kept S s s' := by
  refine WCall.of T.t56 rfl ?_
  have hz := hR.toO.1
  have hz1 := hR.1
  obtain ⟨_, ⟨rfl, rfl, rfl⟩ | ⟨id, o, cap, c, rfl, rfl, h1, h2, h3, hcp, h4, h5⟩⟩ := hR
  · simp at hk
  obtain ⟨p, hp⟩ : ∃ p, cs.length = p + 1 := ⟨cs.length - 1, by omega⟩
  rw [hp] at h1 h5 hk hn ⊢
  have hm : (p + 1) * 5 ≤ cap * 5 := Nat.mul_le_mul_right _ h1
  have hln : ((c.drop (o + (k + 1) * 5)).take ((p - k) * 5)).length = (p - k) * 5 := by simp only [List.length_take, List.length_drop]; omega
  have hcell : ((c.drop (o + (k + 1) * 5)).take ((p - k) * 5)).all isCell = true := prim_cells (List.all_eq_true.2 fun v hv => List.all_eq_true.1 hcp v (List.mem_of_mem_drop (List.mem_of_mem_take hv)))
  have hcp2 : ((c.drop (o + (k + 1) * 5)).take ((p - k) * 5)).all primV = true := List.all_eq_true.2 fun v hv => List.all_eq_true.1 hcp v (List.mem_of_mem_drop (List.mem_of_mem_take hv))
  have hpk : p + 1 - (k + 1) = p - k := by omega
  have hkp : k + (p - k) = p := by omega
  have e1 : evP s.heap.get s.next (.slice (.slice 5) (.slice (some ⟨id, o, none⟩) (p + 1) cap) (some (.int .i64 (k : Nat))) (some (.int .i64 ((k + 1 : Nat) : Int))) (some (.int .i64 ((p + 1 : Nat) : Int)))) = _ := ev_slice3 h3 (.inr (.inl rfl)) (by omega) (by omega) h1
  have d1 : ((k : Int) == ((k + 1 : Nat) : Int)) = false := by simp; omega
  have e2 : evP s.heap.get s.next (.slice (.slice 5) (.slice (some ⟨id, o, none⟩) (p + 1) cap) none (some (.int .i64 (k : Nat))) none) = _ := ev_sliceH h3 (.inr (.inl rfl)) (by omega)
  have e3 : evP s.heap.get s.next (.slice (.slice 5) (.slice (some ⟨id, o, none⟩) (p + 1) cap) (some (.int .i64 ((k + 1 : Nat) : Int))) none none) = _ := ev_sliceL h3 (.inr (.inl rfl)) (by omega) h1
  rw [hpk] at e3
  have e4 : evP s.heap.get s.next (.append 34 5 56 (.slice (some ⟨id, o, none⟩) k cap) (.slice (some ⟨id, o + (k + 1) * 5, none⟩) (p - k) (cap - (k + 1)))) = _ :=
    ev_append_in (n := p - k) rfl (firstL_cells h3 (Nat.le_refl _) (by omega)) hcell hln h3 (by omega) (by omega)
  rw [hkp] at e4
  have hsl1 : (storeL c (o + k * 5) ((c.drop (o + (k + 1) * 5)).take ((p - k) * 5))).length = c.length := storeL_length ..
  have hsp1 := all_storeL (i := o + k * 5) hcp hcp2
  have hse1 := storeL_eq ((c.drop (o + (k + 1) * 5)).take ((p - k) * 5)) c (o + k * 5) (by omega)
  generalize hc1 : storeL c (o + k * 5) ((c.drop (o + (k + 1) * 5)).take ((p - k) * 5)) = c1 at e4 hsl1 hsp1 hse1
  have g1 : (s.heap.put id (some (.cells c1 34 5 false))).get id = some (.cells c1 34 5 false) := by simp only [Heap.get_put, if_true]
  have e5 : evP (s.heap.put id (some (.cells c1 34 5 false))).get s.next (.slice (.slice 5) (.slice (some ⟨id, o, none⟩) p cap) (some (.int .i64 (p : Nat))) (some (.int .i64 ((p + 1 : Nat) : Int))) none) = _ := ev_slice2 g1 (.inr (.inl rfl)) (by omega) h1
  rw [show p + 1 - p = 1 by omega] at e5
  have e6 : evP (s.heap.put id (some (.cells c1 34 5 false))).get s.next (.clear 5 [i64 0, .string ⟨#[]⟩, .string ⟨#[]⟩, i64 0, i64 0] (.slice (some ⟨id, o + p * 5, none⟩) 1 (cap - p))) = _ := ev_clear g1 (by decide) rfl (by omega)
  have hzf : (List.replicate 1 [i64 0, .string ⟨#[]⟩, .string ⟨#[]⟩, i64 0, i64 0]).flatten = [i64 0, .string ⟨#[]⟩, .string ⟨#[]⟩, i64 0, i64 0] := rfl
  rw [hzf] at e6
  have hsl2 : (storeL c1 (o + p * 5) [i64 0, .string ⟨#[]⟩, .string ⟨#[]⟩, i64 0, i64 0]).length = c1.length := storeL_length ..
  have hsp2 := all_storeL (vs := [i64 0, .string ⟨#[]⟩, .string ⟨#[]⟩, i64 0, i64 0]) (i := o + p * 5) hsp1 rfl
  have hse2 := storeL_eq [i64 0, .string ⟨#[]⟩, .string ⟨#[]⟩, i64 0, i64 0] c1 (o + p * 5) (by simp only [List.length_cons, List.length_nil]; omega)
  generalize hc2 : storeL c1 (o + p * 5) [i64 0, .string ⟨#[]⟩, .string ⟨#[]⟩, i64 0, i64 0] = c2 at e6 hsl2 hsp2 hse2
  have hlen : (cs.take k ++ cs.drop (k + 1)).length = p := by simp only [List.length_append, List.length_take, List.length_drop]; omega
  have hfin : (c2.drop o).take (p * 5) = (cs.take k ++ cs.drop (k + 1)).flatten := by
    rw [List.flatten_append, (row_flat hz k).1, (row_flat hz (k + 1)).2, ← h5, List.take_take, List.drop_take, List.drop_drop]
    have h6 : (c2.drop o).take (p * 5) = (c1.drop o).take (p * 5) := by
      rw [hse2, List.append_assoc, List.drop_append_of_le_length (by simp only [List.length_take]; omega), List.take_append_of_le_length (by simp only [List.length_take, List.length_drop]; omega), List.drop_take, List.take_take]
      congr 1; omega
    rw [h6, hse1, hln, List.append_assoc, List.drop_append_of_le_length (by simp only [List.length_take]; omega), List.drop_take]
    have h7 : ((c.drop o).take (o + k * 5 - o)).length = k * 5 := by simp only [List.length_take, List.length_drop]; omega
    rw [List.take_append, h7, List.take_append_of_le_length (by omega), List.take_of_length_le (i := p * 5) (by omega), List.take_of_length_le (l := (c.drop (o + (k + 1) * 5)).take ((p - k) * 5)) (by omega)]
    congr 2
    · omega
    · omega
  simp -implicitDefEqProofs only [fun56, code56, params, go_sem, e1, d1, e2, e3, e4, e5, e6]
  refine ⟨⟨fun d hd => ?_, .inr ⟨id, o, cap, c2, by rw [hlen], rfl, by rw [hlen]; omega, h2, by simp only [Heap.get_put, if_true], hsp2, by omega, by rw [hlen]; exact hfin⟩⟩, Nat.le_refl _, fun j hj hn => ?_⟩
  · rcases List.mem_append.1 hd with hd | hd
    · exact hz1 d (List.mem_of_mem_take hd)
    · exact hz1 d (List.mem_of_mem_drop hd)
  · simp only [List.mem_cons, List.not_mem_nil, or_false] at hn
    simp only [Heap.get_put, hn, if_false]

omit T in
theorem posL_lt {x : Int} : ∀ {L : List QReq} {k : Nat}, posL x L = some k → k < L.length ∧ (rG L k).id = x := by
  intro L
  induction L with
  | nil => intro k h; cases h
  | cons r L ih =>
    intro k h
    simp only [posL] at h
    by_cases hr : r.id = x
    · rw [if_pos hr] at h; cases h; exact ⟨by simp, by simpa [rG] using hr⟩
    · rw [if_neg hr, Option.map_eq_some_iff] at h
      obtain ⟨j, hj, rfl⟩ := h
      obtain ⟨h1, h2⟩ := ih hj
      exact ⟨by simpa using h1, by simpa [rG] using h2⟩

theorem p33 {q : Nat} {most : Int} {L : List QReq} {S : List Nat} {x : Int} {k : Nat} (hR : QRep s q most L S) (hn : L.length < 2 ^ 20) (hp : posL x L = some k) :
    WCall (fun k => call tbl ov k) 33 [ptr q, i64 x] s fun u s' => u = .bool true ∧ QRep s' q most (L.take k ++ L.drop (k + 1)) S ∧ Kept (q :: S) s s' := by
  refine WCall.of T.t33 rfl ?_
  obtain ⟨lv, hq, hrow, hqS, hql⟩ := hR
  have h40 := p55 (ov := ov) (s := s) T (q := q) (mv := i64 most) (lv := lv) (x := x) hq hql hrow.toV (by omega)
  rw [hp] at h40
  have e40 := fun K => WCall.pureEq h40 K
  have n40 := nxt_le (fun k => call tbl ov k) 55 [.pointer (some ⟨q, 1, none⟩), i64 x] s
  generalize nxt (fun k => call tbl ov k) 55 [.pointer (some ⟨q, 1, none⟩), i64 x] s = n1 at e40 n40
  have hk1 : Kept [] s ⟨s.heap, n1⟩ := ⟨n40, fun _ _ _ => rfl⟩
  have h40' := p55 (ov := ov) (s := ⟨s.heap, n1⟩) T (q := q) (mv := i64 most) (lv := lv) (x := x) hq (by simp only; omega) (hrow.toV.kept hk1) (by omega)
  rw [hp] at h40'
  have e40' := fun K => WCall.pureEq h40' K
  have n40' := nxt_le (fun k => call tbl ov k) 55 [.pointer (some ⟨q, 1, none⟩), i64 x] ⟨s.heap, n1⟩
  generalize nxt (fun k => call tbl ov k) 55 [.pointer (some ⟨q, 1, none⟩), i64 x] ⟨s.heap, n1⟩ = n2 at e40' n40'
  simp only at n40'
  have hk2 : Kept [] s ⟨s.heap, n2⟩ := ⟨by simp only; omega, fun _ _ _ => rfl⟩
  obtain ⟨hkl, _⟩ := posL_lt hp
  have hge : decide ((k : Int) < 0) = false := by rw [decide_eq_false_iff_not]; omega
  have hpv : posV (some k) = (k : Int) := rfl
  have w1 : IntKind.i64.wrap ((k : Int) + 1) = ((k + 1 : Nat) : Int) := by rw [IntKind.wrap_i64]; omega
  simp -implicitDefEqProofs only [fun33, code33, params, go_sem, e40, e40', hge, hq, hpv, w1]
  refine WCall.mono (p56 T (hrow.kept hk2 (by simp)) (k := k) (by simp only [List.length_map]; exact hkl) (by simp only [List.length_map]; exact hn)) ?_
  rintro v s1 ⟨hR1, hk3⟩
  have hk4 : Kept S s s1 := (hk2.sub (by simp)).comp hk3 (fun x hx => .inl hx)
  have hq1 : s1.heap.get q = some (.cells [i64 most, lv] 110 0 false) := by rw [hk4.2 q hql hqS]; exact hq
  obtain ⟨va, vc, rfl⟩ := hR1.toV.len
  have hcl : (cellsL L).take k ++ (cellsL L).drop (k + 1) = cellsL (L.take k ++ L.drop (k + 1)) := by simp only [cellsL, List.map_append, List.map_take, List.map_drop]
  rw [hcl] at hR1 ⊢
  obtain ⟨h1, h2⟩ := QRep.store (most := most) hR1 hk4 hql hqS (fun x hx => .inl hx)
  simp -implicitDefEqProofs only [go_sem, hq1]
  exact ⟨h1, h2⟩
end

end Go.Proofs.YtehgdocbabaldaaGreat.Q
