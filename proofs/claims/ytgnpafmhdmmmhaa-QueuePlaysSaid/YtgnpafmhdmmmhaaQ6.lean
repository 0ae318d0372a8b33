/-
  The queue: New, Len, First, Back, Push.
-/
import Derived.Test.YtgnpafmhdmmmhaaQ5
import Derived.Test.YtgnpafmhdmmmhaaA42
set_option maxRecDepth 100000
set_option linter.unusedVariables false
set_option linter.unusedSimpArgs false
namespace Go.Proofs.Ytgnpafmhdmmmhaa
open Go Go.Abs Go.Abs.K

abbrev ptr (q : Nat) : Value := .pointer (some ⟨q, 0, none⟩)

/-- A queue. -/
def QRep (s : St) (q : Nat) (most : Int) (L : List QReq) (S : List Nat) : Prop :=
  ∃ lv, s.heap.get q = some (.cells [i64 most, lv] 80 0 false) ∧ RowsP 28 5 s lv (cellsL L) S ∧ q ∉ S ∧ q < s.next

theorem QRep.kept {s s' : St} {q : Nat} {most : Int} {L : List QReq} {S T : List Nat} (h : QRep s q most L S) (hk : Kept T s s') (hq : q ∉ T) (hd : ∀ x ∈ S, x ∉ T) : QRep s' q most L S := by
  obtain ⟨lv, h1, h2, h3, h4⟩ := h
  exact ⟨lv, by rw [hk.2 q h4 hq]; exact h1, h2.kept hk hd, h3, Nat.lt_of_lt_of_le h4 hk.1⟩

theorem QRep.lt {s : St} {q : Nat} {most : Int} {L : List QReq} {S : List Nat} (h : QRep s q most L S) : q < s.next ∧ ∀ x ∈ S, x < s.next := by
  obtain ⟨lv, h1, h2, h3, h4⟩ := h
  exact ⟨h4, h2.lt⟩

structure OvOK (ov : CallSem) : Prop where
  ins : ∀ a l s, ov 45 (a :: l) s = insSem 45 28 5 56 45 (a :: l) s
  awake : ∀ s, ov 15 [] s = some (.bool true, s)

/-- With one put in. -/
def insL (r : QReq) (L : List QReq) : List QReq := L.take (insI r L) ++ r :: L.drop (insI r L)

theorem resV_cell (e : Env) (s : St) (a : Nat) (n : Option Nat) : resV e s (.cell a n) = (e.get a).bind (loadA s n) := rfl
theorem loadA_n (s : St) (n id o : Nat) : loadA s (some n) (.pointer (some ⟨id, o, none⟩)) = (cellsAt s.heap.get id o n).map fun l => .agg l.toArray := by
  simp only [loadA, evP]
  cases cellsAt s.heap.get id o n <;> rfl

section
variable {tbl : FuncId → Option AFun} {ov : CallSem} {s : St} (T : QTbl tbl)
include T

theorem p11 {n : Int} (K : Value → St → Prop) : WCall (fun k => call tbl ov k) 11 [i64 n] s K = K (ptr s.next) ⟨s.heap.put s.next (some (.cells [i64 (if 0 > n then 0 else n), .slice none 0 0] 80 0 false)), s.next + 1⟩ := by
  refine WCall.eq (WCall.of T.t11 rfl ?_) K
  have e1 : evP s.heap.get s.next (.minmax true [i64 n, i64 0]) = some ⟨i64 (if 0 > n then 0 else n), [], s.next⟩ := by simp [evP, minmaxV]
  simp -implicitDefEqProofs only [fun11, code11, params, go_sem, reduceIte, Nat.reduceEqDiff, Nat.reduceAdd, Nat.reduceMul, Nat.reduceLT, Nat.reduceLeDiff, reduceCtorEq, Int.reduceEq, Int.reduceNeg, Nat.reduceSub, Int.reduceLT, Int.reduceLE, Int.reduceGT, Int.reduceGE, Int.reduceAdd, Int.reduceSub, Int.reduceToNat, Int.reduceBNe, Int.reduceBEq, Nat.mul_one, Nat.zero_mul, e1, fillL]

theorem p22 {q : Nat} {mv a : Value} {ad : Option Addr} {n c : Nat} (hq : s.heap.get q = some (.cells [mv, .slice ad n c] 80 0 false)) (K : Value → St → Prop) : WCall (fun k => call tbl ov k) 22 [ptr q] s K = K (i64 n) s := by
  refine WCall.eq (WCall.of T.t22 rfl ?_) K
  simp -implicitDefEqProofs only [fun22, code22, params, go_sem, reduceIte, Nat.reduceEqDiff, Nat.reduceAdd, Nat.reduceMul, Nat.reduceLT, Nat.reduceLeDiff, reduceCtorEq, Int.reduceEq, Int.reduceNeg, Nat.reduceSub, Int.reduceLT, Int.reduceLE, Int.reduceGT, Int.reduceGE, Int.reduceAdd, Int.reduceSub, Int.reduceToNat, Int.reduceBNe, Int.reduceBEq, Nat.mul_one, Nat.zero_mul, hq]

/-- First, of none. -/
theorem p13n {q : Nat} {mv : Value} {c : Nat} {ad : Option Addr} (hq : s.heap.get q = some (.cells [mv, .slice ad 0 c] 80 0 false)) (hql : q < s.next) :
    Pure tbl ov 13 [ptr q] s (.tuple #[.agg #[i64 0, .string ⟨#[]⟩, .string ⟨#[]⟩, i64 0, i64 0], .bool false]) := by
  refine WCall.pure T.t13 rfl (by decide) rfl ?_
  have hne : (q = s.next) = False := by simp; omega
  have c0 : (((0 : Nat) : Int) == 0) = true := rfl
  have e22 := fun K => p22 T (ov := ov) (s := ⟨s.heap.put s.next (some (.cells [i64 0, .string ⟨#[]⟩, .string ⟨#[]⟩, i64 0, i64 0] 28 0 false)), s.next + 1⟩) (q := q) (mv := mv) (a := mv) (ad := ad) (n := 0) (c := c) (by simp only [Heap.get_put, hne, if_false, hq]) K
  simp -implicitDefEqProofs only [fun13, code13, params, go_sem, reduceIte, Nat.reduceEqDiff, Nat.reduceAdd, Nat.reduceMul, Nat.reduceLT, Nat.reduceLeDiff, reduceCtorEq, Int.reduceEq, Int.reduceNeg, Nat.reduceSub, Int.reduceLT, Int.reduceLE, Int.reduceGT, Int.reduceGE, Int.reduceAdd, Int.reduceSub, Int.reduceToNat, Int.reduceBNe, Int.reduceBEq, Nat.mul_one, Nat.zero_mul, hq, hne, e22, c0, fillL, resV_cell, loadA_n]
  exact ⟨rfl, Nat.le_succ _, kept_put2 (Nat.le_refl _)⟩

theorem p13 {q : Nat} {mv lv : Value} {r : QReq} {L : List QReq} (hq : s.heap.get q = some (.cells [mv, lv] 80 0 false)) (hql : q < s.next) (hr : RowV 5 s lv (cellsL (r :: L))) :
    Pure tbl ov 13 [ptr q] s (.tuple #[r.val, .bool true]) := by
  refine WCall.pure T.t13 rfl (by decide) rfl ?_
  have hne : (q = s.next) = False := by simp; omega
  obtain ⟨id, o, cap, c, T', ro, rfl, hg, hle, hrow, h0, _⟩ := row_read hr (i := 0) (by simp)
  have hid : (id = s.next) = False := by
    obtain ⟨_, h | ⟨id', o', cap', c', T'', ro', h1, h2, h3, _⟩⟩ := hr
    · cases h.1
    · simp only [Value.slice.injEq, Option.some.injEq, Addr.mk.injEq] at h1
      have := h1.1.1
      simp; omega
  obtain ⟨n, hn⟩ : ∃ n, n = (r :: L).length := ⟨_, rfl⟩
  rw [← hn] at hq
  have hn0 : 0 < n := by rw [hn]; simp
  have c0 : ((n : Int) == 0) = false := by simp; omega
  have hrow' : (c.drop o).take 5 = r.cells := by simpa [rG] using hrow
  have hle' : o + 5 ≤ c.length := by omega
  have hr5 : r.cells.length = 5 := rfl
  have hrt : r.cells.take 5 = r.cells := rfl
  have hra : r.cells.all isCell = true := rfl
  have hst : storeL [i64 0, .string ⟨#[]⟩, .string ⟨#[]⟩, i64 0, i64 0] 0 r.cells = r.cells := rfl
  have e22 := fun K => p22 T (ov := ov) (s := ⟨s.heap.put s.next (some (.cells [i64 0, .string ⟨#[]⟩, .string ⟨#[]⟩, i64 0, i64 0] 28 0 false)), s.next + 1⟩) (q := q) (mv := mv) (a := mv) (ad := some ⟨id, o, none⟩) (n := n) (c := cap) (by simp only [Heap.get_put, hne, if_false, hq]) K
  have hix : 0 < (n : Int) := by omega
  simp -implicitDefEqProofs only [fun13, code13, params, go_sem, reduceIte, Nat.reduceEqDiff, Nat.reduceAdd, Nat.reduceMul, Nat.reduceLT, Nat.reduceLeDiff, reduceCtorEq, Int.reduceEq, Int.reduceNeg, Nat.reduceSub, Int.reduceLT, Int.reduceLE, Int.reduceGT, Int.reduceGE, Int.reduceAdd, Int.reduceSub, Int.reduceToNat, Int.reduceBNe, Int.reduceBEq, Nat.mul_one, Nat.zero_mul, hq, hne, hid, e22, c0, hix, hg, hle', hrow', Nat.add_zero, hr5, hrt, hra, resV_cell, loadA_n, List.drop_zero, hst]
  exact ⟨Nat.le_succ _, kept_put2 (Nat.le_refl _)⟩

omit T in
theorem req_facts (r : QReq) : r.cells.length = 5 ∧ r.cells.take 5 = r.cells ∧ r.cells.all isCell = true ∧ r.cells.all primV = true ∧ storeL [i64 0, .string ⟨#[]⟩, .string ⟨#[]⟩, i64 0, i64 0] 0 r.cells = r.cells ∧ r.cells[0]? = some (i64 r.id) := ⟨rfl, rfl, rfl, rfl, rfl, rfl⟩

omit T in
theorem kept_put_nil {s : St} {id : Nat} {o : Option AObj} {n : Nat} (h : s.next ≤ id) (hn : s.next ≤ n) : Kept [] s ⟨s.heap.put id o, n⟩ := ⟨hn, fun j hj _ => by rw [Heap.get_put, if_neg (by omega)]⟩

omit T in
theorem big_small {n : Nat} (h : n < 2 ^ 30) : tooBig n 56 = false := by
  simp only [tooBig, Bool.or_eq_false_iff, decide_eq_false_iff_not]
  omega

omit T in
theorem cells_ins (r : QReq) (L : List QReq) (k : Nat) : cellsL (L.take k ++ r :: L.drop k) = (cellsL L).take k ++ r.cells :: (cellsL L).drop k := by
  simp only [cellsL, List.map_append, List.map_cons, List.map_take, List.map_drop]

omit T in
/-- The queue's list is written. -/
theorem QRep.store {s0 s5 : St} {q : Nat} {most : Int} {M : List QReq} {S S' : List Nat} {val : Value} (hR : RowsP 28 5 s5 val (cellsL M) S') (hk : Kept S s0 s5) (hq : q < s0.next) (hqS : q ∉ S) (hS : ∀ x ∈ S', x ∈ S ∨ s0.next ≤ x) :
    QRep ⟨s5.heap.put q (some (.cells [i64 most, val] 80 0 false)), s5.next⟩ q most M S' ∧ Kept (q :: S) s0 ⟨s5.heap.put q (some (.cells [i64 most, val] 80 0 false)), s5.next⟩ := by
  have hqS' : q ∉ S' := fun h => by
    rcases hS q h with h | h
    · exact hqS h
    · omega
  have hk2 : Kept [q] s5 ⟨s5.heap.put q (some (.cells [i64 most, val] 80 0 false)), s5.next⟩ := ⟨Nat.le_refl _, fun j _ hj => by rw [Heap.get_put, if_neg (by simpa using hj)]⟩
  refine ⟨⟨val, by simp only [Heap.get_put, if_true], hR.kept hk2 (fun x hx he => hqS' (by rw [← List.mem_singleton.1 he]; exact hx)), hqS', Nat.lt_of_lt_of_le hq hk.1⟩, hk.1, fun j hj hn => ?_⟩
  simp only [List.mem_cons, not_or] at hn
  simp only [Heap.get_put]
  rw [if_neg hn.1]
  exact hk.2 j hj hn.2

/-- Back, of a number that is there. -/
theorem p18d {q : Nat} {most : Int} {L : List QReq} {S : List Nat} {r : QReq} (hR : QRep s q most L S) (hn : L.length < 2 ^ 20) (hp : posL r.id L ≠ none) :
    WCall (fun k => call tbl ov k) 18 [ptr q, r.val] s fun u s' => u = .bool false ∧ Kept [] s s' := by
  refine WCall.of T.t18 rfl ?_
  obtain ⟨lv, hq, hrow, hqS, hql⟩ := hR
  obtain ⟨f1, f2, f3, f4, f5, f6⟩ := req_facts r
  have hne : (q = s.next) = False := by simp; omega
  obtain ⟨i, hpi⟩ := Option.ne_none_iff_exists'.1 hp
  have hk1 : Kept [] s ⟨s.heap.put s.next (some (.cells r.cells 28 0 false)), s.next + 1⟩ := kept_put_nil (Nat.le_refl _) (Nat.le_succ _)
  have h40 := p40 (ov := ov) (s := ⟨s.heap.put s.next (some (.cells r.cells 28 0 false)), s.next + 1⟩) T (q := q) (mv := i64 most) (lv := lv) (x := r.id) (by simp only [Heap.get_put, hne, if_false, hq]) (Nat.lt_succ_of_lt hql) (hrow.toV.kept hk1) (by omega)
  rw [hpi] at h40
  have e40 := fun K => WCall.pureEq h40 K
  have n40 := nxt_le (fun k => call tbl ov k) 40 [.pointer (some ⟨q, 1, none⟩), i64 r.id] ⟨s.heap.put s.next (some (.cells r.cells 28 0 false)), s.next + 1⟩
  have hge : decide (posV (some i) ≥ 0) = true := by simp [posV]
  simp -implicitDefEqProofs only [fun18, code18, params, go_sem, reduceIte, Nat.reduceEqDiff, Nat.reduceAdd, Nat.reduceMul, Nat.reduceLT, Nat.reduceLeDiff, reduceCtorEq, Int.reduceEq, Int.reduceNeg, Nat.reduceSub, Int.reduceLT, Int.reduceLE, Int.reduceGT, Int.reduceGE, Int.reduceAdd, Int.reduceSub, Int.reduceToNat, Int.reduceBNe, Int.reduceBEq, Nat.mul_one, Nat.zero_mul, hq, hne, f6, e40, hge]
  exact ⟨Nat.le_trans (Nat.le_succ _) n40, fun j hj _ => by simp only [Heap.get_put]; rw [if_neg (by omega)]⟩

/-- Back, of a number that is not. -/
theorem p18 {q : Nat} {most : Int} {L : List QReq} {S : List Nat} {r : QReq} (ho : OvOK ov) (hR : QRep s q most L S) (hs : SortedR L) (hn : L.length < 2 ^ 20) (hp : posL r.id L = none) :
    WCall (fun k => call tbl ov k) 18 [ptr q, r.val] s fun u s' => u = .bool true ∧ ∃ S', QRep s' q most (insL r L) S' ∧ Kept (q :: S) s s' ∧ ∀ x ∈ S', x ∈ S ∨ s.next ≤ x := by
  refine WCall.of T.t18 rfl ?_
  have hlt := hR.lt
  obtain ⟨lv, hq, hrow, hqS, hql⟩ := hR
  obtain ⟨f1, f2, f3, f4, f5, f6⟩ := req_facts r
  have hne : (q = s.next) = False := by simp; omega
  have hk1 : Kept [] s ⟨s.heap.put s.next (some (.cells r.cells 28 0 false)), s.next + 1⟩ := kept_put_nil (Nat.le_refl _) (Nat.le_succ _)
  have hq1 : (s.heap.put s.next (some (.cells r.cells 28 0 false))).get q = some (.cells [i64 most, lv] 80 0 false) := by simp only [Heap.get_put, hne, if_false, hq]
  have h40 := p40 (ov := ov) (s := ⟨s.heap.put s.next (some (.cells r.cells 28 0 false)), s.next + 1⟩) T (q := q) (mv := i64 most) (lv := lv) (x := r.id) hq1 (Nat.lt_succ_of_lt hql) (hrow.toV.kept hk1) (by omega)
  rw [hp] at h40
  have e40 := fun K => WCall.pureEq h40 K
  have n40 := nxt_le (fun k => call tbl ov k) 40 [.pointer (some ⟨q, 1, none⟩), i64 r.id] ⟨s.heap.put s.next (some (.cells r.cells 28 0 false)), s.next + 1⟩
  generalize nxt (fun k => call tbl ov k) 40 [.pointer (some ⟨q, 1, none⟩), i64 r.id] ⟨s.heap.put s.next (some (.cells r.cells 28 0 false)), s.next + 1⟩ = n2 at e40 n40
  have hk2 : Kept [] s ⟨s.heap.put s.next (some (.cells r.cells 28 0 false)), n2⟩ := kept_put_nil (Nat.le_refl _) (by simp only at n40; omega)
  have h43 := p43 (ov := ov) (s := ⟨s.heap.put s.next (some (.cells r.cells 28 0 false)), n2⟩) T (r := r) (hrow.toV.kept hk2) (by omega) hs
  have e43 := fun K => WCall.pureEq h43 K
  have n43 := nxt_le (fun k => call tbl ov k) 43 [lv, r.val, .func (.func 44) #[] #[]] ⟨s.heap.put s.next (some (.cells r.cells 28 0 false)), n2⟩
  generalize nxt (fun k => call tbl ov k) 43 [lv, r.val, .func (.func 44) #[] #[]] ⟨s.heap.put s.next (some (.cells r.cells 28 0 false)), n2⟩ = n3 at e43 n43
  simp only at n40 n43
  obtain ⟨s4, hs4⟩ : ∃ s4 : St, s4 = ⟨(s.heap.put s.next (some (.cells r.cells 28 0 false))).put n3 (some (.cells r.cells 28 5 false)), n3 + 1⟩ := ⟨_, rfl⟩
  have hk4 : Kept [] s s4 := by
    rw [hs4]
    exact ⟨by simp only; omega, fun j hj _ => by simp only [Heap.get_put]; rw [if_neg (by omega), if_neg (by omega)]⟩
  obtain ⟨val, s5, S', he, hR5, hk5, hS5⟩ := (hrow.kept hk4 (by simp)).insert (b := 56) (ki := 45) (by decide) (by decide) (yb := n3) (row := r.cells) (by rw [hs4]; simp only [Heap.get_put, if_true]) (by rw [hs4]; exact Nat.lt_succ_self _) rfl rfl
    (fun hx => by have := hlt.2 _ hx; omega) (k := insI r L) (by simp only [List.length_map]; exact insI_le r L) (big_small (by simp only [List.length_map]; omega)) (big_small (by omega))
  obtain ⟨va, vc, rfl⟩ := hR5.toV.len
  have e45 := fun K => WCall.eq (K := K) (WCall.ov (tbl := tbl) (ov := ov) T.t45 (r := (_, s5)) ((ho.ins _ _ _).trans he) ⟨rfl, rfl⟩)
  rw [hs4] at e45
  have hq5 : s5.heap.get q = some (.cells [i64 most, lv] 80 0 false) := by
    rw [hk5.2 q (by rw [hs4]; simp only; omega) hqS, hk4.2 q hql (by simp)]; exact hq
  have hge : decide (posV none ≥ 0) = false := by simp [posV]
  have hn3 : (q = n3) = False := by simp; omega
  have hn4 : (s.next = n3) = False := by simp; omega
  simp -implicitDefEqProofs only [fun18, code18, params, go_sem, reduceIte, Nat.reduceEqDiff, Nat.reduceAdd, Nat.reduceMul, Nat.reduceLT, Nat.reduceLeDiff, reduceCtorEq, Int.reduceEq, Int.reduceNeg, Nat.reduceSub, Int.reduceLT, Int.reduceLE, Int.reduceGT, Int.reduceGE, Int.reduceAdd, Int.reduceSub, Int.reduceToNat, Int.reduceBNe, Int.reduceBEq, Nat.mul_one, Nat.zero_mul, hq, hne, hn3, hn4, f1, f2, f3, f5, f6, e40, hge, e43, ev_buildSlice, fillL, e45, hq5, List.drop_zero]
  have hk5' : Kept S s s5 := (hk4.sub (by simp)).comp hk5 (fun x hx => .inl hx)
  have hS5' : ∀ x ∈ S', x ∈ S ∨ s.next ≤ x := fun x hx => (hS5 x hx).imp_right fun h => Nat.le_trans hk4.1 h
  rw [← cells_ins] at hR5 ⊢
  obtain ⟨h1, h2⟩ := QRep.store (most := most) hR5 hk5' hql hqS hS5'
  exact ⟨S', h1, h2, hS5'⟩

/-- Push: it is there already; there is no room; it goes in. -/
theorem p12d {q : Nat} {most : Int} {L : List QReq} {S : List Nat} {r : QReq} (hR : QRep s q most L S) (hn : L.length < 2 ^ 20) (hp : posL r.id L ≠ none) :
    WCall (fun k => call tbl ov k) 12 [ptr q, r.val] s fun u s' => u = i64 10 ∧ Kept [] s s' := by
  refine WCall.of T.t12 rfl ?_
  obtain ⟨lv, hq, hrow, hqS, hql⟩ := hR
  obtain ⟨f1, f2, f3, f4, f5, f6⟩ := req_facts r
  have hne : (q = s.next) = False := by simp; omega
  obtain ⟨i, hpi⟩ := Option.ne_none_iff_exists'.1 hp
  have hk1 : Kept [] s ⟨s.heap.put s.next (some (.cells r.cells 28 0 false)), s.next + 1⟩ := kept_put_nil (Nat.le_refl _) (Nat.le_succ _)
  have h40 := p40 (ov := ov) (s := ⟨s.heap.put s.next (some (.cells r.cells 28 0 false)), s.next + 1⟩) T (q := q) (mv := i64 most) (lv := lv) (x := r.id) (by simp only [Heap.get_put, hne, if_false, hq]) (Nat.lt_succ_of_lt hql) (hrow.toV.kept hk1) (by omega)
  rw [hpi] at h40
  have e40 := fun K => WCall.pureEq h40 K
  have n40 := nxt_le (fun k => call tbl ov k) 40 [.pointer (some ⟨q, 1, none⟩), i64 r.id] ⟨s.heap.put s.next (some (.cells r.cells 28 0 false)), s.next + 1⟩
  have hge : decide (posV (some i) ≥ 0) = true := by simp [posV]
  simp -implicitDefEqProofs only [fun12, code12, params, go_sem, reduceIte, Nat.reduceEqDiff, Nat.reduceAdd, Nat.reduceMul, Nat.reduceLT, Nat.reduceLeDiff, reduceCtorEq, Int.reduceEq, Int.reduceNeg, Nat.reduceSub, Int.reduceLT, Int.reduceLE, Int.reduceGT, Int.reduceGE, Int.reduceAdd, Int.reduceSub, Int.reduceToNat, Int.reduceBNe, Int.reduceBEq, Nat.mul_one, Nat.zero_mul, hq, hne, f6, e40, hge]
  exact ⟨Nat.le_trans (Nat.le_succ _) n40, fun j hj _ => by simp only [Heap.get_put]; rw [if_neg (by omega)]⟩

theorem p12f {q : Nat} {most : Int} {L : List QReq} {S : List Nat} {r : QReq} (hR : QRep s q most L S) (hn : L.length < 2 ^ 20) (hp : posL r.id L = none) (hfull : (L.length : Int) ≥ most) :
    WCall (fun k => call tbl ov k) 12 [ptr q, r.val] s fun u s' => u = i64 5 ∧ Kept [] s s' := by
  refine WCall.of T.t12 rfl ?_
  obtain ⟨lv, hq, hrow, hqS, hql⟩ := hR
  obtain ⟨f1, f2, f3, f4, f5, f6⟩ := req_facts r
  have hne : (q = s.next) = False := by simp; omega
  have hk1 : Kept [] s ⟨s.heap.put s.next (some (.cells r.cells 28 0 false)), s.next + 1⟩ := kept_put_nil (Nat.le_refl _) (Nat.le_succ _)
  have h40 := p40 (ov := ov) (s := ⟨s.heap.put s.next (some (.cells r.cells 28 0 false)), s.next + 1⟩) T (q := q) (mv := i64 most) (lv := lv) (x := r.id) (by simp only [Heap.get_put, hne, if_false, hq]) (Nat.lt_succ_of_lt hql) (hrow.toV.kept hk1) (by omega)
  rw [hp] at h40
  obtain ⟨va, vc, hlv⟩ := hrow.toV.len
  rw [List.length_map] at hlv
  subst hlv
  have e40 := fun K => WCall.pureEq h40 K
  have n40 := nxt_le (fun k => call tbl ov k) 40 [.pointer (some ⟨q, 1, none⟩), i64 r.id] ⟨s.heap.put s.next (some (.cells r.cells 28 0 false)), s.next + 1⟩
  have hge : decide (posV none ≥ 0) = false := by simp [posV]
  have hfl : decide ((L.length : Int) ≥ most) = true := by simpa using hfull
  simp -implicitDefEqProofs only [fun12, code12, params, go_sem, reduceIte, Nat.reduceEqDiff, Nat.reduceAdd, Nat.reduceMul, Nat.reduceLT, Nat.reduceLeDiff, reduceCtorEq, Int.reduceEq, Int.reduceNeg, Nat.reduceSub, Int.reduceLT, Int.reduceLE, Int.reduceGT, Int.reduceGE, Int.reduceAdd, Int.reduceSub, Int.reduceToNat, Int.reduceBNe, Int.reduceBEq, Nat.mul_one, Nat.zero_mul, hq, hne, f6, e40, hge, hfl]
  exact ⟨Nat.le_trans (Nat.le_succ _) n40, fun j hj _ => by simp only [Heap.get_put]; rw [if_neg (by omega)]⟩

theorem p12 {q : Nat} {most : Int} {L : List QReq} {S : List Nat} {r : QReq} (ho : OvOK ov) (hR : QRep s q most L S) (hs : SortedR L) (hn : L.length < 2 ^ 20) (hp : posL r.id L = none) (hroom : (L.length : Int) < most) :
    WCall (fun k => call tbl ov k) 12 [ptr q, r.val] s fun u s' => u = i64 0 ∧ ∃ S', QRep s' q most (insL r L) S' ∧ Kept (q :: S) s s' ∧ ∀ x ∈ S', x ∈ S ∨ s.next ≤ x := by
  refine WCall.of T.t12 rfl ?_
  have hR0 := hR
  have hlt := hR.lt
  obtain ⟨lv, hq, hrow, hqS, hql⟩ := hR
  obtain ⟨f1, f2, f3, f4, f5, f6⟩ := req_facts r
  have hne : (q = s.next) = False := by simp; omega
  have hk1 : Kept [] s ⟨s.heap.put s.next (some (.cells r.cells 28 0 false)), s.next + 1⟩ := kept_put_nil (Nat.le_refl _) (Nat.le_succ _)
  have h40 := p40 (ov := ov) (s := ⟨s.heap.put s.next (some (.cells r.cells 28 0 false)), s.next + 1⟩) T (q := q) (mv := i64 most) (lv := lv) (x := r.id) (by simp only [Heap.get_put, hne, if_false, hq]) (Nat.lt_succ_of_lt hql) (hrow.toV.kept hk1) (by omega)
  rw [hp] at h40
  obtain ⟨va, vc, hlv⟩ := hrow.toV.len
  rw [List.length_map] at hlv
  subst hlv
  have e40 := fun K => WCall.pureEq h40 K
  have n40 := nxt_le (fun k => call tbl ov k) 40 [.pointer (some ⟨q, 1, none⟩), i64 r.id] ⟨s.heap.put s.next (some (.cells r.cells 28 0 false)), s.next + 1⟩
  generalize nxt (fun k => call tbl ov k) 40 [.pointer (some ⟨q, 1, none⟩), i64 r.id] ⟨s.heap.put s.next (some (.cells r.cells 28 0 false)), s.next + 1⟩ = n2 at e40 n40
  simp only at n40
  have hge : decide (posV none ≥ 0) = false := by simp [posV]
  have hfl : decide ((L.length : Int) ≥ most) = false := by simpa using hroom
  have hk2 : Kept [] s ⟨s.heap.put s.next (some (.cells r.cells 28 0 false)), n2⟩ := kept_put_nil (Nat.le_refl _) (by omega)
  simp -implicitDefEqProofs only [fun12, code12, params, go_sem, reduceIte, Nat.reduceEqDiff, Nat.reduceAdd, Nat.reduceMul, Nat.reduceLT, Nat.reduceLeDiff, reduceCtorEq, Int.reduceEq, Int.reduceNeg, Nat.reduceSub, Int.reduceLT, Int.reduceLE, Int.reduceGT, Int.reduceGE, Int.reduceAdd, Int.reduceSub, Int.reduceToNat, Int.reduceBNe, Int.reduceBEq, Nat.mul_one, Nat.zero_mul, hq, hne, f1, f2, f6, e40, hge, hfl, List.drop_zero]
  refine WCall.mono (p18 T ho (hR0.kept hk2 (by simp) (by simp)) hs hn hp) ?_
  rintro v s1 ⟨rfl, S', h1, h2, h3⟩
  simp -implicitDefEqProofs only [go_sem, reduceIte, Nat.reduceEqDiff, Nat.reduceAdd, Nat.reduceMul, Nat.reduceLT, Nat.reduceLeDiff, reduceCtorEq, Int.reduceEq, Int.reduceNeg, Nat.reduceSub, Int.reduceLT, Int.reduceLE, Int.reduceGT, Int.reduceGE, Int.reduceAdd, Int.reduceSub, Int.reduceToNat, Int.reduceBNe, Int.reduceBEq, Nat.mul_one, Nat.zero_mul]
  exact ⟨S', h1, (hk2.sub (by simp)).comp h2 (fun x hx => .inl hx), fun x hx => (h3 x hx).imp_right fun h => Nat.le_trans hk2.1 h⟩
end

end Go.Proofs.Ytgnpafmhdmmmhaa
