/-
  The queue's functions that only look: comparing, seeking.
-/
import Derived.Test.YtgnpafmhdmmmhaaQ3
set_option maxRecDepth 100000
set_option linter.unusedVariables false
set_option linter.unusedSimpArgs false
namespace Go.Proofs.Ytgnpafmhdmmmhaa
open Go Go.Abs Go.Abs.K

structure QTbl (tbl : FuncId → Option AFun) : Prop where
  t11 : tbl 11 = some fun11
  t12 : tbl 12 = some fun12
  t13 : tbl 13 = some fun13
  t14 : tbl 14 = some fun14
  t16 : tbl 16 = some fun16
  t17 : tbl 17 = some fun17
  t18 : tbl 18 = some fun18
  t19 : tbl 19 = some fun19
  t20 : tbl 20 = some fun20
  t21 : tbl 21 = some fun21
  t22 : tbl 22 = some fun22
  t23 : tbl 23 = some fun23
  t24 : tbl 24 = some fun24
  t40 : tbl 40 = some fun40
  t41 : tbl 41 = some fun41
  t42 : tbl 42 = some fun42
  t43 : tbl 43 = some fun43
  t44 : tbl 44 = some fun44
  t46 : tbl 46 = some fun46
  t47 : tbl 47 = some fun47
  t57 : tbl 57 = some fun57
  t58 : tbl 58 = some fun58
  t59 : tbl 59 = some fun59
  t60 : tbl 60 = some fun60
  t67 : tbl 67 = some fun67
  t45 : tbl 45 = none
  t15 : tbl 15 = none

/-- What a call that leaves the heap comes to. -/
def Pure (tbl : FuncId → Option AFun) (ov : CallSem) (f : FuncId) (args : List Value) (s : St) (v : Value) : Prop :=
  WCall (fun k => call tbl ov k) f args s fun u s' => u = v ∧ s'.heap = s.heap ∧ s.next ≤ s'.next

theorem wv_mkFunc (cs : Nat → CallSem) (s : St) (K : Value → St → Prop) (fn : Fn) (a b : List Value) : wvals cs s K (.mkFunc fn a b) = K (.func fn a.toArray b.toArray) s := rfl
theorem callee_clo (f : FuncId) (p : Value) (l : List Value) : callee (.func (.func f) #[] #[p]) l = some (f, l ++ [p]) := by simp [callee]
theorem kept_put {s : St} {o : Option AObj} {n : Nat} : KeptAll s ⟨s.heap.put s.next o, n⟩ := fun id hid => by rw [Heap.get_put, if_neg (by omega)]
theorem kept_put2 {s : St} {o o' : Option AObj} {n m : Nat} (h : s.next ≤ m) : KeptAll s ⟨(s.heap.put s.next o).put m o', n⟩ := fun id hid => by rw [Heap.get_put, if_neg (by omega), Heap.get_put, if_neg (by omega)]

/-- How two requests stand. -/
def cmpI (a b : Int) : Int := if a < b then -1 else if b < a then 1 else 0
def cmpR (a b : QReq) : Int := if cmpI a.prio b.prio = 0 then cmpI a.id b.id else cmpI a.prio b.prio
def beforeR (a b : QReq) : Bool := decide (a.prio < b.prio) || (a.prio == b.prio && decide (a.id < b.id))

/-- Where a number is. -/
def posL (x : Int) : List QReq → Option Nat
  | [] => none
  | r :: L => if r.id = x then some 0 else (posL x L).map (· + 1)
def posV : Option Nat → Int
  | some i => i
  | none => -1

section
variable {tbl : FuncId → Option AFun} {ov : CallSem} {s : St} (T : QTbl tbl)
include T

theorem p58 {r : QReq} {b : Nat} {x : Int} (hb : s.heap.get b = some (.cells [i64 x] 3 0 false)) (hl : b < s.next) :
    Pure tbl ov 58 [r.val, .pointer (some ⟨b, 0, none⟩)] s (.bool (r.id == x)) := by
  refine WCall.pure T.t58 rfl (by decide) rfl ?_
  have hne : (b = s.next) = False := by simp; omega
  have c0 : r.cells[0]? = some (i64 r.id) := rfl
  simp -implicitDefEqProofs only [fun58, code58, params, go_sem, reduceIte, Nat.reduceEqDiff, Nat.reduceAdd, Nat.reduceMul, Nat.reduceLT, Nat.reduceLeDiff, reduceCtorEq, Int.reduceEq, Int.reduceNeg, Nat.reduceSub, Int.reduceLT, Int.reduceLE, Int.reduceGT, Int.reduceGE, Int.reduceAdd, Int.reduceSub, Int.reduceToNat, Int.reduceBNe, Int.reduceBEq, Nat.mul_one, Nat.zero_mul, hb, hne, c0]
  exact ⟨Nat.le_succ _, kept_put⟩

theorem p67 {x : Int} (K : Value → St → Prop) : WCall (fun k => call tbl ov k) 67 [i64 x] s K = K (.bool false) s := by
  refine WCall.eq (WCall.of T.t67 rfl ?_) K
  have h : (x != x) = false := by simp
  simp -implicitDefEqProofs only [fun67, code67, params, go_sem, reduceIte, Nat.reduceEqDiff, Nat.reduceAdd, Nat.reduceMul, Nat.reduceLT, Nat.reduceLeDiff, reduceCtorEq, Int.reduceEq, Int.reduceNeg, Nat.reduceSub, Int.reduceLT, Int.reduceLE, Int.reduceGT, Int.reduceGE, Int.reduceAdd, Int.reduceSub, Int.reduceToNat, Int.reduceBNe, Int.reduceBEq, Nat.mul_one, Nat.zero_mul, h]

theorem p60 {x y : Int} (K : Value → St → Prop) : WCall (fun k => call tbl ov k) 60 [i64 x, i64 y] s K = K (i64 (cmpI x y)) s := by
  refine WCall.eq (WCall.of T.t60 rfl ?_) K
  cases h1 : decide (x < y)
  · cases h2 : decide (x > y)
    · simp -implicitDefEqProofs only [fun60, code60, params, go_sem, reduceIte, Nat.reduceEqDiff, Nat.reduceAdd, Nat.reduceMul, Nat.reduceLT, Nat.reduceLeDiff, reduceCtorEq, Int.reduceEq, Int.reduceNeg, Nat.reduceSub, Int.reduceLT, Int.reduceLE, Int.reduceGT, Int.reduceGE, Int.reduceAdd, Int.reduceSub, Int.reduceToNat, Int.reduceBNe, Int.reduceBEq, Nat.mul_one, Nat.zero_mul, p67 T, h1, h2]
      simp only [decide_eq_false_iff_not] at h1 h2
      simp only [cmpI, h1, show ¬ y < x from h2, if_false]
    · simp -implicitDefEqProofs only [fun60, code60, params, go_sem, reduceIte, Nat.reduceEqDiff, Nat.reduceAdd, Nat.reduceMul, Nat.reduceLT, Nat.reduceLeDiff, reduceCtorEq, Int.reduceEq, Int.reduceNeg, Nat.reduceSub, Int.reduceLT, Int.reduceLE, Int.reduceGT, Int.reduceGE, Int.reduceAdd, Int.reduceSub, Int.reduceToNat, Int.reduceBNe, Int.reduceBEq, Nat.mul_one, Nat.zero_mul, p67 T, h1, h2]
      simp only [decide_eq_false_iff_not, decide_eq_true_eq] at h1 h2
      simp only [cmpI, h1, show y < x from h2, if_false, if_true]
  · simp -implicitDefEqProofs only [fun60, code60, params, go_sem, reduceIte, Nat.reduceEqDiff, Nat.reduceAdd, Nat.reduceMul, Nat.reduceLT, Nat.reduceLeDiff, reduceCtorEq, Int.reduceEq, Int.reduceNeg, Nat.reduceSub, Int.reduceLT, Int.reduceLE, Int.reduceGT, Int.reduceGE, Int.reduceAdd, Int.reduceSub, Int.reduceToNat, Int.reduceBNe, Int.reduceBEq, Nat.mul_one, Nat.zero_mul, p67 T, h1]
    simp only [decide_eq_true_eq] at h1
    simp only [cmpI, h1, if_true]

/-- cmp.Or of two. -/
theorem p59 {x y : Int} {b : Nat} (hb : s.heap.get b = some (.cells [i64 x, i64 y] 3 1 false)) (K : Value → St → Prop) : WCall (fun k => call tbl ov k) 59 [.slice (some ⟨b, 0, none⟩) 2 2] s K = K (i64 (if x = 0 then y else x)) s := by
  refine WCall.eq (WCall.of T.t59 rfl ?_) K
  have c2 : ((2 : Nat) : Int) = 2 := rfl
  have w1 : IntKind.i64.wrap 1 = 1 := by decide
  have w2 : IntKind.i64.wrap 2 = 2 := by decide
  simp -implicitDefEqProofs only [fun59, code59, params, go_sem, reduceIte, Nat.reduceEqDiff, Nat.reduceAdd, Nat.reduceMul, Nat.reduceLT, Nat.reduceLeDiff, reduceCtorEq, Int.reduceEq, Int.reduceNeg, Nat.reduceSub, Int.reduceLT, Int.reduceLE, Int.reduceGT, Int.reduceGE, Int.reduceAdd, Int.reduceSub, Int.reduceToNat, Int.reduceBNe, Int.reduceBEq, Nat.mul_one, Nat.zero_mul, c2]
  refine wc_loopV (fun m vs s' => s' = s ∧ ((m = 2 ∧ vs = [i64 0, .slice (some ⟨b, 0, none⟩) 2 2, i64 2, i64 0]) ∨ (m = 1 ∧ x = 0 ∧ vs = [i64 0, .slice (some ⟨b, 0, none⟩) 2 2, i64 2, i64 1]) ∨ (m = 0 ∧ x = 0 ∧ y = 0 ∧ vs = [i64 0, .slice (some ⟨b, 0, none⟩) 2 2, i64 2, i64 2]))) 2 ?_ ?_
  · simp -implicitDefEqProofs only [go_sem, reduceIte, Nat.reduceEqDiff, Nat.reduceAdd, Nat.reduceMul, Nat.reduceLT, Nat.reduceLeDiff, reduceCtorEq, Int.reduceEq, Int.reduceNeg, Nat.reduceSub, Int.reduceLT, Int.reduceLE, Int.reduceGT, Int.reduceGE, Int.reduceAdd, Int.reduceSub, Int.reduceToNat, Int.reduceBNe, Int.reduceBEq, Nat.mul_one, Nat.zero_mul]
    exact .inl trivial
  · rintro m vs s1 ⟨rfl, h⟩ _
    rcases h with ⟨rfl, rfl⟩ | ⟨rfl, hx, rfl⟩ | ⟨rfl, hx, hy, rfl⟩
    · cases h : x != 0
      · simp -implicitDefEqProofs only [go_sem, reduceIte, Nat.reduceEqDiff, Nat.reduceAdd, Nat.reduceMul, Nat.reduceLT, Nat.reduceLeDiff, reduceCtorEq, Int.reduceEq, Int.reduceNeg, Nat.reduceSub, Int.reduceLT, Int.reduceLE, Int.reduceGT, Int.reduceGE, Int.reduceAdd, Int.reduceSub, Int.reduceToNat, Int.reduceBNe, Int.reduceBEq, Nat.mul_one, Nat.zero_mul, hb, h, w1, c2]
        simp only [bne_eq_false_iff_eq] at h
        exact ⟨1, by omega, by simp [h]⟩
      · simp -implicitDefEqProofs only [go_sem, reduceIte, Nat.reduceEqDiff, Nat.reduceAdd, Nat.reduceMul, Nat.reduceLT, Nat.reduceLeDiff, reduceCtorEq, Int.reduceEq, Int.reduceNeg, Nat.reduceSub, Int.reduceLT, Int.reduceLE, Int.reduceGT, Int.reduceGE, Int.reduceAdd, Int.reduceSub, Int.reduceToNat, Int.reduceBNe, Int.reduceBEq, Nat.mul_one, Nat.zero_mul, hb, h, w1, c2]
        simp only [bne_iff_ne, ne_eq] at h
        rw [if_neg h]
    · cases h : y != 0
      · simp -implicitDefEqProofs only [go_sem, reduceIte, Nat.reduceEqDiff, Nat.reduceAdd, Nat.reduceMul, Nat.reduceLT, Nat.reduceLeDiff, reduceCtorEq, Int.reduceEq, Int.reduceNeg, Nat.reduceSub, Int.reduceLT, Int.reduceLE, Int.reduceGT, Int.reduceGE, Int.reduceAdd, Int.reduceSub, Int.reduceToNat, Int.reduceBNe, Int.reduceBEq, Nat.mul_one, Nat.zero_mul, hb, h, w2, c2]
        simp only [bne_eq_false_iff_eq] at h
        exact ⟨0, by omega, by simp [h, hx]⟩
      · simp -implicitDefEqProofs only [go_sem, reduceIte, Nat.reduceEqDiff, Nat.reduceAdd, Nat.reduceMul, Nat.reduceLT, Nat.reduceLeDiff, reduceCtorEq, Int.reduceEq, Int.reduceNeg, Nat.reduceSub, Int.reduceLT, Int.reduceLE, Int.reduceGT, Int.reduceGE, Int.reduceAdd, Int.reduceSub, Int.reduceToNat, Int.reduceBNe, Int.reduceBEq, Nat.mul_one, Nat.zero_mul, hb, h, w2, c2]
        rw [if_pos hx]
    · simp -implicitDefEqProofs only [go_sem, reduceIte, Nat.reduceEqDiff, Nat.reduceAdd, Nat.reduceMul, Nat.reduceLT, Nat.reduceLeDiff, reduceCtorEq, Int.reduceEq, Int.reduceNeg, Nat.reduceSub, Int.reduceLT, Int.reduceLE, Int.reduceGT, Int.reduceGE, Int.reduceAdd, Int.reduceSub, Int.reduceToNat, Int.reduceBNe, Int.reduceBEq, Nat.mul_one, Nat.zero_mul, hb]
      rw [if_pos hx, hy]

/-- A row of requests is looked at. -/
def rG (L : List QReq) (i : Nat) : QReq := L.getD i ⟨0, ⟨#[]⟩, ⟨#[]⟩, 0, 0⟩
omit T in
theorem rG_lt {L : List QReq} {i : Nat} (h : i < L.length) : rG L i = L[i] := by
  unfold rG
  rw [List.getD_eq_getElem?_getD, List.getElem?_eq_getElem h, Option.getD_some]
abbrev cellsL (L : List QReq) : List (List Value) := L.map QReq.cells

omit T in
theorem row_read {s : St} {lv : Value} {L : List QReq} (h : RowV 5 s lv (cellsL L)) {i : Nat} (hi : i < L.length) :
    ∃ id o cap c T ro, lv = .slice (some ⟨id, o, none⟩) L.length cap ∧ s.heap.get id = some (.cells c T 5 ro) ∧ o + i * 5 + 5 ≤ c.length ∧ (c.drop (o + i * 5)).take 5 = (rG L i).cells ∧
      c[o + i * 5]? = some (i64 (rG L i).id) ∧ c[o + i * 5 + 3]? = some (i64 (rG L i).prio) ∧ c[o + i * 5 + 4]? = some (i64 (rG L i).til) := by
  obtain ⟨id, o, cap, c, T, ro, rfl, h1, h2, h3, h4⟩ := h.at (i := i) (by simpa using hi)
  have hg : (cellsL L).getD i [] = (rG L i).cells := by
    rw [List.getD_eq_getElem?_getD, List.getElem?_map, List.getElem?_eq_getElem hi, rG_lt hi]; rfl
  rw [hg] at h3 h4
  exact ⟨id, o, cap, c, T, ro, by rw [List.length_map], h1, h2, h3, h4 0 (by decide), h4 3 (by decide), h4 4 (by decide)⟩

omit T in
theorem posL_take {x : Int} : ∀ {L : List QReq} {i : Nat}, i < L.length → posL x (L.take i) = none → (rG L i).id ≠ x → posL x (L.take (i + 1)) = none := by
  intro L
  induction L with
  | nil => intro i h; simp at h
  | cons r L ih =>
    intro i hi h hne
    cases i with
    | zero =>
      simp only [List.take_succ_cons, List.take_zero, posL]
      rw [if_neg (by simpa [rG] using hne)]; rfl
    | succ i =>
      simp only [List.take_succ_cons, posL] at h ⊢
      by_cases hr : r.id = x
      · rw [if_pos hr] at h; cases h
      · rw [if_neg hr] at h ⊢
        simp only [Option.map_eq_none_iff] at h ⊢
        exact ih (by simpa using hi) h (by simpa [rG] using hne)
omit T in
theorem posL_hit {x : Int} : ∀ {L : List QReq} {i : Nat}, i < L.length → posL x (L.take i) = none → (rG L i).id = x → posL x L = some i := by
  intro L
  induction L with
  | nil => intro i h; simp at h
  | cons r L ih =>
    intro i hi h he
    cases i with
    | zero => simp only [posL]; rw [if_pos (by simpa [rG] using he)]
    | succ i =>
      simp only [List.take_succ_cons, posL] at h ⊢
      by_cases hr : r.id = x
      · rw [if_pos hr] at h; cases h
      · rw [if_neg hr] at h ⊢
        simp only [Option.map_eq_none_iff] at h
        rw [ih (by simpa using hi) h (by simpa [rG] using he)]; rfl

theorem p57 {L : List QReq} {lv : Value} {b : Nat} {x : Int} (hr : RowV 5 s lv (cellsL L)) (hb : s.heap.get b = some (.cells [i64 x] 3 0 false)) (hl : b < s.next) (hn : L.length < 2 ^ 62) :
    Pure tbl ov 57 [lv, .func (.func 58) [].toArray [.pointer (some ⟨b, 0, none⟩)].toArray] s (i64 (posV (posL x L))) := by
  refine WCall.pure T.t57 rfl (by decide) rfl ?_
  obtain ⟨a, cap, hlv⟩ := hr.len
  rw [List.length_map] at hlv
  subst hlv
  simp -implicitDefEqProofs only [fun57, code57, params, go_sem, reduceIte, Nat.reduceEqDiff, Nat.reduceAdd, Nat.reduceMul, Nat.reduceLT, Nat.reduceLeDiff, reduceCtorEq, Int.reduceEq, Int.reduceNeg, Nat.reduceSub, Int.reduceLT, Int.reduceLE, Int.reduceGT, Int.reduceGE, Int.reduceAdd, Int.reduceSub, Int.reduceToNat, Int.reduceBNe, Int.reduceBEq, Nat.mul_one, Nat.zero_mul]
  refine wc_loopV (fun m vs s' => s'.heap = s.heap ∧ s.next ≤ s'.next ∧ ∃ i, i ≤ L.length ∧ m = L.length - i ∧ vs = [.slice a L.length cap, .func (.func 58) [].toArray [.pointer (some ⟨b, 0, none⟩)].toArray, i64 L.length, i64 i] ∧ posL x (L.take i) = none) L.length ?_ ?_
  · simp -implicitDefEqProofs only [go_sem, reduceIte, Nat.reduceEqDiff, Nat.reduceAdd, Nat.reduceMul, Nat.reduceLT, Nat.reduceLeDiff, reduceCtorEq, Int.reduceEq, Int.reduceNeg, Nat.reduceSub, Int.reduceLT, Int.reduceLE, Int.reduceGT, Int.reduceGE, Int.reduceAdd, Int.reduceSub, Int.reduceToNat, Int.reduceBNe, Int.reduceBEq, Nat.mul_one, Nat.zero_mul]
    exact ⟨0, by omega, by omega, rfl, rfl⟩
  · rintro m vs s1 ⟨hh, hnx, i, hi, rfl, rfl, hp⟩ _
    cases hlt : decide ((i : Int) < (L.length : Int))
    · simp -implicitDefEqProofs only [go_sem, reduceIte, Nat.reduceEqDiff, Nat.reduceAdd, Nat.reduceMul, Nat.reduceLT, Nat.reduceLeDiff, reduceCtorEq, Int.reduceEq, Int.reduceNeg, Nat.reduceSub, Int.reduceLT, Int.reduceLE, Int.reduceGT, Int.reduceGE, Int.reduceAdd, Int.reduceSub, Int.reduceToNat, Int.reduceBNe, Int.reduceBEq, Nat.mul_one, Nat.zero_mul, hlt]
      simp only [decide_eq_false_iff_not] at hlt
      have : i = L.length := by omega
      subst this
      rw [List.take_length] at hp
      rw [hp]
      exact ⟨rfl, hnx, fun id _ => by rw [hh]⟩
    · simp only [decide_eq_true_eq] at hlt
      obtain ⟨id, o, cap', c, T', ro, hv, hg, hle, hrow, _⟩ := row_read hr (i := i) (by omega)
      cases hv
      have e58 := fun K => WCall.pureEq (p58 (ov := ov) (s := s1) T (r := rG L i) (b := b) (x := x) (by rw [hh]; exact hb) (by omega)) K
      have n58 := nxt_le (fun k => call tbl ov k) 58 [(rG L i).val, .pointer (some ⟨b, 0, none⟩)] s1
      have hd : decide ((i : Int) < (L.length : Int)) = true := by simp; omega
      have hix : 0 ≤ (i : Int) ∧ (i : Int) < (L.length : Int) := by omega
      have hg1 : s1.heap.get id = some (.cells c T' 5 ro) := by rw [hh]; exact hg
      have w1 : IntKind.i64.wrap ((i : Int) + 1) = ((i + 1 : Nat) : Int) := by rw [IntKind.wrap_i64]; omega
      cases hc : (rG L i).id == x
      · simp -implicitDefEqProofs only [go_sem, reduceIte, Nat.reduceEqDiff, Nat.reduceAdd, Nat.reduceMul, Nat.reduceLT, Nat.reduceLeDiff, reduceCtorEq, Int.reduceEq, Int.reduceNeg, Nat.reduceSub, Int.reduceLT, Int.reduceLE, Int.reduceGT, Int.reduceGE, Int.reduceAdd, Int.reduceSub, Int.reduceToNat, Int.reduceBNe, Int.reduceBEq, Nat.mul_one, Nat.zero_mul, hd, hix, hg1, hle, hrow, callee_clo, e58, hc, w1]
        simp only [beq_eq_false_iff_ne, ne_eq] at hc
        exact ⟨L.length - (i + 1), by omega, hh, Nat.le_trans hnx n58, i + 1, by omega, rfl, rfl, posL_take (by omega) hp hc⟩
      · simp -implicitDefEqProofs only [go_sem, reduceIte, Nat.reduceEqDiff, Nat.reduceAdd, Nat.reduceMul, Nat.reduceLT, Nat.reduceLeDiff, reduceCtorEq, Int.reduceEq, Int.reduceNeg, Nat.reduceSub, Int.reduceLT, Int.reduceLE, Int.reduceGT, Int.reduceGE, Int.reduceAdd, Int.reduceSub, Int.reduceToNat, Int.reduceBNe, Int.reduceBEq, Nat.mul_one, Nat.zero_mul, hd, hix, hg1, hle, hrow, callee_clo, e58, hc, w1]
        rw [posL_hit (by omega) hp (eq_of_beq hc)]
        exact ⟨rfl, Nat.le_trans hnx n58, fun id _ => by rw [hh]⟩

omit T in
theorem kept_nil {s : St} {o : Option AObj} {n : Nat} (h : s.next ≤ n) : Kept [] s ⟨s.heap.put s.next o, n⟩ := ⟨h, fun id hid _ => by rw [Heap.get_put, if_neg (by omega)]⟩

/-- Where a number is in the queue. -/
theorem p40 {L : List QReq} {lv mv : Value} {q : Nat} {x : Int} (hq : s.heap.get q = some (.cells [mv, lv] 80 0 false)) (hql : q < s.next) (hr : RowV 5 s lv (cellsL L)) (hn : L.length < 2 ^ 62) :
    Pure tbl ov 40 [.pointer (some ⟨q, 1, none⟩), i64 x] s (i64 (posV (posL x L))) := by
  refine WCall.pure T.t40 rfl (by decide) rfl ?_
  have hne : (q = s.next) = False := by simp; omega
  have e57 := fun K => WCall.pureEq (p57 (ov := ov) (s := ⟨s.heap.put s.next (some (.cells [i64 x] 3 0 false)), s.next + 1⟩) T (b := s.next) (x := x) (hr.kept (kept_nil (Nat.le_succ _))) (by simp only [Heap.get_put, if_true]) (Nat.lt_succ_self _) hn) K
  have n57 := nxt_le (fun k => call tbl ov k) 57 [lv, .func (.func 58) [].toArray [.pointer (some ⟨s.next, 0, none⟩)].toArray] ⟨s.heap.put s.next (some (.cells [i64 x] 3 0 false)), s.next + 1⟩
  simp -implicitDefEqProofs only [fun40, code40, params, go_sem, reduceIte, Nat.reduceEqDiff, Nat.reduceAdd, Nat.reduceMul, Nat.reduceLT, Nat.reduceLeDiff, reduceCtorEq, Int.reduceEq, Int.reduceNeg, Nat.reduceSub, Int.reduceLT, Int.reduceLE, Int.reduceGT, Int.reduceGE, Int.reduceAdd, Int.reduceSub, Int.reduceToNat, Int.reduceBNe, Int.reduceBEq, Nat.mul_one, Nat.zero_mul, wv_mkFunc, hq, hne, e57]
  exact ⟨Nat.le_trans (Nat.le_succ _) n57, kept_put⟩

theorem p44 {a b : QReq} : Pure tbl ov 44 [a.val, b.val] s (i64 (cmpR a b)) := by
  refine WCall.pure T.t44 rfl (by decide) rfl ?_
  have hne : (s.next = s.next + 1) = False := by simp
  have a0 : a.cells[0]? = some (i64 a.id) := rfl
  have a3 : a.cells[3]? = some (i64 a.prio) := rfl
  have b0 : b.cells[0]? = some (i64 b.id) := rfl
  have b3 : b.cells[3]? = some (i64 b.prio) := rfl
  have e59 := fun K => p59 T (s := ⟨((s.heap.put s.next (some (.cells a.cells 28 0 false))).put (s.next + 1) (some (.cells b.cells 28 0 false))).put (s.next + 1 + 1) (some (.cells [i64 (cmpI a.prio b.prio), i64 (cmpI a.id b.id)] 3 1 false)), s.next + 1 + 1 + 1⟩)
    (ov := ov) (b := s.next + 1 + 1) (x := cmpI a.prio b.prio) (y := cmpI a.id b.id) (by simp only [Heap.get_put, if_true]) K
  simp -implicitDefEqProofs only [fun44, code44, params, go_sem, reduceIte, Nat.reduceEqDiff, Nat.reduceAdd, Nat.reduceMul, Nat.reduceLT, Nat.reduceLeDiff, reduceCtorEq, Int.reduceEq, Int.reduceNeg, Nat.reduceSub, Int.reduceLT, Int.reduceLE, Int.reduceGT, Int.reduceGE, Int.reduceAdd, Int.reduceSub, Int.reduceToNat, Int.reduceBNe, Int.reduceBEq, Nat.mul_one, Nat.zero_mul, hne, a0, a3, b0, b3, p60 T, ev_buildSlice, fillL, e59]
  refine ⟨?_, rfl, by omega, fun id hid => ?_⟩
  · intro i hi f hf
    obtain rfl := List.mem_singleton.1 hi
    simp only [List.getElem?_cons_succ, List.getElem?_cons_zero, Option.some.injEq] at hf
    subst hf
    exact fun _ _ => rfl
  · simp only [Heap.get_put]
    rw [if_neg (by omega), if_neg (by omega), if_neg (by omega)]

theorem p24 {a b : QReq} : Pure tbl ov 24 [a.val, b.val] s (.bool (beforeR a b)) := by
  refine WCall.pure T.t24 rfl (by decide) rfl ?_
  have hne : (s.next = s.next + 1) = False := by simp
  have a0 : a.cells[0]? = some (i64 a.id) := rfl
  have a3 : a.cells[3]? = some (i64 a.prio) := rfl
  have b0 : b.cells[0]? = some (i64 b.id) := rfl
  have b3 : b.cells[3]? = some (i64 b.prio) := rfl
  have hk : ∀ n, KeptAll s ⟨(s.heap.put s.next (some (.cells a.cells 28 0 false))).put (s.next + 1) (some (.cells b.cells 28 0 false)), n⟩ := fun n => kept_put2 (Nat.le_succ _)
  unfold beforeR
  cases h1 : decide (a.prio < b.prio)
  · cases h2 : a.prio == b.prio
    · simp -implicitDefEqProofs only [fun24, code24, params, go_sem, reduceIte, Nat.reduceEqDiff, Nat.reduceAdd, Nat.reduceMul, Nat.reduceLT, Nat.reduceLeDiff, reduceCtorEq, Int.reduceEq, Int.reduceNeg, Nat.reduceSub, Int.reduceLT, Int.reduceLE, Int.reduceGT, Int.reduceGE, Int.reduceAdd, Int.reduceSub, Int.reduceToNat, Int.reduceBNe, Int.reduceBEq, Nat.mul_one, Nat.zero_mul, hne, a0, a3, b0, b3, h1, h2]
      exact ⟨rfl, by omega, hk _⟩
    · simp -implicitDefEqProofs only [fun24, code24, params, go_sem, reduceIte, Nat.reduceEqDiff, Nat.reduceAdd, Nat.reduceMul, Nat.reduceLT, Nat.reduceLeDiff, reduceCtorEq, Int.reduceEq, Int.reduceNeg, Nat.reduceSub, Int.reduceLT, Int.reduceLE, Int.reduceGT, Int.reduceGE, Int.reduceAdd, Int.reduceSub, Int.reduceToNat, Int.reduceBNe, Int.reduceBEq, Nat.mul_one, Nat.zero_mul, hne, a0, a3, b0, b3, h1, h2]
      exact ⟨by simp, by omega, hk _⟩
  · simp -implicitDefEqProofs only [fun24, code24, params, go_sem, reduceIte, Nat.reduceEqDiff, Nat.reduceAdd, Nat.reduceMul, Nat.reduceLT, Nat.reduceLeDiff, reduceCtorEq, Int.reduceEq, Int.reduceNeg, Nat.reduceSub, Int.reduceLT, Int.reduceLE, Int.reduceGT, Int.reduceGE, Int.reduceAdd, Int.reduceSub, Int.reduceToNat, Int.reduceBNe, Int.reduceBEq, Nat.mul_one, Nat.zero_mul, hne, a0, a3, b0, b3, h1]
    exact ⟨by simp, by omega, hk _⟩

/-- Are two requests one? -/
def eqR (a b : QReq) : Bool := a.id == b.id && (a.host == b.host && (a.path == b.path && (a.prio == b.prio && a.til == b.til)))
omit T in
theorem eqR_iff {a b : QReq} : eqR a b = true ↔ a = b := by
  obtain ⟨a1, a2, a3, a4, a5⟩ := a
  obtain ⟨b1, b2, b3, b4, b5⟩ := b
  simp only [eqR, Bool.and_eq_true, beq_iff_eq, bytes_eq_iff, QReq.mk.injEq]
omit T in
theorem eqV_req (a b : QReq) : cellsEqK [.int, .string, .string, .int, .int] a.cells b.cells = some (eqR a b) := by
  simp only [QReq.cells, cellsEqK, cellEqK, keyOk, keyEq, Bool.and_self, if_true, Option.bind_some, Option.map_some, eqR, Bool.and_true]

theorem p42 {a b : QReq} : Pure tbl ov 42 [a.val, b.val] s (.bool (eqR a b)) := by
  refine WCall.pure T.t42 rfl (by decide) rfl ?_
  have hne : (s.next = s.next + 1) = False := by simp
  have la : a.cells.length = 5 := rfl
  have lb : b.cells.length = 5 := rfl
  have ta : a.cells.take 5 = a.cells := rfl
  have tb : b.cells.take 5 = b.cells := rfl
  simp -implicitDefEqProofs only [fun42, code42, params, go_sem, reduceIte, Nat.reduceEqDiff, Nat.reduceAdd, Nat.reduceMul, Nat.reduceLT, Nat.reduceLeDiff, reduceCtorEq, Int.reduceEq, Int.reduceNeg, Nat.reduceSub, Int.reduceLT, Int.reduceLE, Int.reduceGT, Int.reduceGE, Int.reduceAdd, Int.reduceSub, Int.reduceToNat, Int.reduceBNe, Int.reduceBEq, Nat.mul_one, Nat.zero_mul, hne, la, lb, ta, tb, eqV_req, List.drop_zero]
  exact ⟨by omega, kept_put2 (Nat.le_succ _)⟩

/-- The reference's At. -/
theorem p16 {L : List QReq} {lv : Value} {x : Int} (hr : RowV 5 s lv (cellsL L)) (hn : L.length < 2 ^ 62) (K : Value → St → Prop) : WCall (fun k => call tbl ov k) 16 [lv, i64 x] s K = K (i64 (posV (posL x L))) s := by
  refine WCall.eq (WCall.of T.t16 rfl ?_) K
  obtain ⟨a, cap, hlv⟩ := hr.len
  rw [List.length_map] at hlv
  subst hlv
  simp -implicitDefEqProofs only [fun16, code16, params, go_sem, reduceIte, Nat.reduceEqDiff, Nat.reduceAdd, Nat.reduceMul, Nat.reduceLT, Nat.reduceLeDiff, reduceCtorEq, Int.reduceEq, Int.reduceNeg, Nat.reduceSub, Int.reduceLT, Int.reduceLE, Int.reduceGT, Int.reduceGE, Int.reduceAdd, Int.reduceSub, Int.reduceToNat, Int.reduceBNe, Int.reduceBEq, Nat.mul_one, Nat.zero_mul]
  refine wc_loopV (fun m vs s' => s' = s ∧ ∃ i, i ≤ L.length ∧ m = L.length - i ∧ vs = [.slice a L.length cap, i64 x, i64 i] ∧ posL x (L.take i) = none) L.length ?_ ?_
  · simp -implicitDefEqProofs only [go_sem, reduceIte, Nat.reduceEqDiff, Nat.reduceAdd, Nat.reduceMul, Nat.reduceLT, Nat.reduceLeDiff, reduceCtorEq, Int.reduceEq, Int.reduceNeg, Nat.reduceSub, Int.reduceLT, Int.reduceLE, Int.reduceGT, Int.reduceGE, Int.reduceAdd, Int.reduceSub, Int.reduceToNat, Int.reduceBNe, Int.reduceBEq, Nat.mul_one, Nat.zero_mul]
    exact ⟨0, by omega, by omega, rfl, rfl⟩
  · rintro m vs s1 ⟨rfl, i, hi, rfl, rfl, hp⟩ _
    cases hlt : decide ((i : Int) < (L.length : Int))
    · simp -implicitDefEqProofs only [go_sem, reduceIte, Nat.reduceEqDiff, Nat.reduceAdd, Nat.reduceMul, Nat.reduceLT, Nat.reduceLeDiff, reduceCtorEq, Int.reduceEq, Int.reduceNeg, Nat.reduceSub, Int.reduceLT, Int.reduceLE, Int.reduceGT, Int.reduceGE, Int.reduceAdd, Int.reduceSub, Int.reduceToNat, Int.reduceBNe, Int.reduceBEq, Nat.mul_one, Nat.zero_mul, hlt]
      simp only [decide_eq_false_iff_not] at hlt
      have : i = L.length := by omega
      subst this
      rw [List.take_length] at hp
      rw [hp]; rfl
    · simp only [decide_eq_true_eq] at hlt
      obtain ⟨id, o, cap', c, T', ro, hv, hg, hle, hrow, h0, _⟩ := row_read hr (i := i) (by omega)
      cases hv
      have hd : decide ((i : Int) < (L.length : Int)) = true := by simp; omega
      have hix : 0 ≤ (i : Int) ∧ (i : Int) < (L.length : Int) := by omega
      have w1 : IntKind.i64.wrap ((i : Int) + 1) = ((i + 1 : Nat) : Int) := by rw [IntKind.wrap_i64]; omega
      cases hc : (rG L i).id == x
      · simp -implicitDefEqProofs only [go_sem, reduceIte, Nat.reduceEqDiff, Nat.reduceAdd, Nat.reduceMul, Nat.reduceLT, Nat.reduceLeDiff, reduceCtorEq, Int.reduceEq, Int.reduceNeg, Nat.reduceSub, Int.reduceLT, Int.reduceLE, Int.reduceGT, Int.reduceGE, Int.reduceAdd, Int.reduceSub, Int.reduceToNat, Int.reduceBNe, Int.reduceBEq, Nat.mul_one, Nat.zero_mul, hd, hix, hg, h0, Nat.add_zero, hc, w1]
        simp only [beq_eq_false_iff_ne, ne_eq] at hc
        exact ⟨L.length - (i + 1), by omega, i + 1, by omega, rfl, rfl, posL_take (by omega) hp hc⟩
      · simp -implicitDefEqProofs only [go_sem, reduceIte, Nat.reduceEqDiff, Nat.reduceAdd, Nat.reduceMul, Nat.reduceLT, Nat.reduceLeDiff, reduceCtorEq, Int.reduceEq, Int.reduceNeg, Nat.reduceSub, Int.reduceLT, Int.reduceLE, Int.reduceGT, Int.reduceGE, Int.reduceAdd, Int.reduceSub, Int.reduceToNat, Int.reduceBNe, Int.reduceBEq, Nat.mul_one, Nat.zero_mul, hd, hix, hg, h0, Nat.add_zero, hc, w1]
        rw [posL_hit (by omega) hp (eq_of_beq hc)]; rfl

/-- The reference's Reqs: are two lists one? -/
theorem p20 {L M : List QReq} {lv mv : Value} (hr : RowV 5 s lv (cellsL L)) (hm : RowV 5 s mv (cellsL M)) (hn : L.length < 2 ^ 62) (he : L = M) (K : Value → St → Prop) : WCall (fun k => call tbl ov k) 20 [lv, mv] s K = K (.bool true) s := by
  subst he
  refine WCall.eq (WCall.of T.t20 rfl ?_) K
  obtain ⟨a, cap, hlv⟩ := hr.len
  obtain ⟨a2, cap2, hmv⟩ := hm.len
  rw [List.length_map] at hlv hmv
  subst hlv
  subst hmv
  have hll : ((L.length : Int) != (L.length : Int)) = false := by simp
  simp -implicitDefEqProofs only [fun20, code20, params, go_sem, reduceIte, Nat.reduceEqDiff, Nat.reduceAdd, Nat.reduceMul, Nat.reduceLT, Nat.reduceLeDiff, reduceCtorEq, Int.reduceEq, Int.reduceNeg, Nat.reduceSub, Int.reduceLT, Int.reduceLE, Int.reduceGT, Int.reduceGE, Int.reduceAdd, Int.reduceSub, Int.reduceToNat, Int.reduceBNe, Int.reduceBEq, Nat.mul_one, Nat.zero_mul, hll]
  refine wc_loopV (fun m vs s' => s' = s ∧ ∃ i, i ≤ L.length ∧ m = L.length - i ∧ vs = [.slice a L.length cap, .slice a2 L.length cap2, i64 i]) L.length ?_ ?_
  · simp -implicitDefEqProofs only [go_sem, reduceIte, Nat.reduceEqDiff, Nat.reduceAdd, Nat.reduceMul, Nat.reduceLT, Nat.reduceLeDiff, reduceCtorEq, Int.reduceEq, Int.reduceNeg, Nat.reduceSub, Int.reduceLT, Int.reduceLE, Int.reduceGT, Int.reduceGE, Int.reduceAdd, Int.reduceSub, Int.reduceToNat, Int.reduceBNe, Int.reduceBEq, Nat.mul_one, Nat.zero_mul]
    exact ⟨0, by omega, by omega, rfl⟩
  · rintro m vs s1 ⟨rfl, i, hi, rfl, rfl⟩ _
    cases hlt : decide ((i : Int) < (L.length : Int))
    · simp -implicitDefEqProofs only [go_sem, reduceIte, Nat.reduceEqDiff, Nat.reduceAdd, Nat.reduceMul, Nat.reduceLT, Nat.reduceLeDiff, reduceCtorEq, Int.reduceEq, Int.reduceNeg, Nat.reduceSub, Int.reduceLT, Int.reduceLE, Int.reduceGT, Int.reduceGE, Int.reduceAdd, Int.reduceSub, Int.reduceToNat, Int.reduceBNe, Int.reduceBEq, Nat.mul_one, Nat.zero_mul, hlt]
    · simp only [decide_eq_true_eq] at hlt
      obtain ⟨id, o, cap', c, T', ro, hv, hg, hle, hrow, h0, _⟩ := row_read hr (i := i) (by omega)
      cases hv
      obtain ⟨id2, o2, cap2', c2, T2', ro2, hv, hg2, hle2, hrow2, h02, _⟩ := row_read hm (i := i) (by omega)
      cases hv
      have hd : decide ((i : Int) < (L.length : Int)) = true := by simp; omega
      have hix : 0 ≤ (i : Int) ∧ (i : Int) < (L.length : Int) := by omega
      have w1 : IntKind.i64.wrap ((i : Int) + 1) = ((i + 1 : Nat) : Int) := by rw [IntKind.wrap_i64]; omega
      have heq : eqR (rG L i) (rG L i) = true := eqR_iff.2 rfl
      simp -implicitDefEqProofs only [go_sem, reduceIte, Nat.reduceEqDiff, Nat.reduceAdd, Nat.reduceMul, Nat.reduceLT, Nat.reduceLeDiff, reduceCtorEq, Int.reduceEq, Int.reduceNeg, Nat.reduceSub, Int.reduceLT, Int.reduceLE, Int.reduceGT, Int.reduceGE, Int.reduceAdd, Int.reduceSub, Int.reduceToNat, Int.reduceBNe, Int.reduceBEq, Nat.mul_one, Nat.zero_mul, hd, hix, hg, hle, hrow, hg2, hle2, hrow2, eqV_req, heq, w1]
      exact ⟨L.length - (i + 1), by omega, i + 1, by omega, rfl, rfl⟩
end

end Go.Proofs.Ytgnpafmhdmmmhaa
