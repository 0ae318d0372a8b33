/-
  A request, and how it is read.
-/
import Derived.Test.YtehgdocbabaldaaGreatG2
import Derived.Test.YtehgdocbabaldaaGreatA35
import Derived.ProofKit
import Derived.OpenShut
set_option maxRecDepth 100000
namespace Go.Proofs.YtehgdocbabaldaaGreat.Q
open Go Go.Abs Go.ChangeShapes

structure QReq where
  id : Int
  host : ByteArray
  path : ByteArray
  prio : Int
  til : Int

abbrev i64 (n : Int) : Value := .int .i64 n
def QReq.cells (r : QReq) : List Value := [i64 r.id, .string r.host, .string r.path, i64 r.prio, i64 r.til]
abbrev QReq.val (r : QReq) : Value := .agg r.cells.toArray

def W64 (n : Int) : Prop := -9223372036854775808 ≤ n ∧ n ≤ 9223372036854775807
structure QReq.Wide (r : QReq) : Prop where
  id : W64 r.id
  prio : W64 r.prio
  til : W64 r.til

theorem w64_of_wf {n : Int} (h : (Lit.int .i64 n).wf = true) : W64 n := by
  simp [Lit.wf, IntKind.min, IntKind.max, IntKind.signed, IntKind.bits] at h
  exact h

theorem one_of {α : Type} {xs : List α} {i n : Nat} (h : xs.length = n) (hi : i < n) : ∃ y, xs[i]? = some y := ⟨_, List.getElem?_eq_getElem (by omega)⟩

end Go.Proofs.YtehgdocbabaldaaGreat.Q


/-
  The queue's functions that only look: comparing, seeking.
-/
set_option maxRecDepth 100000
set_option linter.unusedVariables false
set_option linter.unusedSimpArgs false
namespace Go.Proofs.YtehgdocbabaldaaGreat.Q
open Go Go.Abs Go.Abs.K

structure QTbl (tbl : FuncId → Option AFun) : Prop where
  t52 : tbl 52 = some fun52
  t30 : tbl 30 = some fun30
  t33 : tbl 33 = some fun33
  t19 : tbl 19 = some fun19
  t18 : tbl 18 = some fun18
  t36 : tbl 36 = some fun36
  t21 : tbl 21 = some fun21
  t37 : tbl 37 = some fun37
  t39 : tbl 39 = some fun39
  t13 : tbl 13 = some fun13
  t55 : tbl 55 = some fun55
  t56 : tbl 56 = some fun56
  t58 : tbl 58 = some fun58
  t59 : tbl 59 = some fun59
  t62 : tbl 62 = some fun62
  t63 : tbl 63 = some fun63
  t61 : tbl 61 = some fun61
  t78 : tbl 78 = some fun78
  t79 : tbl 79 = some fun79
  t80 : tbl 80 = some fun80
  t91 : tbl 91 = some fun91
  t60 : tbl 60 = none
  t9 : tbl 9 = none

def Pure (tbl : FuncId → Option AFun) (ov : CallSem) (f : FuncId) (args : List Value) (s : St) (v : Value) : Prop :=
  WCall (fun k => call tbl ov k) f args s fun u s' => u = v ∧ s'.heap = s.heap ∧ s.next ≤ s'.next

theorem wv_mkFunc (cs : Nat → CallSem) (s : St) (K : Value → St → Prop) (fn : Fn) (a b : List Value) : wvals cs s K (.mkFunc fn a b) = K (.func fn a.toArray b.toArray) s := rfl
theorem callee_clo (f : FuncId) (p : Value) (l : List Value) : callee (.func (.func f) #[] #[p]) l = some (f, l ++ [p]) := by simp [callee]
theorem kept_put {s : St} {o : Option AObj} {n : Nat} : KeptAll s ⟨s.heap.put s.next o, n⟩ := fun id hid => by rw [Heap.get_put, if_neg (by omega)]
theorem kept_put2 {s : St} {o o' : Option AObj} {n m : Nat} (h : s.next ≤ m) : KeptAll s ⟨(s.heap.put s.next o).put m o', n⟩ := fun id hid => by rw [Heap.get_put, if_neg (by omega), Heap.get_put, if_neg (by omega)]

def cmpI (a b : Int) : Int := if a < b then -1 else if b < a then 1 else 0
def cmpR (a b : QReq) : Int := if cmpI a.prio b.prio = 0 then cmpI a.id b.id else cmpI a.prio b.prio
def beforeR (a b : QReq) : Bool := decide (a.prio < b.prio) || (a.prio == b.prio && decide (a.id < b.id))

def posL (x : Int) : List QReq → Option Nat
  | [] => none
  | r :: L => if r.id = x then some 0 else (posL x L).map (· + 1)
def posV : Option Nat → Int
  | some i => i
  | none => -1

section
variable {tbl : FuncId → Option AFun} {ov : CallSem} {s : St} (T : QTbl tbl)
include T

theorem p78 {r : QReq} {b : Nat} {x : Int} (hb : s.heap.get b = some (.cells [i64 x] 3 0 false)) (hl : b < s.next) :
    Pure tbl ov 78 [r.val, .pointer (some ⟨b, 0, none⟩)] s (.bool (r.id == x)) := by
  refine WCall.pure T.t78 rfl (by decide) rfl ?_
  have hne : (b = s.next) = False := by simp; omega
  have c0 : r.cells[0]? = some (i64 r.id) := rfl
  simp -implicitDefEqProofs only [fun78, code78, params, go_sem, hb, hne, c0]
  exact ⟨Nat.le_succ _, kept_put⟩

theorem p91 {x : Int} (K : Value → St → Prop) : WCall (fun k => call tbl ov k) 91 [i64 x] s K = K (.bool false) s := by
  refine WCall.eq (WCall.of T.t91 rfl ?_) K
  have h : (x != x) = false := by simp
  simp -implicitDefEqProofs only [fun91, code91, params, go_sem, h]

theorem p80 {x y : Int} (K : Value → St → Prop) : WCall (fun k => call tbl ov k) 80 [i64 x, i64 y] s K = K (i64 (cmpI x y)) s := by
  refine WCall.eq (WCall.of T.t80 rfl ?_) K
  cases h1 : decide (x < y)
  · cases h2 : decide (x > y)
    · simp -implicitDefEqProofs only [fun80, code80, params, go_sem, p91 T, h1, h2]
      simp only [decide_eq_false_iff_not] at h1 h2
      simp only [cmpI, h1, show ¬ y < x from h2, if_false]
    · simp -implicitDefEqProofs only [fun80, code80, params, go_sem, p91 T, h1, h2]
      simp only [decide_eq_false_iff_not, decide_eq_true_eq] at h1 h2
      simp only [cmpI, h1, show y < x from h2, if_false, if_true]
  · simp -implicitDefEqProofs only [fun80, code80, params, go_sem, p91 T, h1]
    simp only [decide_eq_true_eq] at h1
    simp only [cmpI, h1, if_true]

theorem p79 {x y : Int} {b : Nat} (hb : s.heap.get b = some (.cells [i64 x, i64 y] 3 1 false)) (K : Value → St → Prop) : WCall (fun k => call tbl ov k) 79 [.slice (some ⟨b, 0, none⟩) 2 2] s K = K (i64 (if x = 0 then y else x)) s := by
  refine WCall.eq (WCall.of T.t79 rfl ?_) K
  have c2 : ((2 : Nat) : Int) = 2 := rfl
  have w1 : IntKind.i64.wrap 1 = 1 := by decide
  have w2 : IntKind.i64.wrap 2 = 2 := by decide
  simp -implicitDefEqProofs only [fun79, code79, params, go_sem, c2]
  refine wc_loopV (fun m vs s' => s' = s ∧ ((m = 2 ∧ vs = [i64 0, .slice (some ⟨b, 0, none⟩) 2 2, i64 2, i64 0]) ∨ (m = 1 ∧ x = 0 ∧ vs = [i64 0, .slice (some ⟨b, 0, none⟩) 2 2, i64 2, i64 1]) ∨ (m = 0 ∧ x = 0 ∧ y = 0 ∧ vs = [i64 0, .slice (some ⟨b, 0, none⟩) 2 2, i64 2, i64 2]))) 2 ?_ ?_
  · simp -implicitDefEqProofs only [go_sem]
    exact .inl trivial
  · rintro m vs s1 ⟨rfl, h⟩ _
    rcases h with ⟨rfl, rfl⟩ | ⟨rfl, hx, rfl⟩ | ⟨rfl, hx, hy, rfl⟩
    · cases h : x != 0
      · simp -implicitDefEqProofs only [go_sem, hb, h, w1, c2]
        simp only [bne_eq_false_iff_eq] at h
        exact ⟨1, by omega, by simp [h]⟩
      · simp -implicitDefEqProofs only [go_sem, hb, h, w1, c2]
        simp only [bne_iff_ne, ne_eq] at h
        rw [if_neg h]
    · cases h : y != 0
      · simp -implicitDefEqProofs only [go_sem, hb, h, w2, c2]
        simp only [bne_eq_false_iff_eq] at h
        exact ⟨0, by omega, by simp [h, hx]⟩
      · simp -implicitDefEqProofs only [go_sem, hb, h, w2, c2]
        rw [if_pos hx]
    · simp -implicitDefEqProofs only [go_sem, hb]
      rw [if_pos hx, hy]

def rG (L : List QReq) (i : Nat) : QReq := L.getD i ⟨0, ⟨#[]⟩, ⟨#[]⟩, 0, 0⟩
omit T in
theorem rG_lt {L : List QReq} {i : Nat} (h : i < L.length) : rG L i = L[i] := by
  unfold rG
  rw [List.getD_eq_getElem?_getD, List.getElem?_eq_getElem h, Option.getD_some]
abbrev cellsL (L : List QReq) : List (List Value) := L.map QReq.cells

omit T in
theorem row_read {s : St} {lv : Value} {L : List QReq} (h : RowV 5 s lv (cellsL L)) {i : Nat} (hi : i < L.length) :
    ∃ id o cap c T ro, lv = .slice (some ⟨id, o, none⟩) L.length cap ∧ s.heap.get id = some (.cells c T 5 ro) ∧ o + i * 5 + 5 ≤ c.length ∧ (c.drop (o + i * 5)).take 5 = (rG L i).cells ∧
      c[o + i * 5]? = some (i64 (rG L i).id) ∧ c[o + i * 5 + 3]? = some (i64 (rG L i).prio) ∧ c[o + i * 5 + 4]? = some (i64 (rG L i).til) := by
  obtain ⟨id, o, cap, c, T, ro, rfl, h1, h2, h3, h4⟩ := h.at (i := i) (by simpa using hi)
  have hg : (cellsL L).getD i [] = (rG L i).cells := by
    rw [List.getD_eq_getElem?_getD, List.getElem?_map, List.getElem?_eq_getElem hi, rG_lt hi]; rfl
  rw [hg] at h3 h4
  exact ⟨id, o, cap, c, T, ro, by rw [List.length_map], h1, h2, h3, h4 0 (by decide), h4 3 (by decide), h4 4 (by decide)⟩

omit T in
theorem posL_take {x : Int} : ∀ {L : List QReq} {i : Nat}, i < L.length → posL x (L.take i) = none → (rG L i).id ≠ x → posL x (L.take (i + 1)) = none := by
  intro L
  induction L with
  | nil => intro i h; simp at h
  | cons r L ih =>
    intro i hi h hne
    cases i with
    | zero =>
      simp only [List.take_succ_cons, List.take_zero, posL]
      rw [if_neg (by simpa [rG] using hne)]; rfl
    | succ i =>
      simp only [List.take_succ_cons, posL] at h ⊢
      by_cases hr : r.id = x
      · rw [if_pos hr] at h; cases h
      · rw [if_neg hr] at h ⊢
        simp only [Option.map_eq_none_iff] at h ⊢
        exact ih (by simpa using hi) h (by simpa [rG] using hne)
omit T in
theorem posL_hit {x : Int} : ∀ {L : List QReq} {i : Nat}, i < L.length → posL x (L.take i) = none → (rG L i).id = x → posL x L = some i := by
  intro L
  induction L with
  | nil => intro i h; simp at h
  | cons r L ih =>
    intro i hi h he
    cases i with
    | zero => simp only [posL]; rw [if_pos (by simpa [rG] using he)]
    | succ i =>
      simp only [List.take_succ_cons, posL] at h ⊢
      by_cases hr : r.id = x
      · rw [if_pos hr] at h; cases h
      · rw [if_neg hr] at h ⊢
        simp only [Option.map_eq_none_iff] at h
        rw [ih (by simpa using hi) h (by simpa [rG] using he)]; rfl

theorem p61 {L : List QReq} {lv : Value} {b : Nat} {x : Int} (hr : RowV 5 s lv (cellsL L)) (hb : s.heap.get b = some (.cells [i64 x] 3 0 false)) (hl : b < s.next) (hn : L.length < 2 ^ 62) :
    Pure tbl ov 61 [lv, .func (.func 78) [].toArray [.pointer (some ⟨b, 0, none⟩)].toArray] s (i64 (posV (posL x L))) := by
  refine WCall.pure T.t61 rfl (by decide) rfl ?_
  obtain ⟨a, cap, hlv⟩ := hr.len
  rw [List.length_map] at hlv
  subst hlv
  simp -implicitDefEqProofs only [fun61, code61, params, go_sem]
  refine wc_loopV (fun m vs s' => s'.heap = s.heap ∧ s.next ≤ s'.next ∧ ∃ i, i ≤ L.length ∧ m = L.length - i ∧ vs = [.slice a L.length cap, .func (.func 78) [].toArray [.pointer (some ⟨b, 0, none⟩)].toArray, i64 L.length, i64 i] ∧ posL x (L.take i) = none) L.length ?_ ?_
  · simp -implicitDefEqProofs only [go_sem]
    exact ⟨0, by omega, by omega, rfl, rfl⟩
  · rintro m vs s1 ⟨hh, hnx, i, hi, rfl, rfl, hp⟩ _
    cases hlt : decide ((i : Int) < (L.length : Int))
    · simp -implicitDefEqProofs only [go_sem, hlt]
      simp only [decide_eq_false_iff_not] at hlt
      have : i = L.length := by omega
      subst this
      rw [List.take_length] at hp
      rw [hp]
      exact ⟨rfl, hnx, fun id _ => by rw [hh]⟩
    · simp only [decide_eq_true_eq] at hlt
      obtain ⟨id, o, cap', c, T', ro, hv, hg, hle, hrow, _⟩ := row_read hr (i := i) (by omega)
      cases hv
      have e58 := fun K => WCall.pureEq (p78 (ov := ov) (s := s1) T (r := rG L i) (b := b) (x := x) (by rw [hh]; exact hb) (by omega)) K
      have n58 := nxt_le (fun k => call tbl ov k) 78 [(rG L i).val, .pointer (some ⟨b, 0, none⟩)] s1
      have hd : decide ((i : Int) < (L.length : Int)) = true := by simp; omega
      have hix : 0 ≤ (i : Int) ∧ (i : Int) < (L.length : Int) := by omega
      have hg1 : s1.heap.get id = some (.cells c T' 5 ro) := by rw [hh]; exact hg
      have w1 : IntKind.i64.wrap ((i : Int) + 1) = ((i + 1 : Nat) : Int) := by rw [IntKind.wrap_i64]; omega
      cases hc : (rG L i).id == x
      · simp -implicitDefEqProofs only [go_sem, hd, hix, hg1, hle, hrow, callee_clo, e58, hc, w1]
        simp only [beq_eq_false_iff_ne, ne_eq] at hc
        exact ⟨L.length - (i + 1), by omega, hh, Nat.le_trans hnx n58, i + 1, by omega, rfl, rfl, posL_take (by omega) hp hc⟩
      · simp -implicitDefEqProofs only [go_sem, hd, hix, hg1, hle, hrow, callee_clo, e58, hc, w1]
        rw [posL_hit (by omega) hp (eq_of_beq hc)]
        exact ⟨rfl, Nat.le_trans hnx n58, fun id _ => by rw [hh]⟩

omit T in
theorem kept_nil {s : St} {o : Option AObj} {n : Nat} (h : s.next ≤ n) : Kept [] s ⟨s.heap.put s.next o, n⟩ := ⟨h, fun id hid _ => by rw [Heap.get_put, if_neg (by omega)]⟩

theorem p55 {L : List QReq} {lv mv : Value} {q : Nat} {x : Int} (hq : s.heap.get q = some (.cells [mv, lv] 110 0 false)) (hql : q < s.next) (hr : RowV 5 s lv (cellsL L)) (hn : L.length < 2 ^ 62) :
    Pure tbl ov 55 [.pointer (some ⟨q, 1, none⟩), i64 x] s (i64 (posV (posL x L))) := by
  refine WCall.pure T.t55 rfl (by decide) rfl ?_
  have hne : (q = s.next) = False := by simp; omega
  have e57 := fun K => WCall.pureEq (p61 (ov := ov) (s := ⟨s.heap.put s.next (some (.cells [i64 x] 3 0 false)), s.next + 1⟩) T (b := s.next) (x := x) (hr.kept (kept_nil (Nat.le_succ _))) (by simp only [Heap.get_put, if_true]) (Nat.lt_succ_self _) hn) K
  have n57 := nxt_le (fun k => call tbl ov k) 61 [lv, .func (.func 78) [].toArray [.pointer (some ⟨s.next, 0, none⟩)].toArray] ⟨s.heap.put s.next (some (.cells [i64 x] 3 0 false)), s.next + 1⟩
  simp -implicitDefEqProofs only [fun55, code55, params, go_sem, wv_mkFunc, hq, hne, e57]
  exact ⟨Nat.le_trans (Nat.le_succ _) n57, kept_put⟩

theorem p59 {a b : QReq} : Pure tbl ov 59 [a.val, b.val] s (i64 (cmpR a b)) := by
  refine WCall.pure T.t59 rfl (by decide) rfl ?_
  have hne : (s.next = s.next + 1) = False := by simp
  have a0 : a.cells[0]? = some (i64 a.id) := rfl
  have a3 : a.cells[3]? = some (i64 a.prio) := rfl
  have b0 : b.cells[0]? = some (i64 b.id) := rfl
  have b3 : b.cells[3]? = some (i64 b.prio) := rfl
  have e59 := fun K => p79 T (s := ⟨((s.heap.put s.next (some (.cells a.cells 34 0 false))).put (s.next + 1) (some (.cells b.cells 34 0 false))).put (s.next + 1 + 1) (some (.cells [i64 (cmpI a.prio b.prio), i64 (cmpI a.id b.id)] 3 1 false)), s.next + 1 + 1 + 1⟩)
    (ov := ov) (b := s.next + 1 + 1) (x := cmpI a.prio b.prio) (y := cmpI a.id b.id) (by simp only [Heap.get_put, if_true]) K
  simp -implicitDefEqProofs only [fun59, code59, params, go_sem, hne, a0, a3, b0, b3, p80 T, ev_buildSlice, fillL, e59]
  refine ⟨?_, rfl, by omega, fun id hid => ?_⟩
  · intro i hi f hf
    obtain rfl := List.mem_singleton.1 hi
    simp only [List.getElem?_cons_succ, List.getElem?_cons_zero, Option.some.injEq] at hf
    subst hf
    exact fun _ _ => rfl
  · simp only [Heap.get_put]
    rw [if_neg (by omega), if_neg (by omega), if_neg (by omega)]

theorem p13 {a b : QReq} : Pure tbl ov 13 [a.val, b.val] s (.bool (beforeR a b)) := by
  refine WCall.pure T.t13 rfl (by decide) rfl ?_
  have hne : (s.next = s.next + 1) = False := by simp
  have a0 : a.cells[0]? = some (i64 a.id) := rfl
  have a3 : a.cells[3]? = some (i64 a.prio) := rfl
  have b0 : b.cells[0]? = some (i64 b.id) := rfl
  have b3 : b.cells[3]? = some (i64 b.prio) := rfl
  have hk : ∀ n, KeptAll s ⟨(s.heap.put s.next (some (.cells a.cells 34 0 false))).put (s.next + 1) (some (.cells b.cells 34 0 false)), n⟩ := fun n => kept_put2 (Nat.le_succ _)
  unfold beforeR
  cases h1 : decide (a.prio < b.prio)
  · cases h2 : a.prio == b.prio
    · simp -implicitDefEqProofs only [fun13, code13, params, go_sem, hne, a0, a3, b0, b3, h1, h2]
      exact ⟨rfl, by omega, hk _⟩
    · simp -implicitDefEqProofs only [fun13, code13, params, go_sem, hne, a0, a3, b0, b3, h1, h2]
      exact ⟨by simp, by omega, hk _⟩
  · simp -implicitDefEqProofs only [fun13, code13, params, go_sem, hne, a0, a3, b0, b3, h1]
    exact ⟨by simp, by omega, hk _⟩

def eqR (a b : QReq) : Bool := a.id == b.id && (a.host == b.host && (a.path == b.path && (a.prio == b.prio && a.til == b.til)))
omit T in
theorem eqR_iff {a b : QReq} : eqR a b = true ↔ a = b := by
  obtain ⟨a1, a2, a3, a4, a5⟩ := a
  obtain ⟨b1, b2, b3, b4, b5⟩ := b
  simp only [eqR, Bool.and_eq_true, beq_iff_eq, bytes_eq_iff, QReq.mk.injEq]
omit T in
theorem eqV_req (a b : QReq) : cellsEqK [.int, .string, .string, .int, .int] a.cells b.cells = some (eqR a b) := by
  simp only [QReq.cells, cellsEqK, cellEqK, keyOk, keyEq, Bool.and_self, if_true, Option.bind_some, Option.map_some, eqR, Bool.and_true]

theorem p19 {L : List QReq} {lv : Value} {x : Int} (hr : RowV 5 s lv (cellsL L)) (hn : L.length < 2 ^ 62) (K : Value → St → Prop) : WCall (fun k => call tbl ov k) 19 [lv, i64 x] s K = K (i64 (posV (posL x L))) s := by
  refine WCall.eq (WCall.of T.t19 rfl ?_) K
  obtain ⟨a, cap, hlv⟩ := hr.len
  rw [List.length_map] at hlv
  subst hlv
  simp -implicitDefEqProofs only [fun19, code19, params, go_sem]
  refine wc_loopV (fun m vs s' => s' = s ∧ ∃ i, i ≤ L.length ∧ m = L.length - i ∧ vs = [.slice a L.length cap, i64 x, i64 i] ∧ posL x (L.take i) = none) L.length ?_ ?_
  · simp -implicitDefEqProofs only [go_sem]
    exact ⟨0, by omega, by omega, rfl, rfl⟩
  · rintro m vs s1 ⟨rfl, i, hi, rfl, rfl, hp⟩ _
    cases hlt : decide ((i : Int) < (L.length : Int))
    · simp -implicitDefEqProofs only [go_sem, hlt]
      simp only [decide_eq_false_iff_not] at hlt
      have : i = L.length := by omega
      subst this
      rw [List.take_length] at hp
      rw [hp]; rfl
    · simp only [decide_eq_true_eq] at hlt
      obtain ⟨id, o, cap', c, T', ro, hv, hg, hle, hrow, h0, _⟩ := row_read hr (i := i) (by omega)
      cases hv
      have hd : decide ((i : Int) < (L.length : Int)) = true := by simp; omega
      have hix : 0 ≤ (i : Int) ∧ (i : Int) < (L.length : Int) := by omega
      have w1 : IntKind.i64.wrap ((i : Int) + 1) = ((i + 1 : Nat) : Int) := by rw [IntKind.wrap_i64]; omega
      cases hc : (rG L i).id == x
      · simp -implicitDefEqProofs only [go_sem, hd, hix, hg, h0, Nat.add_zero, hc, w1]
        simp only [beq_eq_false_iff_ne, ne_eq] at hc
        exact ⟨L.length - (i + 1), by omega, i + 1, by omega, rfl, rfl, posL_take (by omega) hp hc⟩
      · simp -implicitDefEqProofs only [go_sem, hd, hix, hg, h0, Nat.add_zero, hc, w1]
        rw [posL_hit (by omega) hp (eq_of_beq hc)]; rfl

end

end Go.Proofs.YtehgdocbabaldaaGreat.Q


/-
  Where a request goes: slices.BinarySearchFunc.
-/
set_option maxRecDepth 100000
set_option linter.unusedVariables false
set_option linter.unusedSimpArgs false
namespace Go.Proofs.YtehgdocbabaldaaGreat.Q
open Go Go.Abs Go.Abs.K

theorem before_iff {a b : QReq} : beforeR a b = true ↔ a.prio < b.prio ∨ (a.prio = b.prio ∧ a.id < b.id) := by
  simp only [beforeR, Bool.or_eq_true, Bool.and_eq_true, decide_eq_true_eq, beq_iff_eq]
theorem cmp_before (a b : QReq) : decide (cmpR a b < 0) = beforeR a b := by
  rw [Bool.eq_iff_iff, before_iff, decide_eq_true_eq]
  unfold cmpR cmpI
  split <;> split <;> (try split at *) <;> omega
theorem before_trans {a b c : QReq} (h : beforeR a b = true) (k : beforeR b c = true) : beforeR a c = true := by
  rw [before_iff] at h k ⊢; omega
theorem before_irrefl (a : QReq) : beforeR a a = false := by
  cases h : beforeR a a
  · rfl
  · rw [before_iff] at h; omega

def SortedR (L : List QReq) : Prop := L.Pairwise fun a b => beforeR a b = true

theorem SortedR.lt {L : List QReq} (h : SortedR L) {i j : Nat} (hij : i < j) (hj : j < L.length) : beforeR (rG L i) (rG L j) = true := by
  rw [rG_lt hj, rG_lt (by omega)]
  exact List.pairwise_iff_getElem.1 h i j (by omega) hj hij

def insI (r : QReq) : List QReq → Nat
  | [] => 0
  | a :: L => if beforeR a r then insI r L + 1 else 0

theorem insI_le (r : QReq) (L : List QReq) : insI r L ≤ L.length := by
  induction L with
  | nil => exact Nat.le_refl _
  | cons a L ih => simp only [insI]; split <;> simp only [List.length_cons] <;> omega

theorem insI_eq {r : QReq} : ∀ {L : List QReq} {i : Nat}, i ≤ L.length → (∀ k, k < i → beforeR (rG L k) r = true) → (i < L.length → beforeR (rG L i) r = false) → i = insI r L := by
  intro L
  induction L with
  | nil => intro i hi _ _; simp only [List.length_nil] at hi; simp only [insI]; omega
  | cons a L ih =>
    intro i hi h1 h2
    cases i with
    | zero =>
      have := h2 (by simp)
      simp only [rG, List.getD_cons_zero] at this
      simp only [insI, this]; rfl
    | succ i =>
      have h0 := h1 0 (by omega)
      simp only [rG, List.getD_cons_zero] at h0
      simp only [insI, h0, if_true]
      rw [← ih (i := i) (by simpa using hi) (fun k hk => by have := h1 (k + 1) (by omega); simpa [rG] using this) (fun hk => by have := h2 (by simpa using hk); simpa [rG] using this)]

section
variable {tbl : FuncId → Option AFun} {ov : CallSem} {s : St} (T : QTbl tbl)
include T

theorem p58 {L : List QReq} {lv : Value} {r : QReq} (hr : RowV 5 s lv (cellsL L)) (hn : L.length < 2 ^ 62) (hs : SortedR L) :
    Pure tbl ov 58 [lv, r.val, .func (.func 59) #[] #[]] s (.tuple #[i64 (insI r L), .bool (decide (insI r L < L.length) && decide (cmpR (rG L (insI r L)) r = 0))]) := by
  refine WCall.pure T.t58 rfl (by decide) rfl ?_
  obtain ⟨a, cap, hlv⟩ := hr.len
  rw [List.length_map] at hlv
  subst hlv
  have hr5 : r.cells.take 5 = r.cells := rfl
  have hl5 : r.cells.length = 5 := rfl
  obtain ⟨s0, hs0⟩ : ∃ s0 : St, s0 = ⟨s.heap.put s.next (some (.cells r.cells 34 0 false)), s.next + 1⟩ := ⟨_, rfl⟩
  have hr0 : RowV 5 s0 (.slice a L.length cap) (cellsL L) := by rw [hs0]; exact hr.kept (kept_nil (Nat.le_succ _))
  have hbox : s0.heap.get s.next = some (.cells r.cells 34 0 false) := by rw [hs0]; simp only [Heap.get_put, if_true]
  have hk0 : KeptAll s s0 := by rw [hs0]; exact kept_put
  have hn0 : s0.next = s.next + 1 := by rw [hs0]
  simp -implicitDefEqProofs only [fun58, code58, params, go_sem]
  rw [← hs0]
  refine wc_loopV (fun m vs s' => s'.heap = s0.heap ∧ s0.next ≤ s'.next ∧ ∃ i j, i ≤ j ∧ j ≤ L.length ∧ m = j - i ∧ vs = [.slice a L.length cap, .func (.func 59) #[] #[], .pointer (some ⟨s.next, 0, none⟩), i64 L.length, i64 i, i64 j] ∧ (∀ k, k < i → beforeR (rG L k) r = true) ∧ (j < L.length → beforeR (rG L j) r = false)) L.length ?_ ?_
  · simp -implicitDefEqProofs only [go_sem]
    exact ⟨0, L.length, by omega, by omega, by omega, rfl, fun k hk => by omega, fun hk => by omega⟩
  · rintro m vs s1 ⟨hh, hnx, i, j, hij, hj, rfl, rfl, h1, h2⟩ _
    cases hlt : decide ((i : Int) < (j : Int))
    · simp only [decide_eq_false_iff_not] at hlt
      have hij' : j = i := by omega
      subst hij'
      have hi := insI_eq hj h1 h2
      by_cases hl : j < L.length
      · obtain ⟨id, o, cap', c, T', ro, hv, hg, hle, hrow, h0, _⟩ := row_read hr0 (i := j) hl
        cases hv
        have hd0 : decide ((j : Int) < (j : Int)) = false := by simp
        have hd : decide ((j : Int) < (L.length : Int)) = true := by simp; omega
        have hix : 0 ≤ (j : Int) ∧ (j : Int) < (L.length : Int) := by omega
        rw [← hh] at hg hbox
        have e44 := fun K => WCall.pureEq (p59 (ov := ov) (s := s1) T (a := rG L j) (b := r)) K
        have n44 := nxt_le (fun k => call tbl ov k) 59 [(rG L j).val, r.val] s1
        have hb : (cmpR (rG L j) r == 0) = decide (cmpR (rG L j) r = 0) := by rw [Bool.eq_iff_iff]; simp
        simp -implicitDefEqProofs only [go_sem, hd0, hd, hix, hg, hle, hrow, hbox, hr5, hl5, List.drop_zero, e44, hb]
        rw [← hi]
        refine ⟨?_, by omega, fun id hid => by rw [hh]; exact hk0 id hid⟩
        simp [hl]
      · have hd0 : decide ((j : Int) < (j : Int)) = false := by simp
        have hd : decide ((j : Int) < (L.length : Int)) = false := by simp; omega
        simp -implicitDefEqProofs only [go_sem, hd0, hd]
        rw [← hi]
        refine ⟨?_, by omega, fun id hid => by rw [hh]; exact hk0 id hid⟩
        simp [hl]
    · simp only [decide_eq_true_eq] at hlt
      have hlt' : i < j := by omega
      obtain ⟨h, hh2⟩ : ∃ h, h = (i + j) / 2 := ⟨_, rfl⟩
      have hd : decide ((i : Int) < (j : Int)) = true := by simp; omega
      obtain ⟨id, o, cap', c, T', ro, hv, hg, hle, hrow, h0, _⟩ := row_read hr0 (i := h) (by omega)
      cases hv
      have hix : 0 ≤ (h : Int) ∧ (h : Int) < (L.length : Int) := by omega
      rw [← hh] at hg hbox
      have e44 := fun K => WCall.pureEq (p59 (ov := ov) (s := s1) T (a := rG L h) (b := r)) K
      have n44 := nxt_le (fun k => call tbl ov k) 59 [(rG L h).val, r.val] s1
      have w1 : IntKind.i64.wrap ((i : Int) + (j : Int)) = ((i + j : Nat) : Int) := by rw [IntKind.wrap_i64]; omega
      have w2 : IntKind.u64.wrap ((i + j : Nat) : Int) = ((i + j : Nat) : Int) := by rw [IntKind.wrap_u64]; omega
      have w3 : binV .shr (.int .u64 ((i + j : Nat) : Int)) (.int .u64 1) = some (.int .u64 ((h : Nat) : Int)) := by
        simp only [binV]
        rw [if_neg (by decide)]
        congr 2
        show ((i + j : Nat) : Int).fdiv (2 ^ 1) = _
        rw [Int.fdiv_eq_ediv_of_nonneg _ (by decide)]
        omega
      have w4 : IntKind.i64.wrap ((h : Nat) : Int) = ((h : Nat) : Int) := by rw [IntKind.wrap_i64]; omega
      have w5 : IntKind.i64.wrap (((h : Nat) : Int) + 1) = ((h + 1 : Nat) : Int) := by rw [IntKind.wrap_i64]; omega
      have hcb := cmp_before (rG L h) r
      cases hb : beforeR (rG L h) r
      · rw [hb] at hcb
        simp -implicitDefEqProofs only [go_sem, hd, w1, w2, w3, w4, hix, hg, hle, hrow, hbox, hr5, hl5, List.drop_zero, e44, hcb]
        exact ⟨h - i, by omega, hh, by omega, i, h, by omega, by omega, rfl, rfl, h1, fun _ => hb⟩
      · rw [hb] at hcb
        simp -implicitDefEqProofs only [go_sem, hd, w1, w2, w3, w4, w5, hix, hg, hle, hrow, hbox, hr5, hl5, List.drop_zero, e44, hcb]
        refine ⟨j - (h + 1), by omega, hh, by omega, h + 1, j, by omega, by omega, rfl, rfl, fun k hk => ?_, h2⟩
        by_cases hkh : k = h
        · rw [hkh]; exact hb
        · exact before_trans (hs.lt (i := k) (j := h) (by omega) (by omega)) hb
end

end Go.Proofs.YtehgdocbabaldaaGreat.Q
