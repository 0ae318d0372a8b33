/-
  A disk as it lies; New, work, Sync, Fault, Segs.
-/
import Derived.Test.YtgnpafmhdmmmhaaD2
import Derived.Test.YtgnpafmhdmmmhaaA46
set_option maxRecDepth 100000
set_option linter.unusedVariables false
set_option linter.unusedSimpArgs false
namespace Go.Proofs.Ytgnpafmhdmmmhaa
open Go Go.Abs Go.Abs.K

/-- A disk: of so many segments at most; so many writes are done, then so many fail; its segments; the writes that may not last. -/
structure DM where
  most : Int
  first : Int
  fails : Int
  F : List (Int × List Int)
  loose : List (Int × Int)

abbrev rowW (q : Int × Int) : List Value := [i64 q.1, i64 q.2]

def N63 (n : Int) : Prop := 0 ≤ n ∧ n ≤ 9223372036854775807

structure DW (D : DM) : Prop where
  first : N63 D.first
  fails : N63 D.fails
  most : 0 ≤ D.most ∧ D.most ≤ 16
  keys : ∀ p ∈ D.F, W64 p.1
  fit : (D.F.length : Int) ≤ D.most
  len : ∀ p ∈ D.F, p.2.length ≤ 2048

def DRep (s : St) (p : Nat) (D : DM) (O V : List Nat) : Prop := ∃ m lv S es clock, s.heap.get p = some (.cells [i64 D.most, .map (some m), lv, i64 D.first, i64 D.fails] 91 0 false) ∧ O = p :: m :: S ∧
  s.heap.get m = some (.map es clock) ∧ MOK KInt es clock ∧ All2 (ER s V) es D.F ∧ RowsP 94 2 s lv (D.loose.map rowW) S ∧ p ≠ m ∧ p ∉ S ∧ m ∉ S ∧ p < s.next ∧ m < s.next ∧ (∀ x ∈ V, x ∉ O ∧ x < s.next) ∧ DW D

theorem DRep.kept {s s' : St} {p : Nat} {D : DM} {O V T : List Nat} (h : DRep s p D O V) (hk : Kept T s s') (hO : ∀ x ∈ O, x ∉ T) (hV : ∀ x ∈ V, x ∉ T) : DRep s' p D O V := by
  obtain ⟨m, lv, S, es, clock, h1, rfl, h2, h3, h4, h5, h6, h7, h8, h9, h10, h11, h12⟩ := h
  refine ⟨m, lv, S, es, clock, ?_, rfl, ?_, h3, er_kept h4 hk hV, h5.kept hk (fun x hx => hO x (by simp [hx])), h6, h7, h8, Nat.lt_of_lt_of_le h9 hk.1, Nat.lt_of_lt_of_le h10 hk.1, fun x hx => ⟨(h11 x hx).1, Nat.lt_of_lt_of_le (h11 x hx).2 hk.1⟩, h12⟩
  · rw [hk.2 p h9 (hO p (by simp))]; exact h1
  · rw [hk.2 m h10 (hO m (by simp))]; exact h2

theorem DRep.lt {s : St} {p : Nat} {D : DM} {O V : List Nat} (h : DRep s p D O V) : (∀ x ∈ O, x < s.next) ∧ ∀ x ∈ V, x < s.next := by
  obtain ⟨m, lv, S, es, clock, h1, rfl, h2, h3, h4, h5, h6, h7, h8, h9, h10, h11, h12⟩ := h
  refine ⟨fun x hx => ?_, fun x hx => (h11 x hx).2⟩
  simp only [List.mem_cons] at hx
  rcases hx with rfl | rfl | hx
  · exact h9
  · exact h10
  · exact h5.lt x hx

/-- Is this write done? -/
def wB (f g : Int) : Bool := decide (f > 0) || !decide (g > 0)
def wF (f : Int) : Int := if f > 0 then f - 1 else f
def wG (f g : Int) : Int := if f > 0 then g else if g > 0 then g - 1 else g
def wD (D : DM) : DM := { D with first := wF D.first, fails := wG D.first D.fails }

theorem wF_range {f : Int} (h : N63 f) : N63 (wF f) := by
  unfold wF N63 at *
  split <;> omega
theorem wG_range {f g : Int} (h : N63 g) : N63 (wG f g) := by
  unfold wG N63 at *
  split
  · exact h
  · split <;> omega

structure DTbl (tbl : FuncId → Option AFun) : Prop where
  t25 : tbl 25 = some fun25
  t26 : tbl 26 = none
  t27 : tbl 27 = some fun27
  t28 : tbl 28 = some fun28
  t29 : tbl 29 = some fun29
  t30 : tbl 30 = some fun30
  t31 : tbl 31 = some fun31
  t32 : tbl 32 = some fun32
  t33 : tbl 33 = some fun33
  t34 : tbl 34 = some fun34
  t35 : tbl 35 = some fun35
  t36 : tbl 36 = some fun36
  t37 : tbl 37 = some fun37
  t38 : tbl 38 = some fun38
  t39 : tbl 39 = some fun39
  t48 : tbl 48 = some fun48
  t49 : tbl 49 = some fun49
  t50 : tbl 50 = some fun50
  t51 : tbl 51 = some fun51
  t52 : tbl 52 = some fun52
  t53 : tbl 53 = some fun53
  t54 : tbl 54 = some fun54
  t55 : tbl 55 = none
  t56 : tbl 56 = some fun56
  t63 : tbl 63 = some fun63

structure OvOK (ov : CallSem) : Prop where
  sorted : ∀ v s, ov 55 [v] s = sortedSem 55 66 3 55 [v] s
  awake : ∀ s, ov 26 [] s = some (.bool true, s)

section
variable {tbl : FuncId → Option AFun} {ov : CallSem} {s : St} (T : DTbl tbl)
include T

theorem p25 {n : Int} (hn : W64 n) : WCall (fun k => call tbl ov k) 25 [i64 n] s fun u s' => u = ptr (s.next + 1) ∧ DRep s' (s.next + 1) ⟨max 0 (min n 16), 0, 0, [], []⟩ [s.next + 1, s.next] [] ∧ Kept [] s s' := by
  refine WCall.of T.t25 rfl ?_
  have e1 : evP s.heap.get s.next (.minmax false [i64 n, i64 16]) = some ⟨i64 (min n 16), [], s.next⟩ := by
    simp only [evP, minmaxV, if_true, Bool.false_eq_true, if_false, Option.map_some]
    congr 3
    by_cases h : (16 : Int) < n
    · rw [if_pos h]; omega
    · rw [if_neg h]; omega
  have e2 : evP s.heap.get s.next (.minmax true [i64 0, i64 (min n 16)]) = some ⟨i64 (max 0 (min n 16)), [], s.next⟩ := by
    simp only [evP, minmaxV, if_true, Option.map_some]
    congr 3
    by_cases h : min n 16 > (0 : Int)
    · rw [if_pos h]; omega
    · rw [if_neg h]; omega
  simp -implicitDefEqProofs only [fun25, code25, params, go_sem, reduceIte, Nat.reduceEqDiff, Nat.reduceAdd, Nat.reduceMul, Nat.reduceLT, Nat.reduceLeDiff, reduceCtorEq, Int.reduceEq, Int.reduceNeg, Nat.reduceSub, Int.reduceLT, Int.reduceLE, Int.reduceGT, Int.reduceGE, Int.reduceAdd, Int.reduceSub, Int.reduceToNat, Int.reduceBNe, Int.reduceBEq, Nat.mul_one, Nat.zero_mul, e1, e2, fillL]
  have hne : ¬ s.next = s.next + 1 := by omega
  refine ⟨⟨s.next, .slice none 0 0, [], [], 0, by simp only [Heap.get_put, if_true], rfl, by simp only [Heap.get_put, if_true, hne, if_false], ⟨by simp, by simp, by simp, .nil⟩, .nil, .nil, by omega, by simp, by simp, by simp only; omega, by simp only; omega, by simp,
    ⟨by unfold N63; simp, by unfold N63; simp, by simp only; omega, by simp, by simp only [List.length_nil]; omega, by simp⟩⟩, ⟨by simp only; omega, fun j hj _ => by simp only [Heap.get_put]; rw [if_neg (by omega), if_neg (by omega)]⟩⟩

theorem p48 {p : Nat} {a b c : Value} {f g : Int} (hp : s.heap.get p = some (.cells [a, b, c, i64 f, i64 g] 91 0 false)) (hf : N63 f) (hg : N63 g) :
    WCall (fun k => call tbl ov k) 48 [ptr p] s fun u s' => u = .bool (wB f g) ∧ s'.next = s.next ∧ s'.heap.get p = some (.cells [a, b, c, i64 (wF f), i64 (wG f g)] 91 0 false) ∧ ∀ j, j ≠ p → s'.heap.get j = s.heap.get j := by
  refine WCall.of T.t48 rfl ?_
  unfold N63 at hf hg
  by_cases h1 : f > 0
  · have d1 : decide (f > 0) = true := by simpa using h1
    have w1 : IntKind.i64.wrap (f - 1) = f - 1 := by rw [IntKind.wrap_i64]; omega
    simp -implicitDefEqProofs only [fun48, code48, params, go_sem, reduceIte, Nat.reduceEqDiff, Nat.reduceAdd, Nat.reduceMul, Nat.reduceLT, Nat.reduceLeDiff, reduceCtorEq, Int.reduceEq, Int.reduceNeg, Nat.reduceSub, Int.reduceLT, Int.reduceLE, Int.reduceGT, Int.reduceGE, Int.reduceAdd, Int.reduceSub, Int.reduceToNat, Int.reduceBNe, Int.reduceBEq, Nat.mul_one, Nat.zero_mul, hp, d1, w1, wB, wF, wG, h1, Bool.true_or]
    exact fun j hj => if_neg hj
  · have d1 : decide (f > 0) = false := by simpa using h1
    by_cases h2 : g > 0
    · have d2 : decide (g > 0) = true := by simpa using h2
      have w1 : IntKind.i64.wrap (g - 1) = g - 1 := by rw [IntKind.wrap_i64]; omega
      simp -implicitDefEqProofs only [fun48, code48, params, go_sem, reduceIte, Nat.reduceEqDiff, Nat.reduceAdd, Nat.reduceMul, Nat.reduceLT, Nat.reduceLeDiff, reduceCtorEq, Int.reduceEq, Int.reduceNeg, Nat.reduceSub, Int.reduceLT, Int.reduceLE, Int.reduceGT, Int.reduceGE, Int.reduceAdd, Int.reduceSub, Int.reduceToNat, Int.reduceBNe, Int.reduceBEq, Nat.mul_one, Nat.zero_mul, hp, d1, d2, w1, wB, wF, wG, h1, h2, Bool.false_or, Bool.not_true]
      exact fun j hj => if_neg hj
    · have d2 : decide (g > 0) = false := by simpa using h2
      simp -implicitDefEqProofs only [fun48, code48, params, go_sem, reduceIte, Nat.reduceEqDiff, Nat.reduceAdd, Nat.reduceMul, Nat.reduceLT, Nat.reduceLeDiff, reduceCtorEq, Int.reduceEq, Int.reduceNeg, Nat.reduceSub, Int.reduceLT, Int.reduceLE, Int.reduceGT, Int.reduceGE, Int.reduceAdd, Int.reduceSub, Int.reduceToNat, Int.reduceBNe, Int.reduceBEq, Nat.mul_one, Nat.zero_mul, hp, d1, d2, wB, wF, wG, h1, h2, Bool.false_or, Bool.not_false]

omit T in
theorem DRep.wrote {s s' : St} {p m : Nat} {D : DM} {V S : List Nat} {lv : Value} {es : List MapEntry} {clock : Nat} {f g : Int} (h2 : s.heap.get m = some (.map es clock)) (h3 : MOK KInt es clock) (h4 : All2 (ER s V) es D.F) (h5 : RowsP 94 2 s lv (D.loose.map rowW) S)
    (h6 : p ≠ m) (h7 : p ∉ S) (h8 : m ∉ S) (h9 : p < s.next) (h10 : m < s.next) (h11 : ∀ x ∈ V, x ∉ p :: m :: S ∧ x < s.next) (h12 : DW D) (hn : s'.next = s.next) (hp : s'.heap.get p = some (.cells [i64 D.most, .map (some m), lv, i64 f, i64 g] 91 0 false)) (ho : ∀ j, j ≠ p → s'.heap.get j = s.heap.get j) (hf : N63 f) (hg : N63 g) :
    s'.heap.get m = some (.map es clock) ∧ All2 (ER s' V) es D.F ∧ RowsP 94 2 s' lv (D.loose.map rowW) S ∧ DRep s' p { D with first := f, fails := g } (p :: m :: S) V ∧ Kept [p] s s' := by
  have hk : Kept [p] s s' := ⟨by omega, fun j _ hj => ho j (by simpa using hj)⟩
  have e4 := er_kept h4 hk (fun x hx => by simp only [List.mem_singleton]; rintro rfl; exact (h11 _ hx).1 (by simp))
  have e5 := h5.kept hk (fun x hx => by simp only [List.mem_singleton]; rintro rfl; exact h7 hx)
  have e2 : s'.heap.get m = some (.map es clock) := by rw [ho m (Ne.symm h6)]; exact h2
  exact ⟨e2, e4, e5, ⟨m, lv, S, es, clock, hp, rfl, e2, h3, e4, e5, h6, h7, h8, by omega, by omega, fun x hx => ⟨(h11 x hx).1, by rw [hn]; exact (h11 x hx).2⟩, ⟨hf, hg, h12.most, h12.keys, h12.fit, h12.len⟩⟩, hk⟩

/-- Sync. -/
theorem p28 {p : Nat} {D : DM} {O V : List Nat} (h : DRep s p D O V) :
    WCall (fun k => call tbl ov k) 28 [ptr p] s fun u s' => u = i64 (if wB D.first D.fails then 0 else 7) ∧ Kept O s s' ∧ ∃ O', DRep s' p (if wB D.first D.fails then { wD D with loose := [] } else wD D) O' V ∧ ∀ x ∈ O', x ∈ O := by
  refine WCall.of T.t28 rfl ?_
  obtain ⟨m, lv, S, es, clock, h1, rfl, h2, h3, h4, h5, h6, h7, h8, h9, h10, h11, h12⟩ := h
  have h48 := p48 (ov := ov) T h1 h12.first h12.fails
  simp -implicitDefEqProofs only [fun28, code28, params, go_sem, reduceIte, Nat.reduceEqDiff, Nat.reduceAdd, Nat.reduceMul, Nat.reduceLT, Nat.reduceLeDiff, reduceCtorEq, Int.reduceEq, Int.reduceNeg, Nat.reduceSub, Int.reduceLT, Int.reduceLE, Int.reduceGT, Int.reduceGE, Int.reduceAdd, Int.reduceSub, Int.reduceToNat, Int.reduceBNe, Int.reduceBEq, Nat.mul_one, Nat.zero_mul]
  refine WCall.mono h48 ?_
  rintro u s1 ⟨rfl, hn, hp, ho⟩
  obtain ⟨g2, g4, g5, gR, gk⟩ := DRep.wrote h2 h3 h4 h5 h6 h7 h8 h9 h10 h11 h12 hn hp ho (wF_range h12.first) (wG_range (f := D.first) h12.fails)
  cases hb : wB D.first D.fails
  · simp -implicitDefEqProofs only [go_sem, reduceIte, Nat.reduceEqDiff, Nat.reduceAdd, Nat.reduceMul, Nat.reduceLT, Nat.reduceLeDiff, reduceCtorEq, Int.reduceEq, Int.reduceNeg, Nat.reduceSub, Int.reduceLT, Int.reduceLE, Int.reduceGT, Int.reduceGE, Int.reduceAdd, Int.reduceSub, Int.reduceToNat, Int.reduceBNe, Int.reduceBEq, Nat.mul_one, Nat.zero_mul, Bool.not_false]
    exact ⟨gk.sub (by simp), _, gR, fun x hx => hx⟩
  · simp -implicitDefEqProofs only [go_sem, reduceIte, Nat.reduceEqDiff, Nat.reduceAdd, Nat.reduceMul, Nat.reduceLT, Nat.reduceLeDiff, reduceCtorEq, Int.reduceEq, Int.reduceNeg, Nat.reduceSub, Int.reduceLT, Int.reduceLE, Int.reduceGT, Int.reduceGE, Int.reduceAdd, Int.reduceSub, Int.reduceToNat, Int.reduceBNe, Int.reduceBEq, Nat.mul_one, Nat.zero_mul, hp, Bool.not_true]
    have hk2 : Kept [p] s1 ⟨s1.heap.put p (some (.cells [i64 D.most, .map (some m), .slice none 0 0, i64 (wF D.first), i64 (wG D.first D.fails)] 91 0 false)), s1.next⟩ := kept_put1 (Nat.le_refl _)
    refine ⟨(gk.trans hk2).sub (by simp), [p, m], ⟨m, .slice none 0 0, [], es, clock, by simp only [Heap.get_put, if_true, wD], rfl, by simp only [Heap.get_put]; rw [if_neg (Ne.symm h6)]; exact g2, h3, er_kept g4 hk2 (fun x hx => by simp only [List.mem_singleton]; rintro rfl; exact (h11 _ hx).1 (by simp)), .nil, h6, by simp, by simp, by simp only; omega, by simp only; omega,
      fun x hx => ⟨fun hx' => (h11 x hx).1 (by simp only [List.mem_cons, List.not_mem_nil, or_false] at hx' ⊢; rcases hx' with h | h <;> simp [h]), by simp only; rw [hn]; exact (h11 x hx).2⟩, ⟨wF_range h12.first, wG_range h12.fails, h12.most, h12.keys, h12.fit, h12.len⟩⟩, fun x hx => by simp only [List.mem_cons, List.not_mem_nil, or_false] at hx ⊢; rcases hx with h | h <;> simp [h]⟩

/-- Fault. -/
theorem p36 {p : Nat} {D : DM} {O V : List Nat} {a b : Int} (h : DRep s p D O V) (ha : W64 a) (hb : W64 b) :
    WCall (fun k => call tbl ov k) 36 [ptr p, i64 a, i64 b] s fun u s' => Kept O s s' ∧ DRep s' p { D with first := max a 0, fails := max b 0 } O V := by
  refine WCall.of T.t36 rfl ?_
  obtain ⟨m, lv, S, es, clock, h1, rfl, h2, h3, h4, h5, h6, h7, h8, h9, h10, h11, h12⟩ := h
  have em : ∀ x : Int, evP s.heap.get s.next (.minmax true [i64 x, i64 0]) = some ⟨i64 (max x 0), [], s.next⟩ := by
    intro x
    simp only [evP, minmaxV, if_true, Option.map_some]
    congr 3
    by_cases h : (0 : Int) > x
    · rw [if_pos h]; omega
    · rw [if_neg h]; omega
  simp -implicitDefEqProofs only [fun36, code36, params, go_sem, reduceIte, Nat.reduceEqDiff, Nat.reduceAdd, Nat.reduceMul, Nat.reduceLT, Nat.reduceLeDiff, reduceCtorEq, Int.reduceEq, Int.reduceNeg, Nat.reduceSub, Int.reduceLT, Int.reduceLE, Int.reduceGT, Int.reduceGE, Int.reduceAdd, Int.reduceSub, Int.reduceToNat, Int.reduceBNe, Int.reduceBEq, Nat.mul_one, Nat.zero_mul, h1, em]
  unfold W64 at ha hb
  obtain ⟨g2, g4, g5, gR, gk⟩ := DRep.wrote (s' := ⟨(s.heap.put p (some (.cells [i64 D.most, .map (some m), lv, i64 (max a 0), i64 D.fails] 91 0 false))).put p (some (.cells [i64 D.most, .map (some m), lv, i64 (max a 0), i64 (max b 0)] 91 0 false)), s.next⟩)
    h2 h3 h4 h5 h6 h7 h8 h9 h10 h11 h12 rfl (by simp only [Heap.get_put, if_true]) (fun j hj => by simp only [Heap.get_put, hj, if_false]) (f := max a 0) (g := max b 0) (by unfold N63; omega) (by unfold N63; omega)
  exact ⟨gk.sub (by simp), gR⟩
end

end Go.Proofs.Ytgnpafmhdmmmhaa
