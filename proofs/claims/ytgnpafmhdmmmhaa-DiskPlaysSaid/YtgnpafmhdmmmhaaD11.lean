/-
  The reference's disk as it lies; New, fails, at, Read.
-/
import Derived.Test.YtgnpafmhdmmmhaaD9
set_option maxRecDepth 100000
set_option linter.unusedVariables false
set_option linter.unusedSimpArgs false
namespace Go.Proofs.Ytgnpafmhdmmmhaa
open Go Go.Abs Go.Abs.K

/-- The reference's disk: a segment's bytes bear a mark each, below 0 where they last. -/
structure RM where
  most : Int
  segs : List (Int × List (Int × Int))
  next : Int
  first : Int
  fails : Int

abbrev rowB (z : Int × Int) : List Value := [.int .u8 z.1, i64 z.2]

structure RW (R : RM) : Prop where
  first : N63 R.first
  fails : N63 R.fails
  next : 0 ≤ R.next ∧ R.next < 2 ^ 40
  len : R.segs.length ≤ 16
  bytes : ∀ (i : Nat) (n : Int) (bs : List (Int × Int)), R.segs[i]? = some (n, bs) → bs.length ≤ 2048 ∧ ∀ z ∈ bs, 0 ≤ z.1 ∧ z.1 ≤ 255

def RRep (s : St) (q : Nat) (R : RM) (O : List Nat) : Prop := ∃ (sv : Value) (S : List Nat) (rows : List (List Value)) (L : Nat → List Nat), s.heap.get q = some (.cells [i64 R.most, sv, i64 R.next, i64 R.first, i64 R.fails] 68 0 false) ∧
  RowsO 73 2 s sv rows S ∧ rows.length = R.segs.length ∧ (∀ (i : Nat) (n : Int) (bs : List (Int × Int)), R.segs[i]? = some (n, bs) → ∃ bv, rows[i]? = some [i64 n, bv] ∧ RowsO 97 2 s bv (bs.map rowB) (L i)) ∧ q ∉ S ∧
  (∀ (i x : Nat), i < R.segs.length → x ∈ L i → x ≠ q ∧ x ∉ S) ∧ (∀ (i j x : Nat), i < R.segs.length → j < R.segs.length → i ≠ j → x ∈ L i → x ∉ L j) ∧
  q ∈ O ∧ (∀ x ∈ S, x ∈ O) ∧ (∀ (i x : Nat), i < R.segs.length → x ∈ L i → x ∈ O) ∧ (∀ x ∈ O, x < s.next) ∧ RW R

theorem RowsO.kept' {t : TypeId} {sz : Nat} {s s' : St} {v : Value} {cs : List (List Value)} {S T : List Nat} (h : RowsO t sz s v cs S) (hk : Kept T s s') (hd : ∀ x ∈ S, x ∉ T) : RowsO t sz s' v cs S := by
  obtain ⟨hz, h | ⟨id, o, cap, c, rfl, rfl, h1, h2, h3, h4, h5⟩⟩ := h
  · exact ⟨hz, .inl h⟩
  · exact ⟨hz, .inr ⟨id, o, cap, c, rfl, rfl, h1, Nat.lt_of_lt_of_le h2 hk.1, by rw [hk.2 id h2 (hd id (by simp))]; exact h3, h4, h5⟩⟩

theorem RRep.kept {s s' : St} {q : Nat} {R : RM} {O T : List Nat} (h : RRep s q R O) (hk : Kept T s s') (hO : ∀ x ∈ O, x ∉ T) : RRep s' q R O := by
  obtain ⟨sv, S, rows, L, h1, h2, h3, h4, h5, h6, h7, h8, h9, h10, h11, h12⟩ := h
  refine ⟨sv, S, rows, L, by rw [hk.2 q (h11 q h8) (hO q h8)]; exact h1, RowsO.kept' h2 hk fun x hx => hO x (h9 x hx), h3, fun i n bs hi => ?_, h5, h6, h7, h8, h9, h10, fun x hx => Nat.lt_of_lt_of_le (h11 x hx) hk.1, h12⟩
  obtain ⟨bv, a, b⟩ := h4 i n bs hi
  exact ⟨bv, a, RowsO.kept' b hk fun x hx => hO x (h10 i x (List.getElem?_eq_some_iff.1 hi).1 hx)⟩

/-- Where a segment is. -/
def idxS (n : Int) : List (Int × List (Int × Int)) → Option Nat
  | [] => none
  | p :: L => if p.1 = n then some 0 else (idxS n L).map (· + 1)

theorem idxS_take {g : Int} : ∀ {L : List (Int × List (Int × Int))} {i : Nat} {w : Int × List (Int × Int)}, L[i]? = some w → idxS g (L.take i) = none → w.1 ≠ g → idxS g (L.take (i + 1)) = none := by
  intro L
  induction L with
  | nil => intro i w h; simp at h
  | cons r L ih =>
    intro i w hw h hne
    cases i with
    | zero =>
      simp only [List.getElem?_cons_zero, Option.some.injEq] at hw
      subst hw
      simp [idxS, hne]
    | succ i =>
      simp only [List.take_succ_cons, idxS, List.getElem?_cons_succ] at h hw ⊢
      by_cases hr : r.1 = g
      · rw [if_pos hr] at h; cases h
      · rw [if_neg hr] at h ⊢
        simp only [Option.map_eq_none_iff] at h ⊢
        exact ih hw h hne
theorem idxS_hit {g : Int} : ∀ {L : List (Int × List (Int × Int))} {i : Nat} {w : Int × List (Int × Int)}, L[i]? = some w → idxS g (L.take i) = none → w.1 = g → idxS g L = some i := by
  intro L
  induction L with
  | nil => intro i w h; simp at h
  | cons r L ih =>
    intro i w hw h he
    cases i with
    | zero =>
      simp only [List.getElem?_cons_zero, Option.some.injEq] at hw
      subst hw
      simp [idxS, he]
    | succ i =>
      simp only [List.take_succ_cons, idxS, List.getElem?_cons_succ] at h hw ⊢
      by_cases hr : r.1 = g
      · rw [if_pos hr] at h; cases h
      · rw [if_neg hr] at h ⊢
        simp only [Option.map_eq_none_iff] at h
        rw [ih hw h he]; rfl
theorem idxS_some {g : Int} : ∀ {L : List (Int × List (Int × Int))} {i : Nat}, idxS g L = some i → ∃ bs, L[i]? = some (g, bs) := by
  intro L
  induction L with
  | nil => intro i h; cases h
  | cons w L ih =>
    intro i h
    simp only [idxS] at h
    split at h
    · rename_i hw
      cases h
      exact ⟨w.2, by subst hw; rfl⟩
    · rw [Option.map_eq_some_iff] at h
      obtain ⟨j, hj, rfl⟩ := h
      obtain ⟨bs, hb⟩ := ih hj
      exact ⟨bs, by simpa using hb⟩

section
variable {tbl : FuncId → Option AFun} {ov : CallSem} {s : St} (T : DTbl tbl)
include T

theorem p31 {n : Int} : WCall (fun k => call tbl ov k) 31 [i64 n] s fun u s' => u = ptr s.next ∧ RRep s' s.next ⟨max 0 (min n 16), [], 0, 0, 0⟩ [s.next] ∧ Kept [] s s' := by
  refine WCall.of T.t31 rfl ?_
  have fin : ∀ m : Int, m = max 0 (min n 16) → RRep ⟨s.heap.put s.next (some (.cells [i64 m, .slice none 0 0, i64 0, i64 0, i64 0] 68 0 false)), s.next + 1⟩ s.next ⟨max 0 (min n 16), [], 0, 0, 0⟩ [s.next] ∧ Kept [] s ⟨s.heap.put s.next (some (.cells [i64 m, .slice none 0 0, i64 0, i64 0, i64 0] 68 0 false)), s.next + 1⟩ := fun m hm => by
    subst hm
    exact ⟨⟨.slice none 0 0, [], [], fun _ => [], by simp only [Heap.get_put, if_true], ⟨by simp, .inl ⟨rfl, rfl, rfl⟩⟩, rfl, by simp, by simp, by simp, by simp, by simp, by simp, by simp, by simp, ⟨⟨by simp, by simp⟩, ⟨by simp, by simp⟩, by simp, by simp, by simp⟩⟩, kept_put_nil (Nat.le_refl _) (Nat.le_succ _)⟩
  by_cases h1 : n < 0
  · have d1 : decide (n < 0) = true := by simpa using h1
    have d2 : decide ((0 : Int) > 16) = false := by decide
    simp -implicitDefEqProofs only [fun31, code31, params, go_sem, reduceIte, Nat.reduceEqDiff, Nat.reduceAdd, Nat.reduceMul, Nat.reduceLT, Nat.reduceLeDiff, reduceCtorEq, Int.reduceEq, Int.reduceNeg, Nat.reduceSub, Int.reduceLT, Int.reduceLE, Int.reduceGT, Int.reduceGE, Int.reduceAdd, Int.reduceSub, Int.reduceToNat, Int.reduceBNe, Int.reduceBEq, Nat.mul_one, Nat.zero_mul, d1, d2, fillL]
    exact fin 0 (by omega)
  · have d1 : decide (n < 0) = false := by simpa using h1
    by_cases h2 : n > 16
    · have d2 : decide (n > 16) = true := by simpa using h2
      simp -implicitDefEqProofs only [fun31, code31, params, go_sem, reduceIte, Nat.reduceEqDiff, Nat.reduceAdd, Nat.reduceMul, Nat.reduceLT, Nat.reduceLeDiff, reduceCtorEq, Int.reduceEq, Int.reduceNeg, Nat.reduceSub, Int.reduceLT, Int.reduceLE, Int.reduceGT, Int.reduceGE, Int.reduceAdd, Int.reduceSub, Int.reduceToNat, Int.reduceBNe, Int.reduceBEq, Nat.mul_one, Nat.zero_mul, d1, d2, fillL]
      exact fin 16 (by omega)
    · have d2 : decide (n > 16) = false := by simpa using h2
      simp -implicitDefEqProofs only [fun31, code31, params, go_sem, reduceIte, Nat.reduceEqDiff, Nat.reduceAdd, Nat.reduceMul, Nat.reduceLT, Nat.reduceLeDiff, reduceCtorEq, Int.reduceEq, Int.reduceNeg, Nat.reduceSub, Int.reduceLT, Int.reduceLE, Int.reduceGT, Int.reduceGE, Int.reduceAdd, Int.reduceSub, Int.reduceToNat, Int.reduceBNe, Int.reduceBEq, Nat.mul_one, Nat.zero_mul, d1, d2, fillL]
      exact fin n (by omega)

theorem p52 {p : Nat} {a b c : Value} {f g : Int} (hp : s.heap.get p = some (.cells [a, b, c, i64 f, i64 g] 68 0 false)) (hf : N63 f) (hg : N63 g) :
    WCall (fun k => call tbl ov k) 52 [ptr p] s fun u s' => u = .bool (!wB f g) ∧ s'.next = s.next ∧ s'.heap.get p = some (.cells [a, b, c, i64 (wF f), i64 (wG f g)] 68 0 false) ∧ ∀ j, j ≠ p → s'.heap.get j = s.heap.get j := by
  refine WCall.of T.t52 rfl ?_
  unfold N63 at hf hg
  by_cases h1 : f > 0
  · have d1 : decide (f > 0) = true := by simpa using h1
    have w1 : IntKind.i64.wrap (f - 1) = f - 1 := by rw [IntKind.wrap_i64]; omega
    simp -implicitDefEqProofs only [fun52, code52, params, go_sem, reduceIte, Nat.reduceEqDiff, Nat.reduceAdd, Nat.reduceMul, Nat.reduceLT, Nat.reduceLeDiff, reduceCtorEq, Int.reduceEq, Int.reduceNeg, Nat.reduceSub, Int.reduceLT, Int.reduceLE, Int.reduceGT, Int.reduceGE, Int.reduceAdd, Int.reduceSub, Int.reduceToNat, Int.reduceBNe, Int.reduceBEq, Nat.mul_one, Nat.zero_mul, hp, d1, w1, wB, wF, wG, h1, Bool.true_or]
    exact fun j hj => if_neg hj
  · have d1 : decide (f > 0) = false := by simpa using h1
    by_cases h2 : g > 0
    · have d2 : decide (g > 0) = true := by simpa using h2
      have w1 : IntKind.i64.wrap (g - 1) = g - 1 := by rw [IntKind.wrap_i64]; omega
      simp -implicitDefEqProofs only [fun52, code52, params, go_sem, reduceIte, Nat.reduceEqDiff, Nat.reduceAdd, Nat.reduceMul, Nat.reduceLT, Nat.reduceLeDiff, reduceCtorEq, Int.reduceEq, Int.reduceNeg, Nat.reduceSub, Int.reduceLT, Int.reduceLE, Int.reduceGT, Int.reduceGE, Int.reduceAdd, Int.reduceSub, Int.reduceToNat, Int.reduceBNe, Int.reduceBEq, Nat.mul_one, Nat.zero_mul, hp, d1, d2, w1, wB, wF, wG, h1, h2, Bool.false_or, Bool.not_true]
      exact fun j hj => if_neg hj
    · have d2 : decide (g > 0) = false := by simpa using h2
      simp -implicitDefEqProofs only [fun52, code52, params, go_sem, reduceIte, Nat.reduceEqDiff, Nat.reduceAdd, Nat.reduceMul, Nat.reduceLT, Nat.reduceLeDiff, reduceCtorEq, Int.reduceEq, Int.reduceNeg, Nat.reduceSub, Int.reduceLT, Int.reduceLE, Int.reduceGT, Int.reduceGE, Int.reduceAdd, Int.reduceSub, Int.reduceToNat, Int.reduceBNe, Int.reduceBEq, Nat.mul_one, Nat.zero_mul, hp, d1, d2, wB, wF, wG, h1, h2, Bool.false_or, Bool.not_false]

theorem p51 {q : Nat} {R : RM} {O : List Nat} {n : Int} (h : RRep s q R O) (K : Value → St → Prop) : WCall (fun k => call tbl ov k) 51 [ptr q, i64 n] s K = K (i64 (posV (idxS n R.segs))) s := by
  refine WCall.eq (WCall.of T.t51 rfl ?_) K
  obtain ⟨sv, S, rows, L, h1, h2, h3, h4, h5, h6, h7, h8, h9, h10, h11, h12⟩ := h
  have hrv := h2.toV
  obtain ⟨a, cap, hsv⟩ := hrv.len
  subst hsv
  simp -implicitDefEqProofs only [fun51, code51, params, go_sem, reduceIte, Nat.reduceEqDiff, Nat.reduceAdd, Nat.reduceMul, Nat.reduceLT, Nat.reduceLeDiff, reduceCtorEq, Int.reduceEq, Int.reduceNeg, Nat.reduceSub, Int.reduceLT, Int.reduceLE, Int.reduceGT, Int.reduceGE, Int.reduceAdd, Int.reduceSub, Int.reduceToNat, Int.reduceBNe, Int.reduceBEq, Nat.mul_one, Nat.zero_mul]
  obtain ⟨I, hI⟩ : ∃ I : Nat → List Value → St → Prop, I = fun m vs s' => s' = s ∧ ∃ i, i ≤ rows.length ∧ m = rows.length - i ∧ vs = [ptr q, i64 n, i64 (i : Nat)] ∧ idxS n (R.segs.take i) = none := ⟨_, rfl⟩
  refine wc_loopV I rows.length ?_ ?_
  · simp -implicitDefEqProofs only [go_sem, reduceIte, Nat.reduceEqDiff, Nat.reduceAdd, Nat.reduceMul, Nat.reduceLT, Nat.reduceLeDiff, reduceCtorEq, Int.reduceEq, Int.reduceNeg, Nat.reduceSub, Int.reduceLT, Int.reduceLE, Int.reduceGT, Int.reduceGE, Int.reduceAdd, Int.reduceSub, Int.reduceToNat, Int.reduceBNe, Int.reduceBEq, Nat.mul_one, Nat.zero_mul]
    rw [hI]
    exact ⟨rfl, 0, by omega, by omega, rfl, rfl⟩
  · intro m vs s1 hi _
    rw [hI] at hi
    obtain ⟨rfl, i, hil, rfl, rfl, hx⟩ := hi
    cases hlt : decide ((i : Int) < (rows.length : Int))
    · have hie : i = rows.length := by have := of_decide_eq_false hlt; omega
      subst hie
      rw [h3, List.take_length] at hx
      simp -implicitDefEqProofs only [go_sem, reduceIte, Nat.reduceEqDiff, Nat.reduceAdd, Nat.reduceMul, Nat.reduceLT, Nat.reduceLeDiff, reduceCtorEq, Int.reduceEq, Int.reduceNeg, Nat.reduceSub, Int.reduceLT, Int.reduceLE, Int.reduceGT, Int.reduceGE, Int.reduceAdd, Int.reduceSub, Int.reduceToNat, Int.reduceBNe, Int.reduceBEq, Nat.mul_one, Nat.zero_mul, h1, hlt, hx, posV]
    · have hiN : i < rows.length := by have := of_decide_eq_true hlt; omega
      obtain ⟨id, o, cap', c, T', ro, hv, hid, hg, hle, hrw, hc⟩ := row_read hrv hiN
      cases hv
      obtain ⟨⟨n', bs⟩, hw⟩ : ∃ w, R.segs[i]? = some w := ⟨_, List.getElem?_eq_getElem (by omega)⟩
      obtain ⟨bv, hbv, _⟩ := h4 i n' bs hw
      have hc0 := hc 0 (by decide)
      rw [List.getD_eq_getElem?_getD, hbv] at hc0
      simp only [Nat.add_zero, Option.getD_some, List.getElem?_cons_zero] at hc0
      have hix : 0 ≤ (i : Int) ∧ (i : Int) < (rows.length : Int) := by omega
      have h16 := h12.len
      have w4 : IntKind.i64.wrap ((i : Int) + 1) = ((i + 1 : Nat) : Int) := by rw [IntKind.wrap_i64]; omega
      cases hq : (n' == n)
      · simp -implicitDefEqProofs only [go_sem, reduceIte, Nat.reduceEqDiff, Nat.reduceAdd, Nat.reduceMul, Nat.reduceLT, Nat.reduceLeDiff, reduceCtorEq, Int.reduceEq, Int.reduceNeg, Nat.reduceSub, Int.reduceLT, Int.reduceLE, Int.reduceGT, Int.reduceGE, Int.reduceAdd, Int.reduceSub, Int.reduceToNat, Int.reduceBNe, Int.reduceBEq, Nat.mul_one, Nat.zero_mul, Nat.add_zero, h1, hlt, hix, hg, hc0, hq, w4]
        rw [hI]
        exact ⟨rows.length - (i + 1), by omega, rfl, i + 1, by omega, rfl, rfl, idxS_take hw hx (by simpa using hq)⟩
      · have := idxS_hit hw hx (by simpa using hq)
        simp -implicitDefEqProofs only [go_sem, reduceIte, Nat.reduceEqDiff, Nat.reduceAdd, Nat.reduceMul, Nat.reduceLT, Nat.reduceLeDiff, reduceCtorEq, Int.reduceEq, Int.reduceNeg, Nat.reduceSub, Int.reduceLT, Int.reduceLE, Int.reduceGT, Int.reduceGE, Int.reduceAdd, Int.reduceSub, Int.reduceToNat, Int.reduceBNe, Int.reduceBEq, Nat.mul_one, Nat.zero_mul, Nat.add_zero, h1, hlt, hix, hg, hc0, hq, this, posV]

def rBytes (R : RM) (n : Int) : List (Int × Int) := match idxS n R.segs with | some i => (match R.segs[i]? with | some p => p.2 | none => []) | none => []
def rE (R : RM) (n : Int) : Int := if (idxS n R.segs).isSome then 0 else 4

/-- Read. -/
theorem p39 {q : Nat} {R : RM} {O : List Nat} {n : Int} (h : RRep s q R O) :
    WCall (fun k => call tbl ov k) 39 [ptr q, i64 n] s fun u s' => ∃ v, u = .tuple #[v, i64 (rE R n)] ∧ BytesV s' v ((rBytes R n).map fun z => z.1) ∧ Kept [] s s' ∧ NewV s.next v := by
  refine WCall.of T.t39 rfl ?_
  have e51 := fun K => p51 (ov := ov) T (n := n) h K
  obtain ⟨sv, S, rows, L, h1, h2, h3, h4, h5, h6, h7, h8, h9, h10, h11, h12⟩ := h
  have hrv := h2.toV
  obtain ⟨a, cap, hsv⟩ := hrv.len
  subst hsv
  cases hix : idxS n R.segs with
  | none =>
    rw [hix] at e51
    have d0 : decide ((-1 : Int) < 0) = true := rfl
    simp -implicitDefEqProofs only [fun39, code39, params, go_sem, reduceIte, Nat.reduceEqDiff, Nat.reduceAdd, Nat.reduceMul, Nat.reduceLT, Nat.reduceLeDiff, reduceCtorEq, Int.reduceEq, Int.reduceNeg, Nat.reduceSub, Int.reduceLT, Int.reduceLE, Int.reduceGT, Int.reduceGE, Int.reduceAdd, Int.reduceSub, Int.reduceToNat, Int.reduceBNe, Int.reduceBEq, Nat.mul_one, Nat.zero_mul, e51, posV, d0, rE, rBytes, hix, Option.isSome_none]
    exact ⟨_, rfl, ⟨by simp, .inl ⟨rfl, rfl⟩⟩, Kept.refl _ _, fun id o l c e => by cases e⟩
  | some i =>
    rw [hix] at e51
    obtain ⟨bs, hbs⟩ := idxS_some hix
    have hiL := (List.getElem?_eq_some_iff.1 hbs).1
    obtain ⟨bv, hbv, hB⟩ := h4 i n bs hbs
    obtain ⟨hb1, hb2⟩ := h12.bytes i n bs hbs
    have hiN : i < rows.length := by omega
    obtain ⟨id, o, cap', c, T', ro, hv, hid, hg, hle, hrw, hc⟩ := row_read hrv hiN
    cases hv
    have hc1 := hc 1 (by decide)
    rw [List.getD_eq_getElem?_getD, hbv] at hc1
    simp only [Option.getD_some, List.getElem?_cons_succ, List.getElem?_cons_zero] at hc1
    obtain ⟨ba, bc, hbe⟩ := hB.toV.len
    rw [List.length_map] at hbe
    subst hbe
    have d0 : decide (((i : Nat) : Int) < 0) = false := by simp
    have hixi : 0 ≤ (i : Int) ∧ (i : Int) < (rows.length : Int) := by omega
    simp -implicitDefEqProofs only [fun39, code39, params, go_sem, reduceIte, Nat.reduceEqDiff, Nat.reduceAdd, Nat.reduceMul, Nat.reduceLT, Nat.reduceLeDiff, reduceCtorEq, Int.reduceEq, Int.reduceNeg, Nat.reduceSub, Int.reduceLT, Int.reduceLE, Int.reduceGT, Int.reduceGE, Int.reduceAdd, Int.reduceSub, Int.reduceToNat, Int.reduceBNe, Int.reduceBEq, Nat.mul_one, Nat.zero_mul, e51, posV, d0, ev_buildSlice, fillL]
    obtain ⟨I, hI⟩ : ∃ I : Nat → List Value → St → Prop, I = fun m vs s' => Kept [] s s' ∧ ∃ k ov SO, k ≤ bs.length ∧ m = bs.length - k ∧ vs = [ptr q, i64 (i : Nat), ov, i64 (k : Nat)] ∧ BytesO 5 s' ov ((bs.take k).map fun z => z.1) SO ∧ ∀ x ∈ SO, s.next ≤ x := ⟨_, rfl⟩
    refine wc_loopV I bs.length ?_ ?_
    · simp -implicitDefEqProofs only [go_sem, reduceIte, Nat.reduceEqDiff, Nat.reduceAdd, Nat.reduceMul, Nat.reduceLT, Nat.reduceLeDiff, reduceCtorEq, Int.reduceEq, Int.reduceNeg, Nat.reduceSub, Int.reduceLT, Int.reduceLE, Int.reduceGT, Int.reduceGE, Int.reduceAdd, Int.reduceSub, Int.reduceToNat, Int.reduceBNe, Int.reduceBEq, Nat.mul_one, Nat.zero_mul]
      rw [hI]
      exact ⟨kept_put_nil (Nat.le_refl _) (Nat.le_succ _), 0, _, [s.next], by omega, by omega, rfl, ⟨by simp, .inr ⟨s.next, 0, 0, [], rfl, rfl, Nat.le_refl _, Nat.lt_succ_self _, by simp only [Heap.get_put, if_true], by simp, rfl⟩⟩, by simp⟩
    · intro m vs s1 hi _
      rw [hI] at hi
      obtain ⟨hk1, k, ovv, SO, hkl, rfl, rfl, hO, hSO⟩ := hi
      have hnn := hk1.1
      have hq1 : s1.heap.get q = some (.cells [i64 R.most, .slice (some ⟨id, o, none⟩) rows.length cap, i64 R.next, i64 R.first, i64 R.fails] 68 0 false) := by rw [hk1.2 q (h11 q h8) (by simp)]; exact h1
      have hg1 : s1.heap.get id = some (.cells c T' 2 ro) := by rw [hk1.2 id hid (by simp)]; exact hg
      cases hlt : decide ((k : Int) < (bs.length : Int))
      · have hke : k = bs.length := by have := of_decide_eq_false hlt; omega
        subst hke
        rw [List.take_length] at hO
        simp -implicitDefEqProofs only [go_sem, reduceIte, Nat.reduceEqDiff, Nat.reduceAdd, Nat.reduceMul, Nat.reduceLT, Nat.reduceLeDiff, reduceCtorEq, Int.reduceEq, Int.reduceNeg, Nat.reduceSub, Int.reduceLT, Int.reduceLE, Int.reduceGT, Int.reduceGE, Int.reduceAdd, Int.reduceSub, Int.reduceToNat, Int.reduceBNe, Int.reduceBEq, Nat.mul_one, Nat.zero_mul, hq1, hixi, hg1, hc1, hlt]
        refine ⟨ovv, by simp only [rE, hix, Option.isSome_some, if_true], by simp only [rBytes, hix, hbs]; exact hO.toV, hk1, fun id' o' l c e => ?_⟩
        obtain ⟨_, ⟨hx, _⟩ | ⟨id2, o2, c2, cc2, hx, hS2, _⟩⟩ := hO
        · rw [hx] at e; cases e
        · rw [hx] at e
          simp only [Value.slice.injEq, Option.some.injEq, Addr.mk.injEq] at e
          rw [← e.1.1]
          exact hSO _ (by rw [hS2]; exact List.mem_singleton.2 rfl)
      · have hkN : k < bs.length := by have := of_decide_eq_true hlt; omega
        obtain ⟨z, hz⟩ : ∃ z, bs[k]? = some z := ⟨_, List.getElem?_eq_getElem hkN⟩
        obtain ⟨ib, ob, capb, cb, Tb, rob, hvb, hidb, hgb, hleb, _, hcb⟩ := row_read hB.toV (i := k) (by rw [List.length_map]; exact hkN)
        rw [List.length_map] at hvb
        cases hvb
        have hcb0 := hcb 0 (by decide)
        rw [List.getD_eq_getElem?_getD, List.getElem?_map, hz] at hcb0
        simp only [Option.map_some, Option.getD_some, Nat.add_zero, List.getElem?_cons_zero] at hcb0
        have hgb1 : s1.heap.get ib = some (.cells cb Tb 2 rob) := by rw [hk1.2 ib hidb (by simp)]; exact hgb
        have hixk : 0 ≤ (k : Int) ∧ (k : Int) < (bs.length : Int) := by omega
        have w4 : IntKind.i64.wrap ((k : Int) + 1) = ((k + 1 : Nat) : Int) := by rw [IntKind.wrap_i64]; omega
        have hzr := hb2 z (List.mem_of_getElem? hz)
        have hk2 : Kept [] s1 ⟨s1.heap.put s1.next (some (.cells [.int .u8 z.1] 5 1 false)), s1.next + 1⟩ := kept_put_nil (Nat.le_refl _) (Nat.le_succ _)
        have hsrc : SrcV ⟨s1.heap.put s1.next (some (.cells [.int .u8 z.1] 5 1 false)), s1.next + 1⟩ (.slice (some ⟨s1.next, 0, none⟩) 1 1) [z.1] :=
          .inl ⟨fun y hy => by rw [List.mem_singleton.1 hy]; exact hzr, .inr ⟨s1.next, 0, 1, [.int .u8 z.1], 5, 1, false, rfl, Nat.le_refl _, Nat.lt_succ_self _, by simp only [Heap.get_put, if_true], rfl, .inr rfl, by simp⟩⟩
        obtain ⟨res, S', he, hR, hk3, hS, _⟩ := (hO.kept hk2 (by simp)).append hsrc (by simp only [List.length_map, List.length_take, List.length_cons, List.length_nil]; omega)
        obtain ⟨val, upd, nx⟩ := res
        simp only at hR hk3
        have htk : (bs.take k).map (fun z => z.1) ++ [z.1] = (bs.take (k + 1)).map fun z => z.1 := by
          rw [List.take_add_one, hz, List.map_append]; rfl
        rw [htk] at hR
        have hfin : ∃ m', m' < bs.length - k ∧ I m' [ptr q, i64 (i : Nat), val, i64 ((k + 1 : Nat) : Int)] ⟨applyUpd (s1.heap.put s1.next (some (.cells [.int .u8 z.1] 5 1 false))) upd, nx⟩ := by
          refine ⟨bs.length - (k + 1), by omega, ?_⟩
          rw [hI]
          refine ⟨(hk1.trans hk2).comp hk3 fun x hx => .inr (hSO x hx), k + 1, val, S', by omega, rfl, rfl, hR, fun x hx => ?_⟩
          rcases hS x hx with h | h
          · exact hSO x h
          · simp only at h; omega
        simp -implicitDefEqProofs only [go_sem, reduceIte, Nat.reduceEqDiff, Nat.reduceAdd, Nat.reduceMul, Nat.reduceLT, Nat.reduceLeDiff, reduceCtorEq, Int.reduceEq, Int.reduceNeg, Nat.reduceSub, Int.reduceLT, Int.reduceLE, Int.reduceGT, Int.reduceGE, Int.reduceAdd, Int.reduceSub, Int.reduceToNat, Int.reduceBNe, Int.reduceBEq, Nat.mul_one, Nat.zero_mul, hq1, hixi, hg1, hc1, hlt, hixk, hgb1, hcb0, Nat.add_zero, ev_buildSlice, fillL, he, w4]
        exact hfin
end

end Go.Proofs.Ytgnpafmhdmmmhaa
