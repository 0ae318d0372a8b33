/-
  date.Parse; the known calls in order.
-/
import Derived.Test.YtoiedaegnhifpaaDoorU10
set_option maxRecDepth 100000
set_option linter.unusedVariables false
set_option linter.unusedSimpArgs false
namespace Go.Proofs.YtoiedaegnhifpaaDoor
open Go Go.Abs Go.Shelf Go.RowKit Go.Abs.K

def clampD (now : Int) : Int := if now < 0 then 0 else if now ≤ 220752000000 then now else 220752000000
def secP (p : Parts) : Option Int := secD p.1 p.2.1 p.2.2.1 p.2.2.2.1 p.2.2.2.2
def parseD (l : List UInt8) (now : Int) : Option Int := match firstD l with
  | some p => secP p
  | none => match secondD l now with
    | some p => secP p
    | none => match thirdD l with
      | some p => secP p
      | none => none
def F13 : List Value → Option Value
  | [.string s, .int .i64 now] => if s.size < 4294967281 then some (optV (parseD (bl s) (clampD now))) else none
  | _ => none
theorem F13_of {l : List UInt8} {now : Int} (h : l.length < 4294967281) : F13 [S l, .int .i64 now] = some (optV (parseD l (clampD now))) := if_pos (by rw [sizeS]; exact h)

theorem first_clock {l : List UInt8} {p : Parts} (h : firstD l = some p) : p.2.2.2.2 ≤ 86399 := by
  unfold firstD at h
  split at h
  · split at h
    · cases h; exact (clock_bound _).2
    · cases h
  · cases h
theorem second_clock {l : List UInt8} {now : Int} {p : Parts} (h : secondD l now = some p) : p.2.2.2.2 ≤ 86399 := by
  unfold secondD at h
  split at h
  · split at h
    · split at h
      · cases h; exact (clock_bound _).2
      · cases h
    · cases h
  · cases h
theorem third_clock {l : List UInt8} {p : Parts} (h : thirdD l = some p) : p.2.2.2.2 ≤ 86399 := by
  unfold thirdD at h
  split at h
  · cases h; exact (clock_bound _).2
  · cases h
theorem optV_deep (o : Option Int) : deepV 3 (optV o) = true := by cases o <;> rfl

theorem walk13 {ov : CallSem} (h32 : Has ov 32 gS F32) (h34 : Has ov 34 gS F34) (h35 : Has ov 35 gS F35) (h33 : Has ov 33 [] F33) {H : Heap} (hS : globsOK ⟨H, 8⟩ gS = true) : ∀ args v, F13 args = some v → deepV 3 v = true ∧ WCall (solo 13 fun13 ov) 13 args ⟨H, 8⟩ fun u _ => u = v := by
  intro args v h
  unfold F13 at h
  split at h
  case h_2 => cases h
  rename_i a0 now
  split at h
  case isFalse => cases h
  rename_i hk
  cases h
  obtain ⟨l, rfl⟩ := ba_of a0
  rw [sizeS] at hk
  refine ⟨optV_deep _, ?_⟩
  refine solo_of rfl fun cs hcs => ?_
  show WCode _ _ _ _ (ends fun13.res fun u _ => u = optV (parseD l (clampD now)))
  obtain ⟨n1, hn1⟩ : ∃ n1 : Int, n1 = if 220752000000 < now then 220752000000 else now := ⟨_, rfl⟩
  obtain ⟨n2, hn2⟩ : ∃ n2, n2 = clampD now := ⟨_, rfl⟩
  have hn2b : 0 ≤ n2 ∧ n2 ≤ 220752000000 := by rw [hn2]; unfold clampD; split <;> (try split) <;> omega
  have e1 : ∀ (H' : Heap) n, evP H'.get n (.minmax false [.int .i64 now, .int .i64 220752000000]) = some ⟨.int .i64 n1, [], n⟩ := fun H' n => by
    simp [evP, minmaxV, ← hn1]
  have e2 : ∀ (H' : Heap) n, evP H'.get n (.minmax true [.int .i64 0, .int .i64 n1]) = some ⟨.int .i64 n2, [], n⟩ := fun H' n => by
    have : (if n1 > 0 then n1 else 0) = n2 := by rw [hn1, hn2]; unfold clampD; split <;> split <;> (try split) <;> omega
    simp [evP, minmaxV, this]
  rw [← hn2]
  have c32 : ∀ s, globsOK s gS = true → ∀ K, WCall cs 32 [S l] s K = K (optP (firstD l)) s := fun s hs K => h32.call hcs (by decide) (F32_of hk) rfl hs K
  have c34 : ∀ s, globsOK s gS = true → ∀ K, WCall cs 34 [S l, .int .i64 n2] s K = K (optP (secondD l n2)) s := fun s hs K => h34.call hcs (by decide) (F34_of hk hn2b) rfl hs K
  have c35 : ∀ s, globsOK s gS = true → ∀ K, WCall cs 35 [S l] s K = K (optP (thirdD l)) s := fun s hs K => h35.call hcs (by decide) (F35_of hk) rfl hs K
  have c33 : ∀ (p : Parts), p.2.2.2.2 ≤ 86399 → ∀ s K, WCall cs 33 [partsV p.1 p.2.1 p.2.2.1 p.2.2.2.1 p.2.2.2.2] s K = K (optV (secP p)) s := fun p hp s K => h33.call hcs (by decide) (F33_of (by omega)) rfl rfl K
  unfold parseD
  cases hf : firstD l with
  | some p =>
    have k := c33 p (first_clock hf)
    rw [hf] at c32
    obtain ⟨w, y, m, d, c⟩ := p
    simp only [optP, partsV] at c32 k
    show WCode _ _ _ _ (ends fun13.res fun u _ => u = optV (secP (w, y, m, d, c)))
    cases hs : secP (w, y, m, d, c) with
    | none =>
      rw [hs] at k
      simp only [optV] at k ⊢
      simp -implicitDefEqProofs only [fun13, code13, params, go_sem, e1, e2, c32, hS, Heap.get_put, List.drop_zero, List.take_succ_cons, List.take_zero, k]
    | some n =>
      rw [hs] at k
      simp only [optV] at k ⊢
      simp -implicitDefEqProofs only [fun13, code13, params, go_sem, e1, e2, c32, hS, Heap.get_put, List.drop_zero, List.take_succ_cons, List.take_zero, k]
  | none =>
    rw [hf] at c32
    simp only [optP, partsV] at c32
    cases hf2 : secondD l n2 with
    | some p =>
      have k := c33 p (second_clock hf2)
      rw [hf2] at c34
      obtain ⟨w, y, m, d, c⟩ := p
      simp only [optP, partsV] at c34 k
      show WCode _ _ _ _ (ends fun13.res fun u _ => u = optV (secP (w, y, m, d, c)))
      cases hs : secP (w, y, m, d, c) with
      | none =>
        rw [hs] at k
        simp only [optV] at k ⊢
        simp -implicitDefEqProofs only [fun13, code13, params, go_sem, e1, e2, c32, c34, hS, gl_S, Heap.get_put, List.drop_zero, List.take_succ_cons, List.take_zero, k]
      | some n =>
        rw [hs] at k
        simp only [optV] at k ⊢
        simp -implicitDefEqProofs only [fun13, code13, params, go_sem, e1, e2, c32, c34, hS, gl_S, Heap.get_put, List.drop_zero, List.take_succ_cons, List.take_zero, k]
    | none =>
      rw [hf2] at c34
      simp only [optP, partsV] at c34
      cases hf3 : thirdD l with
      | some p =>
        have k := c33 p (third_clock hf3)
        rw [hf3] at c35
        obtain ⟨w, y, m, d, c⟩ := p
        simp only [optP, partsV] at c35 k
        show WCode _ _ _ _ (ends fun13.res fun u _ => u = optV (secP (w, y, m, d, c)))
        cases hs : secP (w, y, m, d, c) with
        | none =>
          rw [hs] at k
          simp only [optV] at k ⊢
          simp -implicitDefEqProofs only [fun13, code13, params, go_sem, e1, e2, c32, c34, c35, hS, gl_S, Heap.get_put, List.drop_zero, List.take_succ_cons, List.take_zero, k]
        | some n =>
          rw [hs] at k
          simp only [optV] at k ⊢
          simp -implicitDefEqProofs only [fun13, code13, params, go_sem, e1, e2, c32, c34, c35, hS, gl_S, Heap.get_put, List.drop_zero, List.take_succ_cons, List.take_zero, k]
      | none =>
        rw [hf3] at c35
        simp only [optP, partsV] at c35
        show WCode _ _ _ _ (ends fun13.res fun u _ => u = optV none)
        simp only [optV]
        simp -implicitDefEqProofs only [fun13, code13, params, go_sem, e1, e2, c32, c34, c35, hS, gl_S, Heap.get_put]
end Go.Proofs.YtoiedaegnhifpaaDoor


/-
  Plain: a moment's text in the first form is read as it was.
-/
set_option maxRecDepth 100000
set_option linter.unusedVariables false
set_option linter.unusedSimpArgs false
namespace Go.Proofs.YtoiedaegnhifpaaDoor
open Go Go.Abs Go.Shelf Go.RowKit Go.Abs.K

def dg1 (k : Nat) : UInt8 := UInt8.ofNat (48 + k)
def dig2 (n : Int) : List UInt8 := [dg1 (n.toNat / 10), dg1 (n.toNat % 10)]
def dig4 (n : Int) : List UInt8 := [dg1 (n.toNat / 1000), dg1 (n.toNat / 100 % 10), dg1 (n.toNat / 10 % 10), dg1 (n.toNat % 10)]
theorem dg_nat {k : Nat} (h : k < 10) : (dg1 k).toNat = 48 + k := by
  unfold dg1
  simp; omega
theorem dg_ne {k : Nat} (h : k < 10) {c : UInt8} (hc : c.toNat < 48 ∨ 57 < c.toNat) : dg1 k ≠ c := fun e => by
  have := dg_nat h
  rw [e] at this
  omega
theorem dec_rec (u : Nat) : Lib.decDigits u = if u < 10 then [dg1 u] else Lib.decDigits (u / 10) ++ [dg1 (u % 10)] := by
  rw [Lib.decDigits]
  split <;> rfl
theorem pad2_eq {n : Int} (h : 0 ≤ n ∧ n ≤ 99) : padD n 2 = dig2 n := by
  unfold padD dig2
  rw [dec_rec]
  by_cases h1 : n.toNat < 10
  · rw [if_pos h1, show n.toNat / 10 = 0 by omega, show n.toNat % 10 = n.toNat by omega]
    rfl
  · rw [if_neg h1, dec_rec, if_pos (by omega)]
    rfl
theorem pad4_eq {n : Int} (h : 0 ≤ n ∧ n ≤ 9999) : padD n 4 = dig4 n := by
  unfold padD dig4
  rw [dec_rec]
  by_cases h1 : n.toNat < 10
  · rw [if_pos h1, show n.toNat / 1000 = 0 by omega, show n.toNat / 100 % 10 = 0 by omega, show n.toNat / 10 % 10 = 0 by omega, show n.toNat % 10 = n.toNat by omega]
    rfl
  · rw [if_neg h1, dec_rec]
    by_cases h2 : n.toNat / 10 < 10
    · rw [if_pos h2, show n.toNat / 1000 = 0 by omega, show n.toNat / 100 % 10 = 0 by omega, show n.toNat / 10 % 10 = n.toNat / 10 by omega]
      rfl
    · rw [if_neg h2, dec_rec]
      by_cases h3 : n.toNat / 10 / 10 < 10
      · rw [if_pos h3, show n.toNat / 1000 = 0 by omega, show n.toNat / 100 % 10 = n.toNat / 10 / 10 by omega]
        rfl
      · rw [if_neg h3, dec_rec, if_pos (by omega), show n.toNat / 1000 = n.toNat / 10 / 10 / 10 by omega, show n.toNat / 100 % 10 = n.toNat / 10 / 10 % 10 by omega]
        rfl
theorem numGo_cons {k : Nat} (h : k < 10) (a : Int) (r : List UInt8) : numGo a (dg1 k :: r) = numGo (10 * a + k) r := by
  rw [numGo, dg_nat h, if_pos (by omega)]
  congr 1
  omega
theorem num2 {n : Int} (h : 0 ≤ n ∧ n ≤ 99) : numK (dig2 n) 2 = n := by
  unfold numK dig2
  rw [if_pos (by rfl), numGo_cons (by omega), numGo_cons (by omega), numGo]
  omega
theorem num4 {n : Int} (h : 0 ≤ n ∧ n ≤ 9999) : numK (dig4 n) 4 = n := by
  unfold numK dig4
  rw [if_pos (by rfl), numGo_cons (by omega), numGo_cons (by omega), numGo_cons (by omega), numGo_cons (by omega), numGo]
  omega
theorem dig2_free {n : Int} (h : 0 ≤ n ∧ n ≤ 99) {c : UInt8} (hc : c.toNat < 48 ∨ 57 < c.toNat) : c ∉ dig2 n := by
  unfold dig2
  intro hm
  simp only [List.mem_cons, List.not_mem_nil, or_false] at hm
  rcases hm with e | e
  · exact dg_ne (by omega) hc e.symm
  · exact dg_ne (by omega) hc e.symm
theorem dig4_free {n : Int} (h : 0 ≤ n ∧ n ≤ 9999) {c : UInt8} (hc : c.toNat < 48 ∨ 57 < c.toNat) : c ∉ dig4 n := by
  unfold dig4
  intro hm
  simp only [List.mem_cons, List.not_mem_nil, or_false] at hm
  rcases hm with e | e | e | e
  · exact dg_ne (by omega) hc e.symm
  · exact dg_ne (by omega) hc e.symm
  · exact dg_ne (by omega) hc e.symm
  · exact dg_ne (by omega) hc e.symm

theorem short_at {k : Nat} (h : k < 7) : idxD shortL (shortL.getD k []) = k ∧ 32 ∉ shortL.getD k [] ∧ 44 ∉ shortL.getD k [] ∧ (shortL.getD k []).length = 3 := by
  have : ∀ k : Fin 7, idxD shortL (shortL.getD k.val []) = k.val ∧ 32 ∉ shortL.getD k.val [] ∧ 44 ∉ shortL.getD k.val [] ∧ (shortL.getD k.val []).length = 3 := by decide
  exact this ⟨k, h⟩
theorem mon_at {k : Nat} (h : k < 12) : idxD monL (monL.getD k []) = k ∧ 32 ∉ monL.getD k [] ∧ 45 ∉ monL.getD k [] ∧ (monL.getD k []).length = 3 := by
  have : ∀ k : Fin 12, idxD monL (monL.getD k.val []) = k.val ∧ 32 ∉ monL.getD k.val [] ∧ 45 ∉ monL.getD k.val [] ∧ (monL.getD k.val []).length = 3 := by decide
  exact this ⟨k, h⟩
theorem long_at {k : Nat} (h : k < 7) : idxD longL (longL.getD k []) = k ∧ 32 ∉ longL.getD k [] ∧ 44 ∉ longL.getD k [] ∧ 6 ≤ (longL.getD k []).length ∧ (longL.getD k []).length ≤ 9 ∧ (longL.getD k []).take 3 = shortL.getD k [] := by
  have : ∀ k : Fin 7, idxD longL (longL.getD k.val []) = k.val ∧ 32 ∉ longL.getD k.val [] ∧ 44 ∉ longL.getD k.val [] ∧ 6 ≤ (longL.getD k.val []).length ∧ (longL.getD k.val []).length ≤ 9 ∧ (longL.getD k.val []).take 3 = shortL.getD k.val [] := by decide
  exact this ⟨k, h⟩

theorem suf_add (a b : List UInt8) : sufD (a ++ b) b = true := by
  unfold sufD
  simp
theorem trim_add (a b : List UInt8) : trimD (a ++ b) b = a := by
  unfold trimD
  rw [suf_add]
  simp
def clockT (t : Int) : List UInt8 := dig2 (t / 3600) ++ 58 :: (dig2 (t / 60 % 60) ++ 58 :: dig2 (t % 60))
theorem clock_clockT {t : Int} (h : 0 ≤ t ∧ t ≤ 86399) : clockD (clockT t) = t := by
  have e : spl 58 (clockT t) = [dig2 (t / 3600), dig2 (t / 60 % 60), dig2 (t % 60)] := by
    unfold clockT
    rw [spl_hit (dig2_free (by omega) (.inr (by decide))), spl_hit (dig2_free (by omega) (.inr (by decide))), spl_none (dig2_free (by omega) (.inr (by decide)))]
  unfold clockD
  rw [e]
  simp only
  rw [num2 (by omega), num2 (by omega), num2 (by omega)]
  unfold clk
  rw [if_pos (by omega)]
  omega
theorem clockT_free {t : Int} (h : 0 ≤ t ∧ t ≤ 86399) : 32 ∉ clockT t := by
  unfold clockT
  simp only [List.mem_append, List.mem_cons, not_or]
  exact ⟨dig2_free (by omega) (.inl (by decide)), by decide, dig2_free (by omega) (.inl (by decide)), by decide, dig2_free (by omega) (.inl (by decide))⟩

def firstT (w : Nat) (y m d t : Int) : List UInt8 := (shortL.getD w [] ++ [44]) ++ 32 :: (dig2 d ++ 32 :: (monL.getD (m - 1).toNat [] ++ 32 :: (dig4 y ++ 32 :: (clockT t ++ 32 :: [71, 77, 84]))))
theorem text_firstT {y m d w t : Int} (hy : 0 ≤ y ∧ y ≤ 9999) (hd : 0 ≤ d ∧ d ≤ 99) (ht : 0 ≤ t ∧ t ≤ 86399) : textD y m d w t = firstT w.toNat y m d t := by
  unfold textD firstT clockT
  rw [pad2_eq hd, pad4_eq hy, pad2_eq (by omega), pad2_eq (by omega), pad2_eq (by omega)]
  simp [List.append_assoc]
theorem firstT_length {w : Nat} {y m d t : Int} (hw : w < 7) (hm : 1 ≤ m ∧ m ≤ 12) : (firstT w y m d t).length = 29 := by
  unfold firstT clockT dig2 dig4
  have h1 := (short_at hw).2.2.2
  have h2 := (mon_at (k := (m - 1).toNat) (by omega)).2.2.2
  simp only [List.length_append, List.length_cons, List.length_nil, h1, h2]
theorem first_firstT {w : Nat} {y m d t : Int} (hw : w < 7) (hy : 0 ≤ y ∧ y ≤ 9999) (hm : 1 ≤ m ∧ m ≤ 12) (hd : 0 ≤ d ∧ d ≤ 99) (ht : 0 ≤ t ∧ t ≤ 86399) : firstD (firstT w y m d t) = some ((w : Int), y, m, d, t) := by
  obtain ⟨a1, a2, a3, a4⟩ := short_at hw
  obtain ⟨b1, b2, b3, b4⟩ := mon_at (k := (m - 1).toNat) (by omega)
  have e : spl 32 (firstT w y m d t) = [shortL.getD w [] ++ [44], dig2 d, monL.getD (m - 1).toNat [], dig4 y, clockT t, [71, 77, 84]] := by
    unfold firstT
    rw [spl_hit (by simp only [List.mem_append, List.mem_cons, List.not_mem_nil, or_false, not_or]; exact ⟨a2, by decide⟩), spl_hit (dig2_free hd (.inl (by decide))), spl_hit b2, spl_hit (dig4_free hy (.inl (by decide))), spl_hit (clockT_free ht), spl_none (by decide)]
  unfold firstD
  rw [e]
  simp only
  rw [if_pos ⟨trivial, suf_add _ _⟩, trim_add, a1, num4 hy, b1, num2 hd, clock_clockT ht]
  congr 3
  congr 1
  omega

/-! ### days -/
theorem year_unique {y n : Int} (hy : 0 ≤ y) (h1 : beforeD y ≤ n) (h2 : n < beforeD (y + 1)) (hn : 0 ≤ n) (hn2 : n < 3652425) : yearD n = y := by
  obtain ⟨a, b, c, d⟩ := yearD_spec hn hn2
  rcases Int.lt_trichotomy (yearD n) y with h | h | h
  · have := before_le (y := yearD n + 1) (z := y) (by omega) (by omega)
    omega
  · exact h
  · have := before_le (y := y + 1) (z := yearD n) (by omega) (by omega)
    omega
theorem good_num {y m d : Int} (h : goodD y m d = true) : okD (numD y m d) = true ∧ yearD (numD y m d + 719528) = y ∧ (monthD (numD y m d + 719528)).1 = m ∧ (monthD (numD y m d + 719528)).2 + 1 = d := by
  unfold goodD at h
  simp only [Bool.and_eq_true, decide_eq_true_eq] at h
  obtain ⟨⟨⟨h1, h2⟩, h3⟩, h4⟩ := h
  have hlb := length_bound y m
  have hm := length_month (y := y) (m := m) (by omega)
  have hsum : sumD y m.toNat = sumD y (m - 1).toNat + lengthD y m := by
    rw [show m.toNat = (m - 1).toNat + 1 by omega, sumD, show (((m - 1).toNat : Nat) : Int) + 1 = m by omega]
  have hs1 := sum_bound y (m - 1).toNat
  have hs2 := sum_mono y (j := m.toNat) (k := 12) (by omega)
  have hyr := before_year h1
  have hb0 := before_bound (y := y) (by omega)
  have hb1 := before_bound (y := y + 1) (by omega)
  have hn : numD y m d + 719528 = beforeD y + (sumD y (m - 1).toNat + (d - 1)) := by unfold numD; omega
  have hy := year_unique (y := y) (n := numD y m d + 719528) h1 (by omega) (by omega) (by omega) (by omega)
  obtain ⟨a1, a2, a3, a4, a5⟩ := monthD_spec (n := numD y m d + 719528) (by omega) (by omega)
  rw [hy] at a4 a5
  have hM : (monthD (numD y m d + 719528)).1 = m := by
    rcases Int.lt_trichotomy (monthD (numD y m d + 719528)).1 m with hlt | he | hgt
    · have e1 : sumD y (monthD (numD y m d + 719528)).1.toNat = sumD y ((monthD (numD y m d + 719528)).1 - 1).toNat + lengthD y (monthD (numD y m d + 719528)).1 := by
        rw [show (monthD (numD y m d + 719528)).1.toNat = ((monthD (numD y m d + 719528)).1 - 1).toNat + 1 by omega, sumD, show (((((monthD (numD y m d + 719528)).1 - 1).toNat : Nat)) : Int) + 1 = (monthD (numD y m d + 719528)).1 by omega]
      have e2 := sum_mono y (j := (monthD (numD y m d + 719528)).1.toNat) (k := (m - 1).toNat) (by omega)
      omega
    · exact he
    · have e2 := sum_mono y (j := m.toNat) (k := ((monthD (numD y m d + 719528)).1 - 1).toNat) (by omega)
      omega
  refine ⟨?_, hy, hM, ?_⟩
  · unfold okD
    simp
    omega
  · rw [hM] at a5
    omega
end Go.Proofs.YtoiedaegnhifpaaDoor
