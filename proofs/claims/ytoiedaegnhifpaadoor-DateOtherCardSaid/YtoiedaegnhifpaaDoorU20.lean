/-
  Plain: a text that is read in the first form is what its numbers are written as; one changed letter.
-/
import Derived.Test.YtoiedaegnhifpaaDoorU12
set_option maxRecDepth 100000
set_option linter.unusedVariables false
set_option linter.unusedSimpArgs false
namespace Go.Proofs.YtoiedaegnhifpaaDoor
open Go Go.Abs Go.Shelf Go.RowKit Go.Abs.K

def joinB (c : UInt8) : List (List UInt8) → List UInt8
  | [] => []
  | [p] => p
  | p :: q :: r => p ++ c :: joinB c (q :: r)
theorem join_spl (c : UInt8) : ∀ l : List UInt8, joinB c (spl c l) = l := by
  intro l
  induction l with
  | nil => rfl
  | cons b l ih =>
    rw [spl]
    split
    · rename_i h
      cases hs : spl c l with
      | nil => exact absurd hs (spl_ne l)
      | cons p ps =>
        rw [hs] at ih
        rw [joinB, ih, h]
        rfl
    · cases hs : spl c l with
      | nil => exact absurd hs (spl_ne l)
      | cons p ps =>
        rw [hs] at ih
        simp only
        cases ps with
        | nil => rw [joinB] at ih ⊢; rw [ih]
        | cons q r => rw [joinB] at ih ⊢; rw [List.cons_append, ih]
theorem spl_count (c : UInt8) : ∀ l : List UInt8, (spl c l).length = l.count c + 1 := by
  intro l
  induction l with
  | nil => rfl
  | cons b l ih =>
    rw [spl]
    split
    · rename_i h
      rw [List.length_cons, ih, h, List.count_cons_self]
    · rename_i h
      rw [List.count_cons_of_ne h]
      cases hs : spl c l with
      | nil => exact absurd hs (spl_ne l)
      | cons p ps => rw [hs] at ih; rw [← ih]; rfl
theorem count_set (c x : UInt8) : ∀ (l : List UInt8) (i : Nat), l.count c ≤ (l.set i x).count c + 1 := by
  intro l
  induction l with
  | nil => intro i; simp
  | cons b l ih =>
    intro i
    cases i with
    | zero =>
      rw [List.set_cons_zero, List.count_cons, List.count_cons]
      split <;> split <;> omega
    | succ i =>
      rw [List.set_cons_succ, List.count_cons, List.count_cons]
      have := ih i
      omega

theorem idx_get {w : List UInt8} : ∀ {L : List (List UInt8)} {i : Nat}, 0 ≤ idxGo w i L → ∃ j : Nat, idxGo w i L = i + j ∧ j < L.length ∧ L.getD j [] = w := by
  intro L
  induction L with
  | nil => intro i h; rw [idxGo] at h; omega
  | cons x L ih =>
    intro i h
    rw [idxGo] at h ⊢
    split
    · rename_i e
      exact ⟨0, by omega, by simp, by rw [e]; rfl⟩
    · rename_i e
      rw [if_neg e] at h
      obtain ⟨j, h1, h2, h3⟩ := ih h
      exact ⟨j + 1, by omega, by simp; omega, by rw [← h3]; rfl⟩
theorem idx_inv {L : List (List UInt8)} {w : List UInt8} (h : 0 ≤ idxD L w) : ∃ j : Nat, idxD L w = j ∧ j < L.length ∧ L.getD j [] = w := by
  obtain ⟨j, h1, h2, h3⟩ := idx_get (w := w) (L := L) (i := 0) h
  exact ⟨j, by unfold idxD; omega, h2, h3⟩
theorem suf_inv {a : List UInt8} {c : UInt8} (h : sufD a [c] = true) : a = trimD a [c] ++ [c] := by
  unfold trimD
  rw [if_pos h]
  unfold sufD at h
  simp only [Bool.and_eq_true, decide_eq_true_eq, beq_iff_eq] at h
  conv => lhs; rw [← List.take_append_drop (a.length - [c].length) a, h.2]

theorem u8_of {b : UInt8} (h : 48 ≤ b.toNat ∧ b.toNat ≤ 57) : b = dg1 (b.toNat - 48) := by
  apply UInt8.toNat_inj.1
  rw [dg_nat (by omega)]
  omega
theorem numGo_inv {b : UInt8} {r : List UInt8} {a : Int} (h : 0 ≤ numGo a (b :: r)) : ∃ k, k < 10 ∧ b = dg1 k ∧ numGo a (b :: r) = numGo (10 * a + k) r := by
  rw [numGo] at h
  split at h
  · rename_i hb
    refine ⟨b.toNat - 48, by omega, u8_of hb, ?_⟩
    rw [numGo, if_pos hb]
    congr 1
    omega
  · omega
theorem num2_inv {l : List UInt8} (h : 0 ≤ numK l 2) : l = dig2 (numK l 2) ∧ numK l 2 ≤ 99 := by
  unfold numK at h ⊢
  split at h
  case isFalse => omega
  rename_i hl
  rw [if_pos hl]
  obtain ⟨a, b, rfl⟩ : ∃ a b, l = [a, b] := by
    have : l.length = 2 := by omega
    match l, this with
    | [a, b], _ => exact ⟨a, b, rfl⟩
  obtain ⟨k1, h1, rfl, e1⟩ := numGo_inv h
  rw [e1] at h ⊢
  obtain ⟨k2, h2, rfl, e2⟩ := numGo_inv h
  rw [e2, numGo]
  refine ⟨?_, by omega⟩
  unfold dig2
  rw [show (10 * (10 * 0 + (k1 : Int)) + k2).toNat / 10 = k1 by omega, show (10 * (10 * 0 + (k1 : Int)) + k2).toNat % 10 = k2 by omega]
theorem num4_inv {l : List UInt8} (h : 0 ≤ numK l 4) : l = dig4 (numK l 4) := by
  unfold numK at h ⊢
  split at h
  case isFalse => omega
  rename_i hl
  rw [if_pos hl]
  obtain ⟨a, b, c, d, rfl⟩ : ∃ a b c d, l = [a, b, c, d] := len4 (by omega)
  obtain ⟨k1, h1, rfl, e1⟩ := numGo_inv h
  rw [e1] at h ⊢
  obtain ⟨k2, h2, rfl, e2⟩ := numGo_inv h
  rw [e2] at h ⊢
  obtain ⟨k3, h3, rfl, e3⟩ := numGo_inv h
  rw [e3] at h ⊢
  obtain ⟨k4, h4, rfl, e4⟩ := numGo_inv h
  rw [e4, numGo]
  unfold dig4
  obtain ⟨n, hn⟩ : ∃ n : Nat, (10 * (10 * (10 * (10 * 0 + (k1 : Int)) + k2) + k3) + k4) = (n : Int) := ⟨1000 * k1 + 100 * k2 + 10 * k3 + k4, by omega⟩
  rw [hn, Int.toNat_natCast]
  rw [show n / 1000 = k1 by omega, show n / 100 % 10 = k2 by omega, show n / 10 % 10 = k3 by omega, show n % 10 = k4 by omega]
theorem clock_inv {l : List UInt8} (h : 0 ≤ clockD l) : l = clockT (clockD l) := by
  have hj := join_spl 58 l
  unfold clockD at h ⊢
  split at h
  case h_2 => omega
  rename_i a b c e
  rw [e] at hj
  simp only [joinB] at hj
  unfold clk at h ⊢
  split at h
  case isFalse => omega
  rename_i hk
  rw [if_pos hk]
  have ha := (num2_inv (l := a) (by omega)).1
  have hb := (num2_inv (l := b) (by omega)).1
  have hc := (num2_inv (l := c) (by omega)).1
  rw [← hj]
  unfold clockT
  generalize numK a 2 = x at ha hk ⊢
  generalize numK b 2 = y at hb hk ⊢
  generalize numK c 2 = z at hc hk ⊢
  rw [show ((x * 60 + y) * 60 + z) / 3600 = x by omega, show ((x * 60 + y) * 60 + z) / 60 % 60 = y by omega, show ((x * 60 + y) * 60 + z) % 60 = z by omega, ha, hb, hc]

theorem first_inv {l : List UInt8} {w y m d c : Int} (h : firstD l = some (w, y, m, d, c)) (hw : 0 ≤ w) (hy : 0 ≤ y) (hm : 1 ≤ m) (hd : 0 ≤ d) (hc : 0 ≤ c) : ∃ k : Nat, w = k ∧ k < 7 ∧ l = firstT k y m d c := by
  have hj := join_spl 32 l
  unfold firstD at h
  split at h
  case h_2 => cases h
  rename_i w0 w1 w2 w3 w4 w5 e
  split at h
  case isFalse => cases h
  rename_i hs
  cases h
  rw [e] at hj
  simp only [joinB] at hj
  obtain ⟨k, k1, k2, k3⟩ := idx_inv hw
  obtain ⟨j, j1, j2, j3⟩ := idx_inv (L := monL) (w := w2) (by omega)
  refine ⟨k, k1, k2, ?_⟩
  have hw3 := num4_inv hy
  have hw1 := (num2_inv hd).1
  have hw4 := clock_inv hc
  have hw0 := suf_inv hs.2
  have e1 : firstT k (numK w3 4) (1 + idxD monL w2) (numK w1 2) (clockD w4) = w0 ++ 32 :: (w1 ++ 32 :: (w2 ++ 32 :: (w3 ++ 32 :: (w4 ++ 32 :: w5)))) := by
    unfold firstT
    rw [k3, ← hw0, ← hw1, ← hw3, ← hw4, hs.1, show (1 + idxD monL w2 - 1).toNat = j by omega, j3]
  rw [e1, hj]

theorem firstT_count {w : Nat} {y m d t : Int} (hw : w < 7) (hy : 0 ≤ y ∧ y ≤ 9999) (hm : 1 ≤ m ∧ m ≤ 12) (hd : 0 ≤ d ∧ d ≤ 99) (ht : 0 ≤ t ∧ t ≤ 86399) : (firstT w y m d t).count 32 = 5 := by
  obtain ⟨a1, a2, a3, a4⟩ := short_at hw
  obtain ⟨b1, b2, b3, b4⟩ := mon_at (k := (m - 1).toNat) (by omega)
  have e : spl 32 (firstT w y m d t) = [shortL.getD w [] ++ [44], dig2 d, monL.getD (m - 1).toNat [], dig4 y, clockT t, [71, 77, 84]] := by
    unfold firstT
    rw [spl_hit (by simp only [List.mem_append, List.mem_cons, List.not_mem_nil, or_false, not_or]; exact ⟨a2, by decide⟩), spl_hit (dig2_free hd (.inl (by decide))), spl_hit b2, spl_hit (dig4_free hy (.inl (by decide))), spl_hit (clockT_free ht), spl_none (by decide)]
  have := spl_count 32 (firstT w y m d t)
  rw [e] at this
  simpa using this.symm

theorem secP_inv {w y m d c k : Int} (h : secP (w, y, m, d, c) = some k) : goodD y m d = true ∧ 0 ≤ c ∧ (numD y m d + 3) % 7 = w ∧ k = numD y m d * 86400 + c := by
  unfold secP secD at h
  simp only at h
  split at h
  · rename_i hh
    cases h
    exact ⟨hh.1, hh.2.1, hh.2.2, rfl⟩
  · cases h
theorem good_inj {y m d y' m' d' : Int} (h : goodD y m d = true) (h' : goodD y' m' d' = true) (e : numD y m d = numD y' m' d') : y = y' ∧ m = m' ∧ d = d' := by
  obtain ⟨_, a1, a2, a3⟩ := good_num h
  obtain ⟨_, b1, b2, b3⟩ := good_num h'
  rw [e] at a1 a2 a3
  exact ⟨a1.symm.trans b1, a2.symm.trans b2, a3.symm.trans b3⟩
theorem good_parts {y m d : Int} (hg : goodD y m d = true) : (0 ≤ y ∧ y ≤ 9999) ∧ (1 ≤ m ∧ m ≤ 12) ∧ 1 ≤ d ∧ d ≤ 31 := by
  have hg' := hg
  unfold goodD at hg'
  simp only [Bool.and_eq_true, decide_eq_true_eq] at hg'
  have hlb := length_bound y m
  have hm := length_month (y := y) (m := m) (by omega)
  exact ⟨by omega, hm, by omega⟩

theorem changed {y m d t : Int} {w : Nat} (hg : goodD y m d = true) (ht : 0 ≤ t ∧ t ≤ 86399) (hw : (numD y m d + 3) % 7 = (w : Int)) {i : Nat} {c : UInt8} (hi : i < 29) (hc : (firstT w y m d t)[i]? ≠ some c) {now k : Int}
    (h : parseD ((firstT w y m d t).set i c) now = some k) : k ≠ numD y m d * 86400 + t ∧ 4 < i := by
  obtain ⟨gy, gm, gd⟩ := good_parts hg
  have hw7 : w < 7 := by omega
  have hlen : (firstT w y m d t).length = 29 := firstT_length hw7 gm
  have hne : (firstT w y m d t).set i c ≠ firstT w y m d t := fun e => by
    apply hc
    rw [← e, List.getElem?_set_self (by rw [hlen]; exact hi)]
  unfold parseD at h
  cases hf : firstD ((firstT w y m d t).set i c) with
  | some p =>
    rw [hf] at h
    simp only at h
    obtain ⟨w', y', m', d', c'⟩ := p
    obtain ⟨g', hc', hw', rfl⟩ := secP_inv h
    obtain ⟨gy', gm', gd'⟩ := good_parts g'
    have hcb := first_clock hf
    simp only at hcb
    obtain ⟨k, rfl, hk7, hl⟩ := first_inv hf (by omega) gy'.1 gm'.1 (by omega) hc'
    have same : ∀ (hy : y' = y) (hm : m' = m) (hd : d' = d) (hcc : c' = t), False := by
      intro hy hm hd hcc
      subst hy hm hd hcc
      have : k = w := by omega
      subst this
      exact hne hl
    have h1 : numD y' m' d' * 86400 + c' ≠ numD y m d * 86400 + t := by
      intro e
      have e1 : numD y' m' d' = numD y m d := by omega
      have e2 : c' = t := by omega
      obtain ⟨a, b, c3⟩ := good_inj g' hg e1
      exact same a b c3 e2
    refine ⟨h1, ?_⟩
    by_cases h4 : 4 < i
    · exact h4
    · exfalso
      have hd1 : ((firstT w y m d t).set i c).drop 5 = (firstT w y m d t).drop 5 := by
        rw [List.drop_set]
        rw [if_pos (by omega)]
      rw [hl] at hd1
      have hpre : ∀ (w : Nat) (y m d t : Int), w < 7 → (firstT w y m d t).drop 5 = dig2 d ++ 32 :: (monL.getD (m - 1).toNat [] ++ 32 :: (dig4 y ++ 32 :: (clockT t ++ 32 :: [71, 77, 84]))) := by
        intro w y m d t hw
        have h3 := (short_at hw).2.2.2
        unfold firstT
        rw [List.drop_append, List.length_append, h3]
        rw [List.drop_of_length_le (by rw [List.length_append, h3]; decide)]
        rfl
      rw [hpre _ _ _ _ _ hk7, hpre _ _ _ _ _ hw7] at hd1
      have e0 : firstT 0 y' m' d' c' = firstT 0 y m d t := by
        unfold firstT
        rw [hd1]
      have f1 := first_firstT (w := 0) (y := y') (m := m') (d := d') (t := c') (by omega) gy' gm' (by omega) ⟨hc', hcb⟩
      have f2 := first_firstT (w := 0) (y := y) (m := m) (d := d) (t := t) (by omega) gy gm (by omega) ht
      rw [e0, f2] at f1
      simp only [Option.some.injEq, Prod.mk.injEq, true_and] at f1
      exact same f1.1.symm f1.2.1.symm f1.2.2.1.symm f1.2.2.2.symm
  | none =>
    exfalso
    rw [hf] at h
    simp only at h
    have hcnt := firstT_count hw7 gy gm (by omega : 0 ≤ d ∧ d ≤ 99) ht
    have hcs := count_set 32 c (firstT w y m d t) i
    have hspl := spl_count 32 ((firstT w y m d t).set i c)
    have h2 : secondD ((firstT w y m d t).set i c) now = none := by
      unfold secondD
      split
      · rename_i e
        rw [e] at hspl
        simp at hspl
        omega
      · rfl
    have h3 : thirdD ((firstT w y m d t).set i c) = none := by
      unfold thirdD
      rw [if_neg (by rw [List.length_set, hlen]; omega)]
    rw [h2, h3] at h
    cases h
end Go.Proofs.YtoiedaegnhifpaaDoor
