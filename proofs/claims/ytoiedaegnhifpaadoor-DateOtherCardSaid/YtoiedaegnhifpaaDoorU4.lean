/-
  civil: its functions.
-/
import Derived.Test.YtoiedaegnhifpaaDoorU2
set_option maxRecDepth 100000
set_option linter.unusedVariables false
set_option linter.unusedSimpArgs false
namespace Go.Proofs.YtoiedaegnhifpaaDoor
open Go Go.Abs Go.Shelf Go.RowKit Go.Abs.K

def leapD (y : Int) : Bool := (y % 4 == 0) && ((y % 100 != 0) || (y % 400 == 0))
def lengthD (y m : Int) : Int :=
  if m = 2 then (if leapD y then 29 else 28) else if m = 4 ∨ m = 6 ∨ m = 9 ∨ m = 11 then 30 else if 1 ≤ m ∧ m ≤ 12 then 31 else 0
def beforeD (y : Int) : Int := if y = 0 then 0 else 365 * y + (y - 1) / 4 - (y - 1) / 100 + (y - 1) / 400 + 1

def F95 : List Value → Option Value
  | [.int .i64 y] => if 0 ≤ y then some (.bool (leapD y)) else none
  | _ => none
def F69 : List Value → Option Value
  | [.int .i64 y] => if 0 ≤ y ∧ y ≤ 20000 then some (.int .i64 (beforeD y)) else none
  | _ => none
def F70 : List Value → Option Value
  | [.int .i64 y, .int .i64 m] => if 0 ≤ y then some (.int .i64 (lengthD y m)) else none
  | _ => none
def F43 : List Value → Option Value
  | [.int .i64 n] => if -4611686018427387904 ≤ n ∧ n ≤ 4611686018427387904 then some (.int .i64 ((n + 3) % 7)) else none
  | _ => none

theorem F69_of {y : Int} (h : 0 ≤ y ∧ y ≤ 20000) : F69 [.int .i64 y] = some (.int .i64 (beforeD y)) := if_pos h
theorem F70_of {y m : Int} (h : 0 ≤ y) : F70 [.int .i64 y, .int .i64 m] = some (.int .i64 (lengthD y m)) := if_pos h
theorem F95_of {y : Int} (h : 0 ≤ y) : F95 [.int .i64 y] = some (.bool (leapD y)) := if_pos h

theorem walk95 {ov : CallSem} (s : St) : ∀ args v, F95 args = some v → deepV 3 v = true ∧ WCall (solo 95 fun95 ov) 95 args s fun u _ => u = v := by
  intro args v h
  unfold F95 at h
  split at h
  case h_2 => cases h
  rename_i y
  split at h
  case isFalse => cases h
  rename_i hy
  cases h
  refine ⟨rfl, ?_⟩
  refine solo_of rfl fun cs hcs => ?_
  unfold leapD
  cases h4 : (y % 4 == 0) <;> cases h100 : (y % 100 != 0) <;> cases h400 : (y % 400 == 0) <;>
    simp -implicitDefEqProofs only [fun95, code95, params, go_sem, bv_rem hy (show (0 : Int) < 4 by decide), bv_rem hy (show (0 : Int) < 100 by decide), bv_rem hy (show (0 : Int) < 400 by decide), h4, h100, h400] <;> rfl
theorem walk69 {ov : CallSem} (s : St) : ∀ args v, F69 args = some v → deepV 3 v = true ∧ WCall (solo 69 fun69 ov) 69 args s fun u _ => u = v := by
  intro args v h
  unfold F69 at h
  split at h
  case h_2 => cases h
  rename_i y
  split at h
  case isFalse => cases h
  rename_i hy
  cases h
  refine ⟨rfl, ?_⟩
  refine solo_of rfl fun cs hcs => ?_
  unfold beforeD
  by_cases h0 : y = 0
  · subst h0
    simp -implicitDefEqProofs only [fun69, code69, params, go_sem]
  · have e0 : (y == 0) = false := by simpa using h0
    have w1 : IntKind.i64.wrap (y - 1) = y - 1 := wrap64 (by omega) (by omega)
    have w2 : IntKind.i64.wrap (365 * y) = 365 * y := wrap64 (by omega) (by omega)
    have w3 : IntKind.i64.wrap (365 * y + (y - 1) / 4) = 365 * y + (y - 1) / 4 := wrap64 (by omega) (by omega)
    have w4 : IntKind.i64.wrap (365 * y + (y - 1) / 4 - (y - 1) / 100) = 365 * y + (y - 1) / 4 - (y - 1) / 100 := wrap64 (by omega) (by omega)
    have w5 : IntKind.i64.wrap (365 * y + (y - 1) / 4 - (y - 1) / 100 + (y - 1) / 400) = 365 * y + (y - 1) / 4 - (y - 1) / 100 + (y - 1) / 400 := wrap64 (by omega) (by omega)
    have w6 : IntKind.i64.wrap (365 * y + (y - 1) / 4 - (y - 1) / 100 + (y - 1) / 400 + 1) = 365 * y + (y - 1) / 4 - (y - 1) / 100 + (y - 1) / 400 + 1 := wrap64 (by omega) (by omega)
    have q1 := bv_quo (x := y - 1) (c := 4) (by omega) (by decide) (by omega)
    have q2 := bv_quo (x := y - 1) (c := 100) (by omega) (by decide) (by omega)
    have q3 := bv_quo (x := y - 1) (c := 400) (by omega) (by decide) (by omega)
    simp -implicitDefEqProofs only [fun69, code69, params, go_sem, e0, w1, w2, w3, w4, w5, w6, q1, q2, q3]
    rw [if_neg h0]
theorem walk70 {ov : CallSem} (h95 : Has ov 95 [] F95) (s : St) : ∀ args v, F70 args = some v → deepV 3 v = true ∧ WCall (solo 70 fun70 ov) 70 args s fun u _ => u = v := by
  intro args v h
  unfold F70 at h
  split at h
  case h_2 => cases h
  rename_i y m
  split at h
  case isFalse => cases h
  rename_i hy
  cases h
  refine ⟨rfl, ?_⟩
  refine solo_of rfl fun cs hcs => ?_
  have c95 : ∀ s K, WCall cs 95 [.int .i64 y] s K = K (.bool (leapD y)) s := fun s K => h95.call hcs (by decide) (F95_of hy) rfl rfl K
  unfold lengthD
  by_cases hm : 1 ≤ m ∧ m ≤ 12
  · have : m = 1 ∨ m = 2 ∨ m = 3 ∨ m = 4 ∨ m = 5 ∨ m = 6 ∨ m = 7 ∨ m = 8 ∨ m = 9 ∨ m = 10 ∨ m = 11 ∨ m = 12 := by omega
    cases hl : leapD y <;>
    rcases this with rfl | rfl | rfl | rfl | rfl | rfl | rfl | rfl | rfl | rfl | rfl | rfl <;>
      simp -implicitDefEqProofs only [fun70, code70, params, go_sem, c95, hl] <;> rfl
  · have e1 : (m == 1) = false := by simp; omega
    have e2 : (m == 2) = false := by simp; omega
    have e3 : (m == 3) = false := by simp; omega
    have e4 : (m == 4) = false := by simp; omega
    have e5 : (m == 5) = false := by simp; omega
    have e6 : (m == 6) = false := by simp; omega
    have e7 : (m == 7) = false := by simp; omega
    have e8 : (m == 8) = false := by simp; omega
    have e9 : (m == 9) = false := by simp; omega
    have e10 : (m == 10) = false := by simp; omega
    have e11 : (m == 11) = false := by simp; omega
    have e12 : (m == 12) = false := by simp; omega
    simp -implicitDefEqProofs only [fun70, code70, params, go_sem, e1, e2, e3, e4, e5, e6, e7, e8, e9, e10, e11, e12]
    rw [if_neg (by omega), if_neg (by omega), if_neg hm]
theorem walk43 {ov : CallSem} (s : St) : ∀ args v, F43 args = some v → deepV 3 v = true ∧ WCall (solo 43 fun43 ov) 43 args s fun u _ => u = v := by
  intro args v h
  unfold F43 at h
  split at h
  case h_2 => cases h
  rename_i n
  split at h
  case isFalse => cases h
  rename_i hn
  cases h
  refine ⟨rfl, ?_⟩
  refine solo_of rfl fun cs hcs => ?_
  obtain ⟨r, hr⟩ : ∃ r, r = n.tmod 7 := ⟨_, rfl⟩
  have hr1 : -7 < r ∧ r < 7 ∧ (r + 7) % 7 = n % 7 := by
    rw [hr]
    have h1 := Int.tmod_add_mul_tdiv n 7
    have h2 := Int.tmod_lt_of_pos n (show (0 : Int) < 7 by decide)
    have h3 := Int.lt_tmod_of_pos n (show (0 : Int) < 7 by decide)
    omega
  have r0 : binV .rem (.int .i64 n) (.int .i64 7) = some (.int .i64 r) := by rw [hr]; simp [binV]
  have w1 : IntKind.i64.wrap (r + 7) = r + 7 := wrap64 (by omega) (by omega)
  have r1 := bv_rem (x := r + 7) (c := 7) (by omega) (by decide)
  have w2 : IntKind.i64.wrap ((r + 7) % 7 + 3) = (r + 7) % 7 + 3 := wrap64 (by omega) (by omega)
  have r2 := bv_rem (x := (r + 7) % 7 + 3) (c := 7) (by omega) (by decide)
  simp -implicitDefEqProofs only [fun43, code43, params, go_sem, r0, w1, r1, w2, r2]
  congr 1
  omega
end Go.Proofs.YtoiedaegnhifpaaDoor


/-
  The calendar: plain; civil.Days, civil.Date.
-/
set_option maxRecDepth 100000
set_option linter.unusedVariables false
set_option linter.unusedSimpArgs false
namespace Go.Proofs.YtoiedaegnhifpaaDoor
open Go Go.Abs Go.Shelf Go.RowKit Go.Abs.K

/-! ### the calendar -/
def sumD (y : Int) : Nat → Int
  | 0 => 0
  | k + 1 => sumD y k + lengthD y (k + 1)
def yearUp : Nat → Int → Int → Int
  | 0, y, _ => y
  | f + 1, y, n => if beforeD (y + 1) ≤ n then yearUp f (y + 1) n else y
def monthUp : Nat → Int → Int → Int → Int × Int
  | 0, _, m, n => (m, n)
  | f + 1, y, m, n => if lengthD y m ≤ n then monthUp f y (m + 1) (n - lengthD y m) else (m, n)
def yearD (n : Int) : Int := yearUp 10001 (n / 366) n
def okD (n : Int) : Bool := decide (-719528 ≤ n) && decide (n ≤ 2932896)
def monthD (n : Int) : Int × Int := monthUp 12 (yearD n) 1 (n - beforeD (yearD n))
def goodD (y m d : Int) : Bool := decide (0 ≤ y) && decide (y ≤ 9999) && decide (1 ≤ d) && decide (d ≤ lengthD y m)
def numD (y m d : Int) : Int := beforeD y - 719528 + d - 1 + sumD y (m - 1).toNat

theorem before_succ {y : Int} (h : 0 ≤ y) : beforeD (y + 1) = beforeD y + (if leapD y then 366 else 365) := by
  unfold beforeD leapD
  rw [if_neg (show ¬ y + 1 = 0 by omega)]
  by_cases h0 : y = 0
  · subst h0; decide
  · rw [if_neg h0]
    by_cases h4 : y % 4 = 0 <;> by_cases h100 : y % 100 = 0 <;> by_cases h400 : y % 400 = 0 <;> simp [h4, h100, h400] <;> omega
theorem before_mono {y : Int} (h : 0 ≤ y) (k : Nat) : beforeD y + 365 * k ≤ beforeD (y + k) := by
  induction k with
  | zero => simp
  | succ k ih =>
    have := before_succ (y := y + k) (by omega)
    rw [show y + ((k + 1 : Nat) : Int) = y + k + 1 by omega, this]
    split <;> omega
theorem before_le {y z : Int} (h : 0 ≤ y) (h2 : y ≤ z) : beforeD y ≤ beforeD z := by
  have := before_mono h (z - y).toNat
  rw [show y + ((z - y).toNat : Int) = z by omega] at this
  omega
theorem before_366 {y : Int} (h : 0 ≤ y) : beforeD y ≤ 366 * y := by
  unfold beforeD
  split <;> omega
theorem length_bound (y m : Int) : 0 ≤ lengthD y m ∧ lengthD y m ≤ 31 := by
  unfold lengthD
  split
  · split <;> omega
  · split
    · omega
    · split <;> omega
theorem length_month {y m : Int} (h : 1 ≤ lengthD y m) : 1 ≤ m ∧ m ≤ 12 := by
  unfold lengthD at h
  split at h
  · omega
  · split at h
    · omega
    · split at h
      · omega
      · omega
theorem sum_bound (y : Int) : ∀ k, 0 ≤ sumD y k ∧ sumD y k ≤ 31 * k := by
  intro k
  induction k with
  | zero => simp [sumD]
  | succ k ih =>
    have := length_bound y (k + 1)
    rw [sumD]
    omega
theorem sum_mono (y : Int) {j k : Nat} (h : j ≤ k) : sumD y j ≤ sumD y k := by
  obtain ⟨d, rfl⟩ := Nat.exists_eq_add_of_le h
  clear h
  induction d with
  | zero => exact Int.le_refl _
  | succ d ih =>
    have := length_bound y ((j + d : Nat) + 1)
    rw [show j + (d + 1) = (j + d) + 1 by omega, sumD]
    omega
theorem sum_12 (y : Int) : sumD y 12 = if leapD y then 366 else 365 := by
  cases h : leapD y <;> simp [sumD, lengthD, h]
theorem before_year {y : Int} (h : 0 ≤ y) : beforeD (y + 1) = beforeD y + sumD y 12 := by
  rw [before_succ h, sum_12]
theorem before_10000 : beforeD 10000 = 3652425 := by decide
theorem before_1970 : beforeD 1970 = 719528 := by decide

theorem yearUp_spec : ∀ (f : Nat) (y n : Int), beforeD y ≤ n → n < 3652425 → 0 ≤ y → 10000 ≤ y + f → beforeD (yearUp f y n) ≤ n ∧ n < beforeD (yearUp f y n + 1) ∧ 0 ≤ yearUp f y n ∧ yearUp f y n ≤ 9999 := by
  intro f
  induction f with
  | zero =>
    intro y n h1 h2 h3 h4
    exfalso
    have := before_le (y := 10000) (z := y) (by omega) (by omega)
    rw [before_10000] at this
    omega
  | succ f ih =>
    intro y n h1 h2 h3 h4
    unfold yearUp
    split
    · rename_i h
      exact ih (y + 1) n h h2 (by omega) (by omega)
    · rename_i h
      refine ⟨h1, by omega, h3, ?_⟩
      by_cases hy : y ≤ 9999
      · exact hy
      · have := before_le (y := 10000) (z := y) (by omega) (by omega)
        rw [before_10000] at this
        omega
theorem yearD_spec {n : Int} (h1 : 0 ≤ n) (h2 : n < 3652425) : beforeD (yearD n) ≤ n ∧ n < beforeD (yearD n + 1) ∧ 0 ≤ yearD n ∧ yearD n ≤ 9999 :=
  yearUp_spec 10001 (n / 366) n (by have := before_366 (y := n / 366) (by omega); omega) h2 (by omega) (by omega)
theorem monthUp_spec : ∀ (f : Nat) (y m n : Int), 1 ≤ m → m ≤ 12 → (f : Int) + m = 13 → 0 ≤ n → n < sumD y 12 - sumD y (m - 1).toNat →
    1 ≤ (monthUp f y m n).1 ∧ (monthUp f y m n).1 ≤ 12 ∧ 0 ≤ (monthUp f y m n).2 ∧ (monthUp f y m n).2 < lengthD y (monthUp f y m n).1 ∧ (monthUp f y m n).2 + sumD y ((monthUp f y m n).1 - 1).toNat = n + sumD y (m - 1).toNat := by
  intro f
  induction f with
  | zero => intro y m n h1 h2 h3; omega
  | succ f ih =>
    intro y m n h1 h2 h3 h4 h5
    have hs : sumD y (m + 1 - 1).toNat = sumD y (m - 1).toNat + lengthD y m := by
      rw [show (m + 1 - 1).toNat = (m - 1).toNat + 1 by omega, sumD, show (((m - 1).toNat : Nat) : Int) + 1 = m by omega]
    unfold monthUp
    split
    · rename_i h
      have hm : m ≤ 11 := by
        by_cases hm : m ≤ 11
        · exact hm
        · have e : m = 12 := by omega
          subst e
          have : sumD y 12 = sumD y 11 + lengthD y 12 := rfl
          rw [show ((12 : Int) - 1).toNat = 11 by decide] at h5
          omega
      have := ih y (m + 1) (n - lengthD y m) (by omega) (by omega) (by omega) (by omega) (by omega)
      rw [hs] at this
      obtain ⟨a, b, c, d, e⟩ := this
      exact ⟨a, b, c, d, by omega⟩
    · rename_i h
      exact ⟨h1, h2, h4, by show n < lengthD y m; omega, rfl⟩
theorem monthD_spec {n : Int} (h1 : 0 ≤ n) (h2 : n < 3652425) : 1 ≤ (monthD n).1 ∧ (monthD n).1 ≤ 12 ∧ 0 ≤ (monthD n).2 ∧ (monthD n).2 < lengthD (yearD n) (monthD n).1 ∧ (monthD n).2 + sumD (yearD n) ((monthD n).1 - 1).toNat = n - beforeD (yearD n) := by
  obtain ⟨a, b, c, d⟩ := yearD_spec h1 h2
  have := before_year c
  have h := monthUp_spec 12 (yearD n) 1 (n - beforeD (yearD n)) (by omega) (by omega) (by decide) (by omega) (by rw [show ((1 : Int) - 1).toNat = 0 by decide, show sumD (yearD n) 0 = 0 from rfl]; omega)
  simp only [Int.sub_self, Int.toNat_zero, sumD, Int.add_zero] at h
  exact h

/-! ### the walks -/
def F66 : List Value → Option Value
  | [.int .i64 y, .int .i64 m, .int .i64 d] => some (if goodD y m d then .tuple #[.int .i64 (numD y m d), .bool true] else .tuple #[.int .i64 0, .bool false])
  | _ => none
def F40 : List Value → Option Value
  | [.int .i64 n] => some (if okD n then .tuple #[.int .i64 (yearD (n + 719528)), .int .i64 (monthD (n + 719528)).1, .int .i64 ((monthD (n + 719528)).2 + 1), .bool true] else .tuple #[.int .i64 0, .int .i64 0, .int .i64 0, .bool false])
  | _ => none

theorem before_bound {y : Int} (h : 0 ≤ y ∧ y ≤ 10000) : 0 ≤ beforeD y ∧ beforeD y ≤ 3652425 := by
  have h1 := before_le (y := 0) (z := y) (by omega) h.1
  have h2 := before_le (y := y) (z := 10000) h.1 h.2
  rw [before_10000] at h2
  have : beforeD 0 = 0 := rfl
  omega

theorem walk66 {ov : CallSem} (h70 : Has ov 70 [] F70) (h69 : Has ov 69 [] F69) (s : St) : ∀ args v, F66 args = some v → deepV 3 v = true ∧ WCall (solo 66 fun66 ov) 66 args s fun u _ => u = v := by
  intro args v h
  unfold F66 at h
  split at h
  case h_2 => cases h
  rename_i y m d
  cases h
  refine ⟨by cases goodD y m d <;> rfl, ?_⟩
  refine solo_of rfl fun cs hcs => ?_
  unfold goodD
  by_cases hy : 0 ≤ y
  · have d1 : decide (y < 0) = false := decide_eq_false (by omega)
    by_cases hy9 : y ≤ 9999
    · have d2 : decide (y > 9999) = false := decide_eq_false (by omega)
      by_cases hd : 1 ≤ d
      · have d3 : decide (d < 1) = false := decide_eq_false (by omega)
        have c70 : ∀ m s K, WCall cs 70 [.int .i64 y, .int .i64 m] s K = K (.int .i64 (lengthD y m)) s := fun m s K => h70.call hcs (by decide) (F70_of hy) rfl rfl K
        by_cases hl : d ≤ lengthD y m
        · have d4 : decide (d > lengthD y m) = false := decide_eq_false (by omega)
          have hlb := length_bound y m
          have hm := length_month (y := y) (m := m) (by omega)
          have hb := before_bound (y := y) (by omega)
          have c69 : ∀ s K, WCall cs 69 [.int .i64 y] s K = K (.int .i64 (beforeD y)) s := fun s K => h69.call hcs (by decide) (F69_of (by omega)) rfl rfl K
          have c69' : ∀ s K, WCall cs 69 [.int .i64 1970] s K = K (.int .i64 719528) s := fun s K => h69.call hcs (by decide) (by rw [F69_of (by omega), before_1970]) rfl rfl K
          have w1 : IntKind.i64.wrap (beforeD y - 719528) = beforeD y - 719528 := wrap64 (by omega) (by omega)
          have w2 : IntKind.i64.wrap (beforeD y - 719528 + d) = beforeD y - 719528 + d := wrap64 (by omega) (by omega)
          have w3 : IntKind.i64.wrap (beforeD y - 719528 + d - 1) = beforeD y - 719528 + d - 1 := wrap64 (by omega) (by omega)
          simp -implicitDefEqProofs only [fun66, code66, params, go_sem, d1, d2, d3, d4, c70, c69, c69', w1, w2, w3]
          obtain ⟨I, hI⟩ : ∃ I : Nat → List Value → St → Prop, I = fun (k : Nat) (vs : List Value) _ => ∃ j : Nat, (j : Int) + 1 ≤ m ∧ k = (m - 1 - j).toNat ∧ vs = [.int .i64 y, .int .i64 m, .int .i64 (beforeD y - 719528 + d - 1 + sumD y j), .int .i64 ((j : Int) + 1)] := ⟨_, rfl⟩
          refine wc_loopV I (m - 1).toNat ?_ ?_
          · simp -implicitDefEqProofs only [go_sem]
            rw [hI]
            exact ⟨0, by omega, by simp, by simp [sumD]⟩
          · intro k vs s1 hi _
            rw [hI] at hi
            obtain ⟨j, hj, rfl, rfl⟩ := hi
            cases hlt : decide ((j : Int) + 1 < m)
            · have hje : (j : Int) + 1 = m := by have := of_decide_eq_false hlt; omega
              simp -implicitDefEqProofs only [go_sem, hlt]
              rw [if_pos (by simp; omega)]
              unfold numD
              rw [show (m - 1).toNat = j by omega]
            · have hje : (j : Int) + 1 < m := of_decide_eq_true hlt
              have hsb := sum_bound y j
              have hlj := length_bound y ((j : Int) + 1)
              have w4 : IntKind.i64.wrap (beforeD y - 719528 + d - 1 + sumD y j + lengthD y ((j : Int) + 1)) = beforeD y - 719528 + d - 1 + sumD y (j + 1) := by rw [wrap64 (by omega) (by omega), sumD]; omega
              have w5 : IntKind.i64.wrap ((j : Int) + 1 + 1) = ((j + 1 : Nat) : Int) + 1 := by rw [wrap64 (by omega) (by omega)]; omega
              simp -implicitDefEqProofs only [go_sem, hlt, c70, w4, w5]
              rw [hI]
              exact ⟨_, by omega, j + 1, by omega, rfl, rfl⟩
        · have d4 : decide (d > lengthD y m) = true := decide_eq_true (by omega)
          simp -implicitDefEqProofs only [fun66, code66, params, go_sem, d1, d2, d3, d4, c70]
          rw [if_neg (by simp; omega)]
      · have d3 : decide (d < 1) = true := decide_eq_true (by omega)
        simp -implicitDefEqProofs only [fun66, code66, params, go_sem, d1, d2, d3]
        rw [if_neg (by simp; omega)]
    · have d2 : decide (y > 9999) = true := decide_eq_true (by omega)
      simp -implicitDefEqProofs only [fun66, code66, params, go_sem, d1, d2]
      rw [if_neg (by simp; omega)]
  · have d1 : decide (y < 0) = true := decide_eq_true (by omega)
    simp -implicitDefEqProofs only [fun66, code66, params, go_sem, d1]
    rw [if_neg (by simp; omega)]

theorem walk40 {ov : CallSem} (h70 : Has ov 70 [] F70) (h69 : Has ov 69 [] F69) (s : St) : ∀ args v, F40 args = some v → deepV 3 v = true ∧ WCall (solo 40 fun40 ov) 40 args s fun u _ => u = v := by
  intro args v h
  unfold F40 at h
  split at h
  case h_2 => cases h
  rename_i n0
  cases h
  refine ⟨by cases okD n0 <;> rfl, ?_⟩
  refine solo_of rfl fun cs hcs => ?_
  unfold okD
  have c1 : ∀ s K, WCall cs 69 [.int .i64 1970] s K = K (.int .i64 719528) s := fun s K => h69.call hcs (by decide) (by rw [F69_of (by omega), before_1970]) rfl rfl K
  have c2 : ∀ s K, WCall cs 69 [.int .i64 10000] s K = K (.int .i64 3652425) s := fun s K => h69.call hcs (by decide) (by rw [F69_of (by omega), before_10000]) rfl rfl K
  have wa : unV .neg (.int .i64 719528) = some (.int .i64 (-719528)) := rfl
  have wb : IntKind.i64.wrap 2932897 = 2932897 := by decide
  have wc : IntKind.i64.wrap 2932896 = 2932896 := by decide
  by_cases h1 : -719528 ≤ n0
  case neg =>
    have d1 : decide (n0 < -719528) = true := decide_eq_true (by omega)
    simp -implicitDefEqProofs only [fun40, code40, params, go_sem, c1, c2, wa, wb, wc, d1]
    rw [if_neg (by simp; omega)]
  have d1 : decide (n0 < -719528) = false := decide_eq_false (by omega)
  by_cases h2 : n0 ≤ 2932896
  case neg =>
    have d2 : decide (n0 > 2932896) = true := decide_eq_true (by omega)
    simp -implicitDefEqProofs only [fun40, code40, params, go_sem, c1, c2, wa, wb, wc, d1, d2]
    rw [if_neg (by simp; omega)]
  have d2 : decide (n0 > 2932896) = false := decide_eq_false (by omega)
  rw [if_pos (by simp; omega)]
  obtain ⟨n, hn⟩ : ∃ n, n = n0 + 719528 := ⟨_, rfl⟩
  rw [← hn]
  have wd : IntKind.i64.wrap (n0 - -719528) = n := by rw [wrap64 (by omega) (by omega)]; omega
  have q1 := bv_quo (x := n) (c := 366) (by omega) (by decide) (by omega)
  obtain ⟨y1, y2, y3, y4⟩ := yearD_spec (n := n) (by omega) (by omega)
  have hby := before_year y3
  simp -implicitDefEqProofs only [fun40, code40, params, go_sem, c1, c2, wa, wb, wc, d1, d2, wd, q1]
  obtain ⟨I, hI⟩ : ∃ I : Nat → List Value → St → Prop, I = fun (k : Nat) (vs : List Value) _ => ∃ y : Int, 0 ≤ y ∧ y ≤ 9999 ∧ beforeD y ≤ n ∧ 1 ≤ k ∧ (k : Int) + y = 10001 + n / 366 ∧ yearUp k y n = yearD n ∧ vs = [.int .i64 y, .int .i64 n] := ⟨_, rfl⟩
  refine wc_loopV I 10001 ?_ ?_
  · simp -implicitDefEqProofs only [go_sem]
    rw [hI]
    have := before_366 (y := n / 366) (by omega)
    exact ⟨n / 366, by omega, by omega, by omega, by omega, by omega, rfl, rfl⟩
  · intro k vs s1 hi _
    rw [hI] at hi
    obtain ⟨y, z1, z2, z3, z4, z5, z6, rfl⟩ := hi
    obtain ⟨k, rfl⟩ : ∃ k', k = k' + 1 := ⟨k - 1, by omega⟩
    have w5 : IntKind.i64.wrap (y + 1) = y + 1 := wrap64 (by omega) (by omega)
    have c3 : ∀ s K, WCall cs 69 [.int .i64 (y + 1)] s K = K (.int .i64 (beforeD (y + 1))) s := fun s K => h69.call hcs (by decide) (F69_of (by omega)) rfl rfl K
    unfold yearUp at z6
    by_cases hle : beforeD (y + 1) ≤ n
    · have hlt : decide (beforeD (y + 1) ≤ n) = true := decide_eq_true hle
      rw [if_pos hle] at z6
      have hy9 : y + 1 ≤ 9999 := by
        by_cases hy : y + 1 ≤ 9999
        · exact hy
        · have := before_le (y := 10000) (z := y + 1) (by omega) (by omega)
          rw [before_10000] at this
          omega
      have := before_366 (y := y + 1) (by omega)
      have hk : 1 ≤ k := by omega
      simp -implicitDefEqProofs only [go_sem, w5, c3, hlt]
      rw [hI]
      exact ⟨k, by omega, y + 1, by omega, hy9, hle, hk, by omega, z6, rfl⟩
    · have hlt : decide (beforeD (y + 1) ≤ n) = false := decide_eq_false hle
      rw [if_neg hle] at z6
      subst z6
      have c4 : ∀ s K, WCall cs 69 [.int .i64 (yearD n)] s K = K (.int .i64 (beforeD (yearD n))) s := fun s K => h69.call hcs (by decide) (F69_of (by omega)) rfl rfl K
      have c70 : ∀ m s K, WCall cs 70 [.int .i64 (yearD n), .int .i64 m] s K = K (.int .i64 (lengthD (yearD n) m)) s := fun m s K => h70.call hcs (by decide) (F70_of y3) rfl rfl K
      have hb := before_bound (y := yearD n) (by omega)
      have w6 : IntKind.i64.wrap (n - beforeD (yearD n)) = n - beforeD (yearD n) := wrap64 (by omega) (by omega)
      have hs12 := sum_bound (yearD n) 12
      simp -implicitDefEqProofs only [go_sem, w5, c3, hlt, c4, w6]
      obtain ⟨J, hJ⟩ : ∃ J : Nat → List Value → St → Prop, J = fun (k : Nat) (vs : List Value) _ => ∃ m r : Int, 1 ≤ m ∧ m ≤ 12 ∧ (k : Int) + m = 13 ∧ 0 ≤ r ∧ r < sumD (yearD n) 12 - sumD (yearD n) (m - 1).toNat ∧ monthUp k (yearD n) m r = monthD n ∧ vs = [.int .i64 (yearD n), .int .i64 m, .int .i64 r] := ⟨_, rfl⟩
      refine wc_loopV J 12 ?_ ?_
      · simp -implicitDefEqProofs only [go_sem]
        rw [hJ]
        exact ⟨1, n - beforeD (yearD n), by omega, by omega, by omega, by omega, by rw [show ((1 : Int) - 1).toNat = 0 by decide, show sumD (yearD n) 0 = 0 from rfl]; omega, rfl, rfl⟩
      · intro k vs s1 hi _
        rw [hJ] at hi
        obtain ⟨m, r, a1, a2, a3, a4, a5, a6, rfl⟩ := hi
        obtain ⟨k, rfl⟩ : ∃ k', k = k' + 1 := ⟨k - 1, by omega⟩
        unfold monthUp at a6
        have hlb := length_bound (yearD n) m
        have hs : sumD (yearD n) (m + 1 - 1).toNat = sumD (yearD n) (m - 1).toNat + lengthD (yearD n) m := by
          rw [show (m + 1 - 1).toNat = (m - 1).toNat + 1 by omega, sumD, show (((m - 1).toNat : Nat) : Int) + 1 = m by omega]
        have hsb := sum_bound (yearD n) (m - 1).toNat
        by_cases hge : lengthD (yearD n) m ≤ r
        · have hlt : decide (r ≥ lengthD (yearD n) m) = true := decide_eq_true hge
          rw [if_pos hge] at a6
          have hm : m ≤ 11 := by
            by_cases hm : m ≤ 11
            · exact hm
            · have e : m = 12 := by omega
              subst e
              have : sumD (yearD n) 12 = sumD (yearD n) 11 + lengthD (yearD n) 12 := rfl
              rw [show ((12 : Int) - 1).toNat = 11 by decide] at a5
              omega
          have w7 : IntKind.i64.wrap (r - lengthD (yearD n) m) = r - lengthD (yearD n) m := wrap64 (by omega) (by omega)
          have w8 : IntKind.i64.wrap (m + 1) = m + 1 := wrap64 (by omega) (by omega)
          simp -implicitDefEqProofs only [go_sem, c70, hlt, w7, w8]
          rw [hJ]
          exact ⟨k, by omega, m + 1, r - lengthD (yearD n) m, by omega, by omega, by omega, by omega, by omega, a6, rfl⟩
        · have hlt : decide (r ≥ lengthD (yearD n) m) = false := decide_eq_false hge
          rw [if_neg hge] at a6
          have w7 : IntKind.i64.wrap (r + 1) = r + 1 := wrap64 (by omega) (by omega)
          simp -implicitDefEqProofs only [go_sem, c70, hlt, w7]
          rw [← a6]
end Go.Proofs.YtoiedaegnhifpaaDoor
