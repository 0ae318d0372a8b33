/-
  The reference: Length, Days, Sec.
-/
import Derived.Test.YtoiedaegnhifpaaDoorU14
set_option maxRecDepth 100000
set_option linter.unusedVariables false
set_option linter.unusedSimpArgs false
namespace Go.Proofs.YtoiedaegnhifpaaDoor
open Go Go.Abs Go.Shelf Go.RowKit Go.Abs.K

def momV (y m d h i s : Int) : Value := .agg #[.int .i64 y, .int .i64 m, .int .i64 d, .int .i64 h, .int .i64 i, .int .i64 s]
def okM (y m d h i s : Int) : Bool := goodD y m d && (decide (0 ≤ h) && (decide (h ≤ 23) && (decide (0 ≤ i) && (decide (i ≤ 59) && (decide (0 ≤ s) && decide (s ≤ 59))))))
def secM (y m d h i s : Int) : Option Int := if okM y m d h i s then some (numD y m d * 86400 + h * 3600 + i * 60 + s) else none
def F30 : List Value → Option Value
  | [.agg a] => match a.toList with
    | [.int .i64 y, .int .i64 m, .int .i64 d, .int .i64 h, .int .i64 i, .int .i64 s] => some (optV (secM y m d h i s))
    | _ => none
  | _ => none
theorem F30_of (y m d h i s : Int) : F30 [momV y m d h i s] = some (optV (secM y m d h i s)) := rfl

set_option maxHeartbeats 1000000 in
theorem walk91 {ov : CallSem} (h31 : Has ov 31 [] F31) (s : St) : ∀ args v, F70 args = some v → deepV 3 v = true ∧ WCall (solo 91 fun91 ov) 91 args s fun u _ => u = v := by
  intro args v h
  unfold F70 at h
  split at h
  case h_2 => cases h
  rename_i y m
  split at h
  case isFalse => cases h
  rename_i hy
  cases h
  refine ⟨rfl, ?_⟩
  refine solo_of rfl fun cs hcs => ?_
  have c31 : ∀ s K, WCall cs 31 [.int .i64 y] s K = K (.bool (leapD y)) s := fun s K => h31.call hcs (by decide) (F31_of hy) rfl rfl K
  unfold lengthD
  by_cases hm : 1 ≤ m ∧ m ≤ 12
  · have : m = 1 ∨ m = 2 ∨ m = 3 ∨ m = 4 ∨ m = 5 ∨ m = 6 ∨ m = 7 ∨ m = 8 ∨ m = 9 ∨ m = 10 ∨ m = 11 ∨ m = 12 := by omega
    have z13 : ((13 : Nat) : Int) = 13 := rfl
    cases hl : leapD y <;>
    rcases this with rfl | rfl | rfl | rfl | rfl | rfl | rfl | rfl | rfl | rfl | rfl | rfl <;>
      simp -implicitDefEqProofs only [fun91, code91, params, go_sem, c31, hl, ev_buildSlice, fillL, Heap.get_put, z13] <;> rfl
  · by_cases h1 : m < 1
    · have d1 : decide (m < 1) = true := decide_eq_true h1
      simp -implicitDefEqProofs only [fun91, code91, params, go_sem, ev_buildSlice, fillL, Heap.get_put, d1]
      rw [if_neg (by omega), if_neg (by omega), if_neg hm]
    · have d1 : decide (m < 1) = false := decide_eq_false h1
      have d2 : decide (m > 12) = true := decide_eq_true (by omega)
      simp -implicitDefEqProofs only [fun91, code91, params, go_sem, ev_buildSlice, fillL, Heap.get_put, d1, d2]
      rw [if_neg (by omega), if_neg (by omega), if_neg hm]

theorem walk60 {ov : CallSem} (h91 : Has ov 91 [] F70) (h31 : Has ov 31 [] F31) (s : St) : ∀ args v, F66 args = some v → deepV 3 v = true ∧ WCall (solo 60 fun60 ov) 60 args s fun u _ => u = v := by
  intro args v h
  unfold F66 at h
  split at h
  case h_2 => cases h
  rename_i y m d
  cases h
  refine ⟨by cases goodD y m d <;> rfl, ?_⟩
  refine solo_of rfl fun cs hcs => ?_
  unfold goodD
  by_cases hy : 0 ≤ y
  case neg =>
    have d1 : decide (y < 0) = true := decide_eq_true (by omega)
    simp -implicitDefEqProofs only [fun60, code60, params, go_sem, d1]
    rw [if_neg (by simp; omega)]
  have d1 : decide (y < 0) = false := decide_eq_false (by omega)
  by_cases hy9 : y ≤ 9999
  case neg =>
    have d2 : decide (y > 9999) = true := decide_eq_true (by omega)
    simp -implicitDefEqProofs only [fun60, code60, params, go_sem, d1, d2]
    rw [if_neg (by simp; omega)]
  have d2 : decide (y > 9999) = false := decide_eq_false (by omega)
  by_cases hd : 1 ≤ d
  case neg =>
    have d3 : decide (d < 1) = true := decide_eq_true (by omega)
    simp -implicitDefEqProofs only [fun60, code60, params, go_sem, d1, d2, d3]
    rw [if_neg (by simp; omega)]
  have d3 : decide (d < 1) = false := decide_eq_false (by omega)
  have c91 : ∀ m s K, WCall cs 91 [.int .i64 y, .int .i64 m] s K = K (.int .i64 (lengthD y m)) s := fun m s K => h91.call hcs (by decide) (F70_of hy) rfl rfl K
  by_cases hl : d ≤ lengthD y m
  case neg =>
    have d4 : decide (d > lengthD y m) = true := decide_eq_true (by omega)
    simp -implicitDefEqProofs only [fun60, code60, params, go_sem, d1, d2, d3, d4, c91]
    rw [if_neg (by simp; omega)]
  have d4 : decide (d > lengthD y m) = false := decide_eq_false (by omega)
  rw [if_pos (by simp; omega)]
  have hlb := length_bound y m
  have hm := length_month (y := y) (m := m) (by omega)
  have hb := before_bound (y := y) (by omega)
  simp -implicitDefEqProofs only [fun60, code60, params, go_sem, d1, d2, d3, d4, c91]
  -- the years up
  obtain ⟨I, hI⟩ : ∃ I : Nat → List Value → St → Prop, I = fun (k : Nat) (vs : List Value) _ => ∃ j : Int, 1970 ≤ j ∧ (y < 1970 → j = 1970) ∧ (1970 ≤ y → j ≤ y) ∧ k = (y - j).toNat ∧ vs = [.int .i64 y, .int .i64 m, .int .i64 d, .int .i64 (beforeD j - 719528), .int .i64 j] := ⟨_, rfl⟩
  refine wc_loopV I (y - 1970).toNat ?_ ?_
  · simp -implicitDefEqProofs only [go_sem]
    rw [hI]
    exact ⟨1970, by omega, fun _ => rfl, fun h => h, rfl, rfl⟩
  intro k vs s1 hi _
  rw [hI] at hi
  obtain ⟨j, j1, j2, j3, rfl, rfl⟩ := hi
  by_cases hjy : j < y
  · have hlt : decide (j < y) = true := decide_eq_true hjy
    have hbj := before_bound (y := j) (by omega)
    have hbs := before_succ (y := j) (by omega)
    have w0 : IntKind.i64.wrap (beforeD j - 719528 + 365) = beforeD j - 719528 + 365 := wrap64 (by omega) (by omega)
    have w1 : IntKind.i64.wrap (beforeD j - 719528 + 365 + 1) = beforeD j - 719528 + 365 + 1 := wrap64 (by omega) (by omega)
    have w2 : IntKind.i64.wrap (j + 1) = j + 1 := wrap64 (by omega) (by omega)
    have c31 : ∀ s K, WCall cs 31 [.int .i64 j] s K = K (.bool (leapD j)) s := fun s K => h31.call hcs (by decide) (F31_of (by omega)) rfl rfl K
    cases hlp : leapD j
    · rw [hlp] at c31 hbs
      simp only [Bool.false_eq_true, if_false] at hbs
      have e : beforeD j - 719528 + 365 = beforeD (j + 1) - 719528 := by omega
      simp -implicitDefEqProofs only [go_sem, hlt, w0, c31, w2]
      rw [hI, e]
      exact ⟨_, by omega, j + 1, by omega, by omega, by omega, rfl, rfl⟩
    · rw [hlp] at c31 hbs
      simp only [if_true] at hbs
      have e : beforeD j - 719528 + 365 + 1 = beforeD (j + 1) - 719528 := by omega
      simp -implicitDefEqProofs only [go_sem, hlt, w0, w1, c31, w2]
      rw [hI, e]
      exact ⟨_, by omega, j + 1, by omega, by omega, by omega, rfl, rfl⟩
  have hlt : decide (j < y) = false := decide_eq_false hjy
  simp -implicitDefEqProofs only [go_sem, hlt]
  -- the years down
  obtain ⟨I2, hI2⟩ : ∃ I : Nat → List Value → St → Prop, I = fun (k : Nat) (vs : List Value) _ => ∃ (j n : Int), y ≤ j ∧ (y < 1970 → j ≤ 1970 ∧ n = beforeD y - beforeD j) ∧ (1970 ≤ y → n = beforeD y - 719528) ∧ k = (1970 - j).toNat ∧ vs = [.int .i64 y, .int .i64 m, .int .i64 d, .int .i64 n, .int .i64 j] := ⟨_, rfl⟩
  refine wc_loopV I2 (1970 - y).toNat ?_ ?_
  · simp -implicitDefEqProofs only [go_sem]
    rw [hI2]
    refine ⟨y, _, by omega, fun h => ⟨by omega, ?_⟩, fun h => ?_, rfl, rfl⟩
    · rw [j2 h, before_1970]; omega
    · have : j = y := by have := j3 h; omega
      rw [this]
  clear hlt hjy j1 j2 j3
  clear hI I
  intro k vs s1 hi _
  rw [hI2] at hi
  obtain ⟨j, n, j0, j1, j2, rfl, rfl⟩ := hi
  by_cases hjy : j < 1970
  · have hlt : decide (j < 1970) = true := decide_eq_true hjy
    obtain ⟨j3, j4⟩ := j1 (by omega)
    have hbj := before_bound (y := j) (by omega)
    have hbs := before_succ (y := j) (by omega)
    have w0 : IntKind.i64.wrap (n - 365) = n - 365 := wrap64 (by omega) (by omega)
    have w1 : IntKind.i64.wrap (n - 365 - 1) = n - 365 - 1 := wrap64 (by omega) (by omega)
    have w2 : IntKind.i64.wrap (j + 1) = j + 1 := wrap64 (by omega) (by omega)
    have c31 : ∀ s K, WCall cs 31 [.int .i64 j] s K = K (.bool (leapD j)) s := fun s K => h31.call hcs (by decide) (F31_of (by omega)) rfl rfl K
    cases hlp : leapD j
    · rw [hlp] at c31 hbs
      simp only [Bool.false_eq_true, if_false] at hbs
      simp -implicitDefEqProofs only [go_sem, hlt, w0, c31, w2]
      rw [hI2]
      exact ⟨_, by omega, j + 1, _, by omega, fun h => ⟨by omega, by omega⟩, fun h => by omega, rfl, rfl⟩
    · rw [hlp] at c31 hbs
      simp only [if_true] at hbs
      simp -implicitDefEqProofs only [go_sem, hlt, w0, w1, c31, w2]
      rw [hI2]
      exact ⟨_, by omega, j + 1, _, by omega, fun h => ⟨by omega, by omega⟩, fun h => by omega, rfl, rfl⟩
  have hlt : decide (j < 1970) = false := decide_eq_false hjy
  have hn : n = beforeD y - 719528 := by
    by_cases h : y < 1970
    · obtain ⟨a, b⟩ := j1 h
      have : j = 1970 := by omega
      rw [b, this, before_1970]
    · exact j2 (by omega)
  subst hn
  simp -implicitDefEqProofs only [go_sem, hlt]
  -- the months
  obtain ⟨I3, hI3⟩ : ∃ I : Nat → List Value → St → Prop, I = fun (k : Nat) (vs : List Value) _ => ∃ j : Nat, (j : Int) + 1 ≤ m ∧ k = (m - 1 - j).toNat ∧ vs = [.int .i64 y, .int .i64 m, .int .i64 d, .int .i64 (beforeD y - 719528 + sumD y j), .int .i64 ((j : Int) + 1)] := ⟨_, rfl⟩
  refine wc_loopV I3 (m - 1).toNat ?_ ?_
  · simp -implicitDefEqProofs only [go_sem]
    rw [hI3]
    exact ⟨0, by omega, by simp, by simp [sumD]⟩
  clear hlt hjy j0 j1 j2
  intro k vs s1 hi _
  rw [hI3] at hi
  obtain ⟨j, hj, rfl, rfl⟩ := hi
  have hsb := sum_bound y j
  cases hlt : decide ((j : Int) + 1 < m)
  · have hje : (j : Int) + 1 = m := by have := of_decide_eq_false hlt; omega
    have w3 : IntKind.i64.wrap (beforeD y - 719528 + sumD y j + d) = beforeD y - 719528 + sumD y j + d := wrap64 (by omega) (by omega)
    have w4 : IntKind.i64.wrap (beforeD y - 719528 + sumD y j + d - 1) = numD y m d := by
      rw [wrap64 (by omega) (by omega)]
      unfold numD
      rw [show (m - 1).toNat = j by omega]
      omega
    simp -implicitDefEqProofs only [go_sem, hlt, w3, w4]
  · have hje : (j : Int) + 1 < m := of_decide_eq_true hlt
    have hlj := length_bound y ((j : Int) + 1)
    have w4 : IntKind.i64.wrap (beforeD y - 719528 + sumD y j + lengthD y ((j : Int) + 1)) = beforeD y - 719528 + sumD y (j + 1) := by rw [wrap64 (by omega) (by omega), sumD]; omega
    have w5 : IntKind.i64.wrap ((j : Int) + 1 + 1) = ((j + 1 : Nat) : Int) + 1 := by rw [wrap64 (by omega) (by omega)]; omega
    simp -implicitDefEqProofs only [go_sem, hlt, c91, w4, w5]
    rw [hI3]
    exact ⟨_, by omega, j + 1, by omega, rfl, rfl⟩

set_option maxHeartbeats 1000000 in
theorem walk30 {ov : CallSem} (h60 : Has ov 60 [] F66) (s : St) : ∀ args v, F30 args = some v → deepV 3 v = true ∧ WCall (solo 30 fun30 ov) 30 args s fun u _ => u = v := by
  intro args v h
  unfold F30 at h
  split at h
  case h_2 => cases h
  rename_i a
  split at h
  case h_2 => cases h
  rename_i y m d x1 x2 x3 ha
  cases h
  obtain rfl : a = #[.int .i64 y, .int .i64 m, .int .i64 d, .int .i64 x1, .int .i64 x2, .int .i64 x3] := Array.toList_inj.1 ha
  refine ⟨optV_deep _, ?_⟩
  refine solo_of rfl fun cs hcs => ?_
  have c60 : ∀ s K, WCall cs 60 [.int .i64 y, .int .i64 m, .int .i64 d] s K = K (if goodD y m d then .tuple #[.int .i64 (numD y m d), .bool true] else .tuple #[.int .i64 0, .bool false]) s := fun s K => h60.call hcs (by decide) rfl rfl rfl K
  unfold secM okM
  cases hg : goodD y m d
  · rw [hg] at c60
    simp only [Bool.false_eq_true, if_false] at c60
    simp -implicitDefEqProofs only [fun30, code30, params, go_sem, c60]
    rfl
  rw [hg] at c60
  simp only [if_true] at c60
  rw [Bool.true_and]
  have hnb := num_bound hg
  by_cases e1 : 0 ≤ x1
  case neg =>
    have d1 : decide (x1 < 0) = true := decide_eq_true (by omega)
    simp -implicitDefEqProofs only [fun30, code30, params, go_sem, c60, d1]
    rw [if_neg (by simp; omega)]
    rfl
  have d1 : decide (x1 < 0) = false := decide_eq_false (by omega)
  by_cases e2 : x1 ≤ 23
  case neg =>
    have d2 : decide (x1 > 23) = true := decide_eq_true (by omega)
    simp -implicitDefEqProofs only [fun30, code30, params, go_sem, c60, d1, d2]
    rw [if_neg (by simp; omega)]
    rfl
  have d2 : decide (x1 > 23) = false := decide_eq_false (by omega)
  by_cases e3 : 0 ≤ x2
  case neg =>
    have d3 : decide (x2 < 0) = true := decide_eq_true (by omega)
    simp -implicitDefEqProofs only [fun30, code30, params, go_sem, c60, d1, d2, d3]
    rw [if_neg (by simp; omega)]
    rfl
  have d3 : decide (x2 < 0) = false := decide_eq_false (by omega)
  by_cases e4 : x2 ≤ 59
  case neg =>
    have d4 : decide (x2 > 59) = true := decide_eq_true (by omega)
    simp -implicitDefEqProofs only [fun30, code30, params, go_sem, c60, d1, d2, d3, d4]
    rw [if_neg (by simp; omega)]
    rfl
  have d4 : decide (x2 > 59) = false := decide_eq_false (by omega)
  by_cases e5 : 0 ≤ x3
  case neg =>
    have d5 : decide (x3 < 0) = true := decide_eq_true (by omega)
    simp -implicitDefEqProofs only [fun30, code30, params, go_sem, c60, d1, d2, d3, d4, d5]
    rw [if_neg (by simp; omega)]
    rfl
  have d5 : decide (x3 < 0) = false := decide_eq_false (by omega)
  by_cases e6 : x3 ≤ 59
  case neg =>
    have d6 : decide (x3 > 59) = true := decide_eq_true (by omega)
    simp -implicitDefEqProofs only [fun30, code30, params, go_sem, c60, d1, d2, d3, d4, d5, d6]
    rw [if_neg (by simp; omega)]
    rfl
  have d6 : decide (x3 > 59) = false := decide_eq_false (by omega)
  have w1 : IntKind.i64.wrap (numD y m d * 86400) = numD y m d * 86400 := wrap64 (by omega) (by omega)
  have w2 : IntKind.i64.wrap (x1 * 3600) = x1 * 3600 := wrap64 (by omega) (by omega)
  have w3 : IntKind.i64.wrap (numD y m d * 86400 + x1 * 3600) = numD y m d * 86400 + x1 * 3600 := wrap64 (by omega) (by omega)
  have w4 : IntKind.i64.wrap (x2 * 60) = x2 * 60 := wrap64 (by omega) (by omega)
  have w5 : IntKind.i64.wrap (numD y m d * 86400 + x1 * 3600 + x2 * 60) = numD y m d * 86400 + x1 * 3600 + x2 * 60 := wrap64 (by omega) (by omega)
  have w6 : IntKind.i64.wrap (numD y m d * 86400 + x1 * 3600 + x2 * 60 + x3) = numD y m d * 86400 + x1 * 3600 + x2 * 60 + x3 := wrap64 (by omega) (by omega)
  simp -implicitDefEqProofs only [fun30, code30, params, go_sem, c60, d1, d2, d3, d4, d5, d6, w1, w2, w3, w4, w5, w6]
  rw [if_pos (by simp; omega)]
  rfl
end Go.Proofs.YtoiedaegnhifpaaDoor


/-
  The reference: pad, months, days, day, clock.
-/
set_option maxRecDepth 100000
set_option linter.unusedVariables false
set_option linter.unusedSimpArgs false
namespace Go.Proofs.YtoiedaegnhifpaaDoor
open Go Go.Abs Go.Shelf Go.RowKit Go.Abs.K

def padR (n : Int) : Nat → List UInt8
  | 0 => []
  | k + 1 => padR (n / 10) k ++ [dg1 (n % 10).toNat]
def F37 : List Value → Option Value
  | [.int .i64 n, .int .i64 k] => if 0 ≤ n ∧ n ≤ 9223372036854775807 ∧ 0 ≤ k ∧ k ≤ 9 then some (S (padR n k.toNat)) else none
  | _ => none
theorem F37_of {n : Int} {k : Nat} (h : 0 ≤ n ∧ n ≤ 9223372036854775807) (hk : k ≤ 9) : F37 [.int .i64 n, .int .i64 (k : Nat)] = some (S (padR n k)) := by
  show (if _ then some (S (padR n ((k : Nat) : Int).toNat)) else none) = _
  rw [if_pos (by omega), Int.toNat_natCast]
theorem padR2 {n : Int} (h : 0 ≤ n ∧ n ≤ 99) : padR n 2 = dig2 n := by
  simp only [padR, List.nil_append, List.cons_append, dig2]
  rw [show (n % 10).toNat = n.toNat % 10 by omega, show (n / 10 % 10).toNat = n.toNat / 10 by omega]
theorem padR4 {n : Int} (h : 0 ≤ n ∧ n ≤ 9999) : padR n 4 = dig4 n := by
  simp only [padR, List.nil_append, List.cons_append, dig4]
  rw [show (n % 10).toNat = n.toNat % 10 by omega, show (n / 10 % 10).toNat = n.toNat / 10 % 10 by omega, show (n / 10 / 10 % 10).toNat = n.toNat / 100 % 10 by omega, show (n / 10 / 10 / 10 % 10).toNat = n.toNat / 1000 by omega]

theorem ev_str1 {g : Nat → Option AObj} {nx id : Nat} {b : Nat} {t : TypeId} {sz : Nat} {ro : Bool} (h : g id = some (.cells [.int .u8 (b : Nat)] t sz ro)) (hb : b < 256) : evP g nx (.conv .toString (.slice (some ⟨id, 0, none⟩) 1 1)) = some ⟨S [UInt8.ofNat b], [], nx⟩ := by
  have : evP g nx (.conv .toString (.slice (some ⟨id, 0, none⟩) 1 1)) = (cellsAt g id 0 1).bind fun l => (bytesOf l .empty).map fun s => (⟨.string s, [], nx⟩ : Res) := rfl
  rw [this]
  unfold cellsAt
  rw [h]
  simp [bytesOf]
  first | rfl | (constructor <;> omega) | (refine ⟨?_, ?_⟩ <;> first | omega | rfl)

theorem walk37 {ov : CallSem} (s : St) : ∀ args v, F37 args = some v → deepV 3 v = true ∧ WCall (solo 37 fun37 ov) 37 args s fun u _ => u = v := by
  intro args v h
  unfold F37 at h
  split at h
  case h_2 => cases h
  rename_i n0 k0
  split at h
  case isFalse => cases h
  rename_i hk
  cases h
  refine ⟨rfl, ?_⟩
  refine solo_of rfl fun cs hcs => ?_
  obtain ⟨k, rfl⟩ : ∃ k : Nat, k0 = k := ⟨k0.toNat, by omega⟩
  rw [Int.toNat_natCast]
  simp -implicitDefEqProofs only [fun37, code37, params, go_sem]
  obtain ⟨I, hI⟩ : ∃ I : Nat → List Value → St → Prop, I = fun (m : Nat) (vs : List Value) _ => ∃ (n : Int) (i : Nat) (l : List UInt8), 0 ≤ n ∧ n ≤ 9223372036854775807 ∧ i ≤ k ∧ m = k - i ∧ l.length = i ∧ padR n (k - i) ++ l = padR n0 k ∧ vs = [.int .i64 n, .int .i64 (k : Nat), S l, .int .i64 (i : Nat)] := ⟨_, rfl⟩
  refine wc_loopV I k ?_ ?_
  · simp -implicitDefEqProofs only [go_sem]
    rw [hI]
    exact ⟨n0, 0, [], by omega, by omega, by omega, rfl, rfl, by rw [List.append_nil]; rfl, rfl⟩
  · intro m vs s1 hi _
    rw [hI] at hi
    obtain ⟨n, i, l, n1, n2, hik, rfl, hl, hp, rfl⟩ := hi
    by_cases hlt : i < k
    · have d1 : decide ((i : Int) < (k : Int)) = true := decide_eq_true (by omega)
      obtain ⟨b, hb⟩ : ∃ b : Nat, n % 10 = (b : Int) := ⟨(n % 10).toNat, by omega⟩
      have hb10 : b < 10 := by omega
      have q1 := bv_rem (x := n) (c := 10) n1 (by decide)
      have q2 := bv_quo (x := n) (c := 10) n1 (by decide) n2
      rw [hb] at q1
      have w1 : IntKind.i64.wrap (48 + (b : Int)) = 48 + (b : Int) := wrap64 (by omega) (by omega)
      have w2 : IntKind.u8.wrap (48 + (b : Int)) = ((48 + b : Nat) : Int) := by rw [IntKind.wrap_u8]; omega
      have w3 : IntKind.i64.wrap ((i : Int) + 1) = ((i + 1 : Nat) : Int) := by rw [wrap64 (by omega) (by omega)]; omega
      have e1 : ∀ H', evP (Heap.get (Heap.put H' s1.next (some (.cells [.int .u8 ((48 + b : Nat) : Int)] 5 1 false)))) (s1.next + 1) (.conv .toString (.slice (some ⟨s1.next, 0, none⟩) 1 1)) = some ⟨S [dg1 b], [], s1.next + 1⟩ := fun H' => by
        rw [ev_str1 (b := 48 + b) (t := 5) (sz := 1) (ro := false) (by rw [Heap.get_put, if_pos rfl]) (by omega)]
        rfl
      have a1 := bs_add (a := [dg1 b]) (b := l) (by simp; omega)
      simp -implicitDefEqProofs only [go_sem, d1, q1, q2, w1, w2, w3, ev_buildSlice, fillL, e1, a1]
      rw [hI]
      refine ⟨k - (i + 1), by omega, n / 10, i + 1, [dg1 b] ++ l, by omega, by omega, by omega, rfl, by simp; omega, ?_, rfl⟩
      rw [← hp, show k - i = (k - (i + 1)) + 1 by omega, padR, show (n % 10).toNat = b by omega, List.append_assoc]
    · have d1 : decide ((i : Int) < (k : Int)) = false := decide_eq_false (by omega)
      rw [show k - i = 0 by omega, padR, List.nil_append] at hp
      simp -implicitDefEqProofs only [go_sem, d1, hp]

def monthsL : List (List UInt8) := [] :: monL
theorem r38 {tbl : FuncId → Option AFun} {ov : CallSem} (ht : tbl 38 = some fun38) {s : St} (K : Value → St → Prop) :
    WCall (fun k => call tbl ov k) 38 [] s K = K (.slice (some ⟨s.next, 0, none⟩) 13 13) ⟨s.heap.put s.next (some (.cells (monthsL.map S) 9 1 false)), s.next + 1⟩ := by
  refine WCall.eq (WCall.of ht rfl ?_) K
  simp -implicitDefEqProofs only [fun38, code38, params, go_sem, ev_buildSlice, fillL]
  rfl
theorem r68 {tbl : FuncId → Option AFun} {ov : CallSem} (ht : tbl 68 = some fun68) {s : St} (K : Value → St → Prop) :
    WCall (fun k => call tbl ov k) 68 [] s K = K (.slice (some ⟨s.next, 0, none⟩) 7 7) ⟨s.heap.put s.next (some (.cells (longL.map S) 9 1 false)), s.next + 1⟩ := by
  refine WCall.eq (WCall.of ht rfl ?_) K
  simp -implicitDefEqProofs only [fun68, code68, params, go_sem, ev_buildSlice, fillL]
  rfl

def dayN (y m d : Int) : Nat := ((numD y m d + 3) % 7).toNat
theorem dayN_lt (y m d : Int) : dayN y m d < 7 := by unfold dayN; omega
def F36 : List Value → Option Value
  | [.agg a] => match a.toList with
    | [.int .i64 y, .int .i64 m, .int .i64 d, .int .i64 h, .int .i64 i, .int .i64 s] => if goodD y m d then some (S (longL.getD (dayN y m d) [])) else none
    | _ => none
  | _ => none
theorem F36_of {y m d h i s : Int} (hg : goodD y m d = true) : F36 [momV y m d h i s] = some (S (longL.getD (dayN y m d) [])) := if_pos hg
def tbl36 : FuncId → Option AFun := tblOf [(36, fun36), (68, fun68)]
theorem walk36 {ov : CallSem} (h60 : Has ov 60 [] F66) (H : Heap) : ∀ args v, F36 args = some v → deepV 3 v = true ∧ WCall (fun k => call tbl36 ov k) 36 args ⟨H, 8⟩ fun u _ => u = v := by
  intro args v h
  unfold F36 at h
  split at h
  case h_2 => cases h
  rename_i a
  split at h
  case h_2 => cases h
  rename_i y m d x1 x2 x3 ha
  split at h
  case isFalse => cases h
  rename_i hg
  cases h
  obtain rfl : a = #[.int .i64 y, .int .i64 m, .int .i64 d, .int .i64 x1, .int .i64 x2, .int .i64 x3] := Array.toList_inj.1 ha
  refine ⟨rfl, ?_⟩
  refine WCall.of (fn := fun36) rfl rfl ?_
  have c68 := fun s K => r68 (tbl := tbl36) (ov := ov) rfl (s := s) K
  obtain ⟨cs, hcs⟩ : ∃ cs, cs = fun k => call tbl36 ov k := ⟨_, rfl⟩
  rw [← hcs] at c68 ⊢
  have c60 : ∀ s K, WCall cs 60 [.int .i64 y, .int .i64 m, .int .i64 d] s K = K (.tuple #[.int .i64 (numD y m d), .bool true]) s := fun s K => h60.callT hcs rfl (by show some (if goodD y m d then _ else _) = _; rw [if_pos hg]) rfl rfl K
  have hnb := num_bound hg
  obtain ⟨n, hn⟩ : ∃ n, n = numD y m d := ⟨_, rfl⟩
  have hlt := dayN_lt y m d
  have hdn : dayN y m d = ((n + 3) % 7).toNat := by rw [hn]; rfl
  rw [← hn] at c60 hnb
  generalize dayN y m d = w at hlt hdn
  obtain ⟨r, hr⟩ : ∃ r, r = (n + 3).tmod 7 := ⟨_, rfl⟩
  have h1 := Int.tmod_add_mul_tdiv (n + 3) 7
  have h2 := Int.tmod_lt_of_pos (n + 3) (show (0 : Int) < 7 by decide)
  have h3 := Int.lt_tmod_of_pos (n + 3) (show (0 : Int) < 7 by decide)
  rw [← hr] at h1 h2 h3
  have w0 : IntKind.i64.wrap (n + 3) = n + 3 := wrap64 (by omega) (by omega)
  have r0 : binV .rem (.int .i64 (n + 3)) (.int .i64 7) = some (.int .i64 r) := by rw [hr]; simp [binV]
  have g1 : (longL.map S)[w]? = some (S (longL.getD w [])) := getD_map (by exact hlt)
  have z7 : ((7 : Nat) : Int) = 7 := rfl
  by_cases hneg : r < 0
  · have d1 : decide (r < 0) = true := decide_eq_true hneg
    have w1 : IntKind.i64.wrap (r + 7) = (w : Int) := by rw [wrap64 (by omega) (by omega)]; omega
    have i1 : 0 ≤ (w : Int) ∧ (w : Int) < 7 := by omega
    simp -implicitDefEqProofs only [fun36, code36, params, go_sem, c60, c68, w0, r0, d1, w1, z7, i1, Heap.get_put, g1]
  · have d1 : decide (r < 0) = false := decide_eq_false hneg
    obtain rfl : r = (w : Int) := by omega
    have i1 : 0 ≤ (w : Int) ∧ (w : Int) < 7 := by omega
    simp -implicitDefEqProofs only [fun36, code36, params, go_sem, c60, c68, w0, r0, d1, z7, i1, Heap.get_put, g1]

def F39 : List Value → Option Value
  | [.agg a] => match a.toList with
    | [.int .i64 y, .int .i64 m, .int .i64 d, .int .i64 h, .int .i64 i, .int .i64 s] => if (0 ≤ h ∧ h ≤ 99) ∧ (0 ≤ i ∧ i ≤ 99) ∧ 0 ≤ s ∧ s ≤ 99 then some (S (dig2 h ++ 58 :: (dig2 i ++ 58 :: dig2 s))) else none
    | _ => none
  | _ => none
theorem F39_of {y m d h i s : Int} (hg : (0 ≤ h ∧ h ≤ 99) ∧ (0 ≤ i ∧ i ≤ 99) ∧ 0 ≤ s ∧ s ≤ 99) : F39 [momV y m d h i s] = some (S (dig2 h ++ 58 :: (dig2 i ++ 58 :: dig2 s))) := if_pos hg
theorem walk39 {ov : CallSem} (h37 : Has ov 37 [] F37) (s : St) : ∀ args v, F39 args = some v → deepV 3 v = true ∧ WCall (solo 39 fun39 ov) 39 args s fun u _ => u = v := by
  intro args v h
  unfold F39 at h
  split at h
  case h_2 => cases h
  rename_i a
  split at h
  case h_2 => cases h
  rename_i y m d x1 x2 x3 ha
  split at h
  case isFalse => cases h
  rename_i hg
  cases h
  obtain rfl : a = #[.int .i64 y, .int .i64 m, .int .i64 d, .int .i64 x1, .int .i64 x2, .int .i64 x3] := Array.toList_inj.1 ha
  refine ⟨rfl, ?_⟩
  refine solo_of rfl fun cs hcs => ?_
  have c37 : ∀ x : Int, 0 ≤ x ∧ x ≤ 99 → ∀ s K, WCall cs 37 [.int .i64 x, .int .i64 2] s K = K (S (dig2 x)) s := fun x hx s K => h37.call hcs (by decide) (by have := F37_of (n := x) (k := 2) (by omega) (by omega); rw [padR2 hx] at this; exact this) rfl rfl K
  have p1 := c37 x1 hg.1
  have p2 := c37 x2 hg.2.1
  have p3 := c37 x3 hg.2.2
  have l1 : ∀ x, (dig2 x).length = 2 := fun _ => rfl
  simp -implicitDefEqProofs only [fun39, code39, params, go_sem, p1, p2, p3, bs_add, List.length_append, List.length_cons, List.length_nil, l1]
  refine ⟨fun i hi f' hf' => by
      simp only [List.mem_cons, List.not_mem_nil, or_false] at hi
      rcases hi with rfl | rfl <;> cases hf' <;> exact fun _ _ => rfl, ?_⟩
  simp [List.append_assoc]
end Go.Proofs.YtoiedaegnhifpaaDoor


/-
  The reference: First, Second, Third; moment.
-/
set_option maxRecDepth 100000
set_option linter.unusedVariables false
set_option linter.unusedSimpArgs false
namespace Go.Proofs.YtoiedaegnhifpaaDoor
open Go Go.Abs Go.Shelf Go.RowKit Go.Abs.K

def tOf (h i s : Int) : Int := h * 3600 + i * 60 + s

def textF (G : Nat → Int → Int → Int → Int → List UInt8) : List Value → Option Value
  | [.agg a] => match a.toList with
    | [.int .i64 y, .int .i64 m, .int .i64 d, .int .i64 h, .int .i64 i, .int .i64 s] => if okM y m d h i s then some (S (G (dayN y m d) y m d (tOf h i s))) else none
    | _ => none
  | _ => none
theorem textF_of {G : Nat → Int → Int → Int → Int → List UInt8} {y m d h i s : Int} (hk : okM y m d h i s = true) : textF G [momV y m d h i s] = some (S (G (dayN y m d) y m d (tOf h i s))) := if_pos hk
theorem okM_parts {y m d h i s : Int} (hk : okM y m d h i s = true) : goodD y m d = true ∧ (0 ≤ y ∧ y ≤ 9999) ∧ (1 ≤ m ∧ m ≤ 12) ∧ (1 ≤ d ∧ d ≤ 31) ∧ (0 ≤ h ∧ h ≤ 23) ∧ (0 ≤ i ∧ i ≤ 59) ∧ 0 ≤ s ∧ s ≤ 59 := by
  unfold okM at hk
  simp only [Bool.and_eq_true, decide_eq_true_eq] at hk
  obtain ⟨hg, k⟩ := hk
  have hg' := hg
  unfold goodD at hg'
  simp only [Bool.and_eq_true, decide_eq_true_eq] at hg'
  have hlb := length_bound y m
  have hm := length_month (y := y) (m := m) (by omega)
  exact ⟨hg, by omega, hm, by omega, by omega, by omega, by omega⟩
theorem tOf_parts {h i s : Int} (hh : 0 ≤ h ∧ h ≤ 23) (hi : 0 ≤ i ∧ i ≤ 59) (hs : 0 ≤ s ∧ s ≤ 59) : (0 ≤ tOf h i s ∧ tOf h i s ≤ 86399) ∧ tOf h i s / 3600 = h ∧ tOf h i s / 60 % 60 = i ∧ tOf h i s % 60 = s := by
  unfold tOf
  omega

def tblM (k : Nat) (fn : AFun) : FuncId → Option AFun := tblOf [(k, fn), (38, fun38)]
theorem mon_get {m : Int} (hm : 1 ≤ m ∧ m ≤ 12) : (monthsL.map S)[m.toNat]? = some (S (monL.getD (m - 1).toNat [])) := by
  obtain ⟨k, hk⟩ : ∃ k : Nat, m = (k : Int) + 1 := ⟨(m - 1).toNat, by omega⟩
  rw [show m.toNat = k + 1 by omega, show (m - 1).toNat = k by omega]
  have : (monL.map S)[k]? = some (S (monL.getD k [])) := getD_map (by show k < 12; omega)
  exact this

set_option maxHeartbeats 1000000 in
theorem walk14 {ov : CallSem} (h36 : Has ov 36 [] F36) (h37 : Has ov 37 [] F37) (h39 : Has ov 39 [] F39) (H : Heap) : ∀ args v, textF firstT args = some v → deepV 3 v = true ∧ WCall (fun k => call (tblM 14 fun14) ov k) 14 args ⟨H, 8⟩ fun u _ => u = v := by
  intro args v h
  unfold textF at h
  split at h
  case h_2 => cases h
  rename_i a
  split at h
  case h_2 => cases h
  rename_i y m d x1 x2 x3 ha
  split at h
  case isFalse => cases h
  rename_i hk
  cases h
  obtain rfl : a = #[.int .i64 y, .int .i64 m, .int .i64 d, .int .i64 x1, .int .i64 x2, .int .i64 x3] := Array.toList_inj.1 ha
  obtain ⟨hg, hy, hm, hd, hh, hi, hs⟩ := okM_parts hk
  obtain ⟨ht, t1, t2, t3⟩ := tOf_parts hh hi hs
  refine ⟨rfl, ?_⟩
  refine WCall.of (fn := fun14) rfl rfl ?_
  have c38 := fun s K => r38 (tbl := tblM 14 fun14) (ov := ov) rfl (s := s) K
  obtain ⟨cs, hcs⟩ : ∃ cs, cs = fun k => call (tblM 14 fun14) ov k := ⟨_, rfl⟩
  rw [← hcs] at c38 ⊢
  obtain ⟨l7, l8⟩ := long_at (dayN_lt y m d)
  obtain ⟨m1, m2, m3, m4⟩ := mon_at (k := (m - 1).toNat) (by omega)
  have c36 : ∀ s K, WCall cs 36 [momV y m d x1 x2 x3] s K = K (S (longL.getD (dayN y m d) [])) s := fun s K => h36.callT hcs rfl (F36_of hg) rfl rfl K
  have c39 : ∀ s K, WCall cs 39 [momV y m d x1 x2 x3] s K = K (S (clockT (tOf x1 x2 x3))) s := fun s K => h39.callT hcs rfl (by rw [F39_of (by omega)]; unfold clockT; rw [t1, t2, t3]) rfl rfl K
  have p2 : ∀ s K, WCall cs 37 [.int .i64 d, .int .i64 2] s K = K (S (dig2 d)) s := fun s K => h37.callT hcs rfl (by have := F37_of (n := d) (k := 2) (by omega) (by omega); rw [padR2 (by omega)] at this; exact this) rfl rfl K
  have p4 : ∀ s K, WCall cs 37 [.int .i64 y, .int .i64 4] s K = K (S (dig4 y)) s := fun s K => h37.callT hcs rfl (by have := F37_of (n := y) (k := 4) (by omega) (by omega); rw [padR4 (by omega)] at this; exact this) rfl rfl K
  have e1 : ∀ (H' : Heap) n, evP H'.get n (.slice .string (S (longL.getD (dayN y m d) [])) none (some (.int .i64 3)) none) = some ⟨S (shortL.getD (dayN y m d) []), [], n⟩ := fun H' n => by rw [← l8.2.2.2.2]; exact ev_toS (b := 3) (by omega)
  have ls := (short_at (dayN_lt y m d)).2.2.2
  have l2 : ∀ x, (dig2 x).length = 2 := fun _ => rfl
  have l4 : ∀ x, (dig4 x).length = 4 := fun _ => rfl
  have lc : ∀ x, (clockT x).length = 8 := fun _ => rfl
  have g1 := mon_get hm
  have z : ((13 : Nat) : Int) = 13 := rfl
  have i1 : 0 ≤ m ∧ m < 13 := by omega
  simp only [momV] at c36 c39
  simp -implicitDefEqProofs only [fun14, code14, params, go_sem, c36, c38, c39, p2, p4, e1, Heap.get_put, List.drop_zero, List.take_succ_cons, List.take_zero, z, i1, g1, Nat.zero_add, bs_add, List.length_append, List.length_cons, List.length_nil, ls, l2, l4, lc, m4]
  refine ⟨fun i hi f' hf' => by
      simp only [List.mem_cons, List.not_mem_nil, or_false] at hi
      rcases hi with rfl | rfl | rfl | rfl | rfl <;> cases hf'
      · exact fun _ _ => rfl
      · exact fun _ _ => rfl
      · intro id hid
        have hid : id < 9 ∨ 10 ≤ id := hid
        show Heap.get (Heap.put _ _ _) id = Heap.get _ id
        rw [Heap.get_put, if_neg (by omega)]
      · exact fun _ _ => rfl
      · exact fun _ _ => rfl, ?_⟩
  unfold firstT
  simp [List.append_assoc]

def F11 : List Value → Option Value
  | [.int .i64 y, .int .i64 m, .int .i64 d, .int .i64 t] => if -9223372036854775808 ≤ t ∧ t ≤ 9223372036854775807 then
    some (if t < 0 then .tuple #[momV y m d (t.tdiv 3600) ((t.tdiv 60).tmod 60) (t.tmod 60), .int .i64 0, .bool false]
      else match secM y m d (t / 3600) (t / 60 % 60) (t % 60) with
        | some n => .tuple #[momV y m d (t / 3600) (t / 60 % 60) (t % 60), .int .i64 n, .bool true]
        | none => .tuple #[momV y m d (t / 3600) (t / 60 % 60) (t % 60), .int .i64 0, .bool false]) else none
  | _ => none
theorem tdiv_bound {t k : Int} (hk : 1 ≤ k) (ht : -9223372036854775808 ≤ t ∧ t ≤ 9223372036854775807) : -9223372036854775808 ≤ t.tdiv k ∧ t.tdiv k ≤ 9223372036854775807 := by
  rcases Int.le_total 0 t with h | h
  · rw [Int.tdiv_eq_ediv_of_nonneg h]
    have h1 := Int.ediv_nonneg h (show (0 : Int) ≤ k by omega)
    have h2 := Int.ediv_le_self k h
    omega
  · have e : t.tdiv k = -((-t) / k) := by
      have h3 := Int.tdiv_eq_ediv_of_nonneg (show 0 ≤ -t by omega) (b := k)
      rw [Int.neg_tdiv] at h3
      omega
    have h1 := Int.ediv_nonneg (show 0 ≤ -t by omega) (show (0 : Int) ≤ k by omega)
    have h2 := Int.ediv_le_self k (show 0 ≤ -t by omega)
    omega
set_option maxHeartbeats 1000000 in
theorem walk11 {ov : CallSem} (h30 : Has ov 30 [] F30) (s : St) : ∀ args v, F11 args = some v → deepV 3 v = true ∧ WCall (solo 11 fun11 ov) 11 args ⟨s.heap, 8⟩ fun u _ => u = v := by
  intro args v h
  unfold F11 at h
  split at h
  case h_2 => cases h
  rename_i y m d t
  split at h
  case isFalse => cases h
  rename_i ht
  cases h
  refine ⟨by
    split
    · rfl
    · split <;> rfl, ?_⟩
  refine solo_of rfl fun cs hcs => ?_
  have z0 : fillL [.int .i64 0, .int .i64 0, .int .i64 0, .int .i64 0, .int .i64 0, .int .i64 0] [] = some [.int .i64 0, .int .i64 0, .int .i64 0, .int .i64 0, .int .i64 0, .int .i64 0] := rfl
  have t1 := tdiv_bound (k := 3600) (by decide) ht
  have t2 := tdiv_bound (k := 60) (by decide) ht
  by_cases h0 : t < 0
  · have d1 : decide (t < 0) = true := decide_eq_true h0
    have b1 : binV .quo (.int .i64 t) (.int .i64 3600) = some (.int .i64 (t.tdiv 3600)) := by simp [binV, wrap64 t1.1 t1.2]
    have b2 : binV .quo (.int .i64 t) (.int .i64 60) = some (.int .i64 (t.tdiv 60)) := by simp [binV, wrap64 t2.1 t2.2]
    have b3 : binV .rem (.int .i64 (t.tdiv 60)) (.int .i64 60) = some (.int .i64 ((t.tdiv 60).tmod 60)) := by simp [binV]
    have b4 : binV .rem (.int .i64 t) (.int .i64 60) = some (.int .i64 (t.tmod 60)) := by simp [binV]
    rw [if_pos h0]
    simp -implicitDefEqProofs only [fun11, code11, params, go_sem, b1, b2, b3, b4, d1, z0, fillL, resV_cell, loadA_n, Heap.get_put, List.drop_zero, List.take_succ_cons, List.take_zero]
    rfl
  · have d1 : decide (t < 0) = false := decide_eq_false h0
    have b1 := bv_quo (x := t) (c := 3600) (by omega) (by decide) ht.2
    have b2 := bv_quo (x := t) (c := 60) (by omega) (by decide) ht.2
    have b3 := bv_rem (x := t / 60) (c := 60) (by omega) (by decide)
    have b4 := bv_rem (x := t) (c := 60) (by omega) (by decide)
    rw [if_neg h0]
    generalize t / 3600 = x1 at b1 ⊢
    generalize t / 60 = x2 at b2 b3 ⊢
    generalize x2 % 60 = x2 at b3 ⊢
    generalize t % 60 = x3 at b4 ⊢
    have c30 : ∀ s K, WCall cs 30 [momV y m d x1 x2 x3] s K = K (optV (secM y m d x1 x2 x3)) s := fun s K => h30.call hcs (by decide) (F30_of ..) rfl rfl K
    cases hs : secM y m d x1 x2 x3 with
    | none =>
      rw [hs] at c30
      simp only [momV, optV] at c30
      simp -implicitDefEqProofs only [fun11, code11, params, go_sem, b1, b2, b3, b4, d1, z0, fillL, resV_cell, loadA_n, Heap.get_put, List.drop_zero, List.take_succ_cons, List.take_zero, c30]
      rfl
    | some n =>
      rw [hs] at c30
      simp only [momV, optV] at c30
      simp -implicitDefEqProofs only [fun11, code11, params, go_sem, b1, b2, b3, b4, d1, z0, fillL, resV_cell, loadA_n, Heap.get_put, List.drop_zero, List.take_succ_cons, List.take_zero, c30]
      rfl
end Go.Proofs.YtoiedaegnhifpaaDoor
