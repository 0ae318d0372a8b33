/-
  Bytes of which bits within 32 in a row are turned have another sum.
-/
import Derived.Test.YtaigiehdnhehnaaR1Scan
set_option maxRecDepth 100000
set_option linter.unusedVariables false
set_option linter.unusedSimpArgs false
namespace Go.Proofs.Ytaigiehdnhehnaa
open Go Go.Abs

theorem mask2 (z : BitVec 32) : poly &&& -(z &&& 1#32) = if z.toNat % 2 = 1 then poly else 0#32 := by
  have h : z &&& 1#32 = BitVec.ofNat 32 (z.toNat % 2) := by
    apply BitVec.eq_of_toNat_eq
    rw [BitVec.toNat_and, show (1#32).toNat = 1 from rfl, Nat.and_one_is_mod, BitVec.toNat_ofNat]
    omega
  rw [h]
  rcases Nat.mod_two_eq_zero_or_one z.toNat with e | e <;> rw [e] <;> decide

theorem s1_def (x : BitVec 32) : s1 x = (x >>> 1) ^^^ (if x.toNat % 2 = 1 then poly else 0#32) := by
  unfold s1; rw [mask2]

theorem xor_cancel {a b c : BitVec 32} (h : a ^^^ c = b ^^^ c) : a = b := by
  have := congrArg (· ^^^ c) h
  simpa [BitVec.xor_assoc] using this

theorem shr_lt (x : BitVec 32) : (x >>> 1).toNat < 2 ^ 31 := by
  rw [BitVec.toNat_ushiftRight, Nat.shiftRight_eq_div_pow]
  have := x.isLt
  omega

theorem s1_inj {x y : BitVec 32} (h : s1 x = s1 y) : x = y := by
  rw [s1_def, s1_def] at h
  have hx := shr_lt x
  have hy := shr_lt y
  have hpoly : ¬ poly.toNat < 2 ^ 31 := by decide
  have hsame : x.toNat % 2 = y.toNat % 2 → x >>> 1 = y >>> 1 → x = y := by
    intro h1 h2
    apply BitVec.eq_of_toNat_eq
    have h3 := congrArg BitVec.toNat h2
    rw [BitVec.toNat_ushiftRight, BitVec.toNat_ushiftRight, Nat.shiftRight_eq_div_pow, Nat.shiftRight_eq_div_pow] at h3
    omega
  have hdiff : ∀ a b : BitVec 32, a.toNat < 2 ^ 31 → b.toNat < 2 ^ 31 → ¬ a ^^^ poly = b ^^^ 0#32 := by
    intro a b ha hb he
    rw [BitVec.xor_zero] at he
    have h2 : poly = a ^^^ b := by rw [← he, ← BitVec.xor_assoc]; simp
    have h3 : (a ^^^ b).toNat < 2 ^ 31 := by rw [BitVec.toNat_xor]; exact Nat.xor_lt_two_pow ha hb
    rw [← h2] at h3
    exact hpoly h3
  by_cases h1 : x.toNat % 2 = 1
  · by_cases h2 : y.toNat % 2 = 1
    · rw [if_pos h1, if_pos h2] at h
      exact hsame (by omega) (xor_cancel h)
    · rw [if_pos h1, if_neg h2] at h
      exact absurd h (hdiff _ _ hx hy)
  · by_cases h2 : y.toNat % 2 = 1
    · rw [if_neg h1, if_pos h2] at h
      exact absurd h.symm (hdiff _ _ hy hx)
    · rw [if_neg h1, if_neg h2] at h
      exact hsame (by omega) (xor_cancel h)

theorem s8_inj : ∀ (n : Nat) {x y : BitVec 32}, s8 n x = s8 n y → x = y := by
  intro n
  induction n with
  | zero => intro x y h; exact h
  | succ n ih => intro x y h; exact s1_inj (ih h)

theorem crcL_inj : ∀ (zs : List Int) {c d : BitVec 32}, crcL zs c = crcL zs d → c = d := by
  intro zs
  induction zs with
  | nil => intro c d h; exact h
  | cons z zs ih => intro c d h; exact xor_cancel (s8_inj 8 (ih h))

/-- What lies above is not met yet. -/
theorem s1_high (x y : BitVec 32) (hy : y.toNat < 2 ^ 31) : s1 (x ^^^ (y <<< 1)) = s1 x ^^^ y := by
  have h1 : (x ^^^ (y <<< 1)).toNat % 2 = x.toNat % 2 := by
    have h2 : (y <<< 1).toNat % 2 = 0 := by
      rw [BitVec.toNat_shiftLeft, Nat.shiftLeft_eq]; omega
    rw [BitVec.toNat_xor]
    have h4 := Nat.xor_mod_two_pow (a := x.toNat) (b := (y <<< 1).toNat) (n := 1)
    rw [Nat.pow_one, h2, Nat.xor_zero] at h4
    exact h4
  have h3 : (y <<< 1) >>> 1 = y := by
    apply BitVec.eq_of_toNat_eq
    rw [BitVec.toNat_ushiftRight, BitVec.toNat_shiftLeft, Nat.shiftRight_eq_div_pow, Nat.shiftLeft_eq]
    omega
  rw [s1_def, s1_def, h1, BitVec.ushiftRight_xor_distrib, h3, BitVec.xor_assoc, BitVec.xor_assoc, BitVec.xor_comm y]

theorem s8_high : ∀ (n : Nat) (x y : BitVec 32), y.toNat < 2 ^ (32 - n) → n ≤ 32 → s8 n (x ^^^ (y <<< n)) = s8 n x ^^^ y := by
  intro n
  induction n with
  | zero => intro x y _ _; simp [s8]
  | succ n ih =>
    intro x y hy hn
    show s8 n (s1 (x ^^^ (y <<< (n + 1)))) = s8 n (s1 x) ^^^ y
    have h2 : 2 ^ (32 - (n + 1)) * 2 ^ n = 2 ^ 31 := by rw [← Nat.pow_add]; congr 1; omega
    have h3 : y.toNat * 2 ^ n < 2 ^ 31 := by rw [← h2]; exact (Nat.mul_lt_mul_right (Nat.pow_pos (by omega))).2 hy
    have h4 : (y <<< n).toNat = y.toNat * 2 ^ n := by
      rw [BitVec.toNat_shiftLeft, Nat.shiftLeft_eq, Nat.mod_eq_of_lt (by omega)]
    rw [BitVec.shiftLeft_add y n 1, s1_high x (y <<< n) (by omega)]
    refine ih _ _ (Nat.lt_of_lt_of_le hy (Nat.pow_le_pow_right (by omega) (by omega))) (by omega)

/-- Differences of bytes, as one of the register. -/
def diffs : List Nat → BitVec 32
  | [] => 0#32
  | d :: ds => BitVec.ofNat 32 d ^^^ (diffs ds <<< 8)

theorem diffs_lt : ∀ {ds : List Nat}, (∀ d ∈ ds, d < 256) → ds.length ≤ 4 → (diffs ds).toNat < 2 ^ (8 * ds.length) := by
  intro ds
  induction ds with
  | nil => intro _ _; decide
  | cons d ds ih =>
    intro h hl
    simp only [List.length_cons] at hl ⊢
    have h1 := ih (fun x hx => h x (List.mem_cons_of_mem _ hx)) (by omega)
    have hd := h d (List.mem_cons_self ..)
    show (BitVec.ofNat 32 d ^^^ (diffs ds <<< 8)).toNat < _
    rw [BitVec.toNat_xor]
    refine Nat.xor_lt_two_pow ?_ ?_
    · rw [BitVec.toNat_ofNat]
      have : 2 ^ 8 ≤ 2 ^ (8 * (ds.length + 1)) := Nat.pow_le_pow_right (by omega) (by omega)
      omega
    · rw [BitVec.toNat_shiftLeft, Nat.shiftLeft_eq]
      have : 2 ^ (8 * (ds.length + 1)) = 2 ^ (8 * ds.length) * 2 ^ 8 := by rw [← Nat.pow_add]; congr 1
      omega

theorem diffs_zero : ∀ {ds : List Nat}, (∀ d ∈ ds, d < 256) → ds.length ≤ 4 → diffs ds = 0#32 → ∀ d ∈ ds, d = 0 := by
  intro ds
  induction ds with
  | nil => intro _ _ _ d hd; cases hd
  | cons d ds ih =>
    intro h hl h0
    simp only [List.length_cons] at hl
    have hd := h d (List.mem_cons_self ..)
    have h1 := diffs_lt (ds := ds) (fun x hx => h x (List.mem_cons_of_mem _ hx)) (by omega)
    have h2 : BitVec.ofNat 32 d = diffs ds <<< 8 := by
      have := congrArg (· ^^^ (diffs ds <<< 8)) h0
      simpa [diffs, BitVec.xor_assoc] using this
    have h3 := congrArg BitVec.toNat h2
    have h5 : 2 ^ (8 * ds.length) ≤ 2 ^ 24 := Nat.pow_le_pow_right (by omega) (by omega)
    rw [BitVec.toNat_ofNat, BitVec.toNat_shiftLeft, Nat.shiftLeft_eq] at h3
    have h4 : (diffs ds).toNat = 0 ∧ d = 0 := by omega
    intro x hx
    rcases List.mem_cons.1 hx with rfl | hx
    · exact h4.2
    · exact ih (fun x hx => h x (List.mem_cons_of_mem _ hx)) (by omega) (BitVec.eq_of_toNat_eq h4.1) x hx

def xorB (z : Int) (t : Nat) : Int := ((z.toNat ^^^ t : Nat) : Int)

theorem xorB_range {z : Int} {t : Nat} (hz : 0 ≤ z ∧ z ≤ 255) (ht : t < 256) : 0 ≤ xorB z t ∧ xorB z t ≤ 255 := by
  have : z.toNat ^^^ t < 2 ^ 8 := Nat.xor_lt_two_pow (by omega) (by omega)
  unfold xorB; omega

theorem ofInt_xorB {z : Int} {t : Nat} (hz : 0 ≤ z ∧ z ≤ 255) (ht : t < 256) : BitVec.ofInt 32 (xorB z t) = BitVec.ofInt 32 z ^^^ BitVec.ofNat 32 t := by
  obtain ⟨n, rfl⟩ := Int.eq_ofNat_of_zero_le hz.1
  apply BitVec.eq_of_toNat_eq
  unfold xorB
  rw [Int.toNat_natCast, BitVec.ofInt_natCast, BitVec.ofInt_natCast, BitVec.toNat_xor, BitVec.toNat_ofNat, BitVec.toNat_ofNat, BitVec.toNat_ofNat]
  have : n ^^^ t < 2 ^ 8 := Nat.xor_lt_two_pow (by omega) (by omega)
  rw [Nat.mod_eq_of_lt (by omega), Nat.mod_eq_of_lt (by omega), Nat.mod_eq_of_lt (by omega)]

theorem crc_diffs : ∀ (ds : List Nat) (xs post : List Int) (c : BitVec 32), xs.length = ds.length → ds.length ≤ 4 → (∀ d ∈ ds, d < 256) → (∀ x ∈ xs, 0 ≤ x ∧ x ≤ 255) →
    crcL (List.zipWith xorB xs ds ++ post) c = crcL (xs ++ post) (c ^^^ diffs ds) := by
  intro ds
  induction ds with
  | nil =>
    intro xs post c hl _ _ _
    have : xs = [] := List.eq_nil_of_length_eq_zero (by simpa using hl)
    subst this
    simp [diffs]
  | cons d ds ih =>
    intro xs post c hl h4 hd hx
    cases xs with
    | nil => simp at hl
    | cons x xs =>
      simp only [List.length_cons, Nat.add_right_cancel_iff] at hl h4
      have hx0 := hx x (List.mem_cons_self ..)
      have hd0 := hd d (List.mem_cons_self ..)
      have hlt := diffs_lt (ds := ds) (fun y hy => hd y (List.mem_cons_of_mem _ hy)) (by omega)
      have hle : 2 ^ (8 * ds.length) ≤ 2 ^ (32 - 8) := Nat.pow_le_pow_right (by omega) (by omega)
      simp only [List.zipWith_cons_cons, List.cons_append]
      show crcL (List.zipWith xorB xs ds ++ post) (s8 8 (c ^^^ BitVec.ofInt 32 (xorB x d))) = crcL (xs ++ post) (s8 8 (c ^^^ diffs (d :: ds) ^^^ BitVec.ofInt 32 x))
      rw [ih xs post _ hl (by omega) (fun y hy => hd y (List.mem_cons_of_mem _ hy)) (fun y hy => hx y (List.mem_cons_of_mem _ hy)), ofInt_xorB hx0 hd0, ← s8_high 8 _ _ (by omega) (by omega)]
      congr 2
      show _ = c ^^^ (BitVec.ofNat 32 d ^^^ (diffs ds <<< 8)) ^^^ BitVec.ofInt 32 x
      ac_rfl

/-- Another sum. -/
theorem sum_turned {pre xs post : List Int} {ds : List Nat} (hl : xs.length = ds.length) (h4 : ds.length ≤ 4) (hd : ∀ d ∈ ds, d < 256) (hx : ∀ x ∈ xs, 0 ≤ x ∧ x ≤ 255) (hne : ∃ d ∈ ds, d ≠ 0) :
    sumL (pre ++ (List.zipWith xorB xs ds ++ post)) ≠ sumL (pre ++ (xs ++ post)) := by
  intro h
  unfold sumL at h
  have h1 := congrArg (fun x => ~~~ x) h
  simp only [BitVec.not_not] at h1
  rw [crcL_append pre, crcL_append pre, crc_diffs ds xs post _ hl h4 hd hx] at h1
  have h2 := crcL_inj _ h1
  have h3 : diffs ds = 0#32 := by
    have h4' : crcL pre (BitVec.allOnes 32) ^^^ diffs ds = crcL pre (BitVec.allOnes 32) ^^^ 0#32 := by rw [h2, BitVec.xor_zero]
    rw [BitVec.xor_comm, BitVec.xor_comm (crcL pre _) 0#32] at h4'
    exact xor_cancel h4'
  obtain ⟨d, hdm, hd0⟩ := hne
  exact hd0 (diffs_zero hd h4 h3 d hdm)

end Go.Proofs.Ytaigiehdnhehnaa
