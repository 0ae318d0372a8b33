/-
  Any bytes: the records that they begin with have these bytes.
-/
import Derived.Test.YtaigiehdnhehnaaR1Snd
set_option maxRecDepth 100000
set_option linter.unusedVariables false
set_option linter.unusedSimpArgs false
namespace Go.Proofs.Ytaigiehdnhehnaa
open Go Go.Abs

theorem valA_eq : ∀ (xs : List Int) (acc : Nat), valA acc xs = acc * 256 ^ xs.length + valL xs := by
  intro xs
  induction xs with
  | nil => intro acc; simp [valA, valL]
  | cons x xs ih =>
    intro acc
    show valA (acc * 256 + x.toNat) xs = acc * 256 ^ (xs.length + 1) + valA (0 * 256 + x.toNat) xs
    rw [ih, ih (0 * 256 + x.toNat), Nat.pow_succ, Nat.add_mul, Nat.zero_mul, Nat.zero_add]
    have : acc * 256 * 256 ^ xs.length = acc * (256 ^ xs.length * 256) := by rw [Nat.mul_assoc, Nat.mul_comm 256]
    omega

theorem beL_add (a v m : Nat) : ∀ k, k ≤ m → beL (a * 256 ^ m + v) k = beL v k := by
  intro k
  induction k with
  | zero => intro _; rfl
  | succ k ih =>
    intro hk
    simp only [beL]
    rw [ih (by omega)]
    have h1 : a * 256 ^ m + v = v + (a * 256 ^ (m - k - 1) * 256) * 256 ^ k := by
      have h2 : 256 ^ m = 256 ^ (m - k - 1) * 256 * 256 ^ k := by
        rw [← Nat.pow_succ, ← Nat.pow_add]; congr 1; omega
      rw [h2, ← Nat.mul_assoc, ← Nat.mul_assoc, Nat.add_comm]
    rw [h1, Nat.add_mul_div_right _ _ (Nat.pow_pos (by omega)), Nat.add_mul_mod_self_right]

theorem beL_valL : ∀ (xs : List Int), (∀ x ∈ xs, 0 ≤ x ∧ x ≤ 255) → beL (valL xs) xs.length = xs := by
  intro xs
  induction xs with
  | nil => intro _; rfl
  | cons x xs ih =>
    intro h
    have hx := h x (List.mem_cons_self ..)
    have ht := fun y hy => h y (List.mem_cons_of_mem x hy)
    have hlt := valL_lt ht
    have hv : valL (x :: xs) = x.toNat * 256 ^ xs.length + valL xs := by
      show valA (0 * 256 + x.toNat) xs = _
      rw [valA_eq, Nat.zero_mul, Nat.zero_add]
    have hpos : 0 < 256 ^ xs.length := Nat.pow_pos (by omega)
    simp only [List.length_cons, beL]
    rw [hv, beL_add _ _ _ _ (Nat.le_refl _), ih ht, Nat.add_comm (x.toNat * _), Nat.add_mul_div_right _ _ hpos, Nat.div_eq_of_lt hlt, Nat.zero_add, Nat.mod_eq_of_lt (by omega)]
    congr 1
    omega

theorem cut_cat (zs : List Int) {a b c : Nat} (h1 : a ≤ b) (h2 : b ≤ c) (h3 : c ≤ zs.length) : (zs.take b).drop a ++ (zs.take c).drop b = (zs.take c).drop a := by
  have e : zs.take b = (zs.take c).take b := by rw [List.take_take]; congr 1; omega
  rw [e]
  generalize zs.take c = ys
  rw [List.drop_take]
  have : ys.drop b = (ys.drop a).drop (b - a) := by rw [List.drop_drop]; congr 1; omega
  rw [this, List.take_append_drop]

theorem cut_end (zs : List Int) {a b : Nat} (h1 : a ≤ b) (h2 : b ≤ zs.length) : (zs.take b).drop a ++ zs.drop b = zs.drop a := by
  have := cut_cat zs h1 h2 (Nat.le_refl _)
  rwa [List.take_length] at this

theorem cut_len (zs : List Int) {a b : Nat} (h1 : a ≤ b) (h2 : b ≤ zs.length) : ((zs.take b).drop a).length = b - a := by
  rw [List.length_drop, List.length_take]; omega

theorem cut_range {zs : List Int} (h : ∀ z ∈ zs, 0 ≤ z ∧ z ≤ 255) (a b : Nat) : ∀ z ∈ (zs.take b).drop a, 0 ≤ z ∧ z ≤ 255 :=
  fun z hz => h z (List.mem_of_mem_take (List.mem_of_mem_drop hz))

theorem i64w_nonneg {n : Nat} (hn : n < 18446744073709551616) (h : 0 ≤ i64w n) : (i64w n).toNat = n := by
  unfold i64w at *
  have e : IntKind.i64.wrap (n : Int) = (if (n : Int) % 18446744073709551616 ≥ 9223372036854775808 then (n : Int) % 18446744073709551616 - 18446744073709551616 else (n : Int) % 18446744073709551616) := by
    simp [IntKind.wrap, IntKind.signed, IntKind.bits]
  rw [e] at h ⊢
  by_cases hc : (n : Int) % 18446744073709551616 ≥ 9223372036854775808
  · rw [if_pos hc] at h; omega
  · rw [if_neg hc]; omega

theorem body_dec {zs : List Int} {r : FRec} (hz : ∀ z ∈ zs, 0 ≤ z ∧ z ≤ 255) (hd : decL zs = some r) (hr : r.sound = true) : bodyL r = zs := by
  unfold decL at hd
  split at hd
  case isFalse => cases hd
  rename_i hc
  obtain ⟨h20, hN⟩ := hc
  simp only [Option.some.injEq] at hd
  obtain ⟨_, _, s3, s4, _⟩ := r.of_sound hr
  have l1 := cut_len zs (a := 2) (b := 10) (by omega) (by omega)
  have l2 := cut_len zs (a := 10) (b := 18) (by omega) (by omega)
  have l3 := cut_len zs (a := 18) (b := 20) (by omega) (by omega)
  have l4 := cut_len zs (a := 20) (b := 20 + hostN zs) (by omega) (by omega)
  have b1 := beL_valL _ (cut_range hz 2 10)
  have b2 := beL_valL _ (cut_range hz 10 18)
  have b3 := beL_valL _ (cut_range hz 18 20)
  have v1 := valL_lt (cut_range hz 2 10)
  have v2 := valL_lt (cut_range hz 10 18)
  rw [l1] at b1 v1
  rw [l2] at b2 v2
  rw [l3] at b3
  have e1 : r.id.toNat = valL ((zs.take 10).drop 2) := by
    rw [← hd] at s3 ⊢
    exact i64w_nonneg v1 s3
  have e2 : r.till.toNat = valL ((zs.take 18).drop 10) := by
    rw [← hd] at s4 ⊢
    exact i64w_nonneg v2 s4
  have e3 : r.host.size = hostN zs := by
    rw [← hd]; show (toB _).size = _; rw [toB_size, l4]; omega
  have e4 : strL r.host = (zs.take (20 + hostN zs)).drop 20 := by
    rw [← hd]; exact strL_toB (cut_range hz _ _)
  have e5 : strL r.path = zs.drop (20 + hostN zs) := by
    rw [← hd]; exact strL_toB (fun z h => hz z (List.mem_of_mem_drop h))
  have e6 : r.kind = zs.getD 0 0 := by rw [← hd]; rfl
  have e7 : r.prio = zs.getD 1 0 := by rw [← hd]; rfl
  have e8 : [zs.getD 0 0, zs.getD 1 0] = zs.take 2 := by
    match zs, h20 with
    | a :: b :: l, _ => rfl
  have e9 : beL (hostN zs) 2 = (zs.take 20).drop 18 := b3
  simp only [bodyL]
  rw [e1, e2, e3, e4, e5, e6, e7, e8, b1, b2, e9]
  have t2 : zs.take 2 = (zs.take 2).drop 0 := by rw [List.drop_zero]
  rw [t2, cut_cat zs (by omega) (by omega) (by omega), cut_cat zs (by omega) (by omega) (by omega), cut_cat zs (by omega) (by omega) (by omega), cut_cat zs (by omega) (by omega) (by omega), cut_end zs (by omega) (by omega), List.drop_zero]

theorem step_bytes {zs : List Int} {i : Nat} {p : FRec × Nat} (hz : ∀ z ∈ zs, 0 ≤ z ∧ z ≤ 255) (h : stepL zs i = some p) : p.1.sound = true ∧ (zs.take p.2).drop i = recL p.1 := by
  unfold stepL at h
  split at h
  case isFalse => cases h
  rename_i hc
  split at h
  case h_2 => cases h
  rename_i r hd
  split at h
  case isFalse => cases h
  rename_i hs
  cases h
  have hr := hs.2
  have hb : bodyL r = partAt zs i := body_dec (cut_range hz _ _) hd hr
  have l1 := cut_len zs (a := i) (b := i + 2) (by omega) (by omega)
  have l2 := cut_len zs (a := i + 2) (b := i + 6) (by omega) (by omega)
  have lp : (partAt zs i).length = lenAt zs i := by
    unfold partAt; rw [cut_len zs (by omega) (by omega)]; omega
  have b1 := beL_valL _ (cut_range hz i (i + 2))
  have b2 := beL_valL _ (cut_range hz (i + 2) (i + 6))
  rw [l1] at b1
  rw [l2] at b2
  refine ⟨hr, ?_⟩
  unfold recL
  rw [hb, lp, hs.1]
  have e1 : beL (lenAt zs i) 2 = (zs.take (i + 2)).drop i := by
    have : i + 2 - i = 2 := by omega
    rw [this] at b1; exact b1
  have e2 : beL (sumAt zs i) 4 = (zs.take (i + 6)).drop (i + 2) := by
    have : i + 6 - (i + 2) = 4 := by omega
    rw [this] at b2; exact b2
  rw [e1, e2]
  unfold partAt
  rw [cut_cat zs (by omega) (by omega) (by omega), cut_cat zs (by omega) (by omega) (by omega)]

theorem scan_bytes : ∀ (f : Nat) (zs : List Int) (i : Nat), (∀ z ∈ zs, 0 ≤ z ∧ z ≤ 255) → zs.length ≤ i + f → i ≤ zs.length →
    (scanL f zs i).2 ≤ zs.length ∧ i ≤ (scanL f zs i).2 ∧ (∀ r ∈ (scanL f zs i).1, r.sound = true) ∧ (zs.take (scanL f zs i).2).drop i = ((scanL f zs i).1.map recL).flatten ∧ stepL zs (scanL f zs i).2 = none := by
  intro f
  induction f with
  | zero =>
    intro zs i hz h1 h2
    have : i = zs.length := by omega
    subst this
    exact ⟨Nat.le_refl _, Nat.le_refl _, by simp [scanL], by simp [scanL], step_end _ (by simp [scanL])⟩
  | succ f ih =>
    intro zs i hz h1 h2
    cases hs : stepL zs i with
    | none =>
      simp only [scanL, hs]
      exact ⟨h2, Nat.le_refl _, by simp, by simp, trivial⟩
    | some p =>
      have hb := stepL_bound hs
      obtain ⟨hr, hrec⟩ := step_bytes hz hs
      obtain ⟨k1, k2, k3, k4, k5⟩ := ih zs p.2 hz (by omega) (by omega)
      simp only [scanL, hs]
      refine ⟨k1, by omega, fun r hr' => ?_, ?_, k5⟩
      · rcases List.mem_cons.1 hr' with rfl | hr'
        · exact hr
        · exact k3 r hr'
      · simp only [List.map_cons, List.flatten_cons]
        rw [← hrec, ← k4, cut_cat zs (by omega) k2 k1]

theorem take_drop' (zs : List Int) (n k m : Nat) : ((zs.drop n).take k).drop m = (zs.take (n + k)).drop (n + m) := by
  rw [List.take_drop, List.drop_drop]

theorem step_drop {zs : List Int} {n : Nat} (hn : n ≤ zs.length) (h : stepL zs n = none) : stepL (zs.drop n) 0 = none := by
  have h1 : lenAt (zs.drop n) 0 = lenAt zs n := by
    unfold lenAt; rw [take_drop', Nat.zero_add, Nat.add_zero]
  have h2 : sumAt (zs.drop n) 0 = sumAt zs n := by
    unfold sumAt; rw [take_drop', Nat.zero_add, Nat.zero_add]
  have h3 : partAt (zs.drop n) 0 = partAt zs n := by
    unfold partAt; rw [take_drop', h1, Nat.zero_add]
    congr 2; omega
  unfold stepL at h ⊢
  rw [h1, h2, h3, List.length_drop]
  by_cases hc : n + 6 ≤ zs.length ∧ n + 6 + lenAt zs n ≤ zs.length
  · rw [if_pos hc] at h
    rw [if_pos ⟨by omega, by omega⟩]
    split at h
    · rename_i r hd
      split at h
      · cases h
      · rename_i hne; rw [if_neg hne]
    · rfl
  · rw [if_neg (by omega)]

end Go.Proofs.Ytaigiehdnhehnaa
