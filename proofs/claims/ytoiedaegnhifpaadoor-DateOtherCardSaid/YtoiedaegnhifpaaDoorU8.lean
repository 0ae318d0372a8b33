/-
  date.Format.
-/
import Derived.Test.YtoiedaegnhifpaaDoorU7
set_option maxRecDepth 100000
set_option linter.unusedVariables false
set_option linter.unusedSimpArgs false
namespace Go.Proofs.YtoiedaegnhifpaaDoor
open Go Go.Abs Go.Shelf Go.RowKit Go.Abs.K

theorem gl_S {H : Heap} {n id : Nat} {o : Option AObj} (hid : 8 ≤ id) : globsOK ⟨H.put id o, n⟩ gS = globsOK ⟨H, 8⟩ gS := by
  unfold gS globsOK
  simp only [List.all_cons, List.all_nil, Heap.get_put]
  rw [if_neg (by omega)]
theorem gl_P {H : Heap} {n id : Nat} {o : Option AObj} (hid : 8 ≤ id) : globsOK ⟨H.put id o, n⟩ gP = globsOK ⟨H, 8⟩ gP := by
  unfold gP globsOK
  simp only [List.all_cons, List.all_nil, Heap.get_put]
  rw [if_neg (by omega)]

theorem dec_le2 {n : Int} (h : n ≤ 99) : (Lib.decDigits n.toNat).length ≤ 2 := by
  rw [Lib.decDigits_length]
  by_cases h1 : n.toNat < 10
  · rw [Lib.nDigits_small h1]; omega
  · rw [Lib.nDigits_big h1]
    have h2 : n.toNat / 10 < 10 := by omega
    rw [Lib.nDigits_small h2]; omega
theorem pad2_len {n : Int} (h : n ≤ 99) : (padD n 2).length = 2 := by
  unfold padD
  rw [List.length_append, Lib.repeatL_length]
  have := dec_le2 h
  simp only [List.length_cons, List.length_nil]
  omega
theorem pad4_len {n : Int} (h : n ≤ 9999) : (padD n 4).length = 4 := by
  unfold padD
  rw [List.length_append, Lib.repeatL_length]
  have := dec_len h
  simp only [List.length_cons, List.length_nil]
  omega
theorem short_len {k : Nat} (h : k < 7) : (shortL.getD k []).length = 3 := by
  have : ∀ k : Fin 7, (shortL.getD k.val []).length = 3 := by decide
  exact this ⟨k, h⟩
theorem mon_len {k : Nat} (h : k < 12) : (monL.getD k []).length = 3 := by
  have : ∀ k : Fin 12, (monL.getD k.val []).length = 3 := by decide
  exact this ⟨k, h⟩
theorem getD_map {L : List (List UInt8)} {k : Nat} (h : k < L.length) : (L.map S)[k]? = some (S (L.getD k [])) := by
  rw [List.getElem?_map, List.getD_eq_getElem?_getD, List.getElem?_eq_getElem h]
  rfl

theorem F41_of {n : Int} {k : Nat} (h : 0 ≤ n ∧ n ≤ 9999) (hk : k ≤ 9) : F41 [.int .i64 n, .int .i64 (k : Nat)] = some (S (padD n k)) := by
  show (if _ then some (S (padD n ((k : Nat) : Int).toNat)) else none) = _
  rw [if_pos (by omega), Int.toNat_natCast]

set_option maxHeartbeats 1000000 in
theorem walk16 {ov : CallSem} (h40 : Has ov 40 [] F40) (h41 : Has ov 41 gP F41) (h42 : HasR ov 42 gS 9 fieldsF) (h43 : Has ov 43 [] F43) {H : Heap} (hS : globsOK ⟨H, 8⟩ gS = true) (hP : globsOK ⟨H, 8⟩ gP = true) : ∀ args v, F16 args = some v → deepV 3 v = true ∧ WCall (solo 16 fun16 ov) 16 args ⟨H, 8⟩ fun u _ => u = v := by
  intro args v h
  unfold F16 at h
  split at h
  case h_2 => cases h
  rename_i sec
  split at h
  case isFalse => cases h
  rename_i hn
  cases h
  refine ⟨by cases formatD sec <;> rfl, ?_⟩
  refine solo_of rfl fun cs hcs => ?_
  obtain ⟨q, hq⟩ : ∃ q, q = sec.tdiv 86400 := ⟨_, rfl⟩
  obtain ⟨r, hr⟩ : ∃ r, r = sec.tmod 86400 := ⟨_, rfl⟩
  have hqr := Int.tmod_add_mul_tdiv sec 86400
  rw [← hq, ← hr] at hqr
  have hr1 := Int.tmod_lt_of_pos sec (show (0 : Int) < 86400 by decide)
  have hr2 := Int.lt_tmod_of_pos sec (show (0 : Int) < 86400 by decide)
  have hr3 : 0 ≤ sec → 0 ≤ r := fun h => by rw [hr]; exact Int.tmod_nonneg _ h
  rw [← hr] at hr1 hr2
  have hwq : IntKind.i64.wrap q = q := wrap64 (by omega) (by omega)
  have b1 : binV .quo (.int .i64 sec) (.int .i64 86400) = some (.int .i64 q) := by
    simp [binV, ← hq, hwq]
  have b2 : binV .rem (.int .i64 sec) (.int .i64 86400) = some (.int .i64 r) := by
    simp [binV, ← hr]
  obtain ⟨n, hnn⟩ : ∃ n, n = sec / 86400 := ⟨_, rfl⟩
  obtain ⟨t, htt⟩ : ∃ t, t = sec % 86400 := ⟨_, rfl⟩
  have w1 : IntKind.i64.wrap (q - 1) = q - 1 := wrap64 (by omega) (by omega)
  have w2 : IntKind.i64.wrap (r + 86400) = r + 86400 := wrap64 (by omega) (by omega)
  unfold formatD
  rw [← hnn, ← htt]
  have ht : 0 ≤ t ∧ t < 86400 := by omega
  have c40 : ∀ s K, WCall cs 40 [.int .i64 n] s K = K (if okD n then .tuple #[.int .i64 (yearD (n + 719528)), .int .i64 (monthD (n + 719528)).1, .int .i64 ((monthD (n + 719528)).2 + 1), .bool true] else .tuple #[.int .i64 0, .int .i64 0, .int .i64 0, .bool false]) s := fun s K => h40.call hcs (by decide) rfl (by cases okD n <;> rfl) rfl K
  cases hok : okD n
  · rw [hok] at c40
    simp only [Bool.false_eq_true, if_false] at c40 ⊢
    by_cases h0 : r < 0
    · have d1 : decide (r < 0) = true := decide_eq_true h0
      have e1 : q - 1 = n := by omega
      have e2 : r + 86400 = t := by omega
      rw [e1] at w1
      rw [e2] at w2
      simp -implicitDefEqProofs only [fun16, code16, params, go_sem, b1, b2, d1, e1, e2, w1, w2, c40]
    · have d1 : decide (r < 0) = false := decide_eq_false h0
      have e1 : q = n := by omega
      subst e1
      simp -implicitDefEqProofs only [fun16, code16, params, go_sem, b1, b2, d1, c40]
  · rw [hok] at c40
    simp only [if_true] at c40 ⊢
    have hnb : -719528 ≤ n ∧ n ≤ 2932896 := by
      unfold okD at hok
      simpa using hok
    obtain ⟨m1, m2, m3, m4, m5⟩ := monthD_spec (n := n + 719528) (by omega) (by omega)
    obtain ⟨y1, y2, y3, y4⟩ := yearD_spec (n := n + 719528) (by omega) (by omega)
    obtain ⟨y, hy⟩ : ∃ y, y = yearD (n + 719528) := ⟨_, rfl⟩
    obtain ⟨m, hm⟩ : ∃ m, m = (monthD (n + 719528)).1 := ⟨_, rfl⟩
    obtain ⟨d, hd⟩ : ∃ d, d = (monthD (n + 719528)).2 + 1 := ⟨_, rfl⟩
    rw [← hy, ← hm, ← hd] at c40 ⊢
    rw [← hy] at y3 y4 m4
    rw [← hm] at m1 m2 m4
    have hlb := length_bound y m
    have hdb : 0 ≤ d ∧ d ≤ 99 := by omega
    obtain ⟨wn, hw⟩ : ∃ wn : Nat, (n + 3) % 7 = (wn : Int) := ⟨((n + 3) % 7).toNat, by omega⟩
    obtain ⟨mn, hmn⟩ : ∃ mn : Nat, m - 1 = (mn : Int) := ⟨(m - 1).toNat, by omega⟩
    have hw7 : wn < 7 := by omega
    have hm12 : mn < 12 := by omega
    have w3 : IntKind.i64.wrap (mn : Int) = (mn : Int) := wrap64 (by omega) (by omega)
    have c43 : ∀ s K, WCall cs 43 [.int .i64 n] s K = K (.int .i64 (wn : Int)) s := fun s K => h43.call hcs (by decide) (by rw [F43_of (by omega), hw]) rfl rfl K
    have c41 : ∀ (x : Int) (k : Nat), 0 ≤ x ∧ x ≤ 9999 → k ≤ 9 → ∀ s, globsOK s gP = true → ∀ K, WCall cs 41 [.int .i64 x, .int .i64 (k : Nat)] s K = K (S (padD x k)) s := fun x k hx hk s hs K => h41.call hcs (by decide) (F41_of hx hk) rfl hs K
    have p1 : ∀ s, globsOK s gP = true → ∀ K, WCall cs 41 [.int .i64 (t / 3600), .int .i64 2] s K = K (S (padD (t / 3600) 2)) s := c41 (t / 3600) 2 (by omega) (by omega)
    have p2 : ∀ s, globsOK s gP = true → ∀ K, WCall cs 41 [.int .i64 (t / 60 % 60), .int .i64 2] s K = K (S (padD (t / 60 % 60) 2)) s := c41 (t / 60 % 60) 2 (by omega) (by omega)
    have p3 : ∀ s, globsOK s gP = true → ∀ K, WCall cs 41 [.int .i64 (t % 60), .int .i64 2] s K = K (S (padD (t % 60) 2)) s := c41 (t % 60) 2 (by omega) (by omega)
    have p4 : ∀ s, globsOK s gP = true → ∀ K, WCall cs 41 [.int .i64 (d), .int .i64 2] s K = K (S (padD (d) 2)) s := c41 (d) 2 (by omega) (by omega)
    have p5 : ∀ s, globsOK s gP = true → ∀ K, WCall cs 41 [.int .i64 (y), .int .i64 4] s K = K (S (padD (y) 4)) s := c41 (y) 4 (by omega) (by omega)
    have l1 := pad2_len (n := t / 3600) (by omega)
    have l2 := pad2_len (n := t / 60 % 60) (by omega)
    have l3 := pad2_len (n := t % 60) (by omega)
    have l4 := pad2_len (n := d) (by omega)
    have l5 := pad4_len (n := y) (by omega)
    have l6 := short_len hw7
    have l7 := mon_len hm12
    have q1 := bv_quo (x := t) (c := 3600) (by omega) (by decide) (by omega)
    have q2 := bv_quo (x := t) (c := 60) (by omega) (by decide) (by omega)
    have q3 := bv_rem (x := t / 60) (c := 60) (by omega) (by decide)
    have q4 := bv_rem (x := t) (c := 60) (by omega) (by decide)
    have f1 : ∀ s, globsOK s gS = true → ∀ K, WCall cs 42 [S shortT] s K = K (.slice (some ⟨s.next, 0, none⟩) 7 7) ⟨s.heap.put s.next (some (.cells (shortL.map S) 9 1 false)), s.next + 1⟩ := fun s hs K => h42.call (tbl := tbl1 16 fun16) hcs rfl (by rw [fields_of (l := shortT) (by decide +kernel), fields_short]) (by decide) rfl hs K
    have f2 : ∀ s, globsOK s gS = true → ∀ K, WCall cs 42 [S monT] s K = K (.slice (some ⟨s.next, 0, none⟩) 12 12) ⟨s.heap.put s.next (some (.cells (monL.map S) 9 1 false)), s.next + 1⟩ := fun s hs K => h42.call (tbl := tbl1 16 fun16) hcs rfl (by rw [fields_of (l := monT) (by decide +kernel), fields_mon]) (by decide) rfl hs K
    have g1 : (shortL.map S)[wn]? = some (S (shortL.getD wn [])) := getD_map (by exact hw7)
    have g2 : (monL.map S)[mn]? = some (S (monL.getD mn [])) := getD_map (by exact hm12)
    have i1 : 0 ≤ (wn : Int) ∧ (wn : Int) < ((7 : Nat) : Int) := by omega
    have i2 : 0 ≤ (mn : Int) ∧ (mn : Int) < ((12 : Nat) : Int) := by omega
    have tm : (m - 1).toNat = mn := by omega
    have tw : ((n + 3) % 7).toNat = wn := by omega
    by_cases h0 : r < 0
    · have d1 : decide (r < 0) = true := decide_eq_true h0
      have e1 : q - 1 = n := by omega
      have e2 : r + 86400 = t := by omega
      rw [e1] at w1
      rw [e2] at w2
      simp -implicitDefEqProofs only [fun16, code16, params, go_sem, b1, b2, d1, e1, e2, w1, w2, c40, q1, q2, q3, q4, hmn, w3, c43, p1, p2, p3, p4, p5, f1, f2, i1, i2, g1, g2, gl_S, gl_P, hS, hP, Heap.get_put, bs_add, List.length_append, List.length_cons, List.length_nil, l1, l2, l3, l4, l5, l6, l7]
      refine ⟨fun i hi f' hf' => ?_, ?_⟩
      · simp only [List.mem_cons, List.not_mem_nil, or_false] at hi
        rcases hi with rfl | rfl | rfl <;> cases hf'
        · exact fun _ _ => rfl
        · intro id hid
          have hid : id < 9 ∨ 10 ≤ id := hid
          show Heap.get (Heap.put _ _ _) id = Heap.get (Heap.put _ _ _) id
          rw [Heap.get_put, if_neg (by omega)]
        · exact fun _ _ => rfl
      · unfold textD
        rw [tm, tw]
    · have d1 : decide (r < 0) = false := decide_eq_false h0
      have e1 : q = n := by omega
      have e2 : r = t := by omega
      subst e1 e2
      simp -implicitDefEqProofs only [fun16, code16, params, go_sem, b1, b2, d1, c40, q1, q2, q3, q4, hmn, w3, c43, p1, p2, p3, p4, p5, f1, f2, i1, i2, g1, g2, gl_S, gl_P, hS, hP, Heap.get_put, bs_add, List.length_append, List.length_cons, List.length_nil, l1, l2, l3, l4, l5, l6, l7]
      refine ⟨fun i hi f' hf' => ?_, ?_⟩
      · simp only [List.mem_cons, List.not_mem_nil, or_false] at hi
        rcases hi with rfl | rfl | rfl <;> cases hf'
        · exact fun _ _ => rfl
        · intro id hid
          have hid : id < 9 ∨ 10 ≤ id := hid
          show Heap.get (Heap.put _ _ _) id = Heap.get (Heap.put _ _ _) id
          rw [Heap.get_put, if_neg (by omega)]
        · exact fun _ _ => rfl
      · unfold textD
        rw [tm, tw]
end Go.Proofs.YtoiedaegnhifpaaDoor
