/-
  date: clock, first.
-/
import Derived.Test.YtoiedaegnhifpaaDoorU8
set_option maxRecDepth 100000
set_option linter.unusedVariables false
set_option linter.unusedSimpArgs false
namespace Go.Proofs.YtoiedaegnhifpaaDoor
open Go Go.Abs Go.Shelf Go.RowKit Go.Abs.K

def clk (h m n : Int) : Int := if 0 ≤ h ∧ h ≤ 23 ∧ 0 ≤ m ∧ m ≤ 59 ∧ 0 ≤ n ∧ n ≤ 59 then (h * 60 + m) * 60 + n else -1
def clockD (l : List UInt8) : Int := match spl 58 l with
  | [a, b, c] => clk (numK a 2) (numK b 2) (numK c 2)
  | _ => -1
def F65 : List Value → Option Value
  | [.string s] => if s.size < 4294967281 then some (.int .i64 (clockD (bl s))) else none
  | _ => none
theorem F65_of {l : List UInt8} (h : l.length < 4294967281) : F65 [S l] = some (.int .i64 (clockD l)) := if_pos (by rw [sizeS]; exact h)
abbrev Parts := Int × Int × Int × Int × Int
def firstD (l : List UInt8) : Option Parts := match spl 32 l with
  | [w0, w1, w2, w3, w4, w5] => if w5 = [71, 77, 84] ∧ sufD w0 [44] = true then some (idxD shortL (trimD w0 [44]), numK w3 4, 1 + idxD monL w2, numK w1 2, clockD w4) else none
  | _ => none
def optP : Option Parts → Value
  | some (w, y, m, d, c) => .tuple #[partsV w y m d c, .bool true]
  | none => .tuple #[partsV 0 0 0 0 0, .bool false]
def F32 : List Value → Option Value
  | [.string s] => if s.size < 4294967281 then some (optP (firstD (bl s))) else none
  | _ => none
theorem F32_of {l : List UInt8} (h : l.length < 4294967281) : F32 [S l] = some (optP (firstD l)) := if_pos (by rw [sizeS]; exact h)

theorem spl_len {c : UInt8} : ∀ {l p : List UInt8}, p ∈ spl c l → p.length ≤ l.length := by
  intro l
  induction l with
  | nil => intro p h; rw [spl, List.mem_singleton] at h; rw [h]; exact Nat.le_refl _
  | cons b l ih =>
    intro p h
    rw [spl] at h
    split at h
    · rcases List.mem_cons.1 h with rfl | h
      · exact Nat.zero_le _
      · have := ih h; rw [List.length_cons]; omega
    · split at h
      · rename_i q qs hq
        rcases List.mem_cons.1 h with rfl | h
        · have := ih (p := q) (by rw [hq]; exact List.mem_cons_self ..); simp only [List.length_cons]; omega
        · have := ih (p := p) (by rw [hq]; exact List.mem_cons_of_mem _ h); rw [List.length_cons]; omega
      · rw [List.mem_singleton] at h; rw [h]; simp
theorem len3 {α : Type} {l : List α} (h : l.length = 3) : ∃ a b c, l = [a, b, c] := by
  match l, h with
  | [a, b, c], _ => exact ⟨a, b, c, rfl⟩
theorem len4 {α : Type} {l : List α} (h : l.length = 4) : ∃ a b c d, l = [a, b, c, d] := by
  match l, h with
  | [a, b, c, d], _ => exact ⟨a, b, c, d, rfl⟩
theorem len6 {α : Type} {l : List α} (h : l.length = 6) : ∃ a b c d e f, l = [a, b, c, d, e, f] := by
  match l, h with
  | [a, b, c, d, e, f], _ => exact ⟨a, b, c, d, e, f, rfl⟩
theorem idx_bound (w : List UInt8) : ∀ (L : List (List UInt8)) (i : Nat), -1 ≤ idxGo w i L ∧ idxGo w i L < i + L.length := by
  intro L
  induction L with
  | nil => intro i; rw [idxGo]; simp; omega
  | cons x L ih =>
    intro i
    rw [idxGo]
    have := ih (i + 1)
    simp only [List.length_cons]
    split <;> omega
theorem mon_bound (w : List UInt8) : -1 ≤ idxD monL w ∧ idxD monL w < 12 := by
  have := idx_bound w monL 0
  have e : monL.length = 12 := rfl
  unfold idxD
  omega
theorem clk_bound (h m n : Int) : -1 ≤ clk h m n ∧ clk h m n ≤ 86399 := by
  unfold clk
  split <;> omega
theorem clock_bound (l : List UInt8) : -1 ≤ clockD l ∧ clockD l ≤ 86399 := by
  unfold clockD
  split
  · exact clk_bound _ _ _
  · omega

def tbl65 : FuncId → Option AFun := tblOf [(65, fun65), (51, fun51)]
theorem walk65 {ov : CallSem} (h75 : HasR ov 75 [] 9 splitF) (h64 : Has ov 64 [] F64) (H : Heap) : ∀ args v, F65 args = some v → deepV 3 v = true ∧ WCall (fun k => call tbl65 ov k) 65 args ⟨H, 8⟩ fun u _ => u = v := by
  intro args v h
  unfold F65 at h
  split at h
  case h_2 => cases h
  rename_i a0
  split at h
  case isFalse => cases h
  rename_i hk
  cases h
  obtain ⟨l, rfl⟩ := ba_of a0
  rw [sizeS] at hk
  refine ⟨rfl, ?_⟩
  refine WCall.of (fn := fun65) rfl rfl ?_
  have c51 := fun s K => r51 (tbl := tbl65) (ov := ov) rfl rfl h75 (s := s) hk 58 K
  obtain ⟨cs, hcs⟩ : ∃ cs, cs = fun k => call tbl65 ov k := ⟨_, rfl⟩
  rw [← hcs] at c51 ⊢
  show WCode _ _ _ _ (ends fun65.res fun u _ => u = .int .i64 (clockD l))
  unfold clockD
  by_cases h3 : (spl 58 l).length = 3
  case neg =>
    have d1 : (((spl 58 l).length : Int) != 3) = true := by simp; omega
    simp -implicitDefEqProofs only [fun65, code65, params, go_sem, c51, d1]
    split
    · rename_i a b c e
      rw [e] at h3
      exact absurd rfl h3
    · rfl
  obtain ⟨a, b, c, e⟩ := len3 h3
  have hmem := fun p (hp : p ∈ spl 58 l) => Nat.lt_of_le_of_lt (spl_len hp) hk
  rw [e] at c51 hmem ⊢
  have ha := hmem a (by simp)
  have hb := hmem b (by simp)
  have hc := hmem c (by simp)
  have k1 : ∀ s K, WCall cs 64 [S a, .int .i64 2] s K = K (.int .i64 (numK a 2)) s := fun s K => h64.callT hcs rfl (F64_of (by omega) ha) rfl rfl K
  have k2 : ∀ s K, WCall cs 64 [S b, .int .i64 2] s K = K (.int .i64 (numK b 2)) s := fun s K => h64.callT hcs rfl (F64_of (by omega) hb) rfl rfl K
  have k3 : ∀ s K, WCall cs 64 [S c, .int .i64 2] s K = K (.int .i64 (numK c 2)) s := fun s K => h64.callT hcs rfl (F64_of (by omega) hc) rfl rfl K
  show WCode _ _ _ _ (ends fun65.res fun u _ => u = .int .i64 (clk (numK a 2) (numK b 2) (numK c 2)))
  generalize numK a 2 = x at k1 ⊢
  generalize numK b 2 = y at k2 ⊢
  generalize numK c 2 = z at k3 ⊢
  simp only [List.length_cons, List.length_nil, List.map_cons, List.map_nil] at c51
  have d0 : ((3 : Nat) : Int) = 3 := rfl
  unfold clk
  by_cases e1 : 0 ≤ x
  case neg =>
    have d1 : decide (x < 0) = true := decide_eq_true (by omega)
    simp -implicitDefEqProofs only [fun65, code65, params, go_sem, c51, d0, d1, k1, k2, k3, Heap.get_put]
    refine ⟨fun i hi f' hf' => by
      simp only [List.mem_cons, List.not_mem_nil, or_false] at hi
      rcases hi with rfl | rfl <;> cases hf' <;> exact fun _ _ => rfl, ?_⟩
    rw [if_neg (by omega)]
  have d1 : decide (x < 0) = false := decide_eq_false (by omega)
  by_cases e2 : x ≤ 23
  case neg =>
    have d2 : decide (x > 23) = true := decide_eq_true (by omega)
    simp -implicitDefEqProofs only [fun65, code65, params, go_sem, c51, d0, d1, d2, k1, k2, k3, Heap.get_put]
    refine ⟨fun i hi f' hf' => by
      simp only [List.mem_cons, List.not_mem_nil, or_false] at hi
      rcases hi with rfl | rfl <;> cases hf' <;> exact fun _ _ => rfl, ?_⟩
    rw [if_neg (by omega)]
  have d2 : decide (x > 23) = false := decide_eq_false (by omega)
  by_cases e3 : 0 ≤ y
  case neg =>
    have d3 : decide (y < 0) = true := decide_eq_true (by omega)
    simp -implicitDefEqProofs only [fun65, code65, params, go_sem, c51, d0, d1, d2, d3, k1, k2, k3, Heap.get_put]
    refine ⟨fun i hi f' hf' => by
      simp only [List.mem_cons, List.not_mem_nil, or_false] at hi
      rcases hi with rfl | rfl <;> cases hf' <;> exact fun _ _ => rfl, ?_⟩
    rw [if_neg (by omega)]
  have d3 : decide (y < 0) = false := decide_eq_false (by omega)
  by_cases e4 : y ≤ 59
  case neg =>
    have d4 : decide (y > 59) = true := decide_eq_true (by omega)
    simp -implicitDefEqProofs only [fun65, code65, params, go_sem, c51, d0, d1, d2, d3, d4, k1, k2, k3, Heap.get_put]
    refine ⟨fun i hi f' hf' => by
      simp only [List.mem_cons, List.not_mem_nil, or_false] at hi
      rcases hi with rfl | rfl <;> cases hf' <;> exact fun _ _ => rfl, ?_⟩
    rw [if_neg (by omega)]
  have d4 : decide (y > 59) = false := decide_eq_false (by omega)
  by_cases e5 : 0 ≤ z
  case neg =>
    have d5 : decide (z < 0) = true := decide_eq_true (by omega)
    simp -implicitDefEqProofs only [fun65, code65, params, go_sem, c51, d0, d1, d2, d3, d4, d5, k1, k2, k3, Heap.get_put]
    refine ⟨fun i hi f' hf' => by
      simp only [List.mem_cons, List.not_mem_nil, or_false] at hi
      rcases hi with rfl | rfl <;> cases hf' <;> exact fun _ _ => rfl, ?_⟩
    rw [if_neg (by omega)]
  have d5 : decide (z < 0) = false := decide_eq_false (by omega)
  by_cases e6 : z ≤ 59
  case neg =>
    have d6 : decide (z > 59) = true := decide_eq_true (by omega)
    simp -implicitDefEqProofs only [fun65, code65, params, go_sem, c51, d0, d1, d2, d3, d4, d5, d6, k1, k2, k3, Heap.get_put]
    refine ⟨fun i hi f' hf' => by
      simp only [List.mem_cons, List.not_mem_nil, or_false] at hi
      rcases hi with rfl | rfl <;> cases hf' <;> exact fun _ _ => rfl, ?_⟩
    rw [if_neg (by omega)]
  have d6 : decide (z > 59) = false := decide_eq_false (by omega)
  have w1 : IntKind.i64.wrap (x * 60) = x * 60 := wrap64 (by omega) (by omega)
  have w2 : IntKind.i64.wrap (x * 60 + y) = x * 60 + y := wrap64 (by omega) (by omega)
  have w3 : IntKind.i64.wrap ((x * 60 + y) * 60) = (x * 60 + y) * 60 := wrap64 (by omega) (by omega)
  have w4 : IntKind.i64.wrap ((x * 60 + y) * 60 + z) = (x * 60 + y) * 60 + z := wrap64 (by omega) (by omega)
  simp -implicitDefEqProofs only [fun65, code65, params, go_sem, c51, d0, d1, d2, d3, d4, d5, d6, k1, k2, k3, Heap.get_put, w1, w2, w3, w4]
  refine ⟨fun i hi f' hf' => by
      simp only [List.mem_cons, List.not_mem_nil, or_false] at hi
      rcases hi with rfl | rfl <;> cases hf' <;> exact fun _ _ => rfl, ?_⟩
  rw [if_pos ⟨e1, e2, e3, e4, e5, e6⟩]

theorem parts_plain (p : Option Parts) : deepV 3 (optP p) = true := by
  cases p with
  | none => rfl
  | some p => rfl

def tbl32 : FuncId → Option AFun := tblOf [(32, fun32), (51, fun51)]
theorem walk32 {ov : CallSem} (h75 : HasR ov 75 [] 9 splitF) (h61 : Has ov 61 [] Fsuf) (h63 : Has ov 63 [] Ftrim) (h62 : Has ov 62 gS F62) (h64 : Has ov 64 [] F64) (h65 : Has ov 65 [] F65) {H : Heap} (hS : globsOK ⟨H, 8⟩ gS = true) : ∀ args v, F32 args = some v → deepV 3 v = true ∧ WCall (fun k => call tbl32 ov k) 32 args ⟨H, 8⟩ fun u _ => u = v := by
  intro args v h
  unfold F32 at h
  split at h
  case h_2 => cases h
  rename_i a0
  split at h
  case isFalse => cases h
  rename_i hk
  cases h
  obtain ⟨l, rfl⟩ := ba_of a0
  rw [sizeS] at hk
  refine ⟨parts_plain _, ?_⟩
  refine WCall.of (fn := fun32) rfl rfl ?_
  have z0 : fillL [.int .i64 0, .int .i64 0, .int .i64 0, .int .i64 0, .int .i64 0] [] = some [.int .i64 0, .int .i64 0, .int .i64 0, .int .i64 0, .int .i64 0] := rfl
  have c51 := fun s K => r51 (tbl := tbl32) (ov := ov) rfl rfl h75 (s := s) hk 32 K
  obtain ⟨cs, hcs⟩ : ∃ cs, cs = fun k => call tbl32 ov k := ⟨_, rfl⟩
  rw [← hcs] at c51 ⊢
  show WCode _ _ _ _ (ends fun32.res fun u _ => u = optP (firstD l))
  unfold firstD
  by_cases h6 : (spl 32 l).length = 6
  case neg =>
    have d1 : (((spl 32 l).length : Int) != 6) = true := by simp; omega
    simp -implicitDefEqProofs only [fun32, code32, params, go_sem, c51, d1, z0, fillL, resV_cell, loadA_n, Heap.get_put]
    split
    · rename_i a b c d e f e0
      rw [e0] at h6
      exact absurd rfl h6
    · rfl
  obtain ⟨w0, w1, w2, w3, w4, w5, e⟩ := len6 h6
  have hmem := fun p (hp : p ∈ spl 32 l) => Nat.lt_of_le_of_lt (spl_len hp) hk
  rw [e] at c51 hmem ⊢
  simp only [List.length_cons, List.length_nil, List.map_cons, List.map_nil] at c51
  have m0 := hmem w0 (by simp)
  have m1 := hmem w1 (by simp)
  have m3 := hmem w3 (by simp)
  have m4 := hmem w4 (by simp)
  have d0 : ((6 : Nat) : Int) = 6 := rfl
  cases d2 : (w5 == [71, 77, 84])
  · have e2 : ¬ w5 = [71, 77, 84] := by simpa using d2
    simp -implicitDefEqProofs only [fun32, code32, params, go_sem, c51, d0, z0, fillL, resV_cell, loadA_n, Heap.get_put, bs_neq, d2, Bool.not_false]
    rw [if_neg (by simp [e2])]
    rfl
  have e2 : w5 = [71, 77, 84] := by simpa using d2
  have k1 : ∀ s K, WCall cs 61 [S w0, S [44]] s K = K (.bool (sufD w0 [44])) s := fun s K => h61.callT hcs rfl (Fsuf_of m0 (by decide)) rfl rfl K
  cases d3 : sufD w0 [44]
  · rw [d3] at k1
    simp -implicitDefEqProofs only [fun32, code32, params, go_sem, c51, d0, z0, fillL, resV_cell, loadA_n, Heap.get_put, bs_neq, d2, Bool.not_true, Bool.not_false, k1]
    rw [if_neg (by simp [d3])]
    rfl
  rw [d3] at k1
  have k2 : ∀ s K, WCall cs 63 [S w0, S [44]] s K = K (S (trimD w0 [44])) s := fun s K => h63.callT hcs rfl (Ftrim_of m0 (by decide)) rfl rfl K
  have k3 : ∀ x s, globsOK s gS = true → ∀ K, WCall cs 62 [S shortT, S x] s K = K (.int .i64 (idxD shortL x)) s := fun x s hs K => h62.callT hcs rfl (by rw [F62_of (a := shortT) (by decide +kernel), fields_short]) rfl hs K
  have k4 : ∀ x s, globsOK s gS = true → ∀ K, WCall cs 62 [S monT, S x] s K = K (.int .i64 (idxD monL x)) s := fun x s hs K => h62.callT hcs rfl (by rw [F62_of (a := monT) (by decide +kernel), fields_mon]) rfl hs K
  have k5 : ∀ s K, WCall cs 64 [S w3, .int .i64 4] s K = K (.int .i64 (numK w3 4)) s := fun s K => h64.callT hcs rfl (F64_of (by omega) m3) rfl rfl K
  have k6 : ∀ s K, WCall cs 64 [S w1, .int .i64 2] s K = K (.int .i64 (numK w1 2)) s := fun s K => h64.callT hcs rfl (F64_of (by omega) m1) rfl rfl K
  have k7 : ∀ s K, WCall cs 65 [S w4] s K = K (.int .i64 (clockD w4)) s := fun s K => h65.callT hcs rfl (F65_of m4) rfl rfl K
  have hmb := mon_bound w2
  have x1 : IntKind.i64.wrap (1 + idxD monL w2) = 1 + idxD monL w2 := wrap64 (by omega) (by omega)
  simp -implicitDefEqProofs only [fun32, code32, params, go_sem, c51, d0, z0, fillL, resV_cell, loadA_n, Heap.get_put, bs_neq, d2, Bool.not_true, Bool.not_false, k1, k2, k3, k4, k5, k6, k7, x1, gl_S, hS]
  refine ⟨fun i hi f' hf' => by
      simp only [List.mem_cons, List.not_mem_nil, or_false] at hi
      rcases hi with rfl | rfl | rfl | rfl | rfl <;> cases hf' <;> exact fun _ _ => rfl, ?_⟩
  rw [if_pos ⟨e2, d3⟩]
  rfl
end Go.Proofs.YtoiedaegnhifpaaDoor


/-
  date: second, third.
-/
set_option maxRecDepth 100000
set_option linter.unusedVariables false
set_option linter.unusedSimpArgs false
namespace Go.Proofs.YtoiedaegnhifpaaDoor
open Go Go.Abs Go.Shelf Go.RowKit Go.Abs.K

def secondD (l : List UInt8) (now : Int) : Option Parts := match spl 32 l with
  | [w0, w1, w2, w3] => if w3 = [71, 77, 84] ∧ sufD w0 [44] = true then match spl 45 w1 with
    | [d0, d1, d2] => some (idxD longL (trimD w0 [44]), yearC (numK d2 2) now, 1 + idxD monL d1, numK d0 2, clockD w2)
    | _ => none
    else none
  | _ => none
def F34 : List Value → Option Value
  | [.string s, .int .i64 now] => if s.size < 4294967281 ∧ 0 ≤ now ∧ now ≤ 220752000000 then some (optP (secondD (bl s) now)) else none
  | _ => none
def dayD (dd : List UInt8) : Int := if dd.head? = some 32 then numK (dd.drop 1) 1 else if dd.head? = some 48 then -1 else numK dd 2
def thirdD (l : List UInt8) : Option Parts :=
  if l.length = 24 ∧ l[3]? = some 32 ∧ l[7]? = some 32 ∧ l[10]? = some 32 ∧ l[19]? = some 32 then
    some (idxD shortL (l.take 3), numK (l.drop 20) 4, 1 + idxD monL ((l.drop 4).take 3), dayD ((l.drop 8).take 2), clockD ((l.drop 11).take 8))
  else none
def F35 : List Value → Option Value
  | [.string s] => if s.size < 4294967281 then some (optP (thirdD (bl s))) else none
  | _ => none
theorem F34_of {l : List UInt8} {now : Int} (h : l.length < 4294967281) (hn : 0 ≤ now ∧ now ≤ 220752000000) : F34 [S l, .int .i64 now] = some (optP (secondD l now)) := if_pos ⟨by rw [sizeS]; exact h, hn⟩
theorem F35_of {l : List UInt8} (h : l.length < 4294967281) : F35 [S l] = some (optP (thirdD l)) := if_pos (by rw [sizeS]; exact h)
theorem F67_of {n now : Int} (h : n ≤ 99 ∧ 0 ≤ now ∧ now ≤ 220752000000) : F67 [.int .i64 n, .int .i64 now] = some (.int .i64 (yearC n now)) := if_pos h

theorem numGo_bound : ∀ (l : List UInt8) (a : Int), 0 ≤ a → -1 ≤ numGo a l ∧ numGo a l + 1 ≤ (a + 1) * 10 ^ l.length := by
  intro l
  induction l with
  | nil => intro a ha; simp [numGo]; omega
  | cons b l ih =>
    intro a ha
    have hp : (1 : Int) ≤ 10 ^ l.length := by
      have := Nat.one_le_pow l.length 10 (by decide)
      exact_mod_cast this
    rw [numGo, List.length_cons, Int.pow_succ]
    split
    · rename_i hb
      obtain ⟨h1, h2⟩ := ih (10 * a + (b.toNat - 48)) (by omega)
      refine ⟨h1, Int.le_trans h2 ?_⟩
      have h3 : 10 * a + ((b.toNat : Int) - 48) + 1 ≤ (a + 1) * 10 := by omega
      have h4 := Int.mul_le_mul_of_nonneg_right h3 (show (0 : Int) ≤ 10 ^ l.length by omega)
      rw [Int.mul_comm (10 ^ l.length) 10, ← Int.mul_assoc]
      exact h4
    · refine ⟨by omega, ?_⟩
      have : 0 ≤ (a + 1) * (10 ^ l.length * 10) := Int.mul_nonneg (by omega) (by omega)
      omega
theorem numK2_bound (l : List UInt8) : -1 ≤ numK l 2 ∧ numK l 2 ≤ 99 := by
  unfold numK
  split
  · rename_i h
    have := numGo_bound l 0 (by omega)
    have e : l.length = 2 := by omega
    rw [e] at this
    omega
  · omega

def tbl34 : FuncId → Option AFun := tblOf [(34, fun34), (51, fun51)]
theorem walk34 {ov : CallSem} (h75 : HasR ov 75 [] 9 splitF) (h61 : Has ov 61 [] Fsuf) (h63 : Has ov 63 [] Ftrim) (h62 : Has ov 62 gS F62) (h64 : Has ov 64 [] F64) (h65 : Has ov 65 [] F65) (h67 : Has ov 67 [] F67) {H : Heap} (hS : globsOK ⟨H, 8⟩ gS = true) : ∀ args v, F34 args = some v → deepV 3 v = true ∧ WCall (fun k => call tbl34 ov k) 34 args ⟨H, 8⟩ fun u _ => u = v := by
  intro args v h
  unfold F34 at h
  split at h
  case h_2 => cases h
  rename_i a0 now
  split at h
  case isFalse => cases h
  rename_i hk
  cases h
  obtain ⟨l, rfl⟩ := ba_of a0
  rw [sizeS] at hk
  refine ⟨parts_plain _, ?_⟩
  refine WCall.of (fn := fun34) rfl rfl ?_
  have z0 : fillL [.int .i64 0, .int .i64 0, .int .i64 0, .int .i64 0, .int .i64 0] [] = some [.int .i64 0, .int .i64 0, .int .i64 0, .int .i64 0, .int .i64 0] := rfl
  have c51 := fun s K => r51 (tbl := tbl34) (ov := ov) rfl rfl h75 (s := s) hk.1 32 K
  have c51' := fun (x : List UInt8) (hx : x.length < 4294967281) s K => r51 (tbl := tbl34) (ov := ov) rfl rfl h75 (s := s) hx 45 K
  obtain ⟨cs, hcs⟩ : ∃ cs, cs = fun k => call tbl34 ov k := ⟨_, rfl⟩
  rw [← hcs] at c51 c51' ⊢
  show WCode _ _ _ _ (ends fun34.res fun u _ => u = optP (secondD l now))
  unfold secondD
  by_cases h4 : (spl 32 l).length = 4
  case neg =>
    have d1 : (((spl 32 l).length : Int) != 4) = true := by simp; omega
    simp -implicitDefEqProofs only [fun34, code34, params, go_sem, c51, d1, z0, fillL, resV_cell, loadA_n, Heap.get_put]
    split
    · rename_i a b c d e0
      rw [e0] at h4
      exact absurd rfl h4
    · rfl
  obtain ⟨w0, w1, w2, w3, e⟩ := len4 h4
  have hmem := fun p (hp : p ∈ spl 32 l) => Nat.lt_of_le_of_lt (spl_len hp) hk.1
  rw [e] at c51 hmem ⊢
  simp only [List.length_cons, List.length_nil, List.map_cons, List.map_nil] at c51
  have m0 := hmem w0 (by simp)
  have m1 := hmem w1 (by simp)
  have m2 := hmem w2 (by simp)
  have c51 := c51
  have c45 := c51' w1 m1
  clear c51'
  have d0 : ((4 : Nat) : Int) = 4 := rfl
  cases d2 : (w3 == [71, 77, 84])
  · have e2 : ¬ w3 = [71, 77, 84] := by simpa using d2
    simp -implicitDefEqProofs only [fun34, code34, params, go_sem, c51, d0, z0, fillL, resV_cell, loadA_n, Heap.get_put, bs_neq, d2, Bool.not_false]
    rw [if_neg (by simp [e2])]
    rfl
  have e2 : w3 = [71, 77, 84] := by simpa using d2
  have k1 : ∀ s K, WCall cs 61 [S w0, S [44]] s K = K (.bool (sufD w0 [44])) s := fun s K => h61.callT hcs rfl (Fsuf_of m0 (by decide)) rfl rfl K
  cases d3 : sufD w0 [44]
  · rw [d3] at k1
    simp -implicitDefEqProofs only [fun34, code34, params, go_sem, c51, d0, z0, fillL, resV_cell, loadA_n, Heap.get_put, bs_neq, d2, Bool.not_true, Bool.not_false, k1]
    rw [if_neg (by simp [d3])]
    rfl
  rw [d3] at k1
  show WCode _ _ _ _ (ends fun34.res fun u _ => u = optP (if w3 = [71, 77, 84] ∧ sufD w0 [44] = true then match spl 45 w1 with
    | [d0, d1, d2] => some (idxD longL (trimD w0 [44]), yearC (numK d2 2) now, 1 + idxD monL d1, numK d0 2, clockD w2)
    | _ => none
    else none))
  rw [if_pos ⟨e2, d3⟩]
  by_cases h3 : (spl 45 w1).length = 3
  case neg =>
    have d4 : (((spl 45 w1).length : Int) != 3) = true := by simp; omega
    simp -implicitDefEqProofs only [fun34, code34, params, go_sem, c51, d0, z0, fillL, resV_cell, loadA_n, Heap.get_put, bs_neq, d2, Bool.not_true, Bool.not_false, k1, c45, d4]
    split
    · rename_i a b c e0
      rw [e0] at h3
      exact absurd rfl h3
    · rfl
  obtain ⟨x0, x1, x2, e'⟩ := len3 h3
  have hmem' := fun p (hp : p ∈ spl 45 w1) => Nat.lt_of_le_of_lt (spl_len hp) m1
  rw [e'] at c45 hmem' ⊢
  simp only [List.length_cons, List.length_nil, List.map_cons, List.map_nil] at c45
  have n0 := hmem' x0 (by simp)
  have n2 := hmem' x2 (by simp)
  have d4 : ((3 : Nat) : Int) = 3 := rfl
  have k2 : ∀ s K, WCall cs 63 [S w0, S [44]] s K = K (S (trimD w0 [44])) s := fun s K => h63.callT hcs rfl (Ftrim_of m0 (by decide)) rfl rfl K
  have k3 : ∀ x s, globsOK s gS = true → ∀ K, WCall cs 62 [S longT, S x] s K = K (.int .i64 (idxD longL x)) s := fun x s hs K => h62.callT hcs rfl (by rw [F62_of (a := longT) (by decide +kernel), fields_long]) rfl hs K
  have k4 : ∀ x s, globsOK s gS = true → ∀ K, WCall cs 62 [S monT, S x] s K = K (.int .i64 (idxD monL x)) s := fun x s hs K => h62.callT hcs rfl (by rw [F62_of (a := monT) (by decide +kernel), fields_mon]) rfl hs K
  have k5 : ∀ s K, WCall cs 64 [S x2, .int .i64 2] s K = K (.int .i64 (numK x2 2)) s := fun s K => h64.callT hcs rfl (F64_of (by omega) n2) rfl rfl K
  have k6 : ∀ s K, WCall cs 64 [S x0, .int .i64 2] s K = K (.int .i64 (numK x0 2)) s := fun s K => h64.callT hcs rfl (F64_of (by omega) n0) rfl rfl K
  have k7 : ∀ s K, WCall cs 65 [S w2] s K = K (.int .i64 (clockD w2)) s := fun s K => h65.callT hcs rfl (F65_of m2) rfl rfl K
  have k8 : ∀ s K, WCall cs 67 [.int .i64 (numK x2 2), .int .i64 now] s K = K (.int .i64 (yearC (numK x2 2) now)) s := fun s K => h67.callT hcs rfl (F67_of ⟨(numK2_bound x2).2, hk.2⟩) rfl rfl K
  have hmb := mon_bound x1
  have y1 : IntKind.i64.wrap (1 + idxD monL x1) = 1 + idxD monL x1 := wrap64 (by omega) (by omega)
  simp -implicitDefEqProofs only [fun34, code34, params, go_sem, c51, d0, d4, z0, fillL, resV_cell, loadA_n, Heap.get_put, bs_neq, d2, Bool.not_true, Bool.not_false, k1, c45, k2, k3, k4, k5, k6, k7, k8, y1, gl_S, hS]
  refine ⟨fun i hi f' hf' => by
      simp only [List.mem_cons, List.not_mem_nil, or_false] at hi
      rcases hi with rfl | rfl | rfl | rfl | rfl | rfl <;> cases hf' <;> exact fun _ _ => rfl, ?_⟩
  rfl

theorem walk35 {ov : CallSem} (h62 : Has ov 62 gS F62) (h64 : Has ov 64 [] F64) (h65 : Has ov 65 [] F65) {H : Heap} (hS : globsOK ⟨H, 8⟩ gS = true) : ∀ args v, F35 args = some v → deepV 3 v = true ∧ WCall (solo 35 fun35 ov) 35 args ⟨H, 8⟩ fun u _ => u = v := by
  intro args v h
  unfold F35 at h
  split at h
  case h_2 => cases h
  rename_i a0
  split at h
  case isFalse => cases h
  rename_i hk
  cases h
  obtain ⟨l, rfl⟩ := ba_of a0
  rw [sizeS] at hk
  refine ⟨parts_plain _, ?_⟩
  refine solo_of rfl fun cs hcs => ?_
  have z0 : fillL [.int .i64 0, .int .i64 0, .int .i64 0, .int .i64 0, .int .i64 0] [] = some [.int .i64 0, .int .i64 0, .int .i64 0, .int .i64 0, .int .i64 0] := rfl
  show WCode _ _ _ _ (ends fun35.res fun u _ => u = optP (thirdD l))
  unfold thirdD
  by_cases hl : l.length = 24
  case neg =>
    have d1 : ((l.length : Int) != 24) = true := by simp; omega
    simp -implicitDefEqProofs only [fun35, code35, params, go_sem, sizeS, d1, z0, fillL, resV_cell, loadA_n, Heap.get_put]
    rw [if_neg (by simp [hl])]
    rfl
  have d1 : ((l.length : Int) != 24) = false := by simp; omega
  have at' : ∀ k, k < 24 → ∃ b, l[k]? = some b := fun k hk => ⟨_, List.getElem?_eq_getElem (by omega)⟩
  obtain ⟨b3, g3⟩ := at' 3 (by decide)
  obtain ⟨b7, g7⟩ := at' 7 (by decide)
  obtain ⟨b10, g10⟩ := at' 10 (by decide)
  obtain ⟨b19, g19⟩ := at' 19 (by decide)
  have i3 : ∀ (H' : Heap) n, evP H'.get n (.index (S l) (.int .i64 3)) = some ⟨.int .u8 b3.toNat, [], n⟩ := fun H' n => ev_idxS (k := 3) g3
  have i7 : ∀ (H' : Heap) n, evP H'.get n (.index (S l) (.int .i64 7)) = some ⟨.int .u8 b7.toNat, [], n⟩ := fun H' n => ev_idxS (k := 7) g7
  have i10 : ∀ (H' : Heap) n, evP H'.get n (.index (S l) (.int .i64 10)) = some ⟨.int .u8 b10.toNat, [], n⟩ := fun H' n => ev_idxS (k := 10) g10
  have i19 : ∀ (H' : Heap) n, evP H'.get n (.index (S l) (.int .i64 19)) = some ⟨.int .u8 b19.toNat, [], n⟩ := fun H' n => ev_idxS (k := 19) g19
  have beq : ∀ (b : UInt8) (k : Nat), k < 256 → (b = UInt8.ofNat k ↔ b.toNat = k) := fun b k hk => ⟨fun h => by rw [h]; simp; omega, fun h => by apply UInt8.toNat_inj.1; simp; omega⟩
  rw [g3, g7, g10, g19]
  by_cases q3 : b3.toNat = 32
  case neg =>
    have f3 : ((b3.toNat : Int) != 32) = true := by simp; omega
    simp -implicitDefEqProofs only [fun35, code35, params, go_sem, sizeS, d1, z0, fillL, resV_cell, loadA_n, Heap.get_put, i3, f3]
    rw [if_neg (by rintro ⟨_, h, _⟩; cases h; exact q3 rfl)]
    rfl
  have f3 : ((b3.toNat : Int) != 32) = false := by simp; omega
  by_cases q7 : b7.toNat = 32
  case neg =>
    have f7 : ((b7.toNat : Int) != 32) = true := by simp; omega
    simp -implicitDefEqProofs only [fun35, code35, params, go_sem, sizeS, d1, z0, fillL, resV_cell, loadA_n, Heap.get_put, i3, f3, i7, f7]
    rw [if_neg (by rintro ⟨_, _, h, _⟩; cases h; exact q7 rfl)]
    rfl
  have f7 : ((b7.toNat : Int) != 32) = false := by simp; omega
  by_cases q10 : b10.toNat = 32
  case neg =>
    have f10 : ((b10.toNat : Int) != 32) = true := by simp; omega
    simp -implicitDefEqProofs only [fun35, code35, params, go_sem, sizeS, d1, z0, fillL, resV_cell, loadA_n, Heap.get_put, i3, f3, i7, f7, i10, f10]
    rw [if_neg (by rintro ⟨_, _, _, h, _⟩; cases h; exact q10 rfl)]
    rfl
  have f10 : ((b10.toNat : Int) != 32) = false := by simp; omega
  by_cases q19 : b19.toNat = 32
  case neg =>
    have f19 : ((b19.toNat : Int) != 32) = true := by simp; omega
    simp -implicitDefEqProofs only [fun35, code35, params, go_sem, sizeS, d1, z0, fillL, resV_cell, loadA_n, Heap.get_put, i3, f3, i7, f7, i10, f10, i19, f19]
    rw [if_neg (by rintro ⟨_, _, _, _, h⟩; cases h; exact q19 rfl)]
    rfl
  have f19 : ((b19.toNat : Int) != 32) = false := by simp; omega
  have h3 : b3 = 32 := UInt8.toNat_inj.1 q3
  have h7 : b7 = 32 := UInt8.toNat_inj.1 q7
  have h10 : b10 = 32 := UInt8.toNat_inj.1 q10
  have h19 : b19 = 32 := UInt8.toNat_inj.1 q19
  rw [if_pos ⟨hl, by rw [h3], by rw [h7], by rw [h10], by rw [h19]⟩]
  obtain ⟨dd, hdd⟩ : ∃ dd, dd = (l.drop 8).take 2 := ⟨_, rfl⟩
  have hdl : dd.length = 2 := by rw [hdd]; simp; omega
  obtain ⟨x, y, hxy⟩ : ∃ x y, dd = [x, y] := by
    match dd, hdl with
    | [x, y], _ => exact ⟨x, y, rfl⟩
  have s1 : ∀ (H' : Heap) n, evP H'.get n (.slice .string (S l) (some (.int .i64 8)) (some (.int .i64 10)) none) = some ⟨S [x, y], [], n⟩ := fun H' n => by rw [← hxy, hdd]; exact ev_cutS (a := 8) (b := 10) (by decide) (by omega)
  have s2 : ∀ (H' : Heap) n, evP H'.get n (.slice .string (S l) none (some (.int .i64 3)) none) = some ⟨S (l.take 3), [], n⟩ := fun H' n => ev_toS (b := 3) (by omega)
  have s3 : ∀ (H' : Heap) n, evP H'.get n (.slice .string (S l) (some (.int .i64 20)) none none) = some ⟨S (l.drop 20), [], n⟩ := fun H' n => ev_fromS (a := 20) (by omega)
  have s4 : ∀ (H' : Heap) n, evP H'.get n (.slice .string (S l) (some (.int .i64 4)) (some (.int .i64 7)) none) = some ⟨S ((l.drop 4).take 3), [], n⟩ := fun H' n => ev_cutS (a := 4) (b := 7) (by decide) (by omega)
  have s5 : ∀ (H' : Heap) n, evP H'.get n (.slice .string (S l) (some (.int .i64 11)) (some (.int .i64 19)) none) = some ⟨S ((l.drop 11).take 8), [], n⟩ := fun H' n => ev_cutS (a := 11) (b := 19) (by decide) (by omega)
  have s6 : ∀ (H' : Heap) n, evP H'.get n (.slice .string (S [x, y]) (some (.int .i64 1)) none none) = some ⟨S [y], [], n⟩ := fun H' n => ev_fromS (l := [x, y]) (a := 1) (by simp)
  have j0 : ∀ (H' : Heap) n, evP H'.get n (.index (S [x, y]) (.int .i64 0)) = some ⟨.int .u8 x.toNat, [], n⟩ := fun H' n => ev_idxS (l := [x, y]) (k := 0) rfl
  have k1 : ∀ s K, WCall cs 64 [S [x, y], .int .i64 2] s K = K (.int .i64 (numK [x, y] 2)) s := fun s K => h64.call hcs (by decide) (F64_of (by omega) (by simp)) rfl rfl K
  have k2 : ∀ s K, WCall cs 64 [S [y], .int .i64 1] s K = K (.int .i64 (numK [y] 1)) s := fun s K => h64.call hcs (by decide) (F64_of (by omega) (by simp)) rfl rfl K
  have k3 : ∀ x s, globsOK s gS = true → ∀ K, WCall cs 62 [S shortT, S x] s K = K (.int .i64 (idxD shortL x)) s := fun x s hs K => h62.call hcs (by decide) (by rw [F62_of (a := shortT) (by decide +kernel), fields_short]) rfl hs K
  have k4 : ∀ x s, globsOK s gS = true → ∀ K, WCall cs 62 [S monT, S x] s K = K (.int .i64 (idxD monL x)) s := fun x s hs K => h62.call hcs (by decide) (by rw [F62_of (a := monT) (by decide +kernel), fields_mon]) rfl hs K
  have k5 : ∀ s K, WCall cs 64 [S (l.drop 20), .int .i64 4] s K = K (.int .i64 (numK (l.drop 20) 4)) s := fun s K => h64.call hcs (by decide) (F64_of (by omega) (by simp; omega)) rfl rfl K
  have k7 : ∀ s K, WCall cs 65 [S ((l.drop 11).take 8)] s K = K (.int .i64 (clockD ((l.drop 11).take 8))) s := fun s K => h65.call hcs (by decide) (F65_of (by simp; omega)) rfl rfl K
  have hmb := mon_bound ((l.drop 4).take 3)
  have y1 : IntKind.i64.wrap (1 + idxD monL ((l.drop 4).take 3)) = 1 + idxD monL ((l.drop 4).take 3) := wrap64 (by omega) (by omega)
  rw [← hdd, hxy]
  unfold dayD
  by_cases x1 : x.toNat = 32
  · have e1 : ((x.toNat : Int) == 32) = true := by simp; omega
    have hx : x = 32 := UInt8.toNat_inj.1 x1
    simp -implicitDefEqProofs only [fun35, code35, params, go_sem, sizeS, d1, z0, fillL, resV_cell, loadA_n, Heap.get_put, i3, f3, i7, f7, i10, f10, i19, f19, s1, s2, s3, s4, s5, s6, j0, k1, k2, k3, k4, k5, k7, y1, e1, gl_S, hS]
    rw [if_pos (by rw [hx]; rfl)]
    rfl
  have e1 : ((x.toNat : Int) == 32) = false := by simp; omega
  have hx : ¬ x = 32 := fun h => x1 (by rw [h]; rfl)
  by_cases x2 : x.toNat = 48
  · have e2 : ((x.toNat : Int) == 48) = true := by simp; omega
    have hx2 : x = 48 := UInt8.toNat_inj.1 x2
    simp -implicitDefEqProofs only [fun35, code35, params, go_sem, sizeS, d1, z0, fillL, resV_cell, loadA_n, Heap.get_put, i3, f3, i7, f7, i10, f10, i19, f19, s1, s2, s3, s4, s5, s6, j0, k1, k2, k3, k4, k5, k7, y1, e1, e2, gl_S, hS]
    rw [if_neg (by simp [hx]), if_pos (by rw [hx2]; rfl)]
    rfl
  · have e2 : ((x.toNat : Int) == 48) = false := by simp; omega
    have hx2 : ¬ x = 48 := fun h => x2 (by rw [h]; rfl)
    simp -implicitDefEqProofs only [fun35, code35, params, go_sem, sizeS, d1, z0, fillL, resV_cell, loadA_n, Heap.get_put, i3, f3, i7, f7, i10, f10, i19, f19, s1, s2, s3, s4, s5, s6, j0, k1, k2, k3, k4, k5, k7, y1, e1, e2, gl_S, hS]
    rw [if_neg (by simp [hx]), if_neg (by simp [hx2])]
    rfl
end Go.Proofs.YtoiedaegnhifpaaDoor
