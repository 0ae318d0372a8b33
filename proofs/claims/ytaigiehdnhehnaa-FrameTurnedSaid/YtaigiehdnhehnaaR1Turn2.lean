/-
  FrameTurned: for every record, place and turn the law comes to true.
-/
import Derived.Test.YtaigiehdnhehnaaR1Turn
set_option maxRecDepth 100000
set_option linter.unusedVariables false
set_option linter.unusedSimpArgs false
namespace Go.Proofs.Ytaigiehdnhehnaa
open Go Go.Abs

def tb (t : BitVec 32) (k : Nat) : Nat := t.toNat / 256 ^ k % 256

theorem shr_u32 {t : BitVec 32} {k : Nat} (hk : k < 4) : IntKind.u8.wrap ((t.toNat : Int).fdiv (2 ^ min (8 * k) IntKind.u32.bits)) = ((tb t k : Nat) : Int) := by
  have h1 : min (8 * k) IntKind.u32.bits = 8 * k := by
    have : IntKind.u32.bits = 32 := rfl
    rw [this]; omega
  have h2 : ((2 : Int) ^ (8 * k)) = ((256 ^ k : Nat) : Int) := by
    rw [show (256 : Nat) = 2 ^ 8 from rfl, ← Nat.pow_mul]; push_cast; rfl
  have h3 : ∀ m : Int, IntKind.u8.wrap m = m % 256 := fun m => by simp [IntKind.wrap, IntKind.signed, IntKind.bits]
  rw [h1, h2, h3, Int.fdiv_eq_ediv_of_nonneg _ (Int.natCast_nonneg _), ← Int.natCast_ediv]
  unfold tb; push_cast; rfl

theorem bin_shr_u32 {n : Int} {k : Nat} : binV .shr (.int .u32 n) (.int .u64 (k : Int)) = some (.int .u32 (n.fdiv (2 ^ min k IntKind.u32.bits))) := by
  simp only [binV, show ¬ (k : Int) < 0 by omega, if_false, Int.toNat_natCast]

theorem bin_xor_u8 {z : Int} {t : Nat} (hz : 0 ≤ z ∧ z ≤ 255) (ht : t < 256) : binV .xor (.int .u8 z) (.int .u8 (t : Int)) = some (.int .u8 (xorB z t)) := by
  obtain ⟨n, rfl⟩ := Int.eq_ofNat_of_zero_le hz.1
  have h1 : (BitVec.ofInt IntKind.u8.bits ((n : Nat) : Int) ^^^ BitVec.ofInt IntKind.u8.bits (t : Int)).toNat = n ^^^ t := by
    show (BitVec.ofInt 8 ((n : Nat) : Int) ^^^ BitVec.ofInt 8 (t : Int)).toNat = _
    rw [BitVec.ofInt_natCast, BitVec.ofInt_natCast, BitVec.toNat_xor, BitVec.toNat_ofNat, BitVec.toNat_ofNat, Nat.mod_eq_of_lt (by omega), Nat.mod_eq_of_lt (by omega)]
  have h2 : n ^^^ t < 2 ^ 8 := Nat.xor_lt_two_pow (by omega) (by omega)
  have h3 : IntKind.u8.wrap ((n ^^^ t : Nat) : Int) = ((n ^^^ t : Nat) : Int) := wrap_u8 (by omega)
  simp only [binV, ne_eq, not_true_eq_false, if_false, h1, h3, xorB, Int.toNat_natCast]

/-- The bytes, k of them turned. -/
def turnT (zs : List Int) (i : Nat) (t : BitVec 32) : Nat → List Int
  | 0 => zs
  | k + 1 => (turnT zs i t k).set (i + k) (xorB ((turnT zs i t k).getD (i + k) 0) (tb t k))

theorem turnT_length (zs : List Int) (i : Nat) (t : BitVec 32) (k : Nat) : (turnT zs i t k).length = zs.length := by
  induction k with
  | zero => rfl
  | succ k ih => simp [turnT, ih]

theorem turnT_four (pre post : List Int) (x0 x1 x2 x3 : Int) (t : BitVec 32) : turnT (pre ++ ([x0, x1, x2, x3] ++ post)) pre.length t 4 = pre ++ (List.zipWith xorB [x0, x1, x2, x3] [tb t 0, tb t 1, tb t 2, tb t 3] ++ post) := by
  have hg : ∀ (l : List Int) (k : Nat), (pre ++ l).getD (pre.length + k) 0 = l.getD k 0 := fun l k => by
    simp only [List.getD_eq_getElem?_getD]
    rw [List.getElem?_append_right (by omega)]
    congr 2; omega
  have hs : ∀ (l : List Int) (k : Nat) (a : Int), (pre ++ l).set (pre.length + k) a = pre ++ l.set k a := fun l k a => by
    rw [List.set_append_right _ _ (by omega)]
    congr 2; omega
  simp only [turnT, hg, hs]
  rfl

theorem tb_zero {t : BitVec 32} (h : ∀ d ∈ [tb t 0, tb t 1, tb t 2, tb t 3], d = 0) : t = 0#32 := by
  simp only [List.mem_cons, List.not_mem_nil, or_false, forall_eq_or_imp, forall_eq, tb] at h
  apply BitVec.eq_of_toNat_eq
  have := t.isLt
  simp only [Nat.pow_zero, Nat.pow_one] at h
  show t.toNat = 0
  omega

theorem step_turned {r : FRec} (hr : r.sound = true) (hw : r.Wide) {i : Nat} (h6 : 6 ≤ i) (h4 : i + 4 ≤ (recL r).length) {t : BitVec 32} (ht : t ≠ 0#32) : stepL (turnT (recL r) i t 4) 0 = none := by
  have hbr := recL_length r
  have hz : ∀ z ∈ recL r, 0 ≤ z ∧ z ≤ 255 := by
    intro z hz
    rcases List.mem_append.1 hz with hz | hz
    · exact beL_range _ _ z hz
    · rcases List.mem_append.1 hz with hz | hz
      · exact beL_range _ _ z hz
      · simp only [bodyL, List.mem_append, List.mem_cons, List.not_mem_nil, or_false] at hz
        obtain ⟨_, _, _, _, k1, k2, k3, k4⟩ := r.of_sound hr
        rcases hz with ((((hz | hz) | hz) | hz) | hz) | hz
        · rcases hz with rfl | rfl <;> omega
        all_goals first | exact beL_range _ _ z hz | exact strL_range _ z hz
  -- the body in three
  obtain ⟨A, x0, x1, x2, x3, B, hbody, hA⟩ : ∃ A x0 x1 x2 x3 B, bodyL r = A ++ ([x0, x1, x2, x3] ++ B) ∧ A.length = i - 6 := by
    have h1 : ((bodyL r).drop (i - 6)).length ≥ 4 := by rw [List.length_drop]; omega
    match hq : (bodyL r).drop (i - 6), h1 with
    | x0 :: x1 :: x2 :: x3 :: B, _ =>
      refine ⟨(bodyL r).take (i - 6), x0, x1, x2, x3, B, ?_, by rw [List.length_take]; omega⟩
      show _ = _ ++ (x0 :: x1 :: x2 :: x3 :: B)
      rw [← hq, List.take_append_drop]
  have hbl := body_small hr
  generalize hH : beL (bodyL r).length 2 ++ beL (sumL (bodyL r)).toNat 4 = H at *
  have hHl : H.length = 6 := by rw [← hH]; simp [beL_length]
  have hrec : recL r = (H ++ A) ++ ([x0, x1, x2, x3] ++ B) := by
    unfold recL
    rw [← List.append_assoc, hH, hbody, List.append_assoc]
  have hi : i = (H ++ A).length := by rw [List.length_append]; omega
  have hturn : turnT (recL r) i t 4 = H ++ (A ++ (List.zipWith xorB [x0, x1, x2, x3] [tb t 0, tb t 1, tb t 2, tb t 3] ++ B)) := by
    rw [hrec, hi, turnT_four, List.append_assoc]
  have hbx : ∀ x ∈ [x0, x1, x2, x3], 0 ≤ x ∧ x ≤ 255 := fun x hx => hz x (by rw [hrec]; exact List.mem_append_right _ (List.mem_append_left _ hx))
  have hsum := sum_turned (pre := A) (post := B) (xs := [x0, x1, x2, x3]) (ds := [tb t 0, tb t 1, tb t 2, tb t 3]) rfl (Nat.le_refl _) (by
    intro d hd
    simp only [List.mem_cons, List.not_mem_nil, or_false] at hd
    rcases hd with rfl | rfl | rfl | rfl <;> exact Nat.mod_lt _ (by omega)) hbx (by
    refine Classical.byContradiction fun hn => ht (tb_zero fun d hd => Classical.byContradiction fun h0 => hn ⟨d, hd, h0⟩))
  rw [← hbody] at hsum
  generalize hB' : A ++ (List.zipWith xorB [x0, x1, x2, x3] [tb t 0, tb t 1, tb t 2, tb t 3] ++ B) = body' at *
  have hbl' : body'.length = (bodyL r).length := by rw [← hB', hbody]; simp
  rw [hturn]
  have hlenAt : lenAt (H ++ body') 0 = (bodyL r).length := by
    unfold lenAt
    rw [Nat.zero_add, List.drop_zero, List.take_append_of_le_length (by omega), ← hH, List.take_append_of_le_length (by rw [beL_length]; omega), List.take_of_length_le (by rw [beL_length]; omega), valL_beL, Nat.mod_eq_of_lt (by omega)]
  have hsumAt : sumAt (H ++ body') 0 = (sumL (bodyL r)).toNat := by
    unfold sumAt
    have hlt := (sumL (bodyL r)).isLt
    rw [Nat.zero_add, Nat.zero_add, List.take_append_of_le_length (by omega), List.take_of_length_le (by omega), ← hH, List.drop_append_of_le_length (by rw [beL_length]; omega), List.drop_of_length_le (by rw [beL_length]; omega), List.nil_append, valL_beL, Nat.mod_eq_of_lt (by omega)]
  have hpart : partAt (H ++ body') 0 = body' := by
    unfold partAt
    rw [hlenAt, List.take_of_length_le (by rw [List.length_append]; omega), List.drop_append_of_le_length (by omega), List.drop_of_length_le (by omega), List.nil_append]
  unfold stepL
  split
  · split
    · rw [if_neg]
      rintro ⟨h1, _⟩
      rw [hpart, hsumAt] at h1
      exact hsum (BitVec.eq_of_toNat_eq h1)
    · rfl
  · rfl

end Go.Proofs.Ytaigiehdnhehnaa
