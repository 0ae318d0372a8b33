/-
  'awake'; the chain of known calls; the laws DateWrites and DateThree.
-/
import Derived.Test.YtoiedaegnhifpaaDoorU12
set_option maxRecDepth 100000
set_option linter.unusedVariables false
set_option linter.unusedSimpArgs false
namespace Go.Proofs.YtoiedaegnhifpaaDoor
open Go Go.Abs Go.Shelf Go.RowKit Go.Abs.K

def gB : GNeed := [(4, 0, 4294983171), (5, 3, 2)]
def F31 : List Value → Option Value
  | [.int .i64 y] => if 0 ≤ y then some (.bool (leapD y)) else none
  | _ => none
theorem F31_of {y : Int} (h : 0 ≤ y) : F31 [.int .i64 y] = some (.bool (leapD y)) := if_pos h
theorem walk31 {ov : CallSem} (s : St) : ∀ args v, F31 args = some v → deepV 3 v = true ∧ WCall (solo 31 fun31 ov) 31 args s fun u _ => u = v := by
  intro args v h
  unfold F31 at h
  split at h
  case h_2 => cases h
  rename_i y
  split at h
  case isFalse => cases h
  rename_i hy
  cases h
  refine ⟨rfl, ?_⟩
  refine solo_of rfl fun cs hcs => ?_
  unfold leapD
  by_cases c400 : y % 400 = 0
  · have h4 : (y % 4 == 0) = true := by simp; omega
    have h400 : (y % 400 == 0) = true := by simp [c400]
    simp -implicitDefEqProofs only [fun31, code31, params, go_sem, bv_rem hy (show (0 : Int) < 4 by decide), bv_rem hy (show (0 : Int) < 100 by decide), bv_rem hy (show (0 : Int) < 400 by decide), h4, h400]
    simp
  · have h400 : (y % 400 == 0) = false := by simp [c400]
    cases h4 : (y % 4 == 0) <;> cases h100 : (y % 100 != 0) <;>
      simp -implicitDefEqProofs only [fun31, code31, params, go_sem, bv_rem hy (show (0 : Int) < 4 by decide), bv_rem hy (show (0 : Int) < 100 by decide), bv_rem hy (show (0 : Int) < 400 by decide), h4, h100, h400] <;> rfl

abbrev aw1 : List UInt8 := [83, 117, 110, 44, 32, 48, 54, 32, 78, 111, 118, 32, 49, 57, 57, 52, 32, 48, 56, 58, 52, 57, 58, 51, 55, 32, 71, 77, 84]
abbrev aw2 : List UInt8 := [83, 117, 110, 100, 97, 121, 44, 32, 48, 54, 45, 78, 111, 118, 45, 57, 52, 32, 48, 56, 58, 52, 57, 58, 51, 55, 32, 71, 77, 84]
abbrev aw3 : List UInt8 := [83, 117, 110, 32, 78, 111, 118, 32, 32, 54, 32, 48, 56, 58, 52, 57, 58, 51, 55, 32, 49, 57, 57, 52]
theorem pa1 : parseD aw1 (clampD 0) = some 784111777 := by decide +kernel
theorem pa2 : parseD aw2 (clampD 800000000) = some 784111777 := by decide +kernel
theorem pa3 : parseD aw3 (clampD 0) = some 784111777 := by decide +kernel
theorem fa1 : formatD 784111777 = some aw1 := by
  have e1 : okD (784111777 / 86400) = true := by decide +kernel
  have e2 : yearD (784111777 / 86400 + 719528) = 1994 := by decide +kernel
  have e3 : (monthD (784111777 / 86400 + 719528)).1 = 11 := by decide +kernel
  have e4 : (monthD (784111777 / 86400 + 719528)).2 + 1 = 6 := by decide +kernel
  unfold formatD
  rw [if_pos e1, e2, e3, e4, text_firstT (by decide) (by decide) (by decide)]
  decide +kernel
def F12 : List Value → Option Value
  | [] => some (.bool true)
  | _ => none
theorem F16_of {n : Int} (h : -9223372036854775808 ≤ n ∧ n ≤ 9223372036854775807) : F16 [.int .i64 n] = some (match formatD n with | some t => .tuple #[S t, .bool true] | none => .tuple #[S [], .bool false]) := if_pos h
theorem walk12 {ov : CallSem} (h13 : Has ov 13 gS F13) (h16 : Has ov 16 gB F16) (h31 : Has ov 31 [] F31) {H : Heap} (hS : globsOK ⟨H, 8⟩ gS = true) (hB : globsOK ⟨H, 8⟩ gB = true) : ∀ args v, F12 args = some v → deepV 3 v = true ∧ WCall (solo 12 fun12 ov) 12 args ⟨H, 8⟩ fun u _ => u = v := by
  intro args v h
  unfold F12 at h
  split at h
  case h_2 => cases h
  cases h
  refine ⟨rfl, ?_⟩
  refine solo_of rfl fun cs hcs => ?_
  have c1 : ∀ K, WCall cs 13 [S aw1, .int .i64 0] ⟨H, 8⟩ K = K (.tuple #[.int .i64 784111777, .bool true]) ⟨H, 8⟩ := fun K => h13.call hcs (by decide) (by rw [F13_of (by decide +kernel), pa1]; rfl) rfl hS K
  have c2 : ∀ K, WCall cs 13 [S aw2, .int .i64 800000000] ⟨H, 8⟩ K = K (.tuple #[.int .i64 784111777, .bool true]) ⟨H, 8⟩ := fun K => h13.call hcs (by decide) (by rw [F13_of (by decide +kernel), pa2]; rfl) rfl hS K
  have c3 : ∀ K, WCall cs 13 [S aw3, .int .i64 0] ⟨H, 8⟩ K = K (.tuple #[.int .i64 784111777, .bool true]) ⟨H, 8⟩ := fun K => h13.call hcs (by decide) (by rw [F13_of (by decide +kernel), pa3]; rfl) rfl hS K
  have c4 : ∀ K, WCall cs 16 [.int .i64 784111777] ⟨H, 8⟩ K = K (.tuple #[S aw1, .bool true]) ⟨H, 8⟩ := fun K => h16.call hcs (by decide) (by rw [F16_of (by decide), fa1]) rfl hB K
  have c5 : ∀ K, WCall cs 31 [.int .i64 4] ⟨H, 8⟩ K = K (.bool true) ⟨H, 8⟩ := fun K => h31.call hcs (by decide) (by rw [F31_of (by decide)]; rfl) rfl rfl K
  have d1 : (aw1 == aw1) = true := by decide +kernel
  simp -implicitDefEqProofs only [fun12, code12, params, go_sem, c1, c2, c3, c4, c5, bs_eql, d1]

end Go.Proofs.YtoiedaegnhifpaaDoor
