/-
  DateWrites, DateThree.
-/
import Derived.Test.YtoiedaegnhifpaaDoorU14
set_option maxRecDepth 100000
set_option linter.unusedVariables false
set_option linter.unusedSimpArgs false
namespace Go.Proofs.YtoiedaegnhifpaaDoor
open Go Go.Abs Go.Shelf Go.RowKit Go.Abs.K

theorem law4 {n now : Int} (hn : -9223372036854775808 ≤ n ∧ n ≤ 9223372036854775807) : WCall (solo 4 fun4 o12) 4 [.int .i64 n, .int .i64 now] (stG gB) fun u _ => u = .bool true := by
  show WCall _ _ _ ⟨(stG gB).heap, 8⟩ _
  have hS : globsOK ⟨(stG gB).heap, 8⟩ gS = true := rfl
  have hB : globsOK ⟨(stG gB).heap, 8⟩ gB = true := rfl
  have h12 : Has o12 12 gB F12 := .here
  have h13 : Has o12 13 gS F13 := (.there (by decide) (.there (by decide) .here))
  have h16 : Has o12 16 gB F16 := (.there (by decide) (.there (by decide) (.there (by decide) (.there (by decide) (.there (by decide) (.there (by decide) .here))))))
  generalize (stG gB).heap = H at hS hB
  refine solo_of rfl fun cs hcs => ?_
  have c12 : ∀ K, WCall cs 12 [] ⟨H, 8⟩ K = K (.bool true) ⟨H, 8⟩ := fun K => h12.call hcs (by decide) rfl rfl hB K
  have c16 : ∀ K, WCall cs 16 [.int .i64 n] ⟨H, 8⟩ K = K _ ⟨H, 8⟩ := fun K => h16.call hcs (by decide) (F16_of hn) rfl hB K
  cases hf : formatD n with
  | none =>
    rw [hf] at c16
    simp only at c16
    have d1 : (([] : List UInt8) == []) = true := rfl
    rcases format_none hf with h | h
    · have d2 : decide (n < -62167219200) = true := decide_eq_true h
      simp -implicitDefEqProofs only [fun4, code4, params, go_sem, c12, c16, bs_eql, d1, d2]
    · have d2 : decide (n < -62167219200) = false := decide_eq_false (by omega)
      have d3 : decide (n > 253402300799) = true := decide_eq_true h
      simp -implicitDefEqProofs only [fun4, code4, params, go_sem, c12, c16, bs_eql, d1, d2, d3]
  | some l =>
    rw [hf] at c16
    simp only at c16
    obtain ⟨hp, hl⟩ := format_parse hf (clampD now)
    have c13 : ∀ K, WCall cs 13 [S l, .int .i64 now] ⟨H, 8⟩ K = K (.tuple #[.int .i64 n, .bool true]) ⟨H, 8⟩ := fun K => h13.call hcs (by decide) (by rw [F13_of (by omega), hp]; rfl) rfl hS K
    have d1 : (n == n) = true := by simp
    have d2 : ((l.length : Int) == 29) = true := by simp; omega
    simp -implicitDefEqProofs only [fun4, code4, params, go_sem, c12, c16, c13, sizeS, d1, d2]
end Go.Proofs.YtoiedaegnhifpaaDoor
