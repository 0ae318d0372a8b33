/-
  DateWrites, DateThree.
-/
import Derived.Test.YtoiedaegnhifpaaDoorU14
set_option maxRecDepth 100000
set_option linter.unusedVariables false
set_option linter.unusedSimpArgs false
namespace Go.Proofs.YtoiedaegnhifpaaDoor
open Go Go.Abs Go.Shelf Go.RowKit Go.Abs.K

theorem law6 {a b : Int} (ha : 0 ≤ a ∧ a ≤ 4294967295) (hb : 0 ≤ b ∧ b ≤ 4294967295) : WCall (solo 6 fun6 o12) 6 [.int .u32 a, .int .u32 b] (stG gB) fun u _ => u = .bool true := by
  show WCall _ _ _ ⟨(stG gB).heap, 8⟩ _
  have hS : globsOK ⟨(stG gB).heap, 8⟩ gS = true := rfl
  have hB : globsOK ⟨(stG gB).heap, 8⟩ gB = true := rfl
  have h12 : Has o12 12 gB F12 := .here
  have h13 : Has o12 13 gS F13 := (.there (by decide) (.there (by decide) .here))
  have h16 : Has o12 16 gB F16 := (.there (by decide) (.there (by decide) (.there (by decide) (.there (by decide) (.there (by decide) (.there (by decide) .here))))))
  generalize (stG gB).heap = H at hS hB
  refine solo_of rfl fun cs hcs => ?_
  have c12 : ∀ K, WCall cs 12 [] ⟨H, 8⟩ K = K (.bool true) ⟨H, 8⟩ := fun K => h12.call hcs (by decide) rfl rfl hB K
  have some_of : ∀ x : Int, 0 ≤ x ∧ x ≤ 4294967295 → ∃ l, formatD x = some l := fun x hx => by
    cases h : formatD x with
    | some l => exact ⟨l, rfl⟩
    | none => have := format_none h; omega
  obtain ⟨l, hl⟩ := some_of a ha
  obtain ⟨m, hm⟩ := some_of b hb
  obtain ⟨p1, l1⟩ := format_parse hl (clampD a)
  obtain ⟨p2, l2⟩ := format_parse hm (clampD b)
  have c16 : ∀ K, WCall cs 16 [.int .i64 a] ⟨H, 8⟩ K = K (.tuple #[S l, .bool true]) ⟨H, 8⟩ := fun K => h16.call hcs (by decide) (by rw [F16_of (by omega), hl]) rfl hB K
  have c16' : ∀ K, WCall cs 16 [.int .i64 b] ⟨H, 8⟩ K = K (.tuple #[S m, .bool true]) ⟨H, 8⟩ := fun K => h16.call hcs (by decide) (by rw [F16_of (by omega), hm]) rfl hB K
  have c13 : ∀ K, WCall cs 13 [S l, .int .i64 a] ⟨H, 8⟩ K = K (.tuple #[.int .i64 a, .bool true]) ⟨H, 8⟩ := fun K => h13.call hcs (by decide) (by rw [F13_of (by omega), p1]; rfl) rfl hS K
  have c13' : ∀ K, WCall cs 13 [S m, .int .i64 b] ⟨H, 8⟩ K = K (.tuple #[.int .i64 b, .bool true]) ⟨H, 8⟩ := fun K => h13.call hcs (by decide) (by rw [F13_of (by omega), p2]; rfl) rfl hS K
  have wa : IntKind.i64.wrap a = a := wrap64 (by omega) (by omega)
  have wb : IntKind.i64.wrap b = b := wrap64 (by omega) (by omega)
  have d1 : (l == m) = (a == b) := by
    by_cases e : a = b
    · subst e
      rw [hl] at hm
      cases hm
      simp
    · have : ¬ l = m := fun e2 => by
        subst e2
        have h1 := (format_parse hl 0).1
        have h2 := (format_parse hm 0).1
        rw [h1] at h2
        cases h2
        exact e rfl
      rw [beq_eq_false_iff_ne.2 this, beq_eq_false_iff_ne.2 e]
  have q1 : ∀ (H' : Heap) n (x : Bool), evP H'.get n (.eq false .scalar (.bool x) (.bool x)) = some ⟨.bool true, [], n⟩ := fun H' n x => by cases x <;> rfl
  have q2 : binV .eql (S l) (S m) = some (.bool (a == b)) := by rw [bs_eql, d1]
  simp -implicitDefEqProofs only [fun6, code6, params, go_sem, c12, c16, c16', c13, c13', wa, wb, q1, q2]
end Go.Proofs.YtoiedaegnhifpaaDoor
