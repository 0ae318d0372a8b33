/-
  What 'append' and a slice expression come to.
-/
import Derived.Test.YtoiedaegnhifpaaDoorA25
set_option linter.unusedVariables false
set_option linter.unusedSimpArgs false
namespace Go.Abs
open Go

section
variable {g : Nat → Option AObj} {nx : Nat} {e t : TypeId} {sz b id o sl sc n z len cap : Nat} {y : Value} {new c : List Value} {ro : Bool}

theorem ev_append_in (hn : lenV y = some n) (hf : firstL g sz n y = some new) (hc : new.all isCell = true) (hl : new.length = n * sz)
    (hg : g id = some (.cells c t z false)) (h1 : sl + n ≤ sc) (h2 : o + (sl + n) * sz ≤ c.length) :
    evP g nx (.append e sz b (.slice (some ⟨id, o, none⟩) sl sc) y) = some ⟨.slice (some ⟨id, o, none⟩) (sl + n) sc, [(id, some (.cells (storeL c (o + sl * sz) new) t z false))], nx⟩ := by
  have hc2 := List.all_eq_true.1 hc
  simp [evP, hn, hf, hl, hg, h1, h2]
  exact hc2

theorem ev_append_grow (hn : lenV y = some n) (hf : firstL g sz n y = some new) (hc : new.all isCell = true) (hl : new.length = n * sz)
    (hg : g id = some (.cells c e z ro)) (h1 : ¬ sl + n ≤ sc) (h2 : o + sl * sz ≤ c.length) (h3 : ro = true ∨ z = sz) (hb : tooBig (sl + n) b = false) :
    evP g nx (.append e sz b (.slice (some ⟨id, o, none⟩) sl sc) y) = some ⟨.slice (some ⟨nx, 0, none⟩) (sl + n) (sl + n), (nx, some (.cells ((c.drop o).take (sl * sz) ++ new) e sz false)) :: (if ro then [] else [(id, none)]), nx + 1⟩ := by
  have hc2 := List.all_eq_true.1 hc
  simp [evP, hn, hf, hl, hg, h1, h2, h3, hb]
  exact hc2

theorem ev_append_nil (hn : lenV y = some n) (hf : firstL g sz n y = some new) (hc : new.all isCell = true) (hl : new.length = n * sz)
    (h0 : 0 < n) (hb : tooBig n b = false) :
    evP g nx (.append e sz b (.slice none 0 0) y) = some ⟨.slice (some ⟨nx, 0, none⟩) n n, [(nx, some (.cells new e sz false))], nx + 1⟩ := by
  have : ¬ n = 0 := by omega
  have hc2 := List.all_eq_true.1 hc
  simp [evP, hn, hf, hl, hb, this]
  exact hc2

theorem ev_buildSlice (ps : List (Nat × Nat × Value)) (zs : List Value) : evP g nx (.buildSlice e sz len zs ps) = (fillL zs ps).map fun c => ⟨.slice (some ⟨nx, 0, none⟩) len len, [(nx, some (.cells c e sz false))], nx + 1⟩ := rfl
end

end Go.Abs


/-
  A law's call, from its arguments' blocks.
-/
set_option linter.unusedVariables false
set_option linter.unusedSimpArgs false
namespace Go.Abs
open Go Go.RowKit Go.ChangeShapes Go.WideShapes

end Go.Abs


/-
  Loops as Go's 'for' lays them.
-/
set_option linter.unusedVariables false
set_option linter.unusedSimpArgs false
namespace Go.Abs
open Go

end Go.Abs
