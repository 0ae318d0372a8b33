/-
  slices.Insert: what its code comes to, in place and where the slice grows.
-/
import Derived.Test.YtoiedaegnhifpaaDoorA36
import Derived.Lib.Overlaps
import Derived.Laws.Externs
set_option linter.unusedVariables false
set_option linter.unusedSimpArgs false
set_option maxRecDepth 100000
namespace Go.Abs
open Go Go.Abs.K

/-! ### slices.overlaps: two blocks -/

structure OvlOK (P : Program) (kv : FuncId) : Prop where
  ok : ∃ (tS tR e : TypeId) (size : Nat), P.underlying tS = some (.slice e) ∧ (∀ w, (Go.sizeOf e).run P w = .ok size w) ∧
    ∀ args w, (callFunc kv args).run P w = ((Extern.SlicesOverlaps.overlaps #[tS, tS] #[tR] args).run P w).andThen fun v w' => .ok (.value v) w'

theorem OvlOK.of {P : Program} {kv : FuncId} {F : Func} {tS tR e : TypeId} (hF : P.funcs[kv]? = some F) (hname : (F.name == "runtime.NumGoroutine") = false) (hb : F.body.isNone = true) (hn : Extern.findNext F = none)
    (he : Extern.find F = some (Extern.SlicesOverlaps.overlaps #[tS, tS] #[tR])) (hu : P.underlying tS = some (.slice e)) (hi : (P.info? e).isSome = true) : OvlOK P kv := by
  obtain ⟨ti, hi⟩ := Option.isSome_iff_exists.1 hi
  exact ⟨tS, tR, e, ti.size, hu, fun w => run_size hi w, fun args w => run_callFunc_extern hF hname hb hn he args w⟩

/-! ### Lists -/

theorem prim_cell {v : Value} (h : primV v = true) : isCell v = true := by cases v <;> first | rfl | (simp [primV] at h)
theorem prim_cells {l : List Value} (h : l.all primV = true) : l.all isCell = true := by
  simp only [List.all_eq_true] at h ⊢
  exact fun v hv => prim_cell (h v hv)

end Go.Abs


/-
  slices.Insert: its code evaluated, where there is room and where there is none.
-/
set_option linter.unusedVariables false
set_option linter.unusedSimpArgs false
set_option maxRecDepth 100000
namespace Go.Abs
open Go Go.Abs.K

section
variable {g : Nat → Option AObj} {nx id o dl dc sz z m : Nat} {c new : List Value} {t : TypeId} {y : Value} {ly : Nat}
end

def insPlace (c : List Value) (o k n sz : Nat) (row : List Value) : List Value := c.take (o + k * sz) ++ row ++ (c.drop (o + k * sz)).take ((n - k) * sz) ++ c.drop (o + (n + 1) * sz)
def insGrow (c : List Value) (o k n sz : Nat) (row : List Value) : List Value := (c.drop o).take (k * sz) ++ row ++ (c.drop (o + k * sz)).take ((n - k) * sz)

section
variable {cs : Nat → CallSem} {e : TypeId} {sz b : Nat} {z : List Value} {kv kr ki : FuncId} {s : St} {id yb oo oy yc n cc k : Nat} {c ys : List Value} {t ty : TypeId} {zy : Nat}

end
end Go.Abs
