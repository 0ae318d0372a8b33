/-
  The queue: All (slices.Clone, slices.Clip) and Late.
-/
import Derived.Test.YtehgdocbabaldaaGreatFQ7
set_option maxRecDepth 100000
set_option linter.unusedVariables false
set_option linter.unusedSimpArgs false
namespace Go.Proofs.YtehgdocbabaldaaGreat.Q
open Go Go.Abs Go.Abs.K

section
variable {tbl : FuncId → Option AFun} {ov : CallSem} {s : St} (T : QTbl tbl)
include T

end

end Go.Proofs.YtehgdocbabaldaaGreat.Q


/-
  The reference's Insert and Without.
-/
set_option maxRecDepth 100000
set_option linter.unusedVariables false
set_option linter.unusedSimpArgs false
namespace Go.Proofs.YtehgdocbabaldaaGreat.Q
open Go Go.Abs Go.Abs.K

def wrOf : Value → List Nat
  | .slice (some a) _ _ => [a.block]
  | _ => []

theorem all_tt (l : List Nat) : (l.all fun _ => true) = true := by simp
theorem foot_append (e : TypeId) (sz b : Nat) (x y : Value) : footOf (.append e sz b x y) = (wrOf y, wrOf x) := rfl
theorem foot_slice (sz : Nat) (x : Value) (lo hi mx : Option Value) : footOf (.slice (.slice sz) x lo hi mx) = (wrOf x, []) := by
  cases x <;> try rfl
  rename_i a _ _
  cases a <;> rfl

theorem wrOf_rowV {s : St} {v : Value} {cs : List (List Value)} (h : RowV 5 s v cs) : ∀ x ∈ wrOf v, x < s.next := by
  obtain ⟨_, ⟨rfl, _⟩ | ⟨id, o, cap, c, T, ro, rfl, _, h, _⟩⟩ := h
  · intro x hx; cases hx
  · intro x hx; rw [List.mem_singleton.1 hx]; exact h

theorem disj_of {a b : List Nat} (h : ∀ x ∈ a, ∀ y ∈ b, x ≠ y) : disj a b = true := by
  simp only [disj, List.all_eq_true, decide_eq_true_eq]
  exact h

section
variable {tbl : FuncId → Option AFun} {ov : CallSem} {s : St} (T : QTbl tbl)
include T

end

end Go.Proofs.YtehgdocbabaldaaGreat.Q
