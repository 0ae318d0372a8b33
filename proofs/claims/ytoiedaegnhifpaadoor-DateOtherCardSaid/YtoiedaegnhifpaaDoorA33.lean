/-
  Loops without a step; rows of elements of several cells.
-/
import Derived.Test.YtoiedaegnhifpaaDoorA32
set_option linter.unusedVariables false
set_option linter.unusedSimpArgs false
namespace Go.Abs
open Go

def RowsO (t : TypeId) (sz : Nat) (s : St) (v : Value) (cs : List (List Value)) (S : List Nat) : Prop :=
  (∀ c ∈ cs, c.length = sz ∧ c.all isCell = true) ∧ ((v = .slice none 0 0 ∧ cs = [] ∧ S = []) ∨ ∃ id o cap c, v = .slice (some ⟨id, o, none⟩) cs.length cap ∧ S = [id] ∧ cs.length ≤ cap ∧ id < s.next ∧ s.heap.get id = some (.cells c t sz false) ∧ o + cap * sz ≤ c.length ∧ (c.drop o).take (cs.length * sz) = cs.flatten)

theorem RowsO.lt {t : TypeId} {sz : Nat} {s : St} {v : Value} {cs : List (List Value)} {S : List Nat} (h : RowsO t sz s v cs S) : ∀ x ∈ S, x < s.next := by
  obtain ⟨hz, ⟨rfl, rfl, rfl⟩ | ⟨id, o, cap, c, rfl, rfl, h1, h2, h3, h4, h5⟩⟩ := h
  · simp
  · simpa using h2

theorem RowsO.kept {t : TypeId} {sz : Nat} {s s' : St} {v : Value} {cs : List (List Value)} {S T : List Nat} (h : RowsO t sz s v cs S) (hk : Kept T s s') (hd : ∀ x ∈ S, x ∉ T) : RowsO t sz s' v cs S := by
  obtain ⟨hz, h | ⟨id, o, cap, c, rfl, rfl, h1, h2, h3, h4, h5⟩⟩ := h
  · exact ⟨hz, .inl h⟩
  · exact ⟨hz, .inr ⟨id, o, cap, c, rfl, rfl, h1, Nat.lt_of_lt_of_le h2 hk.1, by rw [hk.2 id h2 (hd id (by simp))]; exact h3, h4, h5⟩⟩

theorem flatten_len {cs : List (List Value)} {sz : Nat} (h : ∀ c ∈ cs, c.length = sz ∧ c.all isCell = true) : cs.flatten.length = cs.length * sz := by
  induction cs with
  | nil => simp
  | cons c cs ih =>
    simp only [List.flatten_cons, List.length_append, List.length_cons, (h c (List.mem_cons_self ..)).1, ih (fun c hc => h c (List.mem_cons_of_mem _ hc)), Nat.add_mul]
    omega

end Go.Abs
