/-
  A law's arguments as abstract values: numbers, slices of numbers, structs of plain cells.
-/
import Derived.Test.YtoiedaegnhifpaaDoorA22
import Derived.ChangeSlices
import Derived.ProofKit
set_option linter.unusedVariables false
set_option linter.unusedSimpArgs false
namespace Go.Abs
open Go Go.RowKit Go.ChangeShapes Go.WideShapes

abbrev Args := List (Nat × Rec × AObj)
def Args.map' (l : Args) : Map := fun id => match l.find? fun p => p.1 == id with
  | some p => some p.2.1
  | none => if id < kept0 then some ⟨0, 0, 0, 0, 0⟩ else none
def Args.heap (l : Args) : Heap := l.map fun p => (p.1, some p.2.2)

theorem Args.heap_get (l : Args) (id : Nat) : l.heap.get id = (l.find? fun p => p.1 == id).map fun p => p.2.2 := by
  induction l with
  | nil => rfl
  | cons p l ih =>
    simp only [Args.heap, List.map_cons, Heap.get, List.find?_cons]
    by_cases e : p.1 = id
    · simp [e]
    · have e' : ¬ id = p.1 := fun h => e h.symm
      have e2 : (p.1 == id) = false := by simpa using e
      simp only [e', if_false, e2]
      exact ih

theorem Args.sim {l : Args} {w : World} (h : ∀ p ∈ l, ORel l.map' p.2.1 p.2.2 w.heap[p.2.1.blk]? ∧ p.2.2.isRo = true) : Sim l.map' (Heap.get l.heap) w where
  obj := by
    intro id r o h1 h2
    rw [Args.heap_get] at h2
    simp only [Option.map_eq_some_iff] at h2
    obtain ⟨q, hq, rfl⟩ := h2
    simp only [Args.map', hq, Option.some.injEq] at h1
    subst h1
    exact (h q (List.mem_of_find?_eq_some hq)).1
  inj := by
    intro id1 id2 r1 r2 o1 o2 h1 h2 h3 h4 h5
    right
    rw [Args.heap_get] at h3 h4
    simp only [Option.map_eq_some_iff] at h3 h4
    obtain ⟨p, hp, rfl⟩ := h3
    obtain ⟨q, hq, rfl⟩ := h4
    exact ⟨(h p (List.mem_of_find?_eq_some hp)).2, (h q (List.mem_of_find?_eq_some hq)).2⟩
  tot := by
    intro id hid
    unfold Args.map'
    split
    · exact ⟨_, rfl⟩
    · exact ⟨_, if_pos hid⟩

theorem Args.ro {l : Args} (h : ∀ p ∈ l, p.2.2.isRo = true) : ∀ id o, Heap.get l.heap id = some o → o.isRo = true := by
  intro id o ho
  rw [Args.heap_get] at ho
  simp only [Option.map_eq_some_iff] at ho
  obtain ⟨p, hp, rfl⟩ := ho
  exact h p (List.mem_of_find?_eq_some hp)

theorem Args.fresh {l : Args} {n : Nat} (hn : 8 ≤ n) (h : ∀ p ∈ l, p.1 < n) : ∀ id, n ≤ id → l.map' id = none := by
  intro id hid
  have : l.find? (fun p => p.1 == id) = none := by
    rw [List.find?_eq_none]
    intro p hp
    have := h p hp
    simp; omega
  simp only [Args.map', this]
  exact if_neg (by unfold kept0; omega)

theorem Args.wf {l : Args} {n : Nat} (h : ∀ p ∈ l, p.1 < n) : WFs ⟨l.heap, n⟩ := by
  intro id hid
  show Heap.get l.heap id = none
  rw [Args.heap_get]
  simp only [Option.map_eq_none_iff, List.find?_eq_none]
  intro p hp
  have := h p hp
  simp only at hid
  simp; omega

end Go.Abs
