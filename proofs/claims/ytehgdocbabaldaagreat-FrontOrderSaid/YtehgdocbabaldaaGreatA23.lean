/-
  A law's arguments as abstract values: numbers, slices of numbers, structs of plain cells.
-/
import Derived.Test.YtehgdocbabaldaaGreatA22
import Derived.ChangeSlices
import Derived.ProofKit
set_option linter.unusedVariables false
set_option linter.unusedSimpArgs false
namespace Go.Abs
open Go Go.RowKit Go.ChangeShapes Go.WideShapes

abbrev Args := List (Nat × Rec × AObj)
def Args.map' (l : Args) : Map := fun id => (l.find? fun p => p.1 == id).map fun p => p.2.1
def Args.heap (l : Args) : Heap := l.map fun p => (p.1, some p.2.2)

theorem Args.heap_get (l : Args) (id : Nat) : l.heap.get id = (l.find? fun p => p.1 == id).map fun p => p.2.2 := by
  induction l with
  | nil => rfl
  | cons p l ih =>
    simp only [Args.heap, List.map_cons, Heap.get, List.find?_cons]
    by_cases e : p.1 = id
    · simp [e]
    · have e' : ¬ id = p.1 := fun h => e h.symm
      have e2 : (p.1 == id) = false := by simpa using e
      simp only [e', if_false, e2]
      exact ih

theorem Args.sim {l : Args} {w : World} (h : ∀ p ∈ l, ORel l.map' p.2.1 p.2.2 w.heap[p.2.1.blk]? ∧ p.2.2.isRo = true) : Sim l.map' (Heap.get l.heap) w where
  obj := by
    intro id r o h1 h2
    rw [Args.heap_get] at h2
    simp only [Args.map', Option.map_eq_some_iff] at h1 h2
    obtain ⟨p, hp, rfl⟩ := h1
    obtain ⟨q, hq, rfl⟩ := h2
    rw [hp] at hq; cases hq
    exact (h p (List.mem_of_find?_eq_some hp)).1
  inj := by
    intro id1 id2 r1 r2 o1 o2 h1 h2 h3 h4 h5
    right
    rw [Args.heap_get] at h3 h4
    simp only [Option.map_eq_some_iff] at h3 h4
    obtain ⟨p, hp, rfl⟩ := h3
    obtain ⟨q, hq, rfl⟩ := h4
    exact ⟨(h p (List.mem_of_find?_eq_some hp)).2, (h q (List.mem_of_find?_eq_some hq)).2⟩

theorem Args.ro {l : Args} (h : ∀ p ∈ l, p.2.2.isRo = true) : ∀ id o, Heap.get l.heap id = some o → o.isRo = true := by
  intro id o ho
  rw [Args.heap_get] at ho
  simp only [Option.map_eq_some_iff] at ho
  obtain ⟨p, hp, rfl⟩ := ho
  exact h p (List.mem_of_find?_eq_some hp)

theorem Args.fresh {l : Args} {n : Nat} (h : ∀ p ∈ l, p.1 < n) : ∀ id, n ≤ id → l.map' id = none := by
  intro id hid
  simp only [Args.map', Option.map_eq_none_iff, List.find?_eq_none]
  intro p hp
  have := h p hp
  simp; omega

theorem Args.wf {l : Args} {n : Nat} (h : ∀ p ∈ l, p.1 < n) : WFs ⟨l.heap, n⟩ := by
  intro id hid
  show Heap.get l.heap id = none
  rw [Args.heap_get]
  simp only [Option.map_eq_none_iff, List.find?_eq_none]
  intro p hp
  have := h p hp
  simp only at hid
  simp; omega

theorem open_intsA {H : Type} {enc : TypeId × Value → H} {P : Program} {w : World} {base : Nat} {t e : TypeId} {k : IntKind} {v : Value} {d : DataW H} {ps : List MemPlace} (ht : P.underlying t = some (.slice e)) (he : P.underlying e = some (.int k)) (hc : P.cellsOf e = 1)
    (hval : Value.okWide P w .any base t v) (h : DataW.Trod enc P w 0 (fun _ => true) true t v d ps) (id : Nat) :
    ∃ (av : Value) (l : Args) (len cap : Nat) (zs : List Int), len ≤ cap ∧ cap ≤ maxLen ∧ zs.length = cap ∧ (∀ n ∈ zs, (Lit.int k n).wf = true) ∧
      (∀ p ∈ l, p.1 = id ∧ (∀ β, ORel β p.2.1 p.2.2 w.heap[p.2.1.blk]?) ∧ p.2.2.isRo = true) ∧
      ((av = .slice none 0 0 ∧ l = [] ∧ zs = []) ∨ ∃ T r, av = .slice (some ⟨id, 0, none⟩) len cap ∧ l = [(id, r, .cells (zs.map (.int k)) T 1 true)]) ∧
      (∀ β : Map, (∀ p ∈ l, β id = some p.2.1) → VRel β av v) ∧
      ((len = 0 ∧ cap = 0 ∧ v = .slice none 0 0) ∨ ∃ a, v = .slice (some a) len cap) := by
  obtain ⟨fuel, hf⟩ := h
  rcases open_ints ht he hc hf with ⟨hcs, _⟩ | ⟨a, len, cap, zs, hcs, _, hl, hm, hz, _, hcell, hwf⟩
  · have hv : v = .slice none 0 0 := by
      cases v <;> simp [Value.cells] at hcs
      · simpa using hcs
      · simp [Value.okWide, ht, Cell.okWide, Cell.ok] at hval
    subst hv
    exact ⟨.slice none 0 0, [], 0, 0, [], Nat.le_refl _, by simp [maxLen], rfl, by simp, by simp, .inl ⟨rfl, rfl, rfl⟩, fun β _ => .prim _ rfl, .inl ⟨rfl, rfl, rfl⟩⟩
  · have hv : v = .slice (some a) len cap := by
      cases v <;> simp [Value.cells] at hcs
      · simpa using hcs
      · simp [Value.okWide, ht, Cell.okWide, Cell.ok] at hval
    subst hv
    simp only [if_true] at hz
    have hhas : w.has P .any base a e cap := by
      have := hval
      simp only [Value.okWide, ht, Cell.okWide, Cell.ok] at this
      exact this.2.2
    obtain ⟨_, hspot, row, cells, hshape, _⟩ := hhas
    obtain ⟨C, T, fr, hC⟩ : ∃ C T fr, w.heap[a.block]? = some (.cells C T fr) := by
      unfold World.shape? at hshape
      split at hshape
      · rename_i c e' f hq; exact ⟨c, e', f, hq⟩
      · cases hshape
    have hcell' : ∀ i, i < zs.length → C[a.off + i]? = some (.int k (zs.getD i 0)) := by
      intro i hi
      have := hcell i hi
      unfold World.cell? Addr.add at this
      by_cases h0 : i = 0
      · subst h0
        simp only [if_true, hC, hspot, Option.isSome_none, Bool.false_eq_true, if_false] at this
        simpa using this
      · simp only [h0, if_false, hC, Option.isSome_none, Bool.false_eq_true] at this
        exact this
    let r : Rec := ⟨a.block, if cap = 0 then 0 else a.off, 0, cap, 1⟩
    refine ⟨.slice (some ⟨id, 0, none⟩) len cap, [(id, r, .cells (zs.map (.int k)) T 1 true)], len, cap, zs, hl, hm, hz, hwf, ?_, .inr ⟨T, r, rfl, rfl⟩, ?_, .inr ⟨a, rfl⟩⟩
    · intro p hp
      simp only [List.mem_singleton] at hp
      subst hp
      refine ⟨rfl, fun β => ?_, rfl⟩
      show ORel β r (.cells (zs.map (.int k)) T 1 true) w.heap[a.block]?
      rw [hC]
      refine ⟨rfl, by simp [r, hz], fun _ => rfl, fun h => absurd rfl h, ?_, ?_, fun h => (by cases h), fun _ i hi => by simp [r] at hi, fun _ hr => by cases hr⟩
      · simp only [List.length_map, hz, r]
        by_cases h0 : cap = 0
        · simp [h0]
        · have := hcell' (cap - 1) (by omega)
          have := (Array.getElem?_eq_some_iff.1 this).1
          simp only [h0, if_false]; omega
      · intro i hi
        simp only [List.length_map] at hi
        have h0 : cap ≠ 0 := by omega
        refine ⟨_, by simpa [r, h0] using hcell' i hi, ?_⟩
        simp only [List.getElem_map, List.getD_eq_getElem?_getD, List.getElem?_eq_getElem hi, Option.getD_some]
        exact .prim _ rfl
    · intro β hβ
      have hb := hβ _ (List.mem_singleton.2 rfl)
      by_cases h0 : cap = 0
      · have : len = 0 := by omega
        subst h0; subst this
        exact .empty hb
      · have := VRel.slice (β := β) (id := id) (o := 0) (len := len) (cap := cap) (cap' := cap) hb (.inl rfl)
        have he : a = ⟨r.blk, r.base + 0, none⟩ := by
          obtain ⟨b, o, sp⟩ := a
          simp only at hspot
          subst hspot
          simp [r, h0]
        rw [he]; exact this

end Go.Abs
