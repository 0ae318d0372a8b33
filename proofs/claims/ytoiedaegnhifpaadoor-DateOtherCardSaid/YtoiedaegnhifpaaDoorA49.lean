/-
  The keys of a map, sorted, in a slice of their own: a call whose answer is known.
-/
import Derived.Test.YtoiedaegnhifpaaDoorA46
set_option linter.unusedVariables false
set_option linter.unusedSimpArgs false
set_option maxRecDepth 100000
namespace Go.Abs
open Go Go.Abs.K Go.RowKit Go.ChangeShapes Go.WideShapes

theorem row_known {β : Map} {s : St} {w w' : World} (hs : Sim β s.heap.get w) (hfr : β s.next = none) (hbel : Below w.heap.size w w') {t : TypeId} {v : Value} {vs : List Value} (hne : vs ≠ [])
    (hrow : w'.ownsRow w.heap.size t 1 v vs.length vs) (hp : ∀ β : Map, ∀ x ∈ vs, VRel β x x) :
    ∃ β', VRel β' (.slice (some ⟨s.next, 0, none⟩) vs.length vs.length) v ∧ Sim β' (s.heap.put s.next (some (.cells vs t 1 false))).get w' ∧ Step β s.heap.get w β' (s.heap.put s.next (some (.cells vs t 1 false))).get w' s.next (s.next + 1) := by
  rcases hrow.2 with ⟨h1, h2⟩ | ⟨g, cap, cur, rfl, hg, hgb, hcap, hmax, hcs, hcur⟩
  · exact absurd (List.eq_nil_of_length_eq_zero h2) hne
  · simp only [Nat.mul_one] at hcs hcur
    obtain ⟨rn, hrn⟩ : ∃ rn : Rec, rn = ⟨g, 0, cap - vs.length, vs.length, 1⟩ := ⟨_, rfl⟩
    have hnew : ORel (ext β s.next rn) rn (.cells vs t 1 false) w'.heap[rn.blk]? := by
      subst hrn
      simp only
      rw [hgb]
      refine ⟨rfl, rfl, by simp, fun _ => ⟨rfl, by omega⟩, by simp only; omega, fun i hi => ⟨vs[i], ?_, hp _ _ (List.getElem_mem hi)⟩, fun _ => .inl rfl, fun h => absurd h (by omega), fun h => absurd h (by omega)⟩
      have := congrArg (fun q => q[i]?) hcur
      simp only [List.getElem?_take, if_pos hi] at this
      simp only [Nat.zero_add]
      rw [← Array.getElem?_toList, this]
      exact List.getElem?_eq_getElem hi
    obtain ⟨h1, h2⟩ := fresh_step (n := s.next) hs hfr hbel (by rw [hrn]; exact hg) rfl hnew
    have hx : ext β s.next rn s.next = some rn := by simp [ext]
    have hv := VRel.slice (β := ext β s.next rn) (o := 0) (len := vs.length) (cap := vs.length) (cap' := cap) hx (.inr ⟨by rw [hrn]; simp only; omega, by rw [hrn]; simp only; omega⟩)
    refine ⟨ext β s.next rn, ?_, ?_, ?_⟩
    · rw [hrn] at hv ⊢; exact hv
    · simp only [show (s.heap.put s.next (some (.cells vs t 1 false))).get = fun j => if j = s.next then some (.cells vs t 1 false) else s.heap.get j from funext fun j => Heap.get_put _ _ _ _]; exact h1
    · simp only [show (s.heap.put s.next (some (.cells vs t 1 false))).get = fun j => if j = s.next then some (.cells vs t 1 false) else s.heap.get j from funext fun j => Heap.get_put _ _ _ _]; exact h2

structure KeysOK {K : Type} (P : Program) (fS : FuncId) (k t : TypeId) (enc : K → Value) (keysOf : List MapEntry → Nat → Option (List K)) (sort : List K → List K) (keysD : DataW Unit → List K) (le : K → K → Bool) : Prop where
  can : Callable P fS
  own : ∀ (β : Map) (es : List MapEntry) (ES : Array MapEntry) (clock b : Nat) (l : List K) (w : World), w.heap[b]? = some (.map ES clock) → All2 (ERel β) es ES.toList → keysOf es clock = some l →
    ∃ D : DataW Unit, w.ownsMap P k anyR b ES.size D ∧ l.Perm (keysD D) ∧ Maps.size D ≤ 1073741824
  same : ∀ a b : List K, a.Perm b → a.mergeSort le = sort b
  prim : ∀ (β : Map) (x : K), VRel β (enc x) (enc x)
  run : ∀ (b nn : Nat) (D : DataW Unit) (w : World), w.ownsMap P k anyR b nn D → Maps.size D ≤ 1073741824 →
    Calls P fS #[.map (some b)] w fun e w' => ∃ (v : Value) (ss : List K), e = .returned v ∧ ss.Perm (keysD D) ∧ w'.ownsRow w.heap.size t 1 v ss.length ((ss.mergeSort le).map enc) ∧ (v = .slice none 0 0 ↔ ss = []) ∧ Below w.heap.size w w'

/-! ### Keys that are ints -/
/-! ### Keys that are strings -/
end Go.Abs
