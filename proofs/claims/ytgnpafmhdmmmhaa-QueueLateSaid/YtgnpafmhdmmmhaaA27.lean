/-
  A law's call, from its arguments' blocks.
-/
import Derived.Test.YtgnpafmhdmmmhaaA26
set_option linter.unusedVariables false
set_option linter.unusedSimpArgs false
namespace Go.Abs
open Go Go.RowKit Go.ChangeShapes Go.WideShapes

theorem Args.find_mem {l : Args} (hn : (l.map fun p => p.1).Nodup) {p : Nat × Rec × AObj} (hp : p ∈ l) : (l.find? fun q => q.1 == p.1) = some p := by
  induction l with
  | nil => cases hp
  | cons q l ih =>
    simp only [List.map_cons, List.nodup_cons] at hn
    simp only [List.find?_cons]
    rcases List.mem_cons.1 hp with rfl | hp
    · simp
    · have : ¬ q.1 = p.1 := fun e => hn.1 (by rw [e]; exact List.mem_map.2 ⟨p, hp, rfl⟩)
      have h2 : (q.1 == p.1) = false := by simpa using this
      rw [h2]
      exact ih hn.2 hp

theorem Args.map'_mem {l : Args} (hn : (l.map fun p => p.1).Nodup) {p : Nat × Rec × AObj} (hp : p ∈ l) : l.map' p.1 = some p.2.1 := by
  simp only [Args.map', Args.find_mem hn hp, Option.map_some]

theorem Args.get_mem {l : Args} (hn : (l.map fun p => p.1).Nodup) {p : Nat × Rec × AObj} (hp : p ∈ l) : Heap.get l.heap p.1 = some p.2.2 := by
  rw [Args.heap_get, Args.find_mem hn hp, Option.map_some]

theorem law_args {P : Program} {tbl : FuncId → Option AFun} {ov : CallSem} (h : TableOK P tbl ov) {f : FuncId} {fn : AFun} (hf : tbl f = some fn) {vs args : List Value} {l : Args} {n : Nat} {w : World} {v : Value} (hp : primV v = true)
    (hl : ∀ p ∈ l, p.1 < n ∧ (∀ β, ORel β p.2.1 p.2.2 w.heap[p.2.1.blk]?) ∧ p.2.2.isRo = true)
    (hw : WCall (fun k => call tbl ov k) f vs ⟨l.heap, n⟩ fun u _ => u = v) (ha : LRel l.map' vs args) :
    Calls P f args.toArray w fun e w' => e = .returned v ∧ Below w.heap.size w w' :=
  law_calls h hf hp hw (Args.sim fun p hp => ⟨(hl p hp).2.1 _, (hl p hp).2.2⟩) (Args.ro fun p hp => (hl p hp).2.2) (Args.fresh fun p hp => (hl p hp).1) (Args.wf fun p hp => (hl p hp).1) ha

/-- A slice of numbers as a law's argument: its block is read alone. -/
def IntsAt (k : IntKind) (s : St) (av : Value) (zs : List Int) (len : Nat) : Prop :=
  len ≤ zs.length ∧ ((av = .slice none 0 0 ∧ len = 0) ∨ ∃ a cap T, av = .slice (some ⟨a, 0, none⟩) len cap ∧ a < s.next ∧ s.heap.get a = some (.cells (zs.map (.int k)) T 1 true))

end Go.Abs
