/-
  Steps of the world that an operation makes: none, a new block, a block written, a slice that grows.
-/
import Derived.Test.YtoiedaegnhifpaaDoorA3
import Derived.Laws.Rows
import Derived.Laws.Entries
import Derived.Laws.Small
import Derived.Laws.BytesString
set_option linter.unusedVariables false
set_option linter.unusedSimpArgs false
namespace Go.Abs
open Go

def updF (h : HF) : List (Nat × Option AObj) → HF
  | [] => h
  | (i, o) :: r => updF (fun j => if j = i then o else h j) r

theorem get_applyUpd (us : List (Nat × Option AObj)) : ∀ H : Heap, (applyUpd H us).get = updF H.get us := by
  induction us with
  | nil => intro H; rfl
  | cons p r ih =>
    intro H
    obtain ⟨i, o⟩ := p
    simp only [applyUpd, updF, ih]
    congr 1
    funext j
    exact Heap.get_put H i o j

def OpOK (P : Program) (β : Map) (h : HF) (w : World) (n : Nat) (res : Res) {α : Type} (val : α → Value) (r : Sem α) : Prop :=
  ∃ x w' β', r.run P w = .ok x w' ∧ VRel β' res.val (val x) ∧ Sim β' (updF h res.upd) w' ∧ Step β h w β' (updF h res.upd) w' n res.next

theorem OpOK.pure {P : Program} {β : Map} {h : HF} {w : World} {n : Nat} {v : Value} {α : Type} {val : α → Value} {r : Sem α} {x : α}
    (hs : Sim β h w) (hr : r.run P w = .ok x w) (hv : VRel β v (val x)) : OpOK P β h w n ⟨v, [], n⟩ val r :=
  ⟨x, w, β, hr, hv, hs, Step.refl β h w n⟩

theorem Sim.drawn {β : Map} {h : HF} {w w' : World} (hs : Sim β h w) (he : w'.heap = w.heap) : Sim β h w' :=
  ⟨fun id r o hb ho => by rw [he]; exact hs.obj id r o hb ho, hs.inj, hs.tot⟩

def ext (β : Map) (n : Nat) (r : Rec) : Map := fun id => if id = n then some r else β id
theorem ext_le {β : Map} {n : Nat} {r : Rec} (h : β n = none) : Map.le β (ext β n r) := by
  intro id q e
  unfold ext
  by_cases i : id = n
  · subst i; rw [h] at e; cases e
  · rw [if_neg i]; exact e

theorem heap_push_old {w : World} {o : Obj} {k : Nat} (h : k < w.heap.size) : (w.heap.push o)[k]? = w.heap[k]? := by
  rw [Array.getElem?_push, if_neg (by omega)]

theorem alloc_step {β : Map} {h : HF} {w w' : World} {n : Nat} {r : Rec} {o : AObj} {ob : Obj} (hs : Sim β h w) (hn : β n = none)
    (hw : w'.heap = w.heap.push ob) (h1 : w'.os = w.os) (h2 : w'.tape = w.tape) (h3 : w'.output = w.output)
    (hr : r.blk = w.heap.size) (ho : ORel (ext β n r) r o (some ob)) (hnr : o.isRo = false := by rfl) :
    Sim (ext β n r) (fun j => if j = n then some o else h j) w' ∧ Step β h w (ext β n r) (fun j => if j = n then some o else h j) w' n (n + 1) := by
  have hle := ext_le (r := r) hn
  have hold : ∀ id q x, ext β n r id = some q → (if id = n then some o else h id) = some x → id ≠ n → β id = some q ∧ h id = some x ∧ q.blk < w.heap.size := by
    intro id q x e f i
    simp only [ext, if_neg i] at e
    rw [if_neg i] at f
    exact ⟨e, f, hs.lt e f⟩
  refine ⟨⟨fun id q x e f => ?_, fun i1 i2 q1 q2 x1 x2 e1 e2 f1 f2 g => ?_, fun id hid => (hs.tot id hid).imp fun q e => hle id q e⟩, ?_⟩
  · by_cases i : id = n
    · subst i
      simp only [ext, if_true, Option.some.injEq] at e f
      subst e; subst f
      rw [hw, hr, Array.getElem?_push, if_pos rfl]; exact ho
    · obtain ⟨a, b, c⟩ := hold id q x e f i
      rw [hw, heap_push_old c]
      exact (hs.obj id q x a b).mono hle
  · by_cases i : i1 = n
    · by_cases j : i2 = n
      · exact .inl (i.trans j.symm)
      · obtain ⟨_, _, c⟩ := hold i2 q2 x2 e2 f2 j
        subst i
        simp only [ext, if_true, Option.some.injEq] at e1
        subst e1
        omega
    · by_cases j : i2 = n
      · obtain ⟨_, _, c⟩ := hold i1 q1 x1 e1 f1 i
        subst j
        simp only [ext, if_true, Option.some.injEq] at e2
        subst e2
        omega
      · obtain ⟨a1, b1, _⟩ := hold i1 q1 x1 e1 f1 i
        obtain ⟨a2, b2, _⟩ := hold i2 q2 x2 e2 f2 j
        exact hs.inj i1 i2 q1 q2 x1 x2 a1 a2 b1 b2 g
  · refine ⟨hle, by omega, fun id q e f => ?_, fun k hk _ => by rw [hw, heap_push_old hk], by rw [hw]; simp, fun k hk hlt => ?_, fun id q x e f g => ?_, h1, h2, h3⟩
    · by_cases i : id = n
      · omega
      · simp only [ext, if_neg i] at e; rw [f] at e; cases e
    · obtain ⟨id, q, x, e, f, g, hq⟩ := hk
      by_cases i : id = n
      · subst i
        simp only [ext, if_true, Option.some.injEq] at e
        subst e; omega
      · obtain ⟨a, b, _⟩ := hold id q x e f i
        exact ⟨id, q, x, a, b, g, hq⟩
    · by_cases i : id = n
      · subst i
        simp only [if_true, Option.some.injEq] at f
        subst f; rw [hnr] at g; cases g
      · obtain ⟨a, b, _⟩ := hold id q x e f i
        exact ⟨a, b⟩

theorem update_step {β : Map} {h : HF} {w w' : World} {n id : Nat} {r : Rec} {o o' : AObj} (hs : Sim β h w) (hb : β id = some r) (ho : h id = some o) (hro : o.isRo = false)
    (hro' : o'.isRo = false) (hk : ∀ k, k ≠ r.blk → w'.heap[k]? = w.heap[k]?) (hsz : w'.heap.size = w.heap.size) (h1 : w'.os = w.os) (h2 : w'.tape = w.tape) (h3 : w'.output = w.output)
    (hnew : ORel β r o' w'.heap[r.blk]?) :
    Sim β (fun j => if j = id then some o' else h j) w' ∧ Step β h w β (fun j => if j = id then some o' else h j) w' n n := by
  have hold : ∀ j q x, β j = some q → (if j = id then some o' else h j) = some x → j ≠ id → h j = some x ∧ q.blk ≠ r.blk := by
    intro j q x e f i
    rw [if_neg i] at f
    refine ⟨f, fun g => ?_⟩
    rcases hs.inj j id q r x o e hb f ho g with i' | ⟨_, i'⟩
    · exact i i'
    · rw [hro] at i'; cases i'
  refine ⟨⟨fun j q x e f => ?_, fun i1 i2 q1 q2 x1 x2 e1 e2 f1 f2 g => ?_, hs.tot⟩, Map.le_refl β, Nat.le_refl _, fun j q e f => (by rw [f] at e; cases e), fun k hk' hn => ?_, by omega, fun k hk' _ => ?_, fun j q x e f g => ?_, h1, h2, h3⟩
  · by_cases i : j = id
    · subst i
      rw [hb] at e; cases e
      rw [if_pos rfl] at f; cases f
      exact hnew
    · obtain ⟨a, b⟩ := hold j q x e f i
      rw [hk q.blk b]
      exact hs.obj j q x e a
  · by_cases i : i1 = id
    · by_cases j : i2 = id
      · exact .inl (i.trans j.symm)
      · obtain ⟨_, b⟩ := hold i2 q2 x2 e2 f2 j
        subst i; rw [hb] at e1; cases e1
        exact absurd g.symm b
    · by_cases j : i2 = id
      · obtain ⟨_, b⟩ := hold i1 q1 x1 e1 f1 i
        subst j; rw [hb] at e2; cases e2
        exact absurd g b
      · exact hs.inj i1 i2 q1 q2 x1 x2 e1 e2 (hold i1 q1 x1 e1 f1 i).1 (hold i2 q2 x2 e2 f2 j).1 g
  · refine hk k fun e => hn ⟨id, r, o, hb, ho, hro, e.symm⟩
  · obtain ⟨j, q, x, e, f, g, hq⟩ := hk'
    by_cases i : j = id
    · subst i; rw [hb] at e; cases e
      exact ⟨j, r, o, hb, ho, hro, hq⟩
    · exact ⟨j, q, x, e, (hold j q x e f i).1, g, hq⟩
  · by_cases i : j = id
    · rw [if_pos i] at f; cases f; rw [hro'] at g; cases g
    · exact ⟨e, (hold j q x e f i).1⟩

theorem kill_sim {β : Map} {h : HF} {w : World} {id : Nat} (hs : Sim β h w) : Sim β (fun j => if j = id then none else h j) w := by
  have hold : ∀ {j x}, (if j = id then none else h j) = some x → h j = some x := by
    intro j x f
    by_cases i : j = id
    · rw [if_pos i] at f; cases f
    · rwa [if_neg i] at f
  exact ⟨fun j q x e f => hs.obj j q x e (hold f), fun i1 i2 q1 q2 x1 x2 e1 e2 f1 f2 g => hs.inj i1 i2 q1 q2 x1 x2 e1 e2 (hold f1) (hold f2) g, hs.tot⟩

theorem kill_step {β β' : Map} {h h' : HF} {w w' : World} {n n' id : Nat} (hs : Step β h w β' h' w' n n') : Step β h w β' (fun j => if j = id then none else h' j) w' n n' := by
  have hold : ∀ {j x}, (if j = id then none else h' j) = some x → h' j = some x := by
    intro j x f
    by_cases i : j = id
    · rw [if_pos i] at f; cases f
    · rwa [if_neg i] at f
  refine ⟨hs.le, hs.next, hs.new, hs.frame, hs.size, fun k hk hlt => hs.img k ?_ hlt, fun j q x e f g => hs.ro j q x e (hold f) g, hs.os, hs.tape, hs.output⟩
  obtain ⟨j, q, x, e, f, g, hq⟩ := hk
  exact ⟨j, q, x, e, hold f, g, hq⟩

theorem rename_step {β : Map} {h : HF} {w w' : World} {n id : Nat} {r r' : Rec} {o o' : AObj} (hs : Sim β h w) (hn : β n = none) (hb : β id = some r) (ho : h id = some o) (hro : o.isRo = false)
    (hro' : o'.isRo = false) (hk : ∀ k, k ≠ r.blk → w'.heap[k]? = w.heap[k]?) (hsz : w'.heap.size = w.heap.size) (h1 : w'.os = w.os) (h2 : w'.tape = w.tape) (h3 : w'.output = w.output)
    (hblk : r'.blk = r.blk) (hnew : ORel (ext β n r') r' o' w'.heap[r.blk]?) :
    Sim (ext β n r') (fun j => if j = id then none else if j = n then some o' else h j) w' ∧
      Step β h w (ext β n r') (fun j => if j = id then none else if j = n then some o' else h j) w' n (n + 1) := by
  have hle := ext_le (r := r') hn
  have hne : id ≠ n := fun e => by subst e; rw [hn] at hb; cases hb
  have hold : ∀ j q x, ext β n r' j = some q → (if j = id then none else if j = n then some o' else h j) = some x → j ≠ n → β j = some q ∧ h j = some x ∧ q.blk ≠ r.blk := by
    intro j q x e f i
    simp only [ext, if_neg i] at e
    by_cases i' : j = id
    · rw [if_pos i'] at f; cases f
    · rw [if_neg i', if_neg i] at f
      refine ⟨e, f, fun g => ?_⟩
      rcases hs.inj j id q r x o e hb f ho g with i2 | ⟨_, i2⟩
      · exact i' i2
      · rw [hro] at i2; cases i2
  refine ⟨⟨fun j q x e f => ?_, fun i1 i2 q1 q2 x1 x2 e1 e2 f1 f2 g => ?_, fun j hj => (hs.tot j hj).imp fun q e => hle j q e⟩, hle, by omega, fun j q e f => ?_, fun k hk' hn' => ?_, by omega, fun k hk' _ => ?_, fun j q x e f g => ?_, h1, h2, h3⟩
  · by_cases i : j = n
    · subst i
      simp only [ext, if_true, Option.some.injEq] at e
      subst e
      rw [if_neg (Ne.symm hne), if_pos rfl] at f; cases f
      rw [hblk]; exact hnew
    · obtain ⟨a, b, c⟩ := hold j q x e f i
      rw [hk q.blk c]
      exact (hs.obj j q x a b).mono hle
  · by_cases i : i1 = n
    · by_cases j : i2 = n
      · exact .inl (i.trans j.symm)
      · obtain ⟨_, _, b⟩ := hold i2 q2 x2 e2 f2 j
        subst i
        simp only [ext, if_true, Option.some.injEq] at e1
        subst e1
        exact absurd (g.symm.trans hblk) b
    · by_cases j : i2 = n
      · obtain ⟨_, _, b⟩ := hold i1 q1 x1 e1 f1 i
        subst j
        simp only [ext, if_true, Option.some.injEq] at e2
        subst e2
        exact absurd (g.trans hblk) b
      · obtain ⟨a1, b1, _⟩ := hold i1 q1 x1 e1 f1 i
        obtain ⟨a2, b2, _⟩ := hold i2 q2 x2 e2 f2 j
        exact hs.inj i1 i2 q1 q2 x1 x2 a1 a2 b1 b2 g
  · by_cases i : j = n
    · omega
    · simp only [ext, if_neg i] at e; rw [f] at e; cases e
  · exact hk k fun e => hn' ⟨id, r, o, hb, ho, hro, e.symm⟩
  · obtain ⟨j, q, x, e, f, g, hq⟩ := hk'
    by_cases i : j = n
    · subst i
      simp only [ext, if_true, Option.some.injEq] at e
      subst e
      exact ⟨id, r, o, hb, ho, hro, hblk.symm.trans hq⟩
    · obtain ⟨a, b, _⟩ := hold j q x e f i
      exact ⟨j, q, x, a, b, g, hq⟩
  · by_cases i : j = n
    · subst i
      rw [if_neg (Ne.symm hne), if_pos rfl] at f; cases f; rw [hro'] at g; cases g
    · obtain ⟨a, b, _⟩ := hold j q x e f i
      exact ⟨a, b⟩

/-! ### Reading and writing cells -/

theorem add_eq (b o n : Nat) : (⟨b, o, none⟩ : Addr).add n = ⟨b, o + n, none⟩ := by
  unfold Addr.add
  split
  · rename_i h; subst h; rfl
  · rfl

theorem ORel.cells_inv {β : Map} {r : Rec} {c : List Value} {t : TypeId} {sz : Nat} {ro : Bool} {q : Option Obj} (h : ORel β r (.cells c t sz ro) q) :
    ∃ C fr, q = some (.cells C t fr) ∧ r.n = c.length ∧ (ro = true → r.slack = 0) ∧ (r.slack ≠ 0 → r.sz = sz ∧ sz < 4294967296) ∧ r.base + c.length + r.slack * r.sz ≤ C.size ∧
    (∀ i, (h : i < c.length) → ∃ y, C[r.base + i]? = some y ∧ VRel β c[i] y) ∧
    (ro = false → fr.1 = fr.2 ∨ (sz = 1 ∧ r.base + c.length + r.slack * r.sz ≤ fr.1)) ∧
    ((1 < sz → ∀ i, i < r.slack * r.sz → ∃ y, C[r.base + c.length + i]? = some y ∧ primV y = true) ∧ (sz = 0 → ro = false → r.n ≠ 0 → r.base = 0)) := by
  cases q with
  | none => exact h.elim
  | some q =>
    cases q with
    | cells C T fr => obtain ⟨h1, h2⟩ := h; subst h1; exact ⟨C, fr, rfl, h2⟩
    | _ => exact h.elim

theorem ORel.map_inv {β : Map} {r : Rec} {es : List MapEntry} {k : Nat} {q : Option Obj} (h : ORel β r (.map es k) q) : ∃ ES, q = some (.map ES k) ∧ All2 (ERel β) es ES.toList := by
  cases q with
  | none => exact h.elim
  | some q =>
    cases q with
    | map ES k' => obtain ⟨h1, h2⟩ := h; subst h1; exact ⟨ES, rfl, h2⟩
    | _ => exact h.elim

theorem cells_read {β : Map} {h : HF} {w : World} {id o n : Nat} {r : Rec} {l : List Value} (hs : Sim β h w) (hb : β id = some r) (hl : cellsAt h id o n = some l) :
    ∃ l', LRel β l l' ∧ l.length = n ∧ ∀ j v, l'[j]? = some v → w.cell? ((⟨r.blk, r.base + o, none⟩ : Addr).add j) = some v := by
  unfold cellsAt at hl
  cases ho : h id with
  | none => simp [ho] at hl
  | some ob =>
    rw [ho] at hl
    cases ob with
    | map _ _ => simp at hl
    | iter _ _ => simp at hl
    | glob _ _ => simp at hl
    | cells c t sz ro =>
      simp only at hl
      split at hl
      case isFalse => cases hl
      rename_i hle
      cases hl
      obtain ⟨C, fr, hq, _, _, _, hsz, hc, _⟩ := (hs.obj id r _ hb ho).cells_inv
      refine ⟨((C.toList.drop (r.base + o)).take n), ?_, by simp; omega, ?_⟩
      · rw [lrel_iff]
        refine ⟨by simp; omega, fun i hi hi' => ?_⟩
        simp only [List.length_take, List.length_drop] at hi
        obtain ⟨y, hy, hv⟩ := hc (o + i) (by omega)
        have : y = (C.toList)[r.base + o + i]'(by simp; omega) := by
          have := List.getElem_eq_iff (h := (by simp; omega : r.base + o + i < C.toList.length)) |>.2 (by simpa [Nat.add_assoc] using hy)
          exact this.symm
        simp only [List.getElem_take, List.getElem_drop]
        rw [← this]; exact hv
      · intro j v hv
        rw [add_eq, cell_of_row w r.blk _ C t fr hq]
        rw [List.getElem?_take] at hv
        split at hv
        · rw [List.getElem?_drop] at hv
          simpa [Nat.add_assoc] using hv
        · cases hv

theorem cell_read {β : Map} {h : HF} {w : World} {id o : Nat} {r : Rec} {c : List Value} {t : TypeId} {sz : Nat} {ro : Bool} {v : Value} (hs : Sim β h w) (hb : β id = some r) (ho : h id = some (.cells c t sz ro))
    (hv : c[o]? = some v) : ∃ v', w.cell? ⟨r.blk, r.base + o, none⟩ = some v' ∧ VRel β v v' := by
  obtain ⟨C, fr, hq, _, _, _, hsz, hc, _⟩ := (hs.obj id r _ hb ho).cells_inv
  obtain ⟨hi, rfl⟩ := List.getElem?_eq_some_iff.1 hv
  obtain ⟨y, hy, hv⟩ := hc o hi
  exact ⟨y, by rw [cell_of_row w r.blk _ C t fr hq]; exact hy, hv⟩

structure But (b : Nat) (w w' : World) : Prop where
  heap : ∀ k, k ≠ b → w'.heap[k]? = w.heap[k]?
  size : w'.heap.size = w.heap.size
  os : w'.os = w.os
  tape : w'.tape = w.tape
  output : w'.output = w.output
  drawn : w'.drawn = w.drawn

theorem But.refl (b : Nat) (w : World) : But b w w := ⟨fun _ _ => rfl, rfl, rfl, rfl, rfl, rfl⟩
theorem But.trans {b : Nat} {u v w : World} (h : But b u v) (k : But b v w) : But b u w :=
  ⟨fun i hi => (k.heap i hi).trans (h.heap i hi), k.size.trans h.size, k.os.trans h.os, k.tape.trans h.tape, k.output.trans h.output, k.drawn.trans h.drawn⟩

theorem setCell_but (w : World) (a : Addr) (v : Value) : But a.block w (w.setCell a v) :=
  ⟨fun k hk => by simp only [World.setCell, Array.getElem?_modify]; rw [if_neg (Ne.symm hk)], by simp [World.setCell], rfl, rfl, rfl, rfl⟩

theorem isCell_one {v : Value} (h : isCell v = true) : v.oneCell' = true := by cases v <;> simp_all [isCell, Value.oneCell']

theorem run_storeCells {P : Program} {b o : Nat} {t : TypeId} {fr : Nat × Nat} (vs : List Value) : ∀ (i : Nat) (w : World) (C : Array Value), w.heap[b]? = some (.cells C t fr) →
    o + i + vs.length ≤ C.size → (∀ j, o + i ≤ j → j < o + i + vs.length → ¬ (fr.1 ≤ j ∧ j < fr.2)) → vs.all isCell = true →
    ∃ w', (storeCells ⟨b, o, none⟩ vs i).run P w = .ok () w' ∧ w'.heap[b]? = some (.cells (storeL C.toList (o + i) vs).toArray t fr) ∧ But b w w' := by
  induction vs with
  | nil => intro i w C hC _ _ _; exact ⟨w, rfl, by simpa [storeL] using hC, But.refl b w⟩
  | cons v vs ih =>
    intro i w C hC hsz hfr hall
    simp only [List.all_cons, Bool.and_eq_true] at hall
    simp only [List.length_cons] at hsz hfr
    have hcell : w.cell? ⟨b, o + i, none⟩ = some (C[o + i]'(by omega)) := by
      rw [cell_of_row w b _ C t fr hC]; exact Array.getElem?_eq_getElem _
    have hfz : w.frozen? ⟨b, o + i, none⟩ = false := by
      have := hfr (o + i) (by omega) (by omega)
      simp only [World.frozen?, hC]
      simp only [Bool.and_eq_false_iff, decide_eq_false_iff_not]
      rcases Decidable.not_and_iff_or_not.1 this with h | h
      · exact .inl h
      · exact .inr h
    have hset : (w.setCell ⟨b, o + i, none⟩ v).heap[b]? = some (.cells (C.setIfInBounds (o + i) v) t fr) := by
      simp [World.setCell, Array.getElem?_modify, hC]
    obtain ⟨w', hr, hh, hb⟩ := ih (i + 1) (w.setCell ⟨b, o + i, none⟩ v) (C.setIfInBounds (o + i) v) hset (by simp; omega) (fun j h1 h2 => hfr j (by omega) (by omega)) hall.2
    refine ⟨w', ?_, ?_, (setCell_but w ⟨b, o + i, none⟩ v).trans hb⟩
    · simp only [storeCells, Sem.run_bind, add_eq]
      rw [run_store P w _ v .plain (isCell_one hall.1), hcell]
      simp only [hfz, Bool.false_eq_true, if_false, Result.andThen]
      exact hr
    · rw [hh]
      simp [storeL, Nat.add_assoc]

theorem store_step {P : Program} {β : Map} {h : HF} {w : World} {n id o : Nat} {r : Rec} {c : List Value} {t : TypeId} {sz : Nat} {vs vs' : List Value} (hs : Sim β h w) (hb : β id = some r)
    (ho : h id = some (.cells c t sz false)) (hv : LRel β vs vs') (hall : vs'.all isCell = true) (hle : o + vs.length ≤ c.length) :
    ∃ w', (storeCells ⟨r.blk, r.base + o, none⟩ vs').run P w = .ok () w' ∧ Sim β (fun j => if j = id then some (.cells (storeL c o vs) t sz false) else h j) w' ∧
      Step β h w β (fun j => if j = id then some (.cells (storeL c o vs) t sz false) else h j) w' n n := by
  obtain ⟨C, fr, hq, hn, hrs, hsl, hsz, hc, hfr, hpr⟩ := (hs.obj id r _ hb ho).cells_inv
  have hlen := hv.length
  obtain ⟨w', hr, hh, hbut⟩ := run_storeCells (P := P) (b := r.blk) (o := r.base + o) (t := t) (fr := fr) vs' 0 w C hq (by omega)
    (fun j h1 h2 => by rcases hfr rfl with h | ⟨_, h⟩ <;> omega) hall
  refine ⟨w', hr, ?_⟩
  refine update_step hs hb ho rfl rfl hbut.heap hbut.size hbut.os hbut.tape hbut.output ?_
  rw [hh]
  refine ⟨rfl, by rw [storeL_length]; exact hn, by simp, hsl, by simp [storeL_length]; exact hsz, fun i hi => ?_, fun _ => by rw [storeL_length]; exact hfr rfl, fun h1 i hi => ?_, hpr.2⟩
  rotate_left
  · obtain ⟨y, hy, hp⟩ := hpr.1 h1 i hi
    refine ⟨y, ?_, hp⟩
    rw [storeL_length, List.getElem?_toArray, storeL_get _ _ _ _ (by simp; omega), if_neg (by omega)]
    simpa using hy
  -- the cells, old and new
  have hw : LRel β c ((C.toList.drop r.base).take c.length) := by
    rw [lrel_iff]
    refine ⟨by simp; omega, fun i hi hi' => ?_⟩
    obtain ⟨y, hy, hv⟩ := hc i hi
    simp only [List.getElem_take, List.getElem_drop]
    have : y = (C.toList)[r.base + i]'(by simp; omega) := by
      have := List.getElem_eq_iff (h := (by simp; omega : r.base + i < C.toList.length)) |>.2 (by simpa using hy)
      exact this.symm
    rw [← this]; exact hv
  have hst := LRel.storeL hv hw o
  rw [storeL_length] at hi
  obtain ⟨_, hst2⟩ := lrel_iff.1 hst
  have hpos : ∀ (us : List Value) (L : List Value) (o i : Nat), i < c.length → (storeL L (r.base + o) us)[r.base + i]? = (storeL ((L.drop r.base).take c.length) o us)[i]? := by
    intro us
    induction us with
    | nil => intro L o i hi; simp [storeL, List.getElem?_take, hi, List.getElem?_drop]
    | cons u us ih =>
      intro L o i hi
      simp only [storeL]
      rw [Nat.add_assoc, ih _ (o + 1) i hi]
      congr 2
      apply List.ext_getElem?
      intro k
      by_cases hk : k < c.length
      · simp only [List.getElem?_take, hk, List.getElem?_drop, List.getElem?_set, if_true, List.length_take, List.length_drop, Nat.add_left_cancel_iff]
        by_cases e : o = k
        · rw [if_pos e, if_pos e]
          by_cases g : r.base + o < L.length
          · rw [if_pos g, if_pos (by omega)]
          · rw [if_neg g, if_neg (by omega)]
        · rw [if_neg e, if_neg e]
      · simp only [List.getElem?_take, hk, List.getElem?_set, if_false, List.length_take, List.length_drop]
        by_cases e : o = k
        · rw [if_pos e, if_neg (by omega)]
        · rw [if_neg e]
  refine ⟨(storeL ((C.toList.drop r.base).take c.length) o vs')[i]'(by rw [storeL_length]; simp; omega), ?_, hst2 i (by rw [storeL_length]; exact hi) _⟩
  have := hpos vs' C.toList o i hi
  simp only [Nat.add_zero]
  rw [List.getElem?_toArray, this]
  exact List.getElem?_eq_getElem _

end Go.Abs


/-
  The operations, value by value.
-/
set_option linter.unusedVariables false
set_option linter.unusedSimpArgs false
namespace Go.Abs
open Go

section
variable {P : Program}

theorem run_info {t : TypeId} {i : TypeInfo} (h : P.info? t = some i) (w : World) : (typeInfo t).run P w = .ok i w := by
  simp [typeInfo, h]
theorem run_size {t : TypeId} {i : TypeInfo} (h : P.info? t = some i) (w : World) : (sizeOf t).run P w = .ok i.size w := by
  simp [sizeOf, run_info h]
theorem run_und {t : TypeId} {d : TypeDesc} (h : P.underlying t = some d) (w : World) : (underlying t).run P w = .ok d w := by
  simp [underlying, h]
theorem run_zero {t : TypeId} {i : TypeInfo} {z : Value} (h : P.info? t = some i) (hz : i.zero = some z) (w : World) : (zeroValue t).run P w = .ok z w := by
  simp [zeroValue, run_info h, hz]

def isAggD : TypeDesc → Bool
  | .struct _ | .array _ _ => true
  | _ => false

theorem run_agg {t : TypeId} {d : TypeDesc} (h : P.underlying t = some d) (w : World) : (isAgg t).run P w = .ok (isAggD d) w := by
  unfold isAgg
  simp only [Sem.run_bind, run_und h, Result.andThen]
  cases d <;> rfl

def shapeT (P : Program) (t : TypeId) : Option (Option Nat) :=
  match P.info? t, P.underlying t with
  | some i, some d => some (if isAggD d then some i.size else none)
  | _, _ => none

theorem shapeT_spec {t : TypeId} {k : Option Nat} (h : shapeT P t = some k) : ∃ i d, P.info? t = some i ∧ P.underlying t = some d ∧ k = if isAggD d then some i.size else none := by
  unfold shapeT at h
  split at h
  · rename_i i d hi hd; exact ⟨i, d, hi, hd, by simpa using h.symm⟩
  · cases h

variable {β : Map} {h : HF} {w : World} {n : Nat} {res : Res}

/-! inversion of values -/
theorem VRel.ptr_inv {id o : Nat} {v : Value} (hv : VRel β (.pointer (some ⟨id, o, none⟩)) v) : ∃ r, β id = some r ∧ v = .pointer (some ⟨r.blk, r.base + o, none⟩) := by
  cases hv with
  | prim _ h => simp [primV] at h
  | ptr h => exact ⟨_, h, rfl⟩
theorem VRel.int_inv {k : IntKind} {a : Int} {v : Value} (hv : VRel β (.int k a) v) : v = .int k a := by
  cases hv; rfl
theorem VRel.bool_inv {a : Bool} {v : Value} (hv : VRel β (.bool a) v) : v = .bool a := by
  cases hv; rfl
theorem VRel.string_inv {a : ByteArray} {v : Value} (hv : VRel β (.string a) v) : v = .string a := by
  cases hv; rfl
theorem VRel.nilSlice_inv {l c : Nat} {v : Value} (hv : VRel β (.slice none l c) v) : v = .slice none l c := by
  cases hv; rfl
theorem VRel.nilPtr_inv {v : Value} (hv : VRel β (.pointer none) v) : v = .pointer none := by
  cases hv; rfl
theorem VRel.nilMap_inv {v : Value} (hv : VRel β (.map none) v) : v = .map none := by
  cases hv; rfl
theorem VRel.map_inv {id : Nat} {v : Value} (hv : VRel β (.map (some id)) v) : ∃ r, β id = some r ∧ v = .map (some r.blk) := by
  cases hv with
  | prim _ h => simp [primV] at h
  | map h => exact ⟨_, h, rfl⟩
theorem VRel.agg_inv {a : Array Value} {v : Value} (hv : VRel β (.agg a) v) : ∃ a', v = .agg a' ∧ LRel β a.toList a'.toList := by
  cases hv with
  | prim _ h => simp [primV] at h
  | agg h1 h3 => exact ⟨_, rfl, lrel_arr.2 ⟨h1, h3⟩⟩
theorem VRel.tuple_inv {a : Array Value} {v : Value} (hv : VRel β (.tuple a) v) : ∃ a', v = .tuple a' ∧ LRel β a.toList a'.toList := by
  cases hv with
  | prim _ h => simp [primV] at h
  | tuple h1 h3 => exact ⟨_, rfl, lrel_arr.2 ⟨h1, h3⟩⟩
theorem VRel.func_inv {fn : Fn} {a c : Array Value} {v : Value} (hv : VRel β (.func fn a c) v) : ∃ a' c', v = .func fn a' c' ∧ LRel β a.toList a'.toList ∧ LRel β c.toList c'.toList := by
  cases hv with
  | prim _ h => simp [primV] at h
  | func h1 h2 h3 h4 => exact ⟨_, _, rfl, lrel_arr.2 ⟨h1, h3⟩, lrel_arr.2 ⟨h2, h4⟩⟩
theorem VRel.slice_inv {a : Addr} {l c : Nat} {v : Value} (hv : VRel β (.slice (some a) l c) v) :
    (∃ r c', a.spot = none ∧ β a.block = some r ∧ v = .slice (some ⟨r.blk, r.base + a.off, none⟩) l c' ∧ (c' = c ∨ (c' = c + r.slack ∧ a.off + c * r.sz = r.n))) ∨
    (∃ r b, a.spot = none ∧ β a.block = some r ∧ l = 0 ∧ c = 0 ∧ v = .slice (some b) 0 0) := by
  cases hv with
  | prim _ h => simp [primV] at h
  | slice h hc => exact .inl ⟨_, _, rfl, h, rfl, hc⟩
  | empty h => exact .inr ⟨_, _, rfl, h, rfl, rfl, rfl⟩

theorem VRel.int' {k : IntKind} {a : Int} : VRel β (.int k a) (.int k a) := .prim _ rfl
theorem VRel.bool' {a : Bool} : VRel β (.bool a) (.bool a) := .prim _ rfl
theorem VRel.string' {a : ByteArray} : VRel β (.string a) (.string a) := .prim _ rfl

theorem VRel.cells {v v' : Value} (hv : VRel β v v') : LRel β (cellList v) (cellList v') := by
  cases hv with
  | agg h1 h3 => exact lrel_arr.2 ⟨h1, h3⟩
  | prim v h => cases v <;> first | exact .cons (.prim _ h) .nil | simp [primV] at h
  | ptr h => exact .cons (.ptr h) .nil
  | slice h hc => exact .cons (.slice h hc) .nil
  | empty h => exact .cons (.empty h) .nil
  | map h => exact .cons (.map h) .nil
  | func h1 h2 h3 h4 => exact .cons (.func h1 h2 h3 h4) .nil
  | iface h => exact .cons (.iface h) .nil
  | tuple h1 h3 => exact .cons (.tuple h1 h3) .nil

theorem VRel.isCell {v v' : Value} (hv : VRel β v v') : isCell v' = isCell v := by cases hv <;> rfl
theorem LRel.all_isCell {l l' : List Value} (hl : LRel β l l') : l'.all Abs.isCell = l.all Abs.isCell := by
  induction hl with
  | nil => rfl
  | cons h _ ih => simp [h.isCell, ih]

/-! ### loads, stores, new blocks -/

theorem load_sim {t : TypeId} {k : Option Nat} {a a' : Value} (hk : shapeT P t = some k) (ha : VRel β a a') (hs : Sim β h w) (he : evP h n (.load k a) = some res) :
    OpOK P β h w n res id (Instr.loadAt t a') := by
  obtain ⟨i, d, hi, hd, rfl⟩ := shapeT_spec hk
  simp only [evP] at he
  split at he
  case h_2 => cases he
  rename_i id o
  obtain ⟨r, hb, rfl⟩ := ha.ptr_inv
  split at he
  · -- one cell
    rename_i hag
    split at he
    case h_2 => cases he
    rename_i c t' sz ro ho
    cases hv : c[o]? with
    | none => simp [hv] at he
    | some v =>
      rw [hv] at he
      simp only [Option.map_some, Option.some.injEq] at he
      subst he
      obtain ⟨v', hc, hvr⟩ := cell_read hs hb ho hv
      have hd' : isAggD d = false := by revert hag; cases isAggD d <;> simp
      refine OpOK.pure hs ?_ hvr
      simp [Instr.loadAt, Instr.sureAddr, loadVar, run_agg hd, hd', hc]
  · rename_i m hag
    have hd' : isAggD d = true ∧ m = i.size := by revert hag; cases isAggD d <;> simp [eq_comm]
    obtain ⟨hd', rfl⟩ := hd'
    cases hl : cellsAt h id o i.size with
    | none => simp [hl] at he
    | some l =>
      rw [hl] at he
      simp only [Option.map_some, Option.some.injEq] at he
      subst he
      obtain ⟨l', hlr, hlen, hc⟩ := cells_read hs hb hl
      have hrun := run_loadCells_list (P := P) w ⟨r.blk, r.base + o, none⟩ l' hc
      rw [← hlr.length, hlen] at hrun
      refine OpOK.pure hs ?_ hlr.agg
      simp [Instr.loadAt, Instr.sureAddr, loadVar, run_agg hd, hd', run_size hi, hrun]

theorem store_sim {t : TypeId} {i : TypeInfo} {a a' x x' : Value} (hi : P.info? t = some i) (ha : VRel β a a') (hx : VRel β x x') (hs : Sim β h w) (he : evP h n (.store i.size a x) = some res) :
    OpOK P β h w n res (fun _ => undef) (Instr.storeAt t a' x') := by
  simp only [evP] at he
  split at he
  case h_2 => cases he
  rename_i id o
  obtain ⟨r, hb, rfl⟩ := ha.ptr_inv
  split at he
  case h_2 => cases he
  rename_i c t' sz ho
  split at he
  case isFalse => cases he
  rename_i hcond
  obtain ⟨hlen, hall, hle⟩ := hcond
  cases he
  have hcl := hx.cells
  obtain ⟨w', hr, hs', hst⟩ := store_step (P := P) (n := n) hs hb ho hcl (by rw [hcl.all_isCell]; exact hall) (by rw [hlen]; exact hle)
  refine ⟨(), w', β, ?_, undefV_rel β, hs', hst⟩
  have : x'.cells.size = i.size := by
    have := hcl.length; simp only [cellList, Array.length_toList] at this hlen; omega
  simp only [Instr.storeAt, Instr.sureAddr, storeVar, Sem.run_bind, Sem.run_pure, Result.andThen, run_size hi, this, ne_eq, not_true_eq_false, if_false]
  exact hr

theorem newRow_ok {c c' : List Value} {e : TypeId} {sz : Nat} (hc : LRel β c c') (hs : Sim β h w) (hn : β n = none) :
    ∃ β', β' n = some ⟨w.heap.size, 0, 0, c.length, sz⟩ ∧ Sim β' (fun j => if j = n then some (.cells c e sz false) else h j) (w.alloc (.cells c'.toArray e)) ∧
      Step β h w β' (fun j => if j = n then some (.cells c e sz false) else h j) (w.alloc (.cells c'.toArray e)) n (n + 1) := by
  refine ⟨ext β n ⟨w.heap.size, 0, 0, c.length, sz⟩, by simp [ext], ?_⟩
  refine alloc_step hs hn rfl rfl rfl rfl rfl ?_
  have hl := hc.length
  refine ⟨rfl, rfl, by simp, by simp, by simp; omega, fun i hi => ?_, fun _ => .inl rfl, fun _ i hi => by simp at hi, fun _ _ _ => rfl⟩
  obtain ⟨_, h2⟩ := lrel_iff.1 hc
  refine ⟨c'[i]'(by omega), by simp, (h2 i hi _).mono (ext_le hn)⟩

theorem newVar_sim {c : List Value} {e : TypeId} {v' : Value} {sz : Nat} (hc : LRel β c (cellList v')) (hs : Sim β h w) (hn : β n = none) :
    OpOK P β h w n ⟨.pointer (some ⟨n, 0, none⟩), [(n, some (.cells c e sz false))], n + 1⟩ id (do pure (.pointer (some (← newVar e v')))) := by
  obtain ⟨β', h1, h2, h3⟩ := newRow_ok (e := e) (sz := sz) hc hs hn
  refine ⟨.pointer (some ⟨w.heap.size, 0, none⟩), w.alloc (.cells v'.cells e), β', ?_, ?_, ?_, ?_⟩
  · simp [newVar, newRow]
  · have := VRel.ptr (β := β') (o := 0) h1
    simpa using this
  · simpa [updF, cellList] using h2
  · simpa [updF, cellList] using h3

theorem alloc_sim {e : TypeId} {i : TypeInfo} {z : Value} (hi : P.info? e = some i) (hz : i.zero = some z) (hzo : zeroOk (cellList z) = true) (hs : Sim β h w) (hf : Fresh β n (n + 1))
    (he : evP h n (.alloc e (cellList z)) = some res) : OpOK P β h w n res id (Instr.alloc e true (.tuple #[])) := by
  simp only [evP, Option.some.injEq] at he
  subst he
  have := newVar_sim (P := P) (sz := 0) (e := e) (v' := z) (LRel.zero hzo) hs (hf n (Nat.le_refl _) (Nat.lt_succ_self _))
  obtain ⟨x, w', β', hr, r⟩ := this
  refine ⟨x, w', β', ?_, r⟩
  simp only [Instr.alloc, Sem.run_bind, run_zero hi hz, Result.andThen]
  exact hr

theorem box_sim {e : TypeId} {x x' : Value} (hx : VRel β x x') (hs : Sim β h w) (hf : Fresh β n (n + 1)) (he : evP h n (.box e x) = some res) : OpOK P β h w n res id (Instr.box e x') := by
  simp only [evP, Option.some.injEq] at he
  subst he
  exact newVar_sim (P := P) (sz := 0) (e := e) (v' := x') hx.cells hs (hf n (Nat.le_refl _) (Nat.lt_succ_self _))

/-! ### aggregates -/

theorem foldl_storeL (vs : List Value) : ∀ (L : Array Value) (off : Nat) (k : Nat),
    ((vs.zipIdx k).foldl (fun cs (p : Value × Nat) => cs.setIfInBounds (off + p.2) p.1) L).toList = storeL L.toList (off + k) vs := by
  induction vs with
  | nil => intro L off k; rfl
  | cons v vs ih =>
    intro L off k
    simp only [List.zipIdx_cons, List.foldl_cons, storeL]
    rw [ih]
    simp [Array.toList_setIfInBounds, Nat.add_assoc]

theorem fill_sim {place : Nat → Option (Nat × Nat)} {ps' : List (Nat × Value)} : ∀ {ps : List (Nat × Nat × Value)} {L : List Value} {L' : Array Value} {c : List Value},
    LRel β L L'.toList → All2 (fun (p : Nat × Nat × Value) (q : Nat × Value) => place q.1 = some (p.1, p.2.1) ∧ VRel β p.2.2 q.2) ps ps' → fillL L ps = some c →
    ∃ C, Instr.fill place L' ps' = some C ∧ LRel β c C.toList := by
  induction ps' with
  | nil =>
    intro ps L L' c hL hp hc
    cases hp
    simp only [fillL, Option.some.injEq] at hc
    subst hc
    exact ⟨L', rfl, hL⟩
  | cons q ps' ih =>
    intro ps L L' c hL hp hc
    cases hp with
    | cons hq ht =>
      rename_i p ps
      obtain ⟨off, size, v⟩ := p
      obtain ⟨j, v'⟩ := q
      obtain ⟨h1, h2⟩ := hq
      simp only at h1 h2
      simp only [fillL] at hc
      split at hc
      case isFalse => cases hc
      rename_i hcond
      have hcl := h2.cells
      have hlen := hcl.length
      have hlen2 := hL.length
      simp only [cellList, Array.length_toList] at hlen hcond hlen2
      simp only [Instr.fill, h1]
      rw [if_neg (by simp only [ne_eq, Bool.or_eq_true, decide_eq_true_eq, not_or]; constructor <;> omega)]
      refine ih ?_ ht hc
      have : (v'.cells.zipIdx.foldl (fun cs (p : Value × Nat) => cs.setIfInBounds (off + p.2) p.1) L').toList = storeL L'.toList off (cellList v') := by
        rw [← Array.foldl_toList, Array.toList_zipIdx, foldl_storeL]
        simp [cellList]
      rw [this]
      exact LRel.storeL hcl hL off

end
end Go.Abs


/-
  The operations, value by value: sums, tests, slices, strings.
-/
set_option linter.unusedVariables false
set_option linter.unusedSimpArgs false
namespace Go.Abs
open Go

section
variable {P : Program} {β : Map} {h : HF} {w : World} {n : Nat} {res : Res}

theorem binV_run {op : BinOp} {t : TypeId} {x y v : Value} (hv : binV op x y = some v) : (binOp op t x y).run P w = .ok v w := by
  unfold binV at hv
  split at hv
  · rename_i k a k' b
    cases op <;> simp only [binOp] at * <;> (try (split at hv <;> first | cases hv | skip)) <;>
      (try (simp only [ne_eq, not_not] at *)) <;> (try (split at hv <;> first | cases hv | skip)) <;>
      simp_all [Op.intArith, Op.intDiv, Op.intBits, Op.intCmp, Op.shift]
    all_goals (intro _; omega)
  · rename_i a b
    cases op <;> simp only [binOp] at * <;> (try (split at hv <;> first | cases hv | skip)) <;>
      simp_all [Op.stringOp]
    all_goals omega
  · cases hv

theorem binV_inv {op : BinOp} {x y v x' y' : Value} (hv : binV op x y = some v) (hx : VRel β x x') (hy : VRel β y y') : x' = x ∧ y' = y ∧ VRel β v v := by
  unfold binV at hv
  split at hv
  · refine ⟨hx.int_inv, hy.int_inv, ?_⟩
    cases op <;> simp only at hv <;> (repeat (split at hv <;> first | cases hv | skip)) <;> (try cases hv) <;> exact .prim _ rfl
  · refine ⟨hx.string_inv, hy.string_inv, ?_⟩
    cases op <;> simp only at hv <;> (repeat (split at hv <;> first | cases hv | skip)) <;> (try cases hv) <;> exact .prim _ rfl
  · cases hv

theorem unV_run {op : UnOp} {x v : Value} (hv : unV op x = some v) : (Op.unary op x).run P w = .ok v w := by
  unfold unV at hv
  split at hv
  · cases op <;> simp only [reduceCtorEq] at hv <;> cases hv <;> simp [Op.unary, Op.intArith, Op.intBits]
  · cases op <;> simp only [reduceCtorEq] at hv <;> cases hv <;> simp [Op.unary]
  · cases hv

theorem unV_inv {op : UnOp} {x v x' : Value} (hv : unV op x = some v) (hx : VRel β x x') : x' = x ∧ VRel β v v := by
  unfold unV at hv
  split at hv
  · refine ⟨hx.int_inv, ?_⟩
    cases op <;> simp only [reduceCtorEq] at hv <;> cases hv <;> exact .prim _ rfl
  · refine ⟨hx.bool_inv, ?_⟩
    cases op <;> simp only [reduceCtorEq] at hv <;> cases hv <;> exact .prim _ rfl
  · cases hv

theorem bytesOf_ints (l : List Value) : ∀ (acc s : ByteArray), bytesOf l acc = some s → ∃ ns : List Int, l = ns.map (Value.int .u8) ∧ s = ns.foldl (fun r n => r.push (UInt8.ofNat n.toNat)) acc := by
  induction l with
  | nil => intro acc s hs; simp only [bytesOf, Option.some.injEq] at hs; subst hs; exact ⟨[], rfl, rfl⟩
  | cons v l ih =>
    intro acc s hs
    unfold bytesOf at hs
    split at hs
    · rename_i h; simp at h
    · rename_i m r h; simp only [List.cons.injEq] at h; obtain ⟨rfl, rfl⟩ := h
      obtain ⟨ns, rfl, rfl⟩ := ih _ _ hs
      exact ⟨m :: ns, rfl, rfl⟩
    · cases hs

theorem bytesOf_rel {l l' : List Value} (hl : LRel β l l') : ∀ acc s, bytesOf l acc = some s → bytesOf l' acc = some s := by
  induction hl with
  | nil => intro acc s h; exact h
  | cons h _ ih =>
    intro acc s hs
    unfold bytesOf at hs
    split at hs
    · rename_i h; simp at h
    · rename_i m r hh; simp only [List.cons.injEq] at hh; obtain ⟨rfl, rfl⟩ := hh
      rw [h.int_inv]
      simp only [bytesOf]
      exact ih _ _ hs
    · cases hs

theorem boundV_inv {y m : Nat} {v v' : Value} {y' : Nat} (hv : boundV y v = some m) (hr : VRel β v v') (hy : y ≤ y') : boundV y' v' = some m ∧ m ≤ y := by
  unfold boundV at hv
  split at hv
  · rw [hr.int_inv]
    split at hv
    · rename_i hc
      cases hv
      simp only [boundV]
      rw [if_pos ⟨hc.1, by omega⟩]
      exact ⟨rfl, by omega⟩
    · cases hv
  · cases hv

theorem boundV_run {y m : Nat} {v : Value} {code : BoundsCode} (hv : boundV y v = some m) : (Instr.sliceBound v y code).run P w = .ok m w := by
  unfold boundV at hv
  split at hv
  · split at hv
    · rename_i hc; cases hv
      simp [Instr.sliceBound, asIntOf, hc]
    · cases hv
  · cases hv

inductive OptRel (β : Map) : Option Value → Option Value → Prop where
  | none : OptRel β none none
  | some {a b : Value} (h : VRel β a b) : OptRel β (some a) (some b)

theorem boundsV_run {len cap cap' : Nat} {isS : Bool} {lo hi mx lo' hi' mx' : Option Value} {b : Nat × Nat × Nat} (hb : boundsV len cap lo hi mx = some b) (h1 : OptRel β lo lo') (h2 : OptRel β hi hi') (h3 : OptRel β mx mx') (hc : cap ≤ cap') :
    ∃ m', (Instr.sliceBounds isS len cap' lo' hi' mx').run P w = .ok (b.1, b.2.1, m') w ∧ (m' = if mx.isSome then b.2.2 else cap') ∧ b.1 ≤ b.2.1 ∧ (hi.isNone → len ≤ cap → b.2.1 ≤ b.2.2) ∧ (hi.isSome → b.2.1 ≤ b.2.2) ∧ b.2.2 ≤ cap ∧ (mx = none → b.2.2 = cap) := by
  unfold boundsV at hb
  cases h3 with
  | none =>
    simp only [Option.bind_some] at hb
    cases h2 with
    | none =>
      simp only [Option.bind_some] at hb
      cases h1 with
      | none =>
        simp only [Option.map_some, Option.some.injEq] at hb
        subst hb
        exact ⟨cap', by simp [Instr.sliceBounds], by simp, by simp, by simp, by simp, by simp, by simp⟩
      | some hl =>
        rename_i a a'
        cases hq : boundV len a with
        | none => simp [hq] at hb
        | some l =>
          simp only [hq, Option.map_some, Option.some.injEq] at hb
          subst hb
          obtain ⟨q1, q2⟩ := boundV_inv hq hl (Nat.le_refl _)
          exact ⟨cap', by simp [Instr.sliceBounds, boundV_run q1], by simp, by simpa using q2, by simp, by simp, by simp, by simp⟩
    | some hh =>
      rename_i c c'
      cases hp : boundV cap c with
      | none => simp [hp] at hb
      | some hv =>
        simp only [hp, Option.bind_some] at hb
        obtain ⟨p1, p2⟩ := boundV_inv hp hh hc
        cases h1 with
        | none =>
          simp only [Option.map_some, Option.some.injEq] at hb
          subst hb
          exact ⟨cap', by cases isS <;> simp [Instr.sliceBounds, boundV_run p1], by simp, by simp, by simp, by simpa using p2, by simp, by simp⟩
        | some hl =>
          rename_i a a'
          cases hq : boundV hv a with
          | none => simp [hq] at hb
          | some l =>
            simp only [hq, Option.map_some, Option.some.injEq] at hb
            subst hb
            obtain ⟨q1, q2⟩ := boundV_inv hq hl (Nat.le_refl _)
            exact ⟨cap', by cases isS <;> simp [Instr.sliceBounds, boundV_run p1, boundV_run q1], by simp, by simpa using q2, by simp, by simpa using p2, by simp, by simp⟩
  | some hm =>
    rename_i e e'
    cases hr : boundV cap e with
    | none => simp [hr] at hb
    | some m =>
      simp only [hr, Option.bind_some] at hb
      obtain ⟨r1, r2⟩ := boundV_inv hr hm hc
      cases h2 with
      | none => simp at hb
      | some hh =>
        rename_i c c'
        cases hp : boundV m c with
        | none => simp [hp] at hb
        | some hv =>
          simp only [hp, Option.bind_some] at hb
          obtain ⟨p1, p2⟩ := boundV_inv hp hh (Nat.le_refl _)
          cases h1 with
          | none =>
            simp only [Option.map_some, Option.some.injEq] at hb
            subst hb
            exact ⟨m, by cases isS <;> simp [Instr.sliceBounds, boundV_run r1, boundV_run p1], by simp, by simp, by simp, by simpa using p2, by simpa using r2, by simp⟩
          | some hl =>
            rename_i a a'
            cases hq : boundV hv a with
            | none => simp [hq] at hb
            | some l =>
              simp only [hq, Option.map_some, Option.some.injEq] at hb
              subst hb
              obtain ⟨q1, q2⟩ := boundV_inv hq hl (Nat.le_refl _)
              exact ⟨m, by cases isS <;> simp [Instr.sliceBounds, boundV_run r1, boundV_run p1, boundV_run q1], by simp, by simpa using q2, by simp, by simpa using p2, by simpa using r2, by simp⟩

end
end Go.Abs


/-
  The operations, value by value: slices, maps, builtins.
-/
set_option linter.unusedVariables false
set_option linter.unusedSimpArgs false
namespace Go.Abs
open Go

section
variable {P : Program} {β : Map} {h : HF} {w : World} {n : Nat} {res : Res}

theorem slice_string_sim {t : TypeId} {x x' : Value} {lo hi mx lo' hi' mx' : Option Value} (ht : P.underlying t = some .string) (hx : VRel β x x') (h1 : OptRel β lo lo') (h2 : OptRel β hi hi') (h3 : OptRel β mx mx') (hs : Sim β h w)
    (he : evP h n (.slice .string x lo hi mx) = some res) : OpOK P β h w n res id (Instr.sliceAt t x' lo' hi' mx') := by
  simp only [evP] at he
  split at he
  · rename_i s hq
    cases h3 with
    | some _ => simp at he
    | none =>
      simp only [Option.isSome_none, Bool.false_eq_true, if_false] at he
      cases hb : boundsV s.size s.size lo hi none with
      | none => simp [hb] at he
      | some b =>
        simp only [hb, Option.map_some, Option.some.injEq] at he
        subst he
        obtain ⟨m', hr, _⟩ := boundsV_run (P := P) (w := w) (isS := false) hb h1 h2 .none (Nat.le_refl _)
        rw [hx.string_inv]
        refine OpOK.pure hs ?_ .string'
        simp [Instr.sliceAt, run_und ht, Instr.slice, hr]
  · rename_i heq; simp at heq
  · cases he

theorem slice_slice_sim {t e : TypeId} {i : TypeInfo} {x x' : Value} {lo hi mx lo' hi' mx' : Option Value} (ht : P.underlying t = some (.slice e)) (hif : P.info? e = some i) (hx : VRel β x x') (h1 : OptRel β lo lo') (h2 : OptRel β hi hi') (h3 : OptRel β mx mx') (hs : Sim β h w)
    (he : evP h n (.slice (.slice i.size) x lo hi mx) = some res) : OpOK P β h w n res id (Instr.sliceAt t x' lo' hi' mx') := by
  simp only [evP] at he
  split at he
  · rename_i heq; simp at heq
  · rename_i sz a len cap heq
    cases heq
    cases hb : boundsV len cap lo hi mx with
    | none => simp [hb] at he
    | some b =>
      simp only [hb, Option.bind_some] at he
      cases a with
      | none =>
        simp only [Option.some.injEq] at he
        subst he
        rw [hx.nilSlice_inv]
        obtain ⟨m', hr, hm, _, _, _, _, hmx⟩ := boundsV_run (P := P) (w := w) (isS := true) hb h1 h2 h3 (Nat.le_refl _)
        have : m' = b.2.2 := by
          rw [hm]; split
          · rfl
          · rename_i hn; exact (hmx (by simpa using hn)).symm
        subst this
        refine OpOK.pure hs ?_ (.prim _ rfl)
        simp [Instr.sliceAt, run_und ht, Instr.slice, hr, run_size hif]
      | some ad =>
        simp only at he
        cases hg : h ad.block with
        | none => simp [hg] at he
        | some o =>
          cases o with
          | map _ _ => simp [hg] at he
          | iter _ _ => simp [hg] at he
          | glob _ _ => simp [hg] at he
          | cells c ct z ro =>
            simp only [hg] at he
            split at he
            case isFalse => cases he
            rename_i hcond
            obtain ⟨_, hz, hhm⟩ := hcond
            cases he
            rcases hx.slice_inv with ⟨r, c', hsp, hbb, rfl, hc'⟩ | ⟨r, bb, hsp, hbb, rfl, rfl, rfl⟩
            · obtain ⟨m', hr, hm, hle, _, _, hbc, hmx⟩ := boundsV_run (P := P) (w := w) (isS := true) (cap' := c') hb h1 h2 h3 (by omega)
              obtain ⟨C, fr, hq, hn, hro, hsl, _⟩ := (hs.obj ad.block r _ hbb hg).cells_inv
              have hmm : b.2.2 ≤ m' := by
                rw [hm]; split
                · exact Nat.le_refl _
                · omega
              by_cases hml : m' = b.1
              · -- nothing is left: the address is of no account
                have e1 : b.2.1 - b.1 = 0 := by omega
                have e2 : b.2.2 - b.1 = 0 := by omega
                refine ⟨.slice (some ⟨r.blk, r.base + ad.off, none⟩) 0 0, w, β, ?_, ?_, hs, Step.refl β h w n⟩
                · simp [Instr.sliceAt, run_und ht, Instr.slice, hr, run_size hif, hml, e1]
                · simp only [e1, e2]; exact .empty hbb
              · refine ⟨.slice (some ⟨r.blk, r.base + (ad.off + b.1 * i.size), none⟩) (b.2.1 - b.1) (m' - b.1), w, β, ?_, ?_, hs, Step.refl β h w n⟩
                · simp [Instr.sliceAt, run_und ht, Instr.slice, hr, run_size hif, hml, add_eq, Nat.add_assoc]
                · refine .slice hbb ?_
                  cases hmxs : mx.isSome with
                  | true => left; rw [hm, hmxs]; rfl
                  | false =>
                    have hmx0 : mx = none := by cases mx <;> simp_all
                    have e1 : m' = c' := by rw [hm, hmxs]; rfl
                    have e2 := hmx hmx0
                    rcases hc' with hc' | ⟨hc', hend⟩
                    · left; omega
                    · by_cases hs0 : r.slack = 0
                      · left; omega
                      · right
                        refine ⟨by omega, ?_⟩
                        obtain ⟨hrs, hz32⟩ := hsl hs0
                        have : z = i.size := by
                          rcases hz with hz | hz | hz
                          · exact absurd (hro hz) hs0
                          · exact hz
                          · omega
                        rw [← hend, e2, ← this, ← hrs, Nat.add_assoc, ← Nat.add_mul]
                        congr 2
                        omega
            · obtain ⟨m', hr, hm, hle, _, _, hbc, hmx⟩ := boundsV_run (P := P) (w := w) (isS := true) (cap' := 0) hb h1 h2 h3 (Nat.le_refl _)
              have e0 : b.2.2 = 0 := by omega
              have e1 : b.2.1 = 0 := by omega
              have e2 : b.1 = 0 := by omega
              have e3 : m' = 0 := by rw [hm]; split <;> simp [e0]
              refine ⟨.slice (some bb) 0 0, w, β, ?_, ?_, hs, Step.refl β h w n⟩
              · simp [Instr.sliceAt, run_und ht, Instr.slice, hr, run_size hif, e1, e2, e3]
              · simp only [e0, e1, e2]; exact .empty hbb
  · cases he

theorem fieldAddr_sim {t : TypeId} {fs : Array Field} {f : Field} {j : Nat} {i : TypeInfo} {x x' : Value} (ht : P.underlying t = some (.struct fs)) (hf : fs[j]? = some f) (hi : P.info? f.type = some i) (h0 : i.size ≠ 0)
    (hx : VRel β x x') (hs : Sim β h w) (he : evP h n (.fieldAddr f.offset x) = some res) : OpOK P β h w n res id (Instr.fieldAt t x' j) := by
  simp only [evP] at he
  split at he
  case h_2 => cases he
  rename_i id o
  cases he
  obtain ⟨r, hb, rfl⟩ := hx.ptr_inv
  refine OpOK.pure (x := .pointer (some ⟨r.blk, r.base + (o + f.offset), none⟩)) hs ?_ (.ptr hb)
  simp [Instr.fieldAt, run_und ht, hf, Instr.sureAddr, fieldPlace, run_size hi, h0, add_eq, Nat.add_assoc]

theorem field_sim {t : TypeId} {fs : Array Field} {f : Field} {j : Nat} {k : Option Nat} {x x' : Value} (ht : P.underlying t = some (.struct fs)) (hf : fs[j]? = some f) (hk : shapeT P f.type = some k)
    (hx : VRel β x x') (hs : Sim β h w) (he : evP h n (.field f.offset k x) = some res) : OpOK P β h w n res id (Instr.field t x' j) := by
  obtain ⟨i, d, hi, hd, rfl⟩ := shapeT_spec hk
  simp only [evP] at he
  split at he
  case h_2 => cases he
  rename_i cs
  obtain ⟨cs', rfl, hl⟩ := hx.agg_inv
  split at he
  · rename_i hag
    have hd' : isAggD d = false := by revert hag; cases isAggD d <;> simp
    cases hv : cs.toList[f.offset]? with
    | none => simp [hv] at he
    | some v =>
      simp only [hv, Option.map_some, Option.some.injEq] at he
      subst he
      obtain ⟨v', hv', hr⟩ := hl.get hv
      refine OpOK.pure hs ?_ hr
      simp at hv'
      simp [Instr.field, run_und ht, hf, asAgg, part, run_agg hd, hd', hv']
  · rename_i m hag
    have hd' : isAggD d = true ∧ m = i.size := by revert hag; cases isAggD d <;> simp [eq_comm]
    obtain ⟨hd', rfl⟩ := hd'
    cases he
    refine OpOK.pure hs ?_ ((hl.drop f.offset).take i.size).agg
    simp [Instr.field, run_und ht, hf, asAgg, part, run_agg hd, hd', run_size hi]
    rw [← Array.toList_inj]
    simp [Array.toList_extract, List.extract_eq_take_drop]

theorem indexAddr_sim {t e : TypeId} {i : TypeInfo} {x x' y y' : Value} (ht : P.underlying t = some (.slice e)) (hi : P.info? e = some i) (hx : VRel β x x') (hy : VRel β y y') (hs : Sim β h w)
    (he : evP h n (.indexAddr i.size x y) = some res) : OpOK P β h w n res id (Instr.indexAt t x' y') := by
  simp only [evP] at he
  split at he
  case h_2 => cases he
  rename_i id o len cap k j
  split at he
  case isFalse => cases he
  rename_i hc
  cases he
  rw [hy.int_inv]
  rcases hx.slice_inv with ⟨r, c', hsp, hbb, rfl, hc'⟩ | ⟨r, bb, hsp, hbb, rfl, rfl, rfl⟩
  · refine OpOK.pure (x := .pointer (some ⟨r.blk, r.base + (o + j.toNat * i.size), none⟩)) hs ?_ (.ptr hbb)
    simp [Instr.indexAt, asIntOf, run_und ht, run_size hi, hc, add_eq, Nat.add_assoc]
  · omega

theorem index_sim {t : TypeId} {x x' y y' : Value} (ht : P.underlying t = some .string) (hx : VRel β x x') (hy : VRel β y y') (hs : Sim β h w)
    (he : evP h n (.index x y) = some res) : OpOK P β h w n res id (Instr.index t x' y') := by
  simp only [evP] at he
  split at he
  case h_2 => cases he
  rename_i s k j
  split at he
  case isFalse => cases he
  rename_i hc
  rw [hy.int_inv, hx.string_inv]
  cases hv : s.data.toList[j.toNat]? with
  | none => simp [hv] at he
  | some b =>
    simp only [hv, Option.map_some, Option.some.injEq] at he
    subst he
    refine OpOK.pure hs ?_ .int'
    have hb : s[j.toNat]? = some b := by
      have hlt : j.toNat < s.size := by
        have := (List.getElem?_eq_some_iff.1 hv).1
        simpa using this
      rw [getElem?_pos s j.toNat hlt]
      congr 1
      have := (List.getElem?_eq_some_iff.1 hv).2
      rw [Array.getElem_toList] at this
      exact this
    simp [Instr.index, asIntOf, run_und ht, hc, hb]

end
end Go.Abs
