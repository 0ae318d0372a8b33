/-
  Steps of the world that an operation makes: none, a new block, a block written, a slice that grows.
-/
import Derived.Test.YtlcfmfljmabaeaaA3
import Derived.Laws.Rows
import Derived.Laws.Entries
set_option linter.unusedVariables false
set_option linter.unusedSimpArgs false
namespace Go.Abs
open Go

def updF (h : HF) : List (Nat × Option AObj) → HF
  | [] => h
  | (i, o) :: r => updF (fun j => if j = i then o else h j) r

theorem get_applyUpd (us : List (Nat × Option AObj)) : ∀ H : Heap, (applyUpd H us).get = updF H.get us := by
  induction us with
  | nil => intro H; rfl
  | cons p r ih =>
    intro H
    obtain ⟨i, o⟩ := p
    simp only [applyUpd, updF, ih]
    congr 1
    funext j
    exact Heap.get_put H i o j

def OpOK (P : Program) (β : Map) (h : HF) (w : World) (n : Nat) (res : Res) {α : Type} (val : α → Value) (r : Sem α) : Prop :=
  ∃ x w' β', r.run P w = .ok x w' ∧ VRel β' res.val (val x) ∧ Sim β' (updF h res.upd) w' ∧ Step β h w β' (updF h res.upd) w' n res.next

theorem OpOK.pure {P : Program} {β : Map} {h : HF} {w : World} {n : Nat} {v : Value} {α : Type} {val : α → Value} {r : Sem α} {x : α}
    (hs : Sim β h w) (hr : r.run P w = .ok x w) (hv : VRel β v (val x)) : OpOK P β h w n ⟨v, [], n⟩ val r :=
  ⟨x, w, β, hr, hv, hs, Step.refl β h w n⟩

theorem Sim.drawn {β : Map} {h : HF} {w w' : World} (hs : Sim β h w) (he : w'.heap = w.heap) : Sim β h w' :=
  ⟨fun id r o hb ho => by rw [he]; exact hs.obj id r o hb ho, hs.inj⟩

def ext (β : Map) (n : Nat) (r : Rec) : Map := fun id => if id = n then some r else β id
theorem ext_le {β : Map} {n : Nat} {r : Rec} (h : β n = none) : Map.le β (ext β n r) := by
  intro id q e
  unfold ext
  by_cases i : id = n
  · subst i; rw [h] at e; cases e
  · rw [if_neg i]; exact e

theorem heap_push_old {w : World} {o : Obj} {k : Nat} (h : k < w.heap.size) : (w.heap.push o)[k]? = w.heap[k]? := by
  rw [Array.getElem?_push, if_neg (by omega)]

theorem alloc_step {β : Map} {h : HF} {w w' : World} {n : Nat} {r : Rec} {o : AObj} {ob : Obj} (hs : Sim β h w) (hn : β n = none)
    (hw : w'.heap = w.heap.push ob) (h1 : w'.os = w.os) (h2 : w'.tape = w.tape) (h3 : w'.output = w.output)
    (hr : r.blk = w.heap.size) (ho : ORel (ext β n r) r o (some ob)) (hnr : o.isRo = false := by rfl) :
    Sim (ext β n r) (fun j => if j = n then some o else h j) w' ∧ Step β h w (ext β n r) (fun j => if j = n then some o else h j) w' n (n + 1) := by
  have hle := ext_le (r := r) hn
  have hold : ∀ id q x, ext β n r id = some q → (if id = n then some o else h id) = some x → id ≠ n → β id = some q ∧ h id = some x ∧ q.blk < w.heap.size := by
    intro id q x e f i
    simp only [ext, if_neg i] at e
    rw [if_neg i] at f
    exact ⟨e, f, hs.lt e f⟩
  refine ⟨⟨fun id q x e f => ?_, fun i1 i2 q1 q2 x1 x2 e1 e2 f1 f2 g => ?_⟩, ?_⟩
  · by_cases i : id = n
    · subst i
      simp only [ext, if_true, Option.some.injEq] at e f
      subst e; subst f
      rw [hw, hr, Array.getElem?_push, if_pos rfl]; exact ho
    · obtain ⟨a, b, c⟩ := hold id q x e f i
      rw [hw, heap_push_old c]
      exact (hs.obj id q x a b).mono hle
  · by_cases i : i1 = n
    · by_cases j : i2 = n
      · exact .inl (i.trans j.symm)
      · obtain ⟨_, _, c⟩ := hold i2 q2 x2 e2 f2 j
        subst i
        simp only [ext, if_true, Option.some.injEq] at e1
        subst e1
        omega
    · by_cases j : i2 = n
      · obtain ⟨_, _, c⟩ := hold i1 q1 x1 e1 f1 i
        subst j
        simp only [ext, if_true, Option.some.injEq] at e2
        subst e2
        omega
      · obtain ⟨a1, b1, _⟩ := hold i1 q1 x1 e1 f1 i
        obtain ⟨a2, b2, _⟩ := hold i2 q2 x2 e2 f2 j
        exact hs.inj i1 i2 q1 q2 x1 x2 a1 a2 b1 b2 g
  · refine ⟨hle, by omega, fun id q e f => ?_, fun k hk _ => by rw [hw, heap_push_old hk], by rw [hw]; simp, fun k hk hlt => ?_, fun id q x e f g => ?_, h1, h2, h3⟩
    · by_cases i : id = n
      · omega
      · simp only [ext, if_neg i] at e; rw [f] at e; cases e
    · obtain ⟨id, q, x, e, f, g, hq⟩ := hk
      by_cases i : id = n
      · subst i
        simp only [ext, if_true, Option.some.injEq] at e
        subst e; omega
      · obtain ⟨a, b, _⟩ := hold id q x e f i
        exact ⟨id, q, x, a, b, g, hq⟩
    · by_cases i : id = n
      · subst i
        simp only [if_true, Option.some.injEq] at f
        subst f; rw [hnr] at g; cases g
      · obtain ⟨a, b, _⟩ := hold id q x e f i
        exact ⟨a, b⟩

theorem update_step {β : Map} {h : HF} {w w' : World} {n id : Nat} {r : Rec} {o o' : AObj} (hs : Sim β h w) (hb : β id = some r) (ho : h id = some o) (hro : o.isRo = false)
    (hro' : o'.isRo = false) (hk : ∀ k, k ≠ r.blk → w'.heap[k]? = w.heap[k]?) (hsz : w'.heap.size = w.heap.size) (h1 : w'.os = w.os) (h2 : w'.tape = w.tape) (h3 : w'.output = w.output)
    (hnew : ORel β r o' w'.heap[r.blk]?) :
    Sim β (fun j => if j = id then some o' else h j) w' ∧ Step β h w β (fun j => if j = id then some o' else h j) w' n n := by
  have hold : ∀ j q x, β j = some q → (if j = id then some o' else h j) = some x → j ≠ id → h j = some x ∧ q.blk ≠ r.blk := by
    intro j q x e f i
    rw [if_neg i] at f
    refine ⟨f, fun g => ?_⟩
    rcases hs.inj j id q r x o e hb f ho g with i' | ⟨_, i'⟩
    · exact i i'
    · rw [hro] at i'; cases i'
  refine ⟨⟨fun j q x e f => ?_, fun i1 i2 q1 q2 x1 x2 e1 e2 f1 f2 g => ?_⟩, Map.le_refl β, Nat.le_refl _, fun j q e f => (by rw [f] at e; cases e), fun k hk' hn => ?_, by omega, fun k hk' _ => ?_, fun j q x e f g => ?_, h1, h2, h3⟩
  · by_cases i : j = id
    · subst i
      rw [hb] at e; cases e
      rw [if_pos rfl] at f; cases f
      exact hnew
    · obtain ⟨a, b⟩ := hold j q x e f i
      rw [hk q.blk b]
      exact hs.obj j q x e a
  · by_cases i : i1 = id
    · by_cases j : i2 = id
      · exact .inl (i.trans j.symm)
      · obtain ⟨_, b⟩ := hold i2 q2 x2 e2 f2 j
        subst i; rw [hb] at e1; cases e1
        exact absurd g.symm b
    · by_cases j : i2 = id
      · obtain ⟨_, b⟩ := hold i1 q1 x1 e1 f1 i
        subst j; rw [hb] at e2; cases e2
        exact absurd g b
      · exact hs.inj i1 i2 q1 q2 x1 x2 e1 e2 (hold i1 q1 x1 e1 f1 i).1 (hold i2 q2 x2 e2 f2 j).1 g
  · refine hk k fun e => hn ⟨id, r, o, hb, ho, hro, e.symm⟩
  · obtain ⟨j, q, x, e, f, g, hq⟩ := hk'
    by_cases i : j = id
    · subst i; rw [hb] at e; cases e
      exact ⟨j, r, o, hb, ho, hro, hq⟩
    · exact ⟨j, q, x, e, (hold j q x e f i).1, g, hq⟩
  · by_cases i : j = id
    · rw [if_pos i] at f; cases f; rw [hro'] at g; cases g
    · exact ⟨e, (hold j q x e f i).1⟩

theorem kill_sim {β : Map} {h : HF} {w : World} {id : Nat} (hs : Sim β h w) : Sim β (fun j => if j = id then none else h j) w := by
  have hold : ∀ {j x}, (if j = id then none else h j) = some x → h j = some x := by
    intro j x f
    by_cases i : j = id
    · rw [if_pos i] at f; cases f
    · rwa [if_neg i] at f
  exact ⟨fun j q x e f => hs.obj j q x e (hold f), fun i1 i2 q1 q2 x1 x2 e1 e2 f1 f2 g => hs.inj i1 i2 q1 q2 x1 x2 e1 e2 (hold f1) (hold f2) g⟩

theorem kill_step {β β' : Map} {h h' : HF} {w w' : World} {n n' id : Nat} (hs : Step β h w β' h' w' n n') : Step β h w β' (fun j => if j = id then none else h' j) w' n n' := by
  have hold : ∀ {j x}, (if j = id then none else h' j) = some x → h' j = some x := by
    intro j x f
    by_cases i : j = id
    · rw [if_pos i] at f; cases f
    · rwa [if_neg i] at f
  refine ⟨hs.le, hs.next, hs.new, hs.frame, hs.size, fun k hk hlt => hs.img k ?_ hlt, fun j q x e f g => hs.ro j q x e (hold f) g, hs.os, hs.tape, hs.output⟩
  obtain ⟨j, q, x, e, f, g, hq⟩ := hk
  exact ⟨j, q, x, e, hold f, g, hq⟩

theorem rename_step {β : Map} {h : HF} {w w' : World} {n id : Nat} {r r' : Rec} {o o' : AObj} (hs : Sim β h w) (hn : β n = none) (hb : β id = some r) (ho : h id = some o) (hro : o.isRo = false)
    (hro' : o'.isRo = false) (hk : ∀ k, k ≠ r.blk → w'.heap[k]? = w.heap[k]?) (hsz : w'.heap.size = w.heap.size) (h1 : w'.os = w.os) (h2 : w'.tape = w.tape) (h3 : w'.output = w.output)
    (hblk : r'.blk = r.blk) (hnew : ORel (ext β n r') r' o' w'.heap[r.blk]?) :
    Sim (ext β n r') (fun j => if j = id then none else if j = n then some o' else h j) w' ∧
      Step β h w (ext β n r') (fun j => if j = id then none else if j = n then some o' else h j) w' n (n + 1) := by
  have hle := ext_le (r := r') hn
  have hne : id ≠ n := fun e => by subst e; rw [hn] at hb; cases hb
  have hold : ∀ j q x, ext β n r' j = some q → (if j = id then none else if j = n then some o' else h j) = some x → j ≠ n → β j = some q ∧ h j = some x ∧ q.blk ≠ r.blk := by
    intro j q x e f i
    simp only [ext, if_neg i] at e
    by_cases i' : j = id
    · rw [if_pos i'] at f; cases f
    · rw [if_neg i', if_neg i] at f
      refine ⟨e, f, fun g => ?_⟩
      rcases hs.inj j id q r x o e hb f ho g with i2 | ⟨_, i2⟩
      · exact i' i2
      · rw [hro] at i2; cases i2
  refine ⟨⟨fun j q x e f => ?_, fun i1 i2 q1 q2 x1 x2 e1 e2 f1 f2 g => ?_⟩, hle, by omega, fun j q e f => ?_, fun k hk' hn' => ?_, by omega, fun k hk' _ => ?_, fun j q x e f g => ?_, h1, h2, h3⟩
  · by_cases i : j = n
    · subst i
      simp only [ext, if_true, Option.some.injEq] at e
      subst e
      rw [if_neg (Ne.symm hne), if_pos rfl] at f; cases f
      rw [hblk]; exact hnew
    · obtain ⟨a, b, c⟩ := hold j q x e f i
      rw [hk q.blk c]
      exact (hs.obj j q x a b).mono hle
  · by_cases i : i1 = n
    · by_cases j : i2 = n
      · exact .inl (i.trans j.symm)
      · obtain ⟨_, _, b⟩ := hold i2 q2 x2 e2 f2 j
        subst i
        simp only [ext, if_true, Option.some.injEq] at e1
        subst e1
        exact absurd (g.symm.trans hblk) b
    · by_cases j : i2 = n
      · obtain ⟨_, _, b⟩ := hold i1 q1 x1 e1 f1 i
        subst j
        simp only [ext, if_true, Option.some.injEq] at e2
        subst e2
        exact absurd (g.trans hblk) b
      · obtain ⟨a1, b1, _⟩ := hold i1 q1 x1 e1 f1 i
        obtain ⟨a2, b2, _⟩ := hold i2 q2 x2 e2 f2 j
        exact hs.inj i1 i2 q1 q2 x1 x2 a1 a2 b1 b2 g
  · by_cases i : j = n
    · omega
    · simp only [ext, if_neg i] at e; rw [f] at e; cases e
  · exact hk k fun e => hn' ⟨id, r, o, hb, ho, hro, e.symm⟩
  · obtain ⟨j, q, x, e, f, g, hq⟩ := hk'
    by_cases i : j = n
    · subst i
      simp only [ext, if_true, Option.some.injEq] at e
      subst e
      exact ⟨id, r, o, hb, ho, hro, hblk.symm.trans hq⟩
    · obtain ⟨a, b, _⟩ := hold j q x e f i
      exact ⟨j, q, x, a, b, g, hq⟩
  · by_cases i : j = n
    · subst i
      rw [if_neg (Ne.symm hne), if_pos rfl] at f; cases f; rw [hro'] at g; cases g
    · obtain ⟨a, b, _⟩ := hold j q x e f i
      exact ⟨a, b⟩

/-! ### Reading and writing cells -/

theorem add_eq (b o n : Nat) : (⟨b, o, none⟩ : Addr).add n = ⟨b, o + n, none⟩ := by
  unfold Addr.add
  split
  · rename_i h; subst h; rfl
  · rfl

theorem ORel.cells_inv {β : Map} {r : Rec} {c : List Value} {t : TypeId} {sz : Nat} {ro : Bool} {q : Option Obj} (h : ORel β r (.cells c t sz ro) q) :
    ∃ C fr, q = some (.cells C t fr) ∧ r.n = c.length ∧ (ro = true → r.slack = 0) ∧ (r.slack ≠ 0 → r.sz = sz ∧ sz < 4294967296) ∧ r.base + c.length + r.slack * r.sz ≤ C.size ∧
    (∀ i, (h : i < c.length) → ∃ y, C[r.base + i]? = some y ∧ VRel β c[i] y) ∧
    (ro = false → fr.1 = fr.2 ∨ (sz = 1 ∧ r.base + c.length + r.slack * r.sz ≤ fr.1)) ∧
    ((1 < sz → ∀ i, i < r.slack * r.sz → ∃ y, C[r.base + c.length + i]? = some y ∧ primV y = true) ∧ (sz = 0 → ro = false → r.n ≠ 0 → r.base = 0)) := by
  cases q with
  | none => exact h.elim
  | some q =>
    cases q with
    | cells C T fr => obtain ⟨h1, h2⟩ := h; subst h1; exact ⟨C, fr, rfl, h2⟩
    | _ => exact h.elim

theorem ORel.map_inv {β : Map} {r : Rec} {es : List MapEntry} {k : Nat} {q : Option Obj} (h : ORel β r (.map es k) q) : ∃ ES, q = some (.map ES k) ∧ All2 (ERel β) es ES.toList := by
  cases q with
  | none => exact h.elim
  | some q =>
    cases q with
    | map ES k' => obtain ⟨h1, h2⟩ := h; subst h1; exact ⟨ES, rfl, h2⟩
    | _ => exact h.elim

theorem cells_read {β : Map} {h : HF} {w : World} {id o n : Nat} {r : Rec} {l : List Value} (hs : Sim β h w) (hb : β id = some r) (hl : cellsAt h id o n = some l) :
    ∃ l', LRel β l l' ∧ l.length = n ∧ ∀ j v, l'[j]? = some v → w.cell? ((⟨r.blk, r.base + o, none⟩ : Addr).add j) = some v := by
  unfold cellsAt at hl
  cases ho : h id with
  | none => simp [ho] at hl
  | some ob =>
    rw [ho] at hl
    cases ob with
    | map _ _ => simp at hl
    | iter _ _ => simp at hl
    | cells c t sz ro =>
      simp only at hl
      split at hl
      case isFalse => cases hl
      rename_i hle
      cases hl
      obtain ⟨C, fr, hq, _, _, _, hsz, hc, _⟩ := (hs.obj id r _ hb ho).cells_inv
      refine ⟨((C.toList.drop (r.base + o)).take n), ?_, by simp; omega, ?_⟩
      · rw [lrel_iff]
        refine ⟨by simp; omega, fun i hi hi' => ?_⟩
        simp only [List.length_take, List.length_drop] at hi
        obtain ⟨y, hy, hv⟩ := hc (o + i) (by omega)
        have : y = (C.toList)[r.base + o + i]'(by simp; omega) := by
          have := List.getElem_eq_iff (h := (by simp; omega : r.base + o + i < C.toList.length)) |>.2 (by simpa [Nat.add_assoc] using hy)
          exact this.symm
        simp only [List.getElem_take, List.getElem_drop]
        rw [← this]; exact hv
      · intro j v hv
        rw [add_eq, cell_of_row w r.blk _ C t fr hq]
        rw [List.getElem?_take] at hv
        split at hv
        · rw [List.getElem?_drop] at hv
          simpa [Nat.add_assoc] using hv
        · cases hv

theorem cell_read {β : Map} {h : HF} {w : World} {id o : Nat} {r : Rec} {c : List Value} {t : TypeId} {sz : Nat} {ro : Bool} {v : Value} (hs : Sim β h w) (hb : β id = some r) (ho : h id = some (.cells c t sz ro))
    (hv : c[o]? = some v) : ∃ v', w.cell? ⟨r.blk, r.base + o, none⟩ = some v' ∧ VRel β v v' := by
  obtain ⟨C, fr, hq, _, _, _, hsz, hc, _⟩ := (hs.obj id r _ hb ho).cells_inv
  obtain ⟨hi, rfl⟩ := List.getElem?_eq_some_iff.1 hv
  obtain ⟨y, hy, hv⟩ := hc o hi
  exact ⟨y, by rw [cell_of_row w r.blk _ C t fr hq]; exact hy, hv⟩

structure But (b : Nat) (w w' : World) : Prop where
  heap : ∀ k, k ≠ b → w'.heap[k]? = w.heap[k]?
  size : w'.heap.size = w.heap.size
  os : w'.os = w.os
  tape : w'.tape = w.tape
  output : w'.output = w.output
  drawn : w'.drawn = w.drawn

theorem But.refl (b : Nat) (w : World) : But b w w := ⟨fun _ _ => rfl, rfl, rfl, rfl, rfl, rfl⟩
theorem But.trans {b : Nat} {u v w : World} (h : But b u v) (k : But b v w) : But b u w :=
  ⟨fun i hi => (k.heap i hi).trans (h.heap i hi), k.size.trans h.size, k.os.trans h.os, k.tape.trans h.tape, k.output.trans h.output, k.drawn.trans h.drawn⟩

theorem setCell_but (w : World) (a : Addr) (v : Value) : But a.block w (w.setCell a v) :=
  ⟨fun k hk => by simp only [World.setCell, Array.getElem?_modify]; rw [if_neg (Ne.symm hk)], by simp [World.setCell], rfl, rfl, rfl, rfl⟩

theorem isCell_one {v : Value} (h : isCell v = true) : v.oneCell' = true := by cases v <;> simp_all [isCell, Value.oneCell']

theorem run_storeCells {P : Program} {b o : Nat} {t : TypeId} {fr : Nat × Nat} (vs : List Value) : ∀ (i : Nat) (w : World) (C : Array Value), w.heap[b]? = some (.cells C t fr) →
    o + i + vs.length ≤ C.size → (∀ j, o + i ≤ j → j < o + i + vs.length → ¬ (fr.1 ≤ j ∧ j < fr.2)) → vs.all isCell = true →
    ∃ w', (storeCells ⟨b, o, none⟩ vs i).run P w = .ok () w' ∧ w'.heap[b]? = some (.cells (storeL C.toList (o + i) vs).toArray t fr) ∧ But b w w' := by
  induction vs with
  | nil => intro i w C hC _ _ _; exact ⟨w, rfl, by simpa [storeL] using hC, But.refl b w⟩
  | cons v vs ih =>
    intro i w C hC hsz hfr hall
    simp only [List.all_cons, Bool.and_eq_true] at hall
    simp only [List.length_cons] at hsz hfr
    have hcell : w.cell? ⟨b, o + i, none⟩ = some (C[o + i]'(by omega)) := by
      rw [cell_of_row w b _ C t fr hC]; exact Array.getElem?_eq_getElem _
    have hfz : w.frozen? ⟨b, o + i, none⟩ = false := by
      have := hfr (o + i) (by omega) (by omega)
      simp only [World.frozen?, hC]
      simp only [Bool.and_eq_false_iff, decide_eq_false_iff_not]
      rcases Decidable.not_and_iff_or_not.1 this with h | h
      · exact .inl h
      · exact .inr h
    have hset : (w.setCell ⟨b, o + i, none⟩ v).heap[b]? = some (.cells (C.setIfInBounds (o + i) v) t fr) := by
      simp [World.setCell, Array.getElem?_modify, hC]
    obtain ⟨w', hr, hh, hb⟩ := ih (i + 1) (w.setCell ⟨b, o + i, none⟩ v) (C.setIfInBounds (o + i) v) hset (by simp; omega) (fun j h1 h2 => hfr j (by omega) (by omega)) hall.2
    refine ⟨w', ?_, ?_, (setCell_but w ⟨b, o + i, none⟩ v).trans hb⟩
    · simp only [storeCells, Sem.run_bind, add_eq]
      rw [run_store P w _ v .plain (isCell_one hall.1), hcell]
      simp only [hfz, Bool.false_eq_true, if_false, Result.andThen]
      exact hr
    · rw [hh]
      simp [storeL, Nat.add_assoc]

theorem store_step {P : Program} {β : Map} {h : HF} {w : World} {n id o : Nat} {r : Rec} {c : List Value} {t : TypeId} {sz : Nat} {vs vs' : List Value} (hs : Sim β h w) (hb : β id = some r)
    (ho : h id = some (.cells c t sz false)) (hv : LRel β vs vs') (hall : vs'.all isCell = true) (hle : o + vs.length ≤ c.length) :
    ∃ w', (storeCells ⟨r.blk, r.base + o, none⟩ vs').run P w = .ok () w' ∧ Sim β (fun j => if j = id then some (.cells (storeL c o vs) t sz false) else h j) w' ∧
      Step β h w β (fun j => if j = id then some (.cells (storeL c o vs) t sz false) else h j) w' n n := by
  obtain ⟨C, fr, hq, hn, hrs, hsl, hsz, hc, hfr, hpr⟩ := (hs.obj id r _ hb ho).cells_inv
  have hlen := hv.length
  obtain ⟨w', hr, hh, hbut⟩ := run_storeCells (P := P) (b := r.blk) (o := r.base + o) (t := t) (fr := fr) vs' 0 w C hq (by omega)
    (fun j h1 h2 => by rcases hfr rfl with h | ⟨_, h⟩ <;> omega) hall
  refine ⟨w', hr, ?_⟩
  refine update_step hs hb ho rfl rfl hbut.heap hbut.size hbut.os hbut.tape hbut.output ?_
  rw [hh]
  refine ⟨rfl, by rw [storeL_length]; exact hn, by simp, hsl, by simp [storeL_length]; exact hsz, fun i hi => ?_, fun _ => by rw [storeL_length]; exact hfr rfl, fun h1 i hi => ?_, hpr.2⟩
  rotate_left
  · obtain ⟨y, hy, hp⟩ := hpr.1 h1 i hi
    refine ⟨y, ?_, hp⟩
    rw [storeL_length, List.getElem?_toArray, storeL_get _ _ _ _ (by simp; omega), if_neg (by omega)]
    simpa using hy
  -- the cells, old and new
  have hw : LRel β c ((C.toList.drop r.base).take c.length) := by
    rw [lrel_iff]
    refine ⟨by simp; omega, fun i hi hi' => ?_⟩
    obtain ⟨y, hy, hv⟩ := hc i hi
    simp only [List.getElem_take, List.getElem_drop]
    have : y = (C.toList)[r.base + i]'(by simp; omega) := by
      have := List.getElem_eq_iff (h := (by simp; omega : r.base + i < C.toList.length)) |>.2 (by simpa using hy)
      exact this.symm
    rw [← this]; exact hv
  have hst := LRel.storeL hv hw o
  rw [storeL_length] at hi
  obtain ⟨_, hst2⟩ := lrel_iff.1 hst
  have hpos : ∀ (us : List Value) (L : List Value) (o i : Nat), i < c.length → (storeL L (r.base + o) us)[r.base + i]? = (storeL ((L.drop r.base).take c.length) o us)[i]? := by
    intro us
    induction us with
    | nil => intro L o i hi; simp [storeL, List.getElem?_take, hi, List.getElem?_drop]
    | cons u us ih =>
      intro L o i hi
      simp only [storeL]
      rw [Nat.add_assoc, ih _ (o + 1) i hi]
      congr 2
      apply List.ext_getElem?
      intro k
      by_cases hk : k < c.length
      · simp only [List.getElem?_take, hk, List.getElem?_drop, List.getElem?_set, if_true, List.length_take, List.length_drop, Nat.add_left_cancel_iff]
        by_cases e : o = k
        · rw [if_pos e, if_pos e]
          by_cases g : r.base + o < L.length
          · rw [if_pos g, if_pos (by omega)]
          · rw [if_neg g, if_neg (by omega)]
        · rw [if_neg e, if_neg e]
      · simp only [List.getElem?_take, hk, List.getElem?_set, if_false, List.length_take, List.length_drop]
        by_cases e : o = k
        · rw [if_pos e, if_neg (by omega)]
        · rw [if_neg e]
  refine ⟨(storeL ((C.toList.drop r.base).take c.length) o vs')[i]'(by rw [storeL_length]; simp; omega), ?_, hst2 i (by rw [storeL_length]; exact hi) _⟩
  have := hpos vs' C.toList o i hi
  simp only [Nat.add_zero]
  rw [List.getElem?_toArray, this]
  exact List.getElem?_eq_getElem _

end Go.Abs
