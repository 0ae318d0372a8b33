/-
  How the abstract state stands to the world: values, blocks, steps.
-/
import Derived.Test.YtlcfmfljmabaeaaA2
set_option linter.unusedVariables false
set_option linter.unusedSimpArgs false
namespace Go.Abs
open Go

theorem bytes_eq_iff (a b : ByteArray) : (a == b) = true ↔ a = b := by
  show ByteArray.beq a b = true ↔ a = b
  cases a with
  | mk x =>
    cases b with
    | mk y =>
      unfold ByteArray.beq
      simp

structure Rec where
  blk : Nat
  base : Nat
  slack : Nat
  n : Nat
  sz : Nat

abbrev Map := Nat → Option Rec
def Map.le (β β' : Map) : Prop := ∀ id r, β id = some r → β' id = some r
theorem Map.le_refl (β : Map) : Map.le β β := fun _ _ h => h
theorem Map.le_trans {a b c : Map} (h : Map.le a b) (k : Map.le b c) : Map.le a c := fun id r e => k id r (h id r e)

def primV : Value → Bool
  | .bool _ | .int _ _ | .float _ _ | .complex _ _ _ | .string _ | .pointer none | .slice none _ _ | .map none | .chan none | .nilFunc | .nilIface => true
  | _ => false

inductive VRel (β : Map) : Value → Value → Prop where
  | prim (v : Value) (h : primV v = true) : VRel β v v
  | ptr {id o : Nat} {r : Rec} (h : β id = some r) : VRel β (.pointer (some ⟨id, o, none⟩)) (.pointer (some ⟨r.blk, r.base + o, none⟩))
  | slice {id o len cap cap' : Nat} {r : Rec} (h : β id = some r) (hc : cap' = cap ∨ (cap' = cap + r.slack ∧ o + cap * r.sz = r.n)) :
      VRel β (.slice (some ⟨id, o, none⟩) len cap) (.slice (some ⟨r.blk, r.base + o, none⟩) len cap')
  | empty {id o : Nat} {a : Addr} {r : Rec} (h : β id = some r) : VRel β (.slice (some ⟨id, o, none⟩) 0 0) (.slice (some a) 0 0)
  | map {id : Nat} {r : Rec} (h : β id = some r) : VRel β (.map (some id)) (.map (some r.blk))
  | func {fn : Fn} {a c a' c' : Array Value} (h1 : a.size = a'.size) (h2 : c.size = c'.size)
      (h3 : ∀ i (h : i < a.size) (h' : i < a'.size), VRel β a[i] a'[i]) (h4 : ∀ i (h : i < c.size) (h' : i < c'.size), VRel β c[i] c'[i]) :
      VRel β (.func fn a c) (.func fn a' c')
  | iface {t : TypeId} {v v' : Value} (h : VRel β v v') : VRel β (.iface t v) (.iface t v')
  | agg {a a' : Array Value} (h1 : a.size = a'.size) (h3 : ∀ i (h : i < a.size) (h' : i < a'.size), VRel β a[i] a'[i]) : VRel β (.agg a) (.agg a')
  | tuple {a a' : Array Value} (h1 : a.size = a'.size) (h3 : ∀ i (h : i < a.size) (h' : i < a'.size), VRel β a[i] a'[i]) : VRel β (.tuple a) (.tuple a')

theorem VRel.mono {β β' : Map} (hb : Map.le β β') {v v' : Value} (h : VRel β v v') : VRel β' v v' := by
  induction h with
  | prim v h => exact .prim v h
  | ptr h => exact .ptr (hb _ _ h)
  | slice h hc => exact .slice (hb _ _ h) hc
  | empty h => exact .empty (hb _ _ h)
  | map h => exact .map (hb _ _ h)
  | func h1 h2 _ _ ih3 ih4 => exact .func h1 h2 ih3 ih4
  | iface _ ih => exact .iface ih
  | agg h1 _ ih => exact .agg h1 ih
  | tuple h1 _ ih => exact .tuple h1 ih

inductive All2 {α γ : Type} (R : α → γ → Prop) : List α → List γ → Prop where
  | nil : All2 R [] []
  | cons {a : α} {b : γ} {l : List α} {l' : List γ} (h : R a b) (t : All2 R l l') : All2 R (a :: l) (b :: l')

abbrev LRel (β : Map) : List Value → List Value → Prop := All2 (VRel β)

theorem LRel.mono {β β' : Map} (hb : Map.le β β') {l l' : List Value} (h : LRel β l l') : LRel β' l l' := by
  induction h with
  | nil => exact .nil
  | cons h _ ih => exact .cons (h.mono hb) ih

theorem LRel.length {β : Map} {l l' : List Value} (h : LRel β l l') : l.length = l'.length := by
  induction h with
  | nil => rfl
  | cons _ _ ih => simp [ih]

theorem lrel_iff {β : Map} {l l' : List Value} : LRel β l l' ↔ l.length = l'.length ∧ ∀ i (h : i < l.length) (h' : i < l'.length), VRel β l[i] l'[i] := by
  constructor
  · intro h
    refine ⟨h.length, ?_⟩
    induction h with
    | nil => intro i h; exact absurd h (Nat.not_lt_zero i)
    | cons h0 _ ih =>
      intro i h h'
      cases i with
      | zero => exact h0
      | succ i => exact ih i (by simpa using h) (by simpa using h')
  · rintro ⟨hl, h⟩
    induction l generalizing l' with
    | nil =>
      cases l' with
      | nil => exact .nil
      | cons a b => simp at hl
    | cons x l ih =>
      cases l' with
      | nil => simp at hl
      | cons y l' =>
        refine .cons (h 0 (by simp) (by simp)) (ih (by simpa using hl) fun i hi hi' => ?_)
        exact h (i + 1) (by simpa using hi) (by simpa using hi')

theorem lrel_arr {β : Map} {a a' : Array Value} : LRel β a.toList a'.toList ↔ a.size = a'.size ∧ ∀ i (h : i < a.size) (h' : i < a'.size), VRel β a[i] a'[i] := by
  rw [lrel_iff]; simp

theorem LRel.agg {β : Map} {l l' : List Value} (h : LRel β l l') : VRel β (.agg l.toArray) (.agg l'.toArray) := by
  have := lrel_iff.1 h
  exact .agg (by simpa using this.1) (by simpa using this.2)
theorem LRel.tuple {β : Map} {l l' : List Value} (h : LRel β l l') : VRel β (.tuple l.toArray) (.tuple l'.toArray) := by
  have := lrel_iff.1 h
  exact .tuple (by simpa using this.1) (by simpa using this.2)

theorem LRel.get {β : Map} {l l' : List Value} (h : LRel β l l') {i : Nat} {v : Value} (hv : l[i]? = some v) : ∃ v', l'[i]? = some v' ∧ VRel β v v' := by
  obtain ⟨hl, hh⟩ := lrel_iff.1 h
  obtain ⟨hi, rfl⟩ := List.getElem?_eq_some_iff.1 hv
  exact ⟨l'[i]'(hl ▸ hi), List.getElem?_eq_getElem _, hh i hi _⟩

theorem LRel.take {β : Map} {l l' : List Value} (h : LRel β l l') (n : Nat) : LRel β (l.take n) (l'.take n) := by
  induction h generalizing n with
  | nil => simpa using .nil
  | cons h _ ih => cases n with
    | zero => exact .nil
    | succ n => exact .cons h (ih n)
theorem LRel.drop {β : Map} {l l' : List Value} (h : LRel β l l') (n : Nat) : LRel β (l.drop n) (l'.drop n) := by
  induction h generalizing n with
  | nil => simpa using .nil
  | cons h h' ih => cases n with
    | zero => exact .cons h h'
    | succ n => exact ih n
theorem LRel.append {β : Map} {l l' k k' : List Value} (h : LRel β l l') (h2 : LRel β k k') : LRel β (l ++ k) (l' ++ k') := by
  induction h with
  | nil => exact h2
  | cons h _ ih => exact .cons h ih
theorem LRel.set {β : Map} {l l' : List Value} (h : LRel β l l') (i : Nat) {v v' : Value} (hv : VRel β v v') : LRel β (l.set i v) (l'.set i v') := by
  induction h generalizing i with
  | nil => exact .nil
  | cons h h' ih => cases i with
    | zero => exact .cons hv h'
    | succ i => exact .cons h (ih i)
theorem LRel.storeL {β : Map} {vs vs' : List Value} (hv : LRel β vs vs') : ∀ {l l' : List Value} (_ : LRel β l l') (i : Nat), LRel β (storeL l i vs) (storeL l' i vs') := by
  induction hv with
  | nil => intro l l' h i; exact h
  | cons h _ ih => intro l l' hl i; exact ih (hl.set i h) (i + 1)

theorem storeL_length (vs : List Value) : ∀ (l : List Value) (i : Nat), (storeL l i vs).length = l.length := by
  induction vs with
  | nil => intro l i; rfl
  | cons v vs ih => intro l i; simp [storeL, ih]

theorem storeL_get (vs : List Value) : ∀ (L : List Value) (o j : Nat), o + vs.length ≤ L.length → (storeL L o vs)[j]? = if o ≤ j ∧ j < o + vs.length then vs[j - o]? else L[j]? := by
  induction vs with
  | nil => intro L o j _; simp only [storeL, List.length_nil]; rw [if_neg (by omega)]
  | cons v vs ih =>
    intro L o j hle
    simp only [List.length_cons] at hle ⊢
    simp only [storeL]
    rw [ih _ _ _ (by simp; omega)]
    by_cases h1 : o + 1 ≤ j ∧ j < o + 1 + vs.length
    · rw [if_pos h1, if_pos (by omega)]
      obtain ⟨d, rfl⟩ : ∃ d, j = o + 1 + d := ⟨j - (o + 1), by omega⟩
      rw [show o + 1 + d - (o + 1) = d by omega, show o + 1 + d - o = d + 1 by omega]
      simp
    · rw [if_neg h1]
      by_cases h2 : j = o
      · subst h2
        rw [if_pos (by omega), List.getElem?_set_self (by omega)]
        simp
      · rw [if_neg (by omega), List.getElem?_set_ne (Ne.symm h2)]

def plainV : Value → Bool
  | .bool _ | .int _ _ | .float _ _ | .complex _ _ _ | .string _ => true
  | _ => false
def zeroOk (l : List Value) : Bool := l.all primV
theorem LRel.zero {β : Map} {l : List Value} (h : zeroOk l = true) : LRel β l l := by
  induction l with
  | nil => exact .nil
  | cons v l ih =>
    simp only [zeroOk, List.all_cons, Bool.and_eq_true] at h
    exact .cons (.prim v h.1) (ih h.2)

/-! ### Blocks -/

def ERel (β : Map) (e e' : MapEntry) : Prop := e.key = e'.key ∧ plainV e.key = true ∧ VRel β e.val e'.val ∧ e.born = e'.born

def ORel (β : Map) (r : Rec) : AObj → Option Obj → Prop
  | .cells c t sz ro, some (.cells C T fr) =>
    T = t ∧ r.n = c.length ∧ (ro = true → r.slack = 0) ∧ (r.slack ≠ 0 → r.sz = sz ∧ sz < 4294967296) ∧ r.base + c.length + r.slack * r.sz ≤ C.size ∧
    (∀ i, (h : i < c.length) → ∃ y, C[r.base + i]? = some y ∧ VRel β c[i] y) ∧
    (ro = false → fr.1 = fr.2 ∨ (sz = 1 ∧ r.base + c.length + r.slack * r.sz ≤ fr.1)) ∧
    ((1 < sz → ∀ i, i < r.slack * r.sz → ∃ y, C[r.base + c.length + i]? = some y ∧ primV y = true) ∧ (sz = 0 → ro = false → r.n ≠ 0 → r.base = 0))
  | .map es clock, some (.map ES clock') => clock = clock' ∧ All2 (ERel β) es ES.toList
  | .iter s pos, some (.stringIter s' pos') => s = s' ∧ pos = pos'
  | _, _ => False

theorem ERel.mono {β β' : Map} (hb : Map.le β β') {e e' : MapEntry} (h : ERel β e e') : ERel β' e e' := ⟨h.1, h.2.1, h.2.2.1.mono hb, h.2.2.2⟩

theorem forall2_mono {α γ : Type} {R S : α → γ → Prop} (h : ∀ a b, R a b → S a b) {l : List α} {l' : List γ} (hl : All2 R l l') : All2 S l l' := by
  induction hl with
  | nil => exact .nil
  | cons h1 _ ih => exact .cons (h _ _ h1) ih

theorem ORel.mono {β β' : Map} (hb : Map.le β β') {r : Rec} {o : AObj} {q : Option Obj} (h : ORel β r o q) : ORel β' r o q := by
  cases o with
  | cells c t sz ro =>
    cases q with
    | none => exact h
    | some q =>
      cases q <;> try exact h
      obtain ⟨h1, h2, h3, h4, h5, h6, h7⟩ := h
      exact ⟨h1, h2, h3, h4, h5, fun i hi => let ⟨y, e, v⟩ := h6 i hi; ⟨y, e, v.mono hb⟩, h7⟩
  | map es clock =>
    cases q with
    | none => exact h
    | some q =>
      cases q <;> try exact h
      exact ⟨h.1, forall2_mono (fun _ _ => ERel.mono hb) h.2⟩
  | iter s p =>
    cases q with
    | none => exact h
    | some q => cases q <;> exact h

abbrev HF := Nat → Option AObj

structure Sim (β : Map) (h : HF) (w : World) : Prop where
  obj : ∀ id r o, β id = some r → h id = some o → ORel β r o w.heap[r.blk]?
  inj : ∀ id1 id2 r1 r2 o1 o2, β id1 = some r1 → β id2 = some r2 → h id1 = some o1 → h id2 = some o2 → r1.blk = r2.blk →
    id1 = id2 ∨ (o1.isRo = true ∧ o2.isRo = true)

theorem ORel.ne_none {β : Map} {r : Rec} {o : AObj} {q : Option Obj} (h : ORel β r o q) : q ≠ none := by
  intro e; subst e; cases o <;> exact h

theorem Sim.lt {β : Map} {h : HF} {w : World} (hs : Sim β h w) {id : Nat} {r : Rec} {o : AObj} (hb : β id = some r) (ho : h id = some o) : r.blk < w.heap.size := by
  have := (hs.obj id r o hb ho).ne_none
  rcases Nat.lt_or_ge r.blk w.heap.size with h | h
  · exact h
  · exact absurd (Array.getElem?_eq_none h) this

def Fresh (β : Map) (n n' : Nat) : Prop := ∀ id, n ≤ id → id < n' → β id = none

def Owned (β : Map) (h : HF) (k : Nat) : Prop := ∃ id r o, β id = some r ∧ h id = some o ∧ o.isRo = false ∧ r.blk = k

structure Step (β : Map) (h : HF) (w : World) (β' : Map) (h' : HF) (w' : World) (n n' : Nat) : Prop where
  le : Map.le β β'
  next : n ≤ n'
  new : ∀ id r, β' id = some r → β id = none → n ≤ id ∧ id < n'
  frame : ∀ k, k < w.heap.size → ¬ Owned β h k → w'.heap[k]? = w.heap[k]?
  size : w.heap.size ≤ w'.heap.size
  img : ∀ k, Owned β' h' k → k < w.heap.size → Owned β h k
  ro : ∀ id r o, β' id = some r → h' id = some o → o.isRo = true → β id = some r ∧ h id = some o
  os : w'.os = w.os
  tape : w'.tape = w.tape
  output : w'.output = w.output

theorem Step.refl (β : Map) (h : HF) (w : World) (n : Nat) : Step β h w β h w n n :=
  ⟨Map.le_refl β, Nat.le_refl _, fun id r e f => (by rw [f] at e; cases e), fun _ _ _ => rfl, Nat.le_refl _, fun _ o _ => o, fun _ _ _ e f _ => ⟨e, f⟩, rfl, rfl, rfl⟩

theorem Step.trans {β β' β'' : Map} {h h' h'' : HF} {w w' w'' : World} {n n' n'' : Nat} (a : Step β h w β' h' w' n n') (b : Step β' h' w' β'' h'' w'' n' n'') :
    Step β h w β'' h'' w'' n n'' where
  le := Map.le_trans a.le b.le
  next := Nat.le_trans a.next b.next
  new := fun id r e f => by
    cases hb : β' id with
    | none => obtain ⟨h1, h2⟩ := b.new id r e hb; exact ⟨Nat.le_trans a.next h1, h2⟩
    | some r' => obtain ⟨h1, h2⟩ := a.new id r' hb f; exact ⟨h1, Nat.lt_of_lt_of_le h2 b.next⟩
  frame := fun k hk ho => by
    rw [b.frame k (Nat.lt_of_lt_of_le hk a.size) (fun q => ho (a.img k q hk)), a.frame k hk ho]
  size := Nat.le_trans a.size b.size
  img := fun k q hk => a.img k (b.img k q (Nat.lt_of_lt_of_le hk a.size)) hk
  ro := fun id r o e f g => let ⟨e1, f1⟩ := b.ro id r o e f g; a.ro id r o e1 f1 g
  os := b.os.trans a.os
  tape := b.tape.trans a.tape
  output := b.output.trans a.output

theorem Fresh.step {β β' : Map} {h h' : HF} {w w' : World} {n n' n'' : Nat} (hf : Fresh β n n'') (s : Step β h w β' h' w' n n') : Fresh β' n' n'' := by
  intro id h1 h2
  cases e : β' id with
  | none => rfl
  | some r =>
    have := hf id (Nat.le_trans s.next h1) h2
    have := (s.new id r e this).2
    omega

theorem Fresh.left {β : Map} {n n' n'' : Nat} (hf : Fresh β n n'') (h : n' ≤ n'') : Fresh β n n' := fun id h1 h2 => hf id h1 (by omega)

def CallOK (P : Program) (f : FuncId) (args : List Value) (s : St) (v : Value) (s' : St) : Prop :=
  s.next ≤ s'.next ∧ ∀ (β : Map) (w : World) (args' : List Value), Sim β s.heap.get w → Fresh β s.next s'.next → LRel β args args' →
    Calls P f args'.toArray w fun e w' => ∃ v' β', e = .returned v' ∧ VRel β' v v' ∧ Sim β' s'.heap.get w' ∧ Step β s.heap.get w β' s'.heap.get w' s.next s'.next

/-! ### The frame of a call -/

structure EnvRel (β : Map) (e : Env) (a : Act) : Prop where
  rel : ∀ t v, e.get t = some v → t < a.tmps.size ∧ VRel β v (a.tmps.getD t undef)
  defers : a.defers = []

theorem EnvRel.mono {β β' : Map} (hb : Map.le β β') {e : Env} {a : Act} (h : EnvRel β e a) : EnvRel β' e a :=
  ⟨fun t v hv => ⟨(h.rel t v hv).1, (h.rel t v hv).2.mono hb⟩, h.defers⟩

theorem undefV_rel (β : Map) : VRel β undefV undef := .tuple rfl (fun i h => absurd h (Nat.not_lt_zero i))

theorem EnvRel.put {β : Map} {e : Env} {a : Act} (h : EnvRel β e a) {d : Option Nat} (hd : ∀ t, d = some t → t < a.tmps.size) {v v' : Value} (hv : VRel β v v') : EnvRel β (setE e d v) (a.put d v') := by
  cases d with
  | none => exact h
  | some d =>
    refine ⟨fun t u hu => ?_, h.defers⟩
    simp only [setE, Env.get] at hu
    have hs := hd d rfl
    by_cases e : t = d
    · subst e
      simp only [if_true, Option.some.injEq] at hu
      subst hu
      simp only [Act.put, Array.size_setIfInBounds]
      refine ⟨hs, ?_⟩
      simp [Array.getD, hs, hv]
    · rw [if_neg e] at hu
      obtain ⟨h1, h2⟩ := h.rel t u hu
      simp only [Act.put, Array.size_setIfInBounds]
      refine ⟨h1, ?_⟩
      have : (a.tmps.setIfInBounds d v').getD t undef = a.tmps.getD t undef := by
        simp [Array.getD, h1, Ne.symm e]
      rw [this]; exact h2

theorem EnvRel.rd {β : Map} {e : Env} {a : Act} (h : EnvRel β e a) {x : Operand} {v : Value} (hx : ∀ c, x = .const c → primV c = true) (hv : e.rd x = some v) : VRel β v (a.eval x) := by
  cases x with
  | tmp t => exact (h.rel t v hv).2
  | const c => simp only [Env.rd, Option.some.injEq] at hv; subst hv; exact .prim c (hx c rfl)
  | global g => simp [Env.rd] at hv
  | func f =>
    simp only [Env.rd, Option.some.injEq] at hv; subst hv
    exact .func rfl rfl (fun i h => absurd h (Nat.not_lt_zero i)) (fun i h => absurd h (Nat.not_lt_zero i))

end Go.Abs
