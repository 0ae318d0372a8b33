/-
  A region that draws its order.
-/
import Derived.Test.YtgnpafmhdmmmhaaA16
set_option linter.unusedVariables false
set_option linter.unusedSimpArgs false
namespace Go.Abs
open Go

/-! ### the masks -/
theorem mask_bit {o : Oper} {acc : List Nat} {i : Nat} (h : (mask o acc).testBit i = true) : ∃ e ∈ o.after, Region.binds .any e = true ∧ (e.on = i ∨ (acc.getD e.on 0).testBit i = true) := by
  have key : ∀ (l : List Edge) (s : Nat), (l.foldl (fun s e => if Region.binds .any e then s ||| 2 ^ e.on ||| acc.getD e.on 0 else s) s).testBit i = true →
      s.testBit i = true ∨ ∃ e ∈ l, Region.binds .any e = true ∧ (e.on = i ∨ (acc.getD e.on 0).testBit i = true) := by
    intro l
    induction l with
    | nil => intro s h; exact .inl h
    | cons e l ih =>
      intro s h
      simp only [List.foldl_cons] at h
      rcases ih _ h with h1 | ⟨e', he', h2⟩
      · by_cases hb : Region.binds .any e = true
        · rw [if_pos hb, Nat.testBit_or, Nat.testBit_or, Bool.or_eq_true, Bool.or_eq_true] at h1
          rcases h1 with (h1 | h1) | h1
          · exact .inl h1
          · refine .inr ⟨e, List.mem_cons_self .., hb, .inl ?_⟩
            rw [Nat.testBit_two_pow] at h1
            exact of_decide_eq_true h1
          · exact .inr ⟨e, List.mem_cons_self .., hb, .inr h1⟩
        · rw [if_neg hb] at h1; exact .inl h1
      · exact .inr ⟨e', List.mem_cons_of_mem _ he', h2⟩
  rcases key _ _ h with h1 | ⟨e, he, h2⟩
  · simp at h1
  · exact ⟨e, by simpa using he, h2⟩

theorem masks_prefix : ∀ (l : List Oper) (acc : List Nat) (k : Nat), k < acc.length → (masks l acc)[k]? = acc[k]? := by
  intro l
  induction l with
  | nil => intro acc k _; rfl
  | cons o l ih =>
    intro acc k hk
    simp only [masks]
    rw [ih _ _ (by simp; omega), List.getElem?_append_left hk]

theorem masks_at : ∀ (l : List Oper) (acc : List Nat) (k : Nat) (o : Oper), l[k]? = some o → ∃ acc', (masks l acc)[acc.length + k]? = some (mask o acc') ∧ acc'.length = acc.length + k ∧ ∀ i, i < acc'.length → (masks l acc)[i]? = acc'[i]? := by
  intro l
  induction l with
  | nil => intro acc k o h; simp at h
  | cons o' l ih =>
    intro acc k o h
    cases k with
    | zero =>
      simp only [List.getElem?_cons_zero, Option.some.injEq] at h
      subst h
      refine ⟨acc, ?_, by simp, fun i hi => ?_⟩
      · simp only [masks, Nat.add_zero]
        rw [masks_prefix _ _ _ (by simp)]
        simp
      · simp only [masks]
        rw [masks_prefix _ _ _ (by simp; omega), List.getElem?_append_left hi]
    | succ k =>
      simp only [List.getElem?_cons_succ] at h
      obtain ⟨acc', h1, h2, h3⟩ := ih (acc ++ [mask o' acc]) k o h
      simp only [List.length_append, List.length_cons, List.length_nil] at h1 h2
      refine ⟨acc', ?_, by omega, fun i hi => ?_⟩
      · simp only [masks]; rw [show acc.length + (k + 1) = acc.length + (0 + 1) + k by omega]; exact h1
      · simp only [masks]; exact h3 i hi

/-- What has come up holds all that it waits for. -/
def Closed (l : List Oper) (listed : Nat → Bool) : Prop := ∀ j o, l[j]? = some o → listed j = true → ∀ e ∈ o.after, Region.binds .any e = true → listed e.on = true

def Ord (l : List Oper) (i j : Nat) : Prop := i < j ∧ ((masks l []).getD j 0).testBit i = true

theorem anc_listed {l : List Oper} {listed : Nat → Bool} (hb : ∀ j o, l[j]? = some o → ∀ e ∈ o.after, Region.binds .any e = true → e.on < j) (hc : Closed l listed) :
    ∀ (j : Nat) (o : Oper), l[j]? = some o → (∀ e ∈ o.after, Region.binds .any e = true → listed e.on = true) → ∀ i, ((masks l []).getD j 0).testBit i = true → listed i = true := by
  intro j
  induction j using Nat.strongRecOn with
  | _ j ih =>
    intro o ho hd i hi
    obtain ⟨acc', h1, h2, h3⟩ := masks_at l [] j o ho
    simp only [List.length_nil, Nat.zero_add] at h1 h2
    rw [List.getD_eq_getElem?_getD, h1, Option.getD_some] at hi
    obtain ⟨e, he, hbi, hcase⟩ := mask_bit hi
    have hl := hd e he hbi
    have hlt := hb j o ho e he hbi
    rcases hcase with rfl | hbit
    · exact hl
    · have hq : acc'.getD e.on 0 = (masks l []).getD e.on 0 := by
        rw [List.getD_eq_getElem?_getD, List.getD_eq_getElem?_getD, h3 e.on (by omega)]
      rw [hq] at hbit
      cases hoe : l[e.on]? with
      | none =>
        have := List.getElem?_eq_none_iff.1 hoe
        have := (List.getElem?_eq_some_iff.1 ho).1
        omega
      | some oe => exact ih e.on hlt oe hoe (hc e.on oe hoe hl) i hbit

/-! ### steps without a count of names -/
structure StepC (β : Map) (h : HF) (w : World) (β' : Map) (h' : HF) (w' : World) : Prop where
  le : Map.le β β'
  frame : ∀ k, k < w.heap.size → ¬ Owned β h k → w'.heap[k]? = w.heap[k]?
  size : w.heap.size ≤ w'.heap.size
  img : ∀ k, Owned β' h' k → k < w.heap.size → Owned β h k
  ro : ∀ id r o, β' id = some r → h' id = some o → o.isRo = true → β id = some r ∧ h id = some o
  os : w'.os = w.os
  tape : w'.tape = w.tape
  output : w'.output = w.output

theorem Step.core {β β' : Map} {h h' : HF} {w w' : World} {n n' : Nat} (s : Step β h w β' h' w' n n') : StepC β h w β' h' w' :=
  ⟨s.le, s.frame, s.size, s.img, s.ro, s.os, s.tape, s.output⟩

theorem StepC.trans {β β' β'' : Map} {h h' h'' : HF} {w w' w'' : World} (a : StepC β h w β' h' w') (b : StepC β' h' w' β'' h'' w'') : StepC β h w β'' h'' w'' where
  le := Map.le_trans a.le b.le
  frame := fun k hk ho => by
    rw [b.frame k (Nat.lt_of_lt_of_le hk a.size) (fun q => ho (a.img k q hk)), a.frame k hk ho]
  size := Nat.le_trans a.size b.size
  img := fun k q hk => a.img k (b.img k q (Nat.lt_of_lt_of_le hk a.size)) hk
  ro := fun id r o e f g => let ⟨e1, f1⟩ := b.ro id r o e f g; a.ro id r o e1 f1 g
  os := b.os.trans a.os
  tape := b.tape.trans a.tape
  output := b.output.trans a.output

structure EnvF (β : Map) (e : Nat → Option Value) (a : Act) : Prop where
  rel : ∀ t v, e t = some v → t < a.tmps.size ∧ VRel β v (a.tmps.getD t undef)
  defers : a.defers = []

theorem restrict_get (live : List Nat) (e : Env) (t : Nat) : (restrict live e).get t = if t ∈ live then e.get t else none := by
  induction live with
  | nil => simp [restrict, Env.get]
  | cons u live ih =>
    unfold restrict at ih ⊢
    rw [List.filterMap_cons]
    cases hu : e.get u with
    | none =>
      simp only [Option.map_none]
      rw [ih]
      by_cases h : t = u
      · subst h; simp [hu]
      · simp [h]
    | some v =>
      simp only [Option.map_some, Env.get, ih]
      by_cases h : t = u
      · subst h; simp [hu]
      · simp [h]

/-- A step of some blocks, beside others that it does not know. -/
theorem widen {β β' : Map} {h h' g g' : HF} {w w' : World} (hs : Sim β g w) (hs' : Sim β' h' w') (st : StepC β h w β' h' w')
    (hin : ∀ id r o, β id = some r → h id = some o → g id = some o)
    (hnew : ∀ id r o, β' id = some r → g' id = some o → h' id = some o ∨ (β id = some r ∧ g id = some o ∧ h id = none)) :
    Sim β' g' w' ∧ StepC β g w β' g' w' := by
  -- a block that h does not know is nobody's in h
  have hno : ∀ id r o, β id = some r → g id = some o → h id = none → ¬ Owned β h r.blk := by
    rintro id r o e f hn ⟨id2, r2, o2, e2, f2, g2, hq⟩
    have f2' := hin id2 r2 o2 e2 f2
    rcases hs.inj id2 id r2 r o2 o e2 e f2' f hq with rfl | ⟨hro, _⟩
    · rw [hn] at f2; cases f2
    · rw [g2] at hro; cases hro
  have hkeep : ∀ id r o, β id = some r → g id = some o → h id = none → w'.heap[r.blk]? = w.heap[r.blk]? := fun id r o e f hn =>
    st.frame r.blk (hs.lt e f) (hno id r o e f hn)
  refine ⟨⟨fun id r o e f => ?_, fun i1 i2 r1 r2 o1 o2 e1 e2 f1 f2 hq => ?_⟩, st.le, fun k hk ho => ?_, st.size, fun k hk hlt => ?_, fun id r o e f hr => ?_, st.os, st.tape, st.output⟩
  · rcases hnew id r o e f with hh | ⟨eb, fg, hn⟩
    · exact hs'.obj id r o e hh
    · rw [hkeep id r o eb fg hn]
      exact (hs.obj id r o eb fg).mono st.le
  · have mixed : ∀ i1 i2 r1 r2 o1 o2, β' i1 = some r1 → h' i1 = some o1 → β i2 = some r2 → g i2 = some o2 → h i2 = none → r1.blk = r2.blk → i1 = i2 ∨ (o1.isRo = true ∧ o2.isRo = true) := by
      intro i1 i2 r1 r2 o1 o2 e1 f1 e2 f2 hn hq
      cases hro : o1.isRo with
      | false =>
        exfalso
        have := st.img r2.blk ⟨i1, r1, o1, e1, f1, hro, hq⟩ (hs.lt e2 f2)
        exact hno i2 r2 o2 e2 f2 hn this
      | true =>
        obtain ⟨eb, fh⟩ := st.ro i1 r1 o1 e1 f1 hro
        have fg := hin i1 r1 o1 eb fh
        rcases hs.inj i1 i2 r1 r2 o1 o2 eb e2 fg f2 hq with h | ⟨_, h⟩
        · exact .inl h
        · exact .inr ⟨rfl, h⟩
    rcases hnew i1 r1 o1 e1 f1 with h1 | ⟨b1, g1, n1⟩ <;> rcases hnew i2 r2 o2 e2 f2 with h2 | ⟨b2, g2, n2⟩
    · exact hs'.inj i1 i2 r1 r2 o1 o2 e1 e2 h1 h2 hq
    · exact mixed i1 i2 r1 r2 o1 o2 e1 h1 b2 g2 n2 hq
    · rcases mixed i2 i1 r2 r1 o2 o1 e2 h2 b1 g1 n1 hq.symm with h | ⟨h, h'⟩
      · exact .inl h.symm
      · exact .inr ⟨h', h⟩
    · exact hs.inj i1 i2 r1 r2 o1 o2 b1 b2 g1 g2 hq
  · refine st.frame k hk fun ⟨id, r, o, e, f, hr, hq⟩ => ho ⟨id, r, o, e, hin id r o e f, hr, hq⟩
  · obtain ⟨id, r, o, e, f, hr, hq⟩ := hk
    rcases hnew id r o e f with hh | ⟨eb, fg, hn⟩
    · obtain ⟨id2, r2, o2, e2, f2, g2, hq2⟩ := st.img k ⟨id, r, o, e, hh, hr, hq⟩ hlt
      exact ⟨id2, r2, o2, e2, hin id2 r2 o2 e2 f2, g2, hq2⟩
    · exact ⟨id, r, o, eb, fg, hr, hq⟩
  · rcases hnew id r o e f with hh | ⟨eb, fg, hn⟩
    · obtain ⟨eb, fh⟩ := st.ro id r o e hh hr
      exact ⟨eb, hin id r o eb fh⟩
    · exact ⟨eb, fg⟩

end Go.Abs
