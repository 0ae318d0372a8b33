/-
  Regions that draw where the calls are quiet.
-/
import Derived.Test.YtgnpafmhdmmmhaaA31
set_option linter.unusedVariables false
set_option linter.unusedSimpArgs false
namespace Go.Abs
open Go

def WQ (cs : Nat → CallSem) (quiet : List Nat) : Nat → List AOper → Env → St → (Env → St → Prop) → Prop
  | _, [], e, s, Q => Q e s
  | i, o :: r, e, s, Q =>
    match wantedA o e with
    | none => False
    | some true => WOp cs o.op e s fun v s' => (i ∈ quiet → Quiet s s') ∧ WQ cs quiet (i + 1) r (setE e o.dst v) s' Q
    | some false => WQ cs quiet (i + 1) r (setE e o.dst undefV) s Q

theorem Quiet.refl (s : St) : Quiet s s := fun _ _ => rfl

theorem quietAt_append {fs : List Foot} {f : Foot} {j : Nat} (hj : j < fs.length) (h : quietAt fs j) : quietAt (fs ++ [f]) j := by
  intro g hg
  rw [List.getElem?_append_left hj] at hg
  exact h g hg

theorem WQ.draw {cs : Nat → CallSem} {quiet : List Nat} : ∀ {ops : List AOper} {i : Nat} {fs : List Foot} {e : Env} {s : St} {Q : Env → St → Prop}, fs.length = i → (∀ j ∈ quiet, j < i → quietAt fs j) → WQ cs quiet i ops e s Q →
    WDraw cs ops fs e s fun fs e s => (∀ j ∈ quiet, quietAt fs j) ∧ Q e s := by
  intro ops
  induction ops with
  | nil =>
    intro i fs e s Q hl hq h
    refine ⟨fun j hj => ?_, h⟩
    by_cases hlt : j < i
    · exact hq j hj hlt
    · intro f hf
      rw [List.getElem?_eq_none (by omega)] at hf; cases hf
  | cons o r ih =>
    intro i fs e s Q hl hq h
    unfold WQ at h
    unfold WDraw
    split at h
    · exact h.elim
    · rename_i hw
      unfold WOp at h
      split at h
      · exact h.elim
      · rename_i a ha
        simp only [hw, ha]
        refine WVals.mono ?_ h
        rintro v s' ⟨h1, h2⟩
        refine ih (i := i + 1) (by simp [hl]) (fun j hj hlt => ?_) h2
        by_cases hji : j = i
        · subst hji
          intro f hf
          rw [List.getElem?_append_right (by omega)] at hf
          simp [hl] at hf
          subst hf
          exact h1 hj
        · exact quietAt_append (by omega) (hq j hj (by omega))
    · rename_i hw
      simp only [hw]
      refine ih (i := i + 1) (by simp [hl]) (fun j hj hlt => ?_) h
      by_cases hji : j = i
      · subst hji
        intro f hf
        rw [List.getElem?_append_right (by omega)] at hf
        simp [hl] at hf
        subst hf
        exact Quiet.refl s
      · exact quietAt_append (by omega) (hq j hj (by omega))

theorem wc_quiet {cs : Nat → CallSem} {ops : List AOper} {quiet : List Nat} {e : Env} {s : St} {Q : AExit → Env → St → Prop} (h : WQ cs quiet 0 ops e s (Q .normal)) : WCode cs (.region ops (some ⟨[], quiet⟩)) e s Q := by
  rw [wc_draw]
  refine WDraw.mono ?_ (WQ.draw (i := 0) (fs := []) rfl (fun j _ h => absurd h (Nat.not_lt_zero j)) h)
  rintro fs e s ⟨h1, h2⟩
  exact ⟨⟨rfl, h1⟩, h2⟩

theorem wq_cut (cs : Nat → CallSem) (quiet : List Nat) : ∀ (ops : List AOper) (n i : Nat) (e : Env) (s : St) (Q : Env → St → Prop), n ≤ ops.length → WQ cs quiet i ops e s Q = WQ cs quiet i (ops.take n) e s (fun e s => WQ cs quiet (i + n) (ops.drop n) e s Q) := by
  intro ops
  induction ops with
  | nil => intro n i e s Q hn; simp only [List.length_nil, Nat.le_zero] at hn; subst hn; rfl
  | cons o r ih =>
    intro n i e s Q hn
    cases n with
    | zero => rfl
    | succ n =>
      simp only [List.length_cons] at hn
      simp only [List.take_succ_cons, List.drop_succ_cons, WQ]
      have h1 : ∀ e s, WQ cs quiet (i + 1) r e s Q = WQ cs quiet (i + 1) (r.take n) e s (fun e s => WQ cs quiet (i + (n + 1)) (r.drop n) e s Q) := fun e s => by
        rw [ih n (i + 1) e s Q (by omega), show i + 1 + n = i + (n + 1) by omega]
      simp only [h1]

theorem WQ.mono {cs : Nat → CallSem} {quiet : List Nat} : ∀ {ops : List AOper} {i : Nat} {e : Env} {s : St} {Q R : Env → St → Prop}, (∀ e s, Q e s → R e s) → WQ cs quiet i ops e s Q → WQ cs quiet i ops e s R := by
  intro ops
  induction ops with
  | nil => intro i e s Q R h hq; exact h _ _ hq
  | cons o r ih =>
    intro i e s Q R h hq
    unfold WQ at hq ⊢
    split at hq
    · exact hq.elim
    · unfold WOp at hq ⊢
      split at hq
      · exact hq.elim
      · exact WVals.mono (fun v s ⟨h1, h2⟩ => ⟨h1, ih h h2⟩) hq
    · exact ih h hq

/-! ### rules for the walk -/
def qcont (cs : Nat → CallSem) (quiet : List Nat) (i : Nat) (d : Option Nat) (r : List AOper) (e : Env) (s : St) (Q : Env → St → Prop) (v : Value) (s' : St) : Prop := (i ∈ quiet → Quiet s s') ∧ WQ cs quiet (i + 1) r (setE e d v) s' Q
theorem qcont_some (cs : Nat → CallSem) (quiet : List Nat) (i d : Nat) (r : List AOper) (e : Env) (s : St) (Q : Env → St → Prop) (v : Value) (s' : St) : qcont cs quiet i (some d) r e s Q v s' = ((i ∈ quiet → Quiet s s') ∧ WQ cs quiet (i + 1) r ((d, v) :: e) s' Q) := rfl
theorem qcont_none (cs : Nat → CallSem) (quiet : List Nat) (i : Nat) (r : List AOper) (e : Env) (s : St) (Q : Env → St → Prop) (v : Value) (s' : St) : qcont cs quiet i none r e s Q v s' = ((i ∈ quiet → Quiet s s') ∧ WQ cs quiet (i + 1) r e s' Q) := rfl
theorem wq_nil (cs : Nat → CallSem) (quiet : List Nat) (i : Nat) (e : Env) (s : St) (Q : Env → St → Prop) : WQ cs quiet i [] e s Q = Q e s := rfl
theorem wq_cons (cs : Nat → CallSem) (quiet : List Nat) (i : Nat) (d : Option Nat) (op : AOp Operand) (r : List AOper) (e : Env) (s : St) (Q : Env → St → Prop) :
    WQ cs quiet i (⟨d, op, none⟩ :: r) e s Q = WOp cs op e s (qcont cs quiet i d r e s Q) := rfl

def qgcont (cs : Nat → CallSem) (quiet : List Nat) (i : Nat) (d : Option Nat) (op : AOp Operand) (r : List AOper) (e : Env) (s : St) (Q : Env → St → Prop) (b : Bool) : Prop :=
  match b with
  | true => WOp cs op e s (qcont cs quiet i d r e s Q)
  | false => WQ cs quiet (i + 1) r (setE e d undefV) s Q
theorem qgcont_true (cs : Nat → CallSem) (quiet : List Nat) (i : Nat) (d : Option Nat) (op : AOp Operand) (r : List AOper) (e : Env) (s : St) (Q : Env → St → Prop) : qgcont cs quiet i d op r e s Q true = WOp cs op e s (qcont cs quiet i d r e s Q) := rfl
theorem qgcont_false (cs : Nat → CallSem) (quiet : List Nat) (i d : Nat) (op : AOp Operand) (r : List AOper) (e : Env) (s : St) (Q : Env → St → Prop) : qgcont cs quiet i (some d) op r e s Q false = WQ cs quiet (i + 1) r ((d, undefV) :: e) s Q := rfl
theorem wq_guard (cs : Nat → CallSem) (quiet : List Nat) (i : Nat) (d : Option Nat) (op : AOp Operand) (t : Nat) (want : Bool) (r : List AOper) (e : Env) (s : St) (Q : Env → St → Prop) :
    WQ cs quiet i (⟨d, op, some (t, want)⟩ :: r) e s Q = bindP (guardV (e.get t) want) (qgcont cs quiet i d op r e s Q) := by
  simp only [WQ, wantedA, guardV]
  cases e.get t with
  | none => rfl
  | some v =>
    cases v <;> try rfl
    rename_i b
    cases b <;> cases want <;> rfl

end Go.Abs
