/-
  Loops as Go's 'for' lays them.
-/
import Derived.Test.YtgnpafmhdmmmhaaA27
set_option linter.unusedVariables false
set_option linter.unusedSimpArgs false
namespace Go.Abs
open Go

/-- What a loop's body comes to: it goes on (or 'continue'), breaks, or comes back. -/
def bodyK (x y : Nat) (Q : AExit → Env → St → Prop) (N : Env → St → Prop) (z : AExit) (e : Env) (s : St) : Prop :=
  ((z = .normal ∨ z = .exit y) ∧ N e s) ∨ (z = .exit x ∧ x ≠ y ∧ Q .normal e s) ∨ (z = .ret ∧ Q .ret e s)

theorem wc_for {cs : Nat → CallSem} {live : List Nat} {hd bd inc : ACode} {c x y : Nat} {e : Env} {s : St} {Q : AExit → Env → St → Prop} (I : Nat → Env → St → Prop) (n : Nat) (h0 : I n e s)
    (h : ∀ k e s E, I k e s → (∀ j, j ∈ live → Env.get E j = e.get j) → WCode cs hd E s fun z e1 s1 => z = .normal ∧ ∃ b, e1.get c = some (.bool b) ∧ (b = false → Q .normal e1 s1) ∧
      (b = true → WCode cs bd e1 s1 (bodyK x y Q fun e2 s2 => WCode cs inc e2 s2 fun z e3 s3 => z = .normal ∧ ∃ k', k' < k ∧ I k' e3 s3))) :
    WCode cs (.block x (.loop live (.seq (.seq hd (.cond (.tmp c) .skip (.exit x))) (.seq (.block y bd) inc)))) e s Q := by
  rw [wc_block]
  refine wc_loop I n h0 ?_
  intro k e s hI
  rw [← wc_assoc]
  have h1 := h k e s (restrict live e) hI (fun j hj => restrict_live hj)
  rw [wc_seq]
  refine WCode.mono ?_ h1
  rintro z e1 s1 ⟨rfl, b, hb, hf, ht⟩
  rw [next_normal, sq_apply, wc_seq, wc_cond, rd_tmp, hb, boolV_bool, bindP_some]
  cases b with
  | false =>
    rw [ccond_false, wc_exit, next_exit, next_exit, inBlock_exit, if_pos rfl]
    exact hf rfl
  | true =>
    rw [ccond_true, wc_skip, next_normal, sq_apply, wc_seq, wc_block]
    refine WCode.mono ?_ (ht rfl)
    rintro z e2 s2 (⟨hz, hN⟩ | ⟨rfl, hxy, hQ⟩ | ⟨rfl, hQ⟩)
    · have hN' : next (next (inBlock x Q) fun e s => ∃ m', m' < k ∧ I m' e s) (sq cs inc (next (inBlock x Q) fun e s => ∃ m', m' < k ∧ I m' e s)) .normal e2 s2 := by
        rw [next_normal, sq_apply]
        refine WCode.mono ?_ hN
        rintro z e3 s3 ⟨rfl, hk⟩
        exact hk
      rcases hz with rfl | rfl
      · exact hN'
      · rw [inBlock_exit, if_pos rfl]; exact hN'
    · rw [inBlock_exit, if_neg hxy, next_exit, next_exit, inBlock_exit, if_pos rfl]
      exact hQ
    · exact hQ

/-- A loop's start and its body. -/
theorem wc_for' {cs : Nat → CallSem} {live : List Nat} {st hd bd inc : ACode} {c x y : Nat} {e : Env} {s : St} {Q : AExit → Env → St → Prop} (I : Nat → Env → St → Prop) (n : Nat)
    (h0 : WCode cs st e s fun z e1 s1 => z = .normal ∧ I n e1 s1)
    (h : ∀ k e s E, I k e s → (∀ j, j ∈ live → Env.get E j = e.get j) → WCode cs hd E s fun z e1 s1 => z = .normal ∧ ∃ b, e1.get c = some (.bool b) ∧ (b = false → Q .normal e1 s1) ∧
      (b = true → WCode cs bd e1 s1 (bodyK x y Q fun e2 s2 => WCode cs inc e2 s2 fun z e3 s3 => z = .normal ∧ ∃ k', k' < k ∧ I k' e3 s3))) :
    WCode cs (.seq st (.block x (.loop live (.seq (.seq hd (.cond (.tmp c) .skip (.exit x))) (.seq (.block y bd) inc))))) e s Q :=
  wc_then h0 fun e' s' hI => wc_for I n hI h

/-- A region's end, for chains. -/
theorem wc_if {cs : Nat → CallSem} {r a b : ACode} {c : Nat} {e : Env} {s : St} {Q : AExit → Env → St → Prop}
    (h : WCode cs r e s fun z e1 s1 => z = .normal ∧ ∃ t, e1.get c = some (.bool t) ∧ (t = true → WCode cs a e1 s1 Q) ∧ (t = false → WCode cs b e1 s1 Q)) : WCode cs (.seq r (.cond (.tmp c) a b)) e s Q := by
  rw [wc_seq]
  refine WCode.mono ?_ h
  rintro z e1 s1 ⟨rfl, t, ht, h1, h2⟩
  rw [next_normal, sq_apply, wc_cond, rd_tmp, ht, boolV_bool, bindP_some]
  cases t with
  | false => rw [ccond_false]; exact h2 rfl
  | true => rw [ccond_true]; exact h1 rfl

end Go.Abs
