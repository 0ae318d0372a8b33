/-
  The operations, value by value: sums, tests, slices, strings.
-/
import Derived.Test.YtlcfmfljmabaeaaA5
import Derived.Laws.BytesString
set_option linter.unusedVariables false
set_option linter.unusedSimpArgs false
namespace Go.Abs
open Go

section
variable {P : Program} {β : Map} {h : HF} {w : World} {n : Nat} {res : Res}

theorem binV_run {op : BinOp} {t : TypeId} {x y v : Value} (hv : binV op x y = some v) : (binOp op t x y).run P w = .ok v w := by
  unfold binV at hv
  split at hv
  · rename_i k a k' b
    cases op <;> simp only [binOp] at * <;> (try (split at hv <;> first | cases hv | skip)) <;>
      (try (simp only [ne_eq, not_not] at *)) <;> (try (split at hv <;> first | cases hv | skip)) <;>
      simp_all [Op.intArith, Op.intDiv, Op.intBits, Op.intCmp, Op.shift]
    all_goals (intro _; omega)
  · rename_i a b
    cases op <;> simp only [binOp] at * <;> (try (split at hv <;> first | cases hv | skip)) <;>
      simp_all [Op.stringOp]
    all_goals omega
  · cases hv

theorem binV_inv {op : BinOp} {x y v x' y' : Value} (hv : binV op x y = some v) (hx : VRel β x x') (hy : VRel β y y') : x' = x ∧ y' = y ∧ VRel β v v := by
  unfold binV at hv
  split at hv
  · refine ⟨hx.int_inv, hy.int_inv, ?_⟩
    cases op <;> simp only at hv <;> (repeat (split at hv <;> first | cases hv | skip)) <;> (try cases hv) <;> exact .prim _ rfl
  · refine ⟨hx.string_inv, hy.string_inv, ?_⟩
    cases op <;> simp only at hv <;> (repeat (split at hv <;> first | cases hv | skip)) <;> (try cases hv) <;> exact .prim _ rfl
  · cases hv

theorem unV_run {op : UnOp} {x v : Value} (hv : unV op x = some v) : (Op.unary op x).run P w = .ok v w := by
  unfold unV at hv
  split at hv
  · cases op <;> simp only [reduceCtorEq] at hv <;> cases hv <;> simp [Op.unary, Op.intArith, Op.intBits]
  · cases op <;> simp only [reduceCtorEq] at hv <;> cases hv <;> simp [Op.unary]
  · cases hv

theorem unV_inv {op : UnOp} {x v x' : Value} (hv : unV op x = some v) (hx : VRel β x x') : x' = x ∧ VRel β v v := by
  unfold unV at hv
  split at hv
  · refine ⟨hx.int_inv, ?_⟩
    cases op <;> simp only [reduceCtorEq] at hv <;> cases hv <;> exact .prim _ rfl
  · refine ⟨hx.bool_inv, ?_⟩
    cases op <;> simp only [reduceCtorEq] at hv <;> cases hv <;> exact .prim _ rfl
  · cases hv

theorem bytesOf_ints (l : List Value) : ∀ (acc s : ByteArray), bytesOf l acc = some s → ∃ ns : List Int, l = ns.map (Value.int .u8) ∧ s = ns.foldl (fun r n => r.push (UInt8.ofNat n.toNat)) acc := by
  induction l with
  | nil => intro acc s hs; simp only [bytesOf, Option.some.injEq] at hs; subst hs; exact ⟨[], rfl, rfl⟩
  | cons v l ih =>
    intro acc s hs
    unfold bytesOf at hs
    split at hs
    · rename_i h; simp at h
    · rename_i m r h; simp only [List.cons.injEq] at h; obtain ⟨rfl, rfl⟩ := h
      obtain ⟨ns, rfl, rfl⟩ := ih _ _ hs
      exact ⟨m :: ns, rfl, rfl⟩
    · cases hs

theorem bytesOf_rel {l l' : List Value} (hl : LRel β l l') : ∀ acc s, bytesOf l acc = some s → bytesOf l' acc = some s := by
  induction hl with
  | nil => intro acc s h; exact h
  | cons h _ ih =>
    intro acc s hs
    unfold bytesOf at hs
    split at hs
    · rename_i h; simp at h
    · rename_i m r hh; simp only [List.cons.injEq] at hh; obtain ⟨rfl, rfl⟩ := hh
      rw [h.int_inv]
      simp only [bytesOf]
      exact ih _ _ hs
    · cases hs

theorem boundV_inv {y m : Nat} {v v' : Value} {y' : Nat} (hv : boundV y v = some m) (hr : VRel β v v') (hy : y ≤ y') : boundV y' v' = some m ∧ m ≤ y := by
  unfold boundV at hv
  split at hv
  · rw [hr.int_inv]
    split at hv
    · rename_i hc
      cases hv
      simp only [boundV]
      rw [if_pos ⟨hc.1, by omega⟩]
      exact ⟨rfl, by omega⟩
    · cases hv
  · cases hv

theorem boundV_run {y m : Nat} {v : Value} {code : BoundsCode} (hv : boundV y v = some m) : (Instr.sliceBound v y code).run P w = .ok m w := by
  unfold boundV at hv
  split at hv
  · split at hv
    · rename_i hc; cases hv
      simp [Instr.sliceBound, asIntOf, hc]
    · cases hv
  · cases hv

inductive OptRel (β : Map) : Option Value → Option Value → Prop where
  | none : OptRel β none none
  | some {a b : Value} (h : VRel β a b) : OptRel β (some a) (some b)

theorem boundsV_run {len cap cap' : Nat} {isS : Bool} {lo hi mx lo' hi' mx' : Option Value} {b : Nat × Nat × Nat} (hb : boundsV len cap lo hi mx = some b) (h1 : OptRel β lo lo') (h2 : OptRel β hi hi') (h3 : OptRel β mx mx') (hc : cap ≤ cap') :
    ∃ m', (Instr.sliceBounds isS len cap' lo' hi' mx').run P w = .ok (b.1, b.2.1, m') w ∧ (m' = if mx.isSome then b.2.2 else cap') ∧ b.1 ≤ b.2.1 ∧ (hi.isNone → len ≤ cap → b.2.1 ≤ b.2.2) ∧ (hi.isSome → b.2.1 ≤ b.2.2) ∧ b.2.2 ≤ cap ∧ (mx = none → b.2.2 = cap) := by
  unfold boundsV at hb
  cases h3 with
  | none =>
    simp only [Option.bind_some] at hb
    cases h2 with
    | none =>
      simp only [Option.bind_some] at hb
      cases h1 with
      | none =>
        simp only [Option.map_some, Option.some.injEq] at hb
        subst hb
        exact ⟨cap', by simp [Instr.sliceBounds], by simp, by simp, by simp, by simp, by simp, by simp⟩
      | some hl =>
        rename_i a a'
        cases hq : boundV len a with
        | none => simp [hq] at hb
        | some l =>
          simp only [hq, Option.map_some, Option.some.injEq] at hb
          subst hb
          obtain ⟨q1, q2⟩ := boundV_inv hq hl (Nat.le_refl _)
          exact ⟨cap', by simp [Instr.sliceBounds, boundV_run q1], by simp, by simpa using q2, by simp, by simp, by simp, by simp⟩
    | some hh =>
      rename_i c c'
      cases hp : boundV cap c with
      | none => simp [hp] at hb
      | some hv =>
        simp only [hp, Option.bind_some] at hb
        obtain ⟨p1, p2⟩ := boundV_inv hp hh hc
        cases h1 with
        | none =>
          simp only [Option.map_some, Option.some.injEq] at hb
          subst hb
          exact ⟨cap', by cases isS <;> simp [Instr.sliceBounds, boundV_run p1], by simp, by simp, by simp, by simpa using p2, by simp, by simp⟩
        | some hl =>
          rename_i a a'
          cases hq : boundV hv a with
          | none => simp [hq] at hb
          | some l =>
            simp only [hq, Option.map_some, Option.some.injEq] at hb
            subst hb
            obtain ⟨q1, q2⟩ := boundV_inv hq hl (Nat.le_refl _)
            exact ⟨cap', by cases isS <;> simp [Instr.sliceBounds, boundV_run p1, boundV_run q1], by simp, by simpa using q2, by simp, by simpa using p2, by simp, by simp⟩
  | some hm =>
    rename_i e e'
    cases hr : boundV cap e with
    | none => simp [hr] at hb
    | some m =>
      simp only [hr, Option.bind_some] at hb
      obtain ⟨r1, r2⟩ := boundV_inv hr hm hc
      cases h2 with
      | none => simp at hb
      | some hh =>
        rename_i c c'
        cases hp : boundV m c with
        | none => simp [hp] at hb
        | some hv =>
          simp only [hp, Option.bind_some] at hb
          obtain ⟨p1, p2⟩ := boundV_inv hp hh (Nat.le_refl _)
          cases h1 with
          | none =>
            simp only [Option.map_some, Option.some.injEq] at hb
            subst hb
            exact ⟨m, by cases isS <;> simp [Instr.sliceBounds, boundV_run r1, boundV_run p1], by simp, by simp, by simp, by simpa using p2, by simpa using r2, by simp⟩
          | some hl =>
            rename_i a a'
            cases hq : boundV hv a with
            | none => simp [hq] at hb
            | some l =>
              simp only [hq, Option.map_some, Option.some.injEq] at hb
              subst hb
              obtain ⟨q1, q2⟩ := boundV_inv hq hl (Nat.le_refl _)
              exact ⟨m, by cases isS <;> simp [Instr.sliceBounds, boundV_run r1, boundV_run p1, boundV_run q1], by simp, by simpa using q2, by simp, by simpa using p2, by simpa using r2, by simp⟩

end
end Go.Abs
