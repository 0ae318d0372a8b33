/-
  A slice of records as a law's argument.
-/
import Derived.Test.YtgnpafmhdmmmhaaA42
set_option linter.unusedVariables false
set_option linter.unusedSimpArgs false
set_option maxRecDepth 100000
namespace Go.Abs
open Go

theorem rows_of {α : Type} {cells : α → List Value} {W : α → Prop} {c : Nat} {zs : List Value} {cap : Nat} (hz : zs.length = cap * c) (h : ∀ i, i < cap → ∃ r, (zs.drop (i * c)).take c = cells r ∧ W r) :
    ∀ n, n ≤ cap → ∃ M : List α, M.length = n ∧ zs.take (n * c) = (M.map cells).flatten ∧ ∀ r ∈ M, W r := by
  intro n
  induction n with
  | zero => intro _; exact ⟨[], rfl, by simp, by simp⟩
  | succ n ih =>
    intro hn
    obtain ⟨M, h1, h2, h3⟩ := ih (by omega)
    obtain ⟨r, h4, h5⟩ := h n (by omega)
    refine ⟨M ++ [r], by rw [List.length_append, h1]; rfl, ?_, fun x hx => ?_⟩
    · rw [Nat.add_mul, Nat.one_mul, List.take_add, h2, h4, List.map_append, List.flatten_append, List.map_cons, List.map_nil, List.flatten_cons, List.flatten_nil, List.append_nil]
    · rcases List.mem_append.1 hx with hx | hx
      · exact h3 x hx
      · rw [List.mem_singleton.1 hx]; exact h5

theorem open_recs {α : Type} (cells : α → List Value) (R : α → Prop) {H : Type} {enc : TypeId × Value → H} {P : Program} {w : World} {base : Nat} {t e : TypeId} {c : Nat} {v : Value} {d : DataW H} {ps : List MemPlace} (ht : P.underlying t = some (.slice e)) (hc : P.cellsOf e = c) (hc0 : 0 < c)
    (hlen : ∀ r, (cells r).length = c) (hprim : ∀ r, (cells r).all primV = true) (hQ : ∀ n cs x, DataW.trod enc P w 0 (fun _ => true) true n e cs = some x → cs.length = c → ∃ r, cs = cells r ∧ R r)
    (hval : Value.okWide P w .any base t v) (h : DataW.Trod enc P w 0 (fun _ => true) true t v d ps) :
    ∃ (av : Value) (l : Args) (M : List α), RowV c ⟨Args.heap l, 1⟩ av (M.map cells) ∧ (∀ r ∈ M, R r) ∧ M.length ≤ maxLen ∧ (∀ p ∈ l, p.1 < 1 ∧ (∀ β, ORel β p.2.1 p.2.2 w.heap[p.2.1.blk]?) ∧ p.2.2.isRo = true) ∧ VRel (Args.map' l) av v := by
  obtain ⟨av, l, len, cap, zs, hlc, hcm, hzl, hrow, hl, hav, hrel⟩ := open_rowsA (c := c) (Q := fun cs => ∃ r, cs = cells r ∧ R r) ht hc hc0 hQ (fun cs ⟨r, hr, _⟩ => by rw [hr]; exact hprim r) hval h 0
  obtain ⟨M, hM, hMf, hMR⟩ := rows_of hzl hrow len hlc
  have hmap : ∀ p ∈ l, Args.map' l 0 = some p.2.1 := by
    rcases hav with ⟨rfl, rfl, rfl⟩ | ⟨T, r, rfl, rfl⟩
    · intro p hp; cases hp
    · intro p hp; simp only [List.mem_singleton] at hp; subst hp; rfl
  refine ⟨av, l, M, ⟨fun x hx => ?_, ?_⟩, hMR, by omega, fun p hp => ⟨by rw [(hl p hp).1]; exact Nat.zero_lt_one, (hl p hp).2.1, (hl p hp).2.2⟩, hrel _ hmap⟩
  · obtain ⟨r, _, rfl⟩ := List.mem_map.1 hx
    exact ⟨hlen r, prim_cells (hprim r)⟩
  · rcases hav with ⟨rfl, rfl, rfl⟩ | ⟨T, r, rfl, rfl⟩
    · have : M = [] := List.eq_nil_of_length_eq_zero (by omega)
      subst this
      exact .inl ⟨rfl, rfl⟩
    · have hm : len * c ≤ cap * c := Nat.mul_le_mul_right _ hlc
      exact .inr ⟨0, 0, cap, zs, T, true, by rw [List.length_map, hM], by rw [List.length_map, hM]; exact hlc, Nat.zero_lt_one, rfl, by rw [List.length_map, hM]; omega, by rw [List.length_map, hM, List.drop_zero]; exact hMf⟩

end Go.Abs
