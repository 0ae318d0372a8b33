/-
  A slice of structs as a law's argument.
-/
import Derived.Test.YtehgdocbabaldaaGreatA33
set_option linter.unusedVariables false
set_option linter.unusedSimpArgs false
namespace Go.Abs
open Go Go.RowKit Go.ChangeShapes Go.WideShapes

theorem add_mk (b o i : Nat) : Addr.add ⟨b, o, none⟩ i = ⟨b, o + i, none⟩ := by
  unfold Addr.add
  by_cases h : i = 0
  · subst h; simp
  · simp [h]

theorem open_rowsA {H : Type} {enc : TypeId × Value → H} {P : Program} {w : World} {base : Nat} {t e : TypeId} {c : Nat} {Q : List Value → Prop} {v : Value} {d : DataW H} {ps : List MemPlace} (ht : P.underlying t = some (.slice e)) (hc : P.cellsOf e = c) (hc0 : 0 < c)
    (hQ : ∀ n cs x, DataW.trod enc P w 0 (fun _ => true) true n e cs = some x → cs.length = c → Q cs) (hprim : ∀ cs, Q cs → cs.all primV = true)
    (hval : Value.okWide P w .any base t v) (h : DataW.Trod enc P w 0 (fun _ => true) true t v d ps) (id : Nat) :
    ∃ (av : Value) (l : Args) (len cap : Nat) (zs : List Value), len ≤ cap ∧ cap ≤ maxLen ∧ zs.length = cap * c ∧ (∀ i, i < cap → Q ((zs.drop (i * c)).take c)) ∧
      (∀ p ∈ l, p.1 = id ∧ (∀ β, ORel β p.2.1 p.2.2 w.heap[p.2.1.blk]?) ∧ p.2.2.isRo = true) ∧
      ((av = .slice none 0 0 ∧ l = [] ∧ cap = 0) ∨ ∃ T r, av = .slice (some ⟨id, 0, none⟩) len cap ∧ l = [(id, r, .cells zs T c true)]) ∧
      (∀ β : Map, (∀ p ∈ l, β id = some p.2.1) → VRel β av v) := by
  obtain ⟨fuel, hf⟩ := h
  rcases DataW.trod_slice ht hf with ⟨hcs, _⟩ | ⟨a, len, cap, elems, rest, n, _, hcs, _, _, hl, hm, hlen, hel, hsp, _⟩
  · have hv : v = .slice none 0 0 := by
      cases v <;> simp [Value.cells] at hcs
      · simpa using hcs
      · simp [Value.okWide, ht, Cell.okWide, Cell.ok] at hval
    subst hv
    exact ⟨.slice none 0 0, [], 0, 0, [], Nat.le_refl _, by simp [maxLen], by simp, by simp, by simp, .inl ⟨rfl, rfl, rfl⟩, fun β _ => .prim _ rfl⟩
  · have hv : v = .slice (some a) len cap := by
      cases v <;> simp [Value.cells] at hcs
      · simpa using hcs
      · simp [Value.okWide, ht, Cell.okWide, Cell.ok] at hval
    subst hv
    obtain ⟨hrl, hr⟩ := hsp rfl
    have hhas : w.has P .any base a e cap := by
      have := hval
      simp only [Value.okWide, ht, Cell.okWide, Cell.ok] at this
      exact this.2.2
    obtain ⟨_, hspot, row, cells, hshape, _⟩ := hhas
    obtain ⟨C, T, fr, hC⟩ : ∃ C T fr, w.heap[a.block]? = some (.cells C T fr) := by
      unfold World.shape? at hshape
      split at hshape
      · rename_i c e' f hq; exact ⟨c, e', f, hq⟩
      · cases hshape
    have hA : ∀ k, a.add k = ⟨a.block, a.off + k, none⟩ := by
      intro k
      obtain ⟨b, o, sp⟩ := a
      simp only at hspot
      subst hspot
      exact add_mk b o k
    have helem : ∀ i, i < cap → ∃ cs, w.cells? 0 (a.add (i * c)) c = some cs ∧ cs.length = c ∧ Q cs := by
      intro i hi
      have hb : ∃ y, (w.cells? 0 (a.add (i * P.cellsOf e)) (P.cellsOf e)).bind (DataW.trod enc P w 0 (fun _ => true) true n e) = some y := by
        by_cases h1 : i < len
        · rw [hel i h1]; exact ⟨_, List.getElem?_eq_getElem (by omega)⟩
        · have := hr (i - len) (by omega)
          rw [show len + (i - len) = i by omega] at this
          rw [this]; exact ⟨_, List.getElem?_eq_getElem (by omega)⟩
      obtain ⟨y, hy⟩ := hb
      rw [hc, Option.bind_eq_some_iff] at hy
      obtain ⟨cs, h1, h2⟩ := hy
      have h3 := (World.cells?_some h1).2.1
      exact ⟨cs, h1, h3, hQ _ _ _ h2 h3⟩
    have hcell : ∀ i cs, w.cells? 0 (a.add (i * c)) c = some cs → ∀ j, j < c → C[a.off + (i * c + j)]? = cs[j]? := by
      intro i cs h1 j hj
      have := (World.cells?_some h1).2.2 j hj
      rw [hA, add_mk] at this
      rw [← this]
      simp [World.cell?, hC, Nat.add_assoc]
    have hsz : cap ≠ 0 → a.off + cap * c ≤ C.size := by
      intro h0
      obtain ⟨cs, h1, h2, _⟩ := helem (cap - 1) (by omega)
      have := hcell _ _ h1 (c - 1) (by omega)
      rw [List.getElem?_eq_getElem (by omega)] at this
      have := (Array.getElem?_eq_some_iff.1 this).1
      have e1 : cap * c = (cap - 1) * c + c := by
        conv => lhs; rw [show cap = (cap - 1) + 1 by omega, Nat.add_mul, Nat.one_mul]
      omega
    let bs := if cap = 0 then 0 else a.off
    have hbs : bs + cap * c ≤ C.size := by
      by_cases h0 : cap = 0
      · simp [bs, h0]
      · simp only [bs, h0, if_false]; exact hsz h0
    let zs := (C.toList.drop bs).take (cap * c)
    have hzl : zs.length = cap * c := by simp only [zs, List.length_take, List.length_drop, Array.length_toList]; omega
    have hzg : ∀ k, k < cap * c → zs[k]? = C[bs + k]? := by
      intro k hk
      simp only [zs, List.getElem?_take, List.getElem?_drop, if_pos hk, Array.getElem?_toList]
    have hrow : ∀ i, i < cap → Q ((zs.drop (i * c)).take c) := by
      intro i hi
      obtain ⟨cs, h1, h2, h3⟩ := helem i hi
      have : (zs.drop (i * c)).take c = cs := by
        apply List.ext_getElem?
        intro j
        rw [List.getElem?_take, List.getElem?_drop]
        by_cases hj : j < c
        · have hlt : i * c + j < cap * c := by
            have : (i + 1) * c ≤ cap * c := Nat.mul_le_mul_right _ hi
            rw [Nat.add_mul, Nat.one_mul] at this
            omega
          have h0 : cap ≠ 0 := by omega
          rw [if_pos hj, hzg _ hlt]
          simp only [bs, h0, if_false]
          exact hcell i cs h1 j hj
        · rw [if_neg hj, List.getElem?_eq_none (by omega)]
      rw [this]; exact h3
    let r : Rec := ⟨a.block, bs, 0, cap * c, c⟩
    refine ⟨.slice (some ⟨id, 0, none⟩) len cap, [(id, r, .cells zs T c true)], len, cap, zs, hl, hm, hzl, hrow, ?_, .inr ⟨T, r, rfl, rfl⟩, ?_⟩
    · intro p hp
      simp only [List.mem_singleton] at hp
      subst hp
      refine ⟨rfl, fun β => ?_, rfl⟩
      show ORel β r (.cells zs T c true) w.heap[a.block]?
      rw [hC]
      refine ⟨rfl, by simp [r, hzl], fun _ => rfl, fun h => absurd rfl h, ?_, ?_, fun h => (by cases h), fun _ i hi => by simp [r] at hi, fun _ hr => by cases hr⟩
      · simp only [r, hzl]; omega
      · intro i hi
        have hi2 : i < cap * c := by omega
        have hg := hzg i hi2
        rw [List.getElem?_eq_getElem hi] at hg
        refine ⟨_, hg.symm, ?_⟩
        have hq := hrow (i / c) (Nat.div_lt_of_lt_mul (by rw [Nat.mul_comm]; exact hi2))
        have hm2 : zs[i] ∈ (zs.drop (i / c * c)).take c := by
          apply List.mem_of_getElem? (i := i % c)
          rw [List.getElem?_take, if_pos (Nat.mod_lt _ hc0), List.getElem?_drop, Nat.mul_comm, Nat.div_add_mod, List.getElem?_eq_getElem hi]
        exact .prim _ (List.all_eq_true.1 (hprim _ hq) _ hm2)
    · intro β hβ
      have hb := hβ _ (List.mem_singleton.2 rfl)
      by_cases h0 : cap = 0
      · have : len = 0 := by omega
        subst h0; subst this
        exact .empty hb
      · have := VRel.slice (β := β) (id := id) (o := 0) (len := len) (cap := cap) (cap' := cap) hb (.inl rfl)
        have he : a = ⟨r.blk, r.base + 0, none⟩ := by
          obtain ⟨b, o, sp⟩ := a
          simp only at hspot
          subst hspot
          simp [r, bs, h0]
        rw [he]; exact this

end Go.Abs
