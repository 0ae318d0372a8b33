/-
  Maps: what the operations on a map do, in terms of 'mget', 'mset', 'mdel'.
-/
import Derived.Test.YtoiedaegnhifpaaDoorA24
set_option linter.unusedVariables false
set_option linter.unusedSimpArgs false
namespace Go.Abs
open Go

def hasKey (k : Value) (e : MapEntry) : Bool := keyEq k e.key == some true

def mget : List MapEntry → Value → Option Value
  | [], _ => none
  | e :: es, k => if hasKey k e = true then some e.val else mget es k

def mset : List MapEntry → Value → Value → List MapEntry
  | [], _, _ => []
  | e :: es, k, v => if hasKey k e = true then { e with val := v } :: es else e :: mset es k v

def mdel : List MapEntry → Value → List MapEntry
  | [], _ => []
  | e :: es, k => if hasKey k e = true then es else e :: mdel es k

def mput (es : List MapEntry) (clock : Nat) (k v : Value) : List MapEntry := if (mget es k).isSome = true then mset es k v else es ++ [{ key := k, val := v, born := clock }]
def mclock (es : List MapEntry) (clock : Nat) (k : Value) : Nat := if (mget es k).isSome = true then clock else clock + 1

structure MOK (K : Value → Prop) (es : List MapEntry) (clock : Nat) : Prop where
  kind : ∀ e ∈ es, K e.key
  born : (es.map fun e => e.born).Nodup
  lt : ∀ e ∈ es, e.born < clock
  keys : es.Pairwise fun a b => a.key ≠ b.key

structure Kind (kk : KeyK) (K : Value → Prop) : Prop where
  ok : ∀ a, K a → keyOk kk a = true
  eq : ∀ a b, K a → K b → ∃ t, keyEq a b = some t ∧ (t = true ↔ a = b)

theorem hasKey_iff {kk : KeyK} {K : Value → Prop} (hk : Kind kk K) {k : Value} {e : MapEntry} (h1 : K k) (h2 : K e.key) : hasKey k e = true ↔ k = e.key := by
  obtain ⟨t, ht, he⟩ := hk.eq k e.key h1 h2
  unfold hasKey
  rw [ht]
  simpa using he

section
variable {kk : KeyK} {K : Value → Prop} {g : Nat → Option AObj} {nx m : Nat} {es : List MapEntry} {clock : Nat} {k v z : Value}

end

/-! ### what is found behind an operation -/
section
variable {kk : KeyK} {K : Value → Prop} {es : List MapEntry} {clock : Nat} {k k' v : Value}

theorem mset_map (es : List MapEntry) (k v : Value) : ((mset es k v).map fun e => e.born) = es.map (fun e => e.born) ∧ ((mset es k v).map fun e => e.key) = es.map fun e => e.key := by
  induction es with
  | nil => exact ⟨rfl, rfl⟩
  | cons e es ih =>
    simp only [mset]
    split
    · exact ⟨rfl, rfl⟩
    · exact ⟨by simp [ih.1], by simp [ih.2]⟩

theorem MOK.of_maps {es' : List MapEntry} (h : MOK K es clock) (h1 : (es'.map fun e => e.born) = es.map fun e => e.born) (h2 : (es'.map fun e => e.key) = es.map fun e => e.key) : MOK K es' clock where
  kind := fun e he => by
    have : e.key ∈ es'.map fun e => e.key := List.mem_map_of_mem he
    rw [h2] at this
    obtain ⟨e', he', hq⟩ := List.mem_map.1 this
    rw [← hq]; exact h.kind e' he'
  born := by rw [h1]; exact h.born
  lt := fun e he => by
    have : e.born ∈ es'.map fun e => e.born := List.mem_map_of_mem he
    rw [h1] at this
    obtain ⟨e', he', hq⟩ := List.mem_map.1 this
    rw [← hq]; exact h.lt e' he'
  keys := by
    have h3 : (es'.map fun e => e.key).Pairwise (· ≠ ·) := by rw [h2]; exact List.pairwise_map.2 h.keys
    exact List.pairwise_map.1 h3

theorem MOK.mset (h : MOK K es clock) (k v : Value) : MOK K (mset es k v) clock := h.of_maps (mset_map es k v).1 (mset_map es k v).2

open Classical in
theorem mget_mset (hk : Kind kk K) (h : ∀ e ∈ es, K e.key) (h1 : K k) (h2 : K k') : mget (mset es k v) k' = if k' = k then (mget es k).map (fun _ => v) else mget es k' := by
  induction es with
  | nil => simp [Abs.mset, mget]
  | cons e es ih =>
    have hK := h e (List.mem_cons_self ..)
    have ih := ih fun e he => h e (List.mem_cons_of_mem _ he)
    have a1 := hasKey_iff hk h1 hK
    have a2 := hasKey_iff hk h2 hK
    simp only [Abs.mset]
    by_cases c1 : k = e.key
    · rw [if_pos (a1.2 c1)]
      by_cases c2 : k' = k
      · have a3 : hasKey k' { e with val := v } = true := a2.2 (c2.trans c1)
        have a4 : hasKey k e = true := a1.2 c1
        subst c2
        simp [mget, a3, a4]
      · have a3 : ¬ hasKey k' { e with val := v } = true := fun hh => c2 ((a2.1 hh).trans c1.symm)
        have a4 : ¬ hasKey k' e = true := a3
        simp [mget, a3, a4, c2]
    · have n1 : ¬ hasKey k e = true := fun hh => c1 (a1.1 hh)
      rw [if_neg n1]
      simp only [mget, if_neg n1, ih]
      by_cases c2 : k' = e.key
      · have : ¬ k' = k := fun hh => c1 (hh.symm.trans c2)
        rw [if_pos (a2.2 c2), if_neg this, if_pos (a2.2 c2)]
      · have a4 : ¬ hasKey k' e = true := fun hh => c2 (a2.1 hh)
        rw [if_neg a4, if_neg a4]

theorem mget_append (k' : Value) (es : List MapEntry) (e : MapEntry) : mget (es ++ [e]) k' = (mget es k').or (if hasKey k' e = true then some e.val else none) := by
  induction es with
  | nil => simp [mget]
  | cons x es ih =>
    simp only [List.cons_append, mget]
    split
    · rfl
    · exact ih

theorem mget_none_iff (hk : Kind kk K) (h : ∀ e ∈ es, K e.key) (h1 : K k) : mget es k = none ↔ ∀ e ∈ es, e.key ≠ k := by
  induction es with
  | nil => simp [mget]
  | cons e es ih =>
    have a1 := hasKey_iff hk h1 (h e (List.mem_cons_self ..))
    simp only [mget]
    by_cases c : k = e.key
    · rw [if_pos (a1.2 c)]; simp [c]
    · rw [if_neg fun hh => c (a1.1 hh), ih fun e he => h e (List.mem_cons_of_mem _ he)]
      simp only [List.mem_cons, forall_eq_or_imp]
      exact ⟨fun hh => ⟨fun q => c q.symm, hh⟩, fun hh => hh.2⟩

theorem MOK.mput (hk : Kind kk K) (h : MOK K es clock) (h1 : K k) (v : Value) : MOK K (mput es clock k v) (mclock es clock k) := by
  unfold Abs.mput mclock
  split
  · exact h.mset k v
  · rename_i hn
    have hn' : mget es k = none := by cases hq : mget es k <;> simp_all
    have hne := (mget_none_iff hk h.kind h1).1 hn'
    refine ⟨fun e he => ?_, ?_, fun e he => ?_, ?_⟩
    · simp only [List.mem_append, List.mem_singleton] at he
      rcases he with he | rfl
      · exact h.kind e he
      · exact h1
    · rw [List.map_append, List.nodup_append]
      refine ⟨h.born, by simp, fun a ha b hb => ?_⟩
      simp at hb
      subst hb
      obtain ⟨e, he, rfl⟩ := List.mem_map.1 ha
      have := h.lt e he
      omega
    · simp only [List.mem_append, List.mem_singleton] at he
      rcases he with he | rfl
      · have := h.lt e he; omega
      · exact Nat.lt_succ_self _
    · rw [List.pairwise_append]
      refine ⟨h.keys, by simp, fun a ha b hb => ?_⟩
      simp at hb
      subst hb
      exact hne a ha

open Classical in
theorem mget_mput (hk : Kind kk K) (h : MOK K es clock) (h1 : K k) (h2 : K k') (v : Value) : mget (mput es clock k v) k' = if k' = k then some v else mget es k' := by
  unfold Abs.mput
  split
  · rename_i hs
    rw [mget_mset hk h.kind h1 h2]
    split
    · cases hq : mget es k <;> simp_all
    · rfl
  · rename_i hn
    have hn' : mget es k = none := by cases hq : mget es k <;> simp_all
    rw [mget_append]
    have a := hasKey_iff hk (e := { key := k, val := v, born := clock }) h2 h1
    by_cases he : k' = k
    · rw [if_pos he, if_pos (a.2 he), he, hn']; rfl
    · rw [if_neg he, if_neg fun hh => he (a.1 hh)]; cases mget es k' <;> rfl

theorem MOK.sub {es' : List MapEntry} (h : MOK K es clock) (hs : es'.Sublist es) : MOK K es' clock :=
  ⟨fun e he => h.kind e (hs.subset he), h.born.sublist (hs.map _), fun e he => h.lt e (hs.subset he), h.keys.sublist hs⟩

open Classical in
theorem mget_mdel (hk : Kind kk K) (h : MOK K es clock) (h1 : K k) (h2 : K k') : mget (mdel es k) k' = if k' = k then none else mget es k' := by
  induction es with
  | nil => simp [mdel, mget]
  | cons e es ih =>
    have hK := h.kind e (List.mem_cons_self ..)
    have ht : MOK K es clock := h.sub (List.sublist_cons_self _ _)
    have a1 := hasKey_iff hk h1 hK
    have a2 := hasKey_iff hk h2 hK
    simp only [mdel]
    by_cases c1 : k = e.key
    · rw [if_pos (a1.2 c1)]
      split
      · rename_i c2
        subst c2
        refine (mget_none_iff hk ht.kind h2).2 fun e' he' => ?_
        have := (List.pairwise_cons.1 h.keys).1 e' he'
        rw [c1]; exact this.symm
      · rename_i c2
        simp only [mget]
        rw [if_neg fun hh => c2 ((a2.1 hh).trans c1.symm)]
    · rw [if_neg fun hh => c1 (a1.1 hh)]
      simp only [mget, ih ht]
      by_cases c2 : k' = e.key
      · rw [if_pos (a2.2 c2), if_pos (a2.2 c2), if_neg fun hh => c1 (hh.symm.trans c2)]
      · rw [if_neg fun hh => c2 (a2.1 hh), if_neg fun hh => c2 (a2.1 hh)]
end

end Go.Abs
