/-
  Small helpers for laws: numbers, pointers, maps from numbers to bytes.
-/
import Derived.Test.YtgnpafmhdmmmhaaA45
set_option linter.unusedVariables false
set_option linter.unusedSimpArgs false
set_option maxRecDepth 100000
namespace Go.Abs
open Go Go.Abs.K

abbrev i64 (n : Int) : Value := .int .i64 n
abbrev ptr (q : Nat) : Value := .pointer (some ⟨q, 0, none⟩)
def W64 (n : Int) : Prop := -9223372036854775808 ≤ n ∧ n ≤ 9223372036854775807
theorem w64_of_wf {n : Int} (h : (Lit.int .i64 n).wf = true) : W64 n := by
  simp [Lit.wf, IntKind.min, IntKind.max, IntKind.signed, IntKind.bits] at h
  exact h
theorem u8_of_wf {n : Int} (h : (Lit.int .u8 n).wf = true) : 0 ≤ n ∧ n ≤ 255 := by
  simp [Lit.wf, IntKind.min, IntKind.max, IntKind.signed, IntKind.bits] at h
  exact h
theorem one_of {α : Type} {xs : List α} {i n : Nat} (h : xs.length = n) (hi : i < n) : ∃ y, xs[i]? = some y := ⟨_, List.getElem?_eq_getElem (by omega)⟩
theorem wv_mkFunc (cs : Nat → CallSem) (s : St) (K : Value → St → Prop) (fn : Fn) (a b : List Value) : wvals cs s K (.mkFunc fn a b) = K (.func fn a.toArray b.toArray) s := rfl
theorem resV_cell (e : Env) (s : St) (a : Nat) (n : Option Nat) : resV e s (.cell a n) = (e.get a).bind (loadA s n) := rfl
theorem loadA_n (s : St) (n id o : Nat) : loadA s (some n) (.pointer (some ⟨id, o, none⟩)) = (cellsAt s.heap.get id o n).map fun l => .agg l.toArray := by
  simp only [loadA, evP]
  cases cellsAt s.heap.get id o n <;> rfl
theorem kept_put_nil {s : St} {id : Nat} {o : Option AObj} {n : Nat} (h : s.next ≤ id) (hn : s.next ≤ n) : Kept [] s ⟨s.heap.put id o, n⟩ := ⟨hn, fun j hj _ => by rw [Heap.get_put, if_neg (by omega)]⟩
theorem kept_put {s : St} {o : Option AObj} {n : Nat} : KeptAll s ⟨s.heap.put s.next o, n⟩ := fun id hid => by rw [Heap.get_put, if_neg (by omega)]
theorem kept_put1 {s : St} {id : Nat} {o : Option AObj} {n : Nat} (hn : s.next ≤ n) : Kept [id] s ⟨s.heap.put id o, n⟩ := ⟨hn, fun j _ hj => by rw [Heap.get_put, if_neg (by simpa using hj)]⟩
/-- An assignment under a condition. -/
theorem ccond_assign {cs : Nat → CallSem} {t : Nat} {old new : Value} {e : Env} {s : St} {Q : AExit → Env → St → Prop} {b : Bool} (hQ : Up Q) (hv : e.get t = some old) (h : Q .normal ((t, if b then new else old) :: e) s) :
    ccond cs (.region [⟨some t, .mov (.const new), none⟩] none) .skip e s Q b := by
  rw [ccond_iff]
  refine ⟨fun hb => ?_, fun hb => ?_⟩
  · subst hb
    exact h
  · subst hb
    refine hQ _ _ _ _ (fun t' v' hv' => ?_) h
    simp only [Env.get] at hv'
    split at hv'
    · rename_i he
      subst he
      rw [hv]; exact hv'
    · exact hv'

/-- A row of a slice, as it lies. -/
theorem row_read {sz : Nat} {s : St} {lv : Value} {cs : List (List Value)} (h : RowV sz s lv cs) {i : Nat} (hi : i < cs.length) :
    ∃ id o cap c T ro, lv = .slice (some ⟨id, o, none⟩) cs.length cap ∧ id < s.next ∧ s.heap.get id = some (.cells c T sz ro) ∧ o + i * sz + sz ≤ c.length ∧ (c.drop (o + i * sz)).take sz = cs.getD i [] ∧ ∀ j, j < sz → c[o + i * sz + j]? = (cs.getD i [])[j]? := by
  obtain ⟨id, o, cap, c, T, ro, rfl, h1, h2, h3, h4⟩ := h.at hi
  refine ⟨id, o, cap, c, T, ro, rfl, ?_, h1, h2, h3, h4⟩
  obtain ⟨_, ⟨hx, _⟩ | ⟨id', o', cap', c', T'', ro', h1', _, h2', _⟩⟩ := h
  · cases hx
  · simp only [Value.slice.injEq, Option.some.injEq, Addr.mk.injEq] at h1'
    have := h1'.1.1
    omega

/-! ### maps from numbers to bytes -/
abbrev KInt : Value → Prop := fun v => ∃ n, v = .int .i64 n

def lookF : List (Int × List Int) → Int → Option (List Int)
  | [], _ => none
  | p :: F, k => if p.1 = k then some p.2 else lookF F k
def setF : List (Int × List Int) → Int → List Int → List (Int × List Int)
  | [], _, _ => []
  | p :: F, k, bs => if p.1 = k then (p.1, bs) :: F else p :: setF F k bs
def delF : List (Int × List Int) → Int → List (Int × List Int)
  | [], _ => []
  | p :: F, k => if p.1 = k then F else p :: delF F k
def putF (F : List (Int × List Int)) (k : Int) (bs : List Int) : List (Int × List Int) := if (lookF F k).isSome = true then setF F k bs else F ++ [(k, bs)]

def InV (V : List Nat) (v : Value) : Prop := ∀ id o l c, v = .slice (some ⟨id, o, none⟩) l c → id ∈ V
theorem InV.mono {V W : List Nat} {v : Value} (h : InV V v) (hs : ∀ x ∈ V, x ∈ W) : InV W v := fun id o l c e => hs id (h id o l c e)

def ER (s : St) (V : List Nat) (e : MapEntry) (p : Int × List Int) : Prop := e.key = i64 p.1 ∧ BytesV s e.val p.2 ∧ InV V e.val

theorem hasKey_i64 {k : Int} {e : MapEntry} {p : Int × List Int} (h : e.key = i64 p.1) : hasKey (i64 k) e = decide (p.1 = k) := by
  simp only [hasKey, h, keyEq]
  by_cases hk : p.1 = k
  · subst hk; simp
  · have : ¬ k = p.1 := fun e => hk e.symm
    simp [hk, this]

theorem all2_imp {α γ : Type} {R S : α → γ → Prop} {l : List α} {l' : List γ} (h : All2 R l l') (hi : ∀ a b, R a b → S a b) : All2 S l l' := by
  induction h with
  | nil => exact .nil
  | cons h _ ih => exact .cons (hi _ _ h) ih

section
variable {s : St} {V : List Nat} {es : List MapEntry} {F : List (Int × List Int)} {clock : Nat}

theorem er_get (h : All2 (ER s V) es F) (k : Int) : (mget es (i64 k) = none ∧ lookF F k = none) ∨ ∃ v bs, mget es (i64 k) = some v ∧ lookF F k = some bs ∧ BytesV s v bs ∧ InV V v := by
  induction h with
  | nil => exact .inl ⟨rfl, rfl⟩
  | cons h _ ih =>
    simp only [mget, lookF, hasKey_i64 h.1]
    split
    · rename_i hk
      have hk := of_decide_eq_true hk
      rw [if_pos hk]
      exact .inr ⟨_, _, rfl, rfl, h.2.1, h.2.2⟩
    · rename_i hk
      rw [if_neg (fun e => hk (decide_eq_true e))]
      exact ih
theorem er_none (h : All2 (ER s V) es F) {k : Int} (hn : lookF F k = none) : mget es (i64 k) = none := by
  rcases er_get h k with ⟨h1, _⟩ | ⟨v, bs, _, h2, _⟩
  · exact h1
  · rw [hn] at h2; cases h2
theorem er_some (h : All2 (ER s V) es F) {k : Int} {bs : List Int} (hn : lookF F k = some bs) : ∃ v, mget es (i64 k) = some v ∧ BytesV s v bs ∧ InV V v := by
  rcases er_get h k with ⟨_, h1⟩ | ⟨v, bs', h1, h2, h3⟩
  · rw [hn] at h1; cases h1
  · rw [hn] at h2; cases h2; exact ⟨v, h1, h3⟩
theorem er_set (h : All2 (ER s V) es F) {k : Int} {v : Value} {bs : List Int} (hv : BytesV s v bs) (hV : InV V v) : All2 (ER s V) (mset es (i64 k) v) (setF F k bs) := by
  induction h with
  | nil => exact .nil
  | cons h ht ih =>
    simp only [mset, setF, hasKey_i64 h.1]
    split
    · rename_i hk
      rw [if_pos (of_decide_eq_true hk)]
      exact .cons ⟨h.1, hv, hV⟩ ht
    · rename_i hk
      rw [if_neg (fun e => hk (decide_eq_true e))]
      exact .cons h ih
theorem er_put (h : All2 (ER s V) es F) {k : Int} {v : Value} {bs : List Int} (hv : BytesV s v bs) (hV : InV V v) : All2 (ER s V) (mput es clock (i64 k) v) (putF F k bs) := by
  unfold mput putF
  rcases er_get h k with ⟨h1, h2⟩ | ⟨_, _, h1, h2, _⟩
  · rw [h1, h2]
    simp only [Option.isSome_none, Bool.false_eq_true, if_false]
    exact h.append' (.cons ⟨rfl, hv, hV⟩ .nil)
  · rw [h1, h2]
    simp only [Option.isSome_some, if_true]
    exact er_set h hv hV
theorem er_del (h : All2 (ER s V) es F) (k : Int) : All2 (ER s V) (mdel es (i64 k)) (delF F k) := by
  induction h with
  | nil => exact .nil
  | cons h ht ih =>
    simp only [mdel, delF, hasKey_i64 h.1]
    split
    · rename_i hk
      rw [if_pos (of_decide_eq_true hk)]
      exact ht
    · rename_i hk
      rw [if_neg (fun e => hk (decide_eq_true e))]
      exact .cons h ih
theorem er_kept {s' : St} {T : List Nat} (h : All2 (ER s V) es F) (hk : Kept T s s') (hd : ∀ x ∈ V, x ∉ T) : All2 (ER s' V) es F :=
  all2_imp h fun e p ⟨h1, h2, h3⟩ => ⟨h1, BytesV.kept' (t := 0) (w := undefV) (zs := p.2) (ws := []) h2 hk (fun id o l c e => hd id (h3 id o l c e)), h3⟩
theorem er_sub {W : List Nat} (h : All2 (ER s V) es F) (hs : ∀ x ∈ V, x ∈ W) : All2 (ER s W) es F := all2_imp h fun e p ⟨h1, h2, h3⟩ => ⟨h1, h2, h3.mono hs⟩

theorem er_keys (h : All2 (ER s V) es F) (hr : ∀ p ∈ F, W64 p.1) : keysInt es = some (F.map fun p => p.1) := by
  induction h with
  | nil => rfl
  | cons h _ ih =>
    have hb := hr _ (List.mem_cons_self ..)
    simp only [keysInt, h.1, keyInt]
    rw [if_pos (by simp only [Bool.and_eq_true, decide_eq_true_eq]; exact ⟨hb.1, by have := hb.2; omega⟩)]
    rw [Option.bind_some, ih fun p hp => hr p (List.mem_cons_of_mem _ hp)]
    rfl
theorem er_fit (h : All2 (ER s V) es F) (hm : MOK KInt es clock) (hr : ∀ p ∈ F, W64 p.1) (hl : F.length ≤ 1073741824) : keysFit es clock (F.map fun p => p.1) = true := by
  simp only [keysFit, Bool.and_eq_true, List.all_eq_true, decide_eq_true_eq]
  obtain ⟨k1, _⟩ := keysInt_some (er_keys h hr)
  refine ⟨⟨⟨fun e he => hm.lt e he, nodup_freshN hm.born⟩, nodup_freshZ ?_⟩, by rw [h.len]; exact hl⟩
  have : (es.map fun e => e.key).Nodup := List.pairwise_map.2 hm.keys
  rw [k1] at this
  exact (List.pairwise_map.1 this).imp fun h e => h (by rw [e])
end

theorem lookF_set {F : List (Int × List Int)} {k j : Int} {bs : List Int} : lookF (setF F k bs) j = if j = k then (lookF F k).map (fun _ => bs) else lookF F j := by
  induction F with
  | nil => simp [setF, lookF]
  | cons p F ih =>
    simp only [setF, lookF]
    by_cases hp : p.1 = k
    · rw [if_pos hp]
      simp only [lookF]
      by_cases hj : j = k
      · subst hj; simp [hp]
      · have : ¬ p.1 = j := fun e => hj (e ▸ hp)
        simp [hj, this]
    · rw [if_neg hp]
      simp only [lookF, ih]
      by_cases hj : j = k
      · subst hj; simp [hp]
      · simp [hj]
theorem lookF_append {F G : List (Int × List Int)} {j : Int} : lookF (F ++ G) j = (lookF F j).or (lookF G j) := by
  induction F with
  | nil => simp [lookF]
  | cons p F ih =>
    simp only [List.cons_append, lookF]
    split
    · rfl
    · exact ih
theorem lookF_put {F : List (Int × List Int)} {k j : Int} {bs : List Int} : lookF (putF F k bs) j = if j = k then some bs else lookF F j := by
  unfold putF
  cases h : lookF F k with
  | none =>
    simp only [Option.isSome_none, Bool.false_eq_true, if_false, lookF_append]
    by_cases hj : j = k
    · subst hj; simp [h, lookF]
    · have : ¬ k = j := fun e => hj e.symm
      simp [hj, lookF, this]
  | some v =>
    simp only [Option.isSome_some, if_true, lookF_set, h, Option.map_some]
theorem lookF_none {F : List (Int × List Int)} {k : Int} : lookF F k = none ↔ ∀ p ∈ F, p.1 ≠ k := by
  induction F with
  | nil => simp [lookF]
  | cons p F ih =>
    simp only [lookF]
    split
    · rename_i h; simp [h]
    · rename_i h; rw [ih]; simp [h]
theorem lookF_del {F : List (Int × List Int)} (hn : (F.map fun p => p.1).Nodup) {k j : Int} : lookF (delF F k) j = if j = k then none else lookF F j := by
  induction F with
  | nil => simp [delF, lookF]
  | cons p F ih =>
    simp only [List.map_cons, List.nodup_cons] at hn
    simp only [delF, lookF]
    by_cases hp : p.1 = k
    · rw [if_pos hp]
      by_cases hj : j = k
      · subst hj
        rw [if_pos rfl, lookF_none]
        exact fun q hq e => hn.1 (by rw [hp, ← e]; exact List.mem_map_of_mem hq)
      · have : ¬ p.1 = j := fun e => hj (e ▸ hp)
        rw [if_neg hj, if_neg this]
    · rw [if_neg hp]
      simp only [lookF, ih hn.2]
      by_cases hj : j = k
      · subst hj; simp [hp]
      · simp [hj]
theorem setF_keys (F : List (Int × List Int)) (k : Int) (bs : List Int) : (setF F k bs).map (fun p => p.1) = F.map fun p => p.1 := by
  induction F with
  | nil => rfl
  | cons p F ih =>
    simp only [setF]
    split
    · simp
    · simp [ih]
theorem putF_keys (F : List (Int × List Int)) (k : Int) (bs : List Int) : (putF F k bs).map (fun p => p.1) = if (lookF F k).isSome = true then F.map (fun p => p.1) else F.map (fun p => p.1) ++ [k] := by
  unfold putF
  split
  · exact setF_keys ..
  · simp
theorem delF_sub (F : List (Int × List Int)) (k : Int) : (delF F k).Sublist F := by
  induction F with
  | nil => exact .slnil
  | cons p F ih =>
    simp only [delF]
    split
    · exact List.sublist_cons_self ..
    · exact ih.cons_cons p
end Go.Abs
