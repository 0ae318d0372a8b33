/-
  Rows of elements of several cells: as they are read, cut, written and appended.
-/
import Derived.Test.YtoiedaegnhifpaaDoorA34
set_option linter.unusedVariables false
set_option linter.unusedSimpArgs false
namespace Go.Abs
open Go

def RowV (sz : Nat) (s : St) (v : Value) (cs : List (List Value)) : Prop :=
  (∀ c ∈ cs, c.length = sz ∧ c.all isCell = true) ∧ ((v = .slice none 0 0 ∧ cs = []) ∨ ∃ id o cap c T ro, v = .slice (some ⟨id, o, none⟩) cs.length cap ∧ cs.length ≤ cap ∧ id < s.next ∧ s.heap.get id = some (.cells c T sz ro) ∧ o + cs.length * sz ≤ c.length ∧ (c.drop o).take (cs.length * sz) = cs.flatten)

variable {t : TypeId} {sz : Nat} {s s' : St} {v : Value} {cs : List (List Value)} {S : List Nat}

theorem RowsO.toV (h : RowsO t sz s v cs S) : RowV sz s v cs := by
  obtain ⟨hz, ⟨rfl, rfl, rfl⟩ | ⟨id, o, cap, c, rfl, rfl, h1, h2, h3, h4, h5⟩⟩ := h
  · exact ⟨hz, .inl ⟨rfl, rfl⟩⟩
  · have := Nat.mul_le_mul_right sz h1
    exact ⟨hz, .inr ⟨id, o, cap, c, t, false, rfl, h1, h2, h3, by omega, h5⟩⟩

theorem RowV.kept (h : RowV sz s v cs) (hk : Kept [] s s') : RowV sz s' v cs := by
  obtain ⟨hz, h | ⟨id, o, cap, c, T, ro, rfl, h1, h2, h3, h4, h5⟩⟩ := h
  · exact ⟨hz, .inl h⟩
  · exact ⟨hz, .inr ⟨id, o, cap, c, T, ro, rfl, h1, Nat.lt_of_lt_of_le h2 hk.1, by rw [hk.2 id h2 (by simp)]; exact h3, h4, h5⟩⟩

theorem RowV.len (h : RowV sz s v cs) : ∃ a c, v = .slice a cs.length c := by
  obtain ⟨_, ⟨rfl, rfl⟩ | ⟨id, o, cap, c, T, ro, rfl, _⟩⟩ := h
  · exact ⟨_, _, rfl⟩
  · exact ⟨_, _, rfl⟩

theorem row_at {c : List Value} : ∀ {cs : List (List Value)} {o : Nat}, (∀ c ∈ cs, c.length = sz ∧ c.all isCell = true) → (c.drop o).take (cs.length * sz) = cs.flatten → o + cs.length * sz ≤ c.length → ∀ {i : Nat}, i < cs.length → (c.drop (o + i * sz)).take sz = cs.getD i [] := by
  intro cs
  induction cs with
  | nil => intro o _ _ _ i hi; simp at hi
  | cons r cs ih =>
    intro o hz h hl i hi
    have hr := (hz r (List.mem_cons_self ..)).1
    simp only [List.length_cons, List.flatten_cons, Nat.add_mul, Nat.one_mul] at h hl hi
    have h6 : (c.drop o).take sz = r := by
      have := congrArg (fun l => l.take sz) h
      simp only [List.take_take] at this
      rw [show min sz (cs.length * sz + sz) = sz by omega, List.take_append_of_le_length (by omega), List.take_of_length_le (l := r) (by omega)] at this
      exact this
    cases i with
    | zero => simpa using h6
    | succ i =>
      have h2 : (c.drop (o + sz)).take (cs.length * sz) = cs.flatten := by
        have := congrArg (fun l => l.drop sz) h
        rw [List.drop_append_of_le_length (by omega), List.drop_of_length_le (l := r) (by omega), List.nil_append, List.drop_take, List.drop_drop] at this
        rw [show cs.length * sz + sz - sz = cs.length * sz by omega] at this
        exact this
      have := ih (fun c hc => hz c (List.mem_cons_of_mem _ hc)) h2 (by omega) (i := i) (by omega)
      rw [show o + (i + 1) * sz = o + sz + i * sz by rw [Nat.add_mul]; omega]
      simpa using this

theorem RowV.at (h : RowV sz s v cs) {i : Nat} (hi : i < cs.length) : ∃ id o cap c T ro, v = .slice (some ⟨id, o, none⟩) cs.length cap ∧ s.heap.get id = some (.cells c T sz ro) ∧ o + i * sz + sz ≤ c.length ∧ (c.drop (o + i * sz)).take sz = cs.getD i [] ∧ ∀ j, j < sz → c[o + i * sz + j]? = (cs.getD i [])[j]? := by
  obtain ⟨hz, ⟨rfl, rfl⟩ | ⟨id, o, cap, c, T, ro, rfl, h1, h2, h3, h4, h5⟩⟩ := h
  · simp at hi
  have hr := row_at hz h5 h4 hi
  have hm : (i + 1) * sz ≤ cs.length * sz := Nat.mul_le_mul_right _ hi
  rw [Nat.add_mul, Nat.one_mul] at hm
  refine ⟨id, o, cap, c, T, ro, rfl, h3, by omega, hr, fun j hj => ?_⟩
  rw [← hr, List.getElem?_take, if_pos hj, List.getElem?_drop]

theorem row_flat (hz : ∀ c ∈ cs, c.length = sz ∧ c.all isCell = true) (n : Nat) : (cs.take n).flatten = cs.flatten.take (n * sz) ∧ (cs.drop n).flatten = cs.flatten.drop (n * sz) := by
  induction cs generalizing n with
  | nil => simp
  | cons r cs ih =>
    have hr := (hz r (List.mem_cons_self ..)).1
    cases n with
    | zero => simp
    | succ n =>
      obtain ⟨h1, h2⟩ := ih (fun c hc => hz c (List.mem_cons_of_mem _ hc)) n
      simp only [List.take_succ_cons, List.drop_succ_cons, List.flatten_cons, Nat.add_mul, Nat.one_mul]
      constructor
      · rw [h1, List.take_append, List.take_of_length_le (l := r) (by omega)]
        congr 2; omega
      · rw [h2, List.drop_append, List.drop_of_length_le (l := r) (by omega), List.nil_append]
        congr 1; omega

theorem RowV.take (h : RowV sz s v cs) {n : Nat} (hn : n ≤ cs.length) : ∃ v', RowV sz s v' (cs.take n) ∧ ∀ (k : IntKind), evP s.heap.get s.next (.slice (.slice sz) v none (some (.int k n)) none) = some ⟨v', [], s.next⟩ := by
  obtain ⟨hz, ⟨rfl, rfl⟩ | ⟨id, o, cap, c, T, ro, rfl, h1, h2, h3, h4, h5⟩⟩ := h
  · have : n = 0 := by simpa using hn
    subst this
    exact ⟨.slice none 0 0, ⟨by simp, .inl ⟨rfl, rfl⟩⟩, fun k => by simp [evP, boundsV, boundV]⟩
  · have hl : (cs.take n).length = n := by rw [List.length_take]; omega
    have hm : n * sz ≤ cs.length * sz := Nat.mul_le_mul_right _ hn
    refine ⟨.slice (some ⟨id, o, none⟩) n cap, ⟨fun c hc => hz c (List.mem_of_mem_take hc), .inr ⟨id, o, cap, c, T, ro, by rw [hl], by omega, h2, h3, by rw [hl]; omega, ?_⟩⟩, fun k => ev_sliceH h3 (.inr (.inl rfl)) (by omega)⟩
    rw [hl, (row_flat hz n).1, ← h5, List.take_take]
    congr 1; omega

theorem RowV.drop (h : RowV sz s v cs) {n : Nat} (hn : n ≤ cs.length) : ∃ v', RowV sz s v' (cs.drop n) ∧ ∀ (k : IntKind), evP s.heap.get s.next (.slice (.slice sz) v (some (.int k n)) none none) = some ⟨v', [], s.next⟩ := by
  obtain ⟨hz, ⟨rfl, rfl⟩ | ⟨id, o, cap, c, T, ro, rfl, h1, h2, h3, h4, h5⟩⟩ := h
  · have : n = 0 := by simpa using hn
    subst this
    exact ⟨.slice none 0 0, ⟨by simp, .inl ⟨rfl, by simp⟩⟩, fun k => by simp [evP, boundsV, boundV]⟩
  · have hl : (cs.drop n).length = cs.length - n := by rw [List.length_drop]
    have hm : n * sz ≤ cs.length * sz := Nat.mul_le_mul_right _ hn
    have hs : (cs.length - n) * sz = cs.length * sz - n * sz := Nat.sub_mul ..
    refine ⟨.slice (some ⟨id, o + n * sz, none⟩) (cs.length - n) (cap - n), ⟨fun c hc => hz c (List.mem_of_mem_drop hc), .inr ⟨id, o + n * sz, cap - n, c, T, ro, by rw [hl], by omega, h2, h3, by rw [hl]; omega, ?_⟩⟩, fun k => ev_sliceL h3 (.inr (.inl rfl)) hn h1⟩
    rw [hl, (row_flat hz n).2, ← h5, List.drop_take, List.drop_drop, hs]

theorem RowV.lenV (h : RowV sz s v cs) : lenV v = some cs.length := by
  obtain ⟨a, c, rfl⟩ := h.len; rfl

theorem RowV.first (h : RowV sz s v cs) : firstL s.heap.get sz cs.length v = some cs.flatten := by
  obtain ⟨hz, ⟨rfl, rfl⟩ | ⟨id, o, cap, c, T, ro, rfl, h1, h2, h3, h4, h5⟩⟩ := h
  · rfl
  · simp only [firstL, Nat.le_refl, if_true, cellsAt, h3, h4, h5]

theorem flat_cells {cs : List (List Value)} (h : ∀ c ∈ cs, c.length = sz ∧ c.all isCell = true) : cs.flatten.all isCell = true := by
  rw [List.all_eq_true]
  intro x hx
  obtain ⟨c, hc, hxc⟩ := List.mem_flatten.1 hx
  exact List.all_eq_true.1 (h c hc).2 x hxc

theorem RowsO.append {b : Nat} (h : RowsO t sz s v cs S) {y : Value} {ds : List (List Value)} (hy : RowV sz s y ds) (hbig : tooBig (cs.length + ds.length) b = false) (hb0 : ∀ n, 0 < n → n ≤ ds.length → tooBig n b = false) :
    ∃ val upd nx S', evP s.heap.get s.next (.append t sz b v y) = some ⟨val, upd, nx⟩ ∧ RowsO t sz ⟨applyUpd s.heap upd, nx⟩ val (cs ++ ds) S' ∧ Kept S s ⟨applyUpd s.heap upd, nx⟩ ∧ (∀ x ∈ S', x ∈ S ∨ s.next ≤ x) ∧ (∀ id, nx ≤ id → (⟨applyUpd s.heap upd, nx⟩ : St).heap.get id = s.heap.get id) := by
  have hl := hy.lenV
  have hf := hy.first
  have hdz := hy.1
  have hdl := flatten_len hdz
  have hcell := flat_cells hdz
  have hall : ∀ c ∈ cs ++ ds, c.length = sz ∧ c.all isCell = true := fun c hc => by
    rcases List.mem_append.1 hc with hc | hc
    · exact h.1 c hc
    · exact hdz c hc
  have hflat : (cs ++ ds).flatten = cs.flatten ++ ds.flatten := List.flatten_append
  have hfl0 := flatten_len h.1
  have hlen : (cs ++ ds).length = cs.length + ds.length := List.length_append
  obtain ⟨hz, ⟨rfl, rfl, rfl⟩ | ⟨id, o, cap, c, rfl, rfl, h1, h2, h3, h4, h5⟩⟩ := h
  · by_cases h0 : ds.length = 0
    · have : ds = [] := List.eq_nil_of_length_eq_zero h0
      subst this
      refine ⟨.slice none 0 0, [], s.next, [], ?_, ⟨by simp, .inl ⟨rfl, rfl, rfl⟩⟩, Kept.refl _ _, by simp, fun _ _ => rfl⟩
      simp only [List.length_nil] at hl hf
      simp [evP, hl, hf]
    · refine ⟨_, _, _, [s.next], ev_append_nil hl hf hcell hdl (by omega) (hb0 _ (by omega) (Nat.le_refl _)), ⟨hall, .inr ⟨s.next, 0, ds.length, ds.flatten, by simp, rfl, by simp, Nat.lt_succ_self _, ?_, by omega, ?_⟩⟩, ⟨Nat.le_succ _, fun id hid _ => ?_⟩, by simp, fun id hid => ?_⟩
      · simp only [applyUpd, Heap.get_put, if_true]
      · rw [List.nil_append, List.drop_zero, List.take_of_length_le (by omega)]
      · have : ¬ id = s.next := by omega
        simp only [applyUpd, Heap.get_put, this, if_false]
      · have : ¬ id = s.next := by omega
        simp only [applyUpd, Heap.get_put, this, if_false]
  · have hadd : (cs.length + ds.length) * sz = cs.length * sz + ds.length * sz := Nat.add_mul ..
    by_cases hfit : cs.length + ds.length ≤ cap
    · have hm2 : (cs.length + ds.length) * sz ≤ cap * sz := Nat.mul_le_mul_right _ hfit
      refine ⟨_, _, _, [id], ev_append_in hl hf hcell hdl h3 hfit (by omega), ⟨hall, .inr ⟨id, o, cap, storeL c (o + cs.length * sz) ds.flatten, by rw [hlen], rfl, by rw [hlen]; exact hfit, h2, ?_, by rw [storeL_length]; exact h4, ?_⟩⟩, ⟨Nat.le_refl _, fun j hj hn => ?_⟩, fun x hx => .inl hx, fun j hj => ?_⟩
      · simp only [applyUpd, Heap.get_put, if_true]
      · rw [hflat, hlen]
        apply List.ext_getElem?
        intro j
        rw [List.getElem?_take, List.getElem?_drop, storeL_get _ _ _ _ (by omega)]
        have h6 := congrArg (fun l => l[j]?) h5
        simp only [List.getElem?_take, List.getElem?_drop] at h6
        by_cases hj : j < cs.length * sz
        · rw [if_pos hj] at h6
          rw [if_pos (by omega), if_neg (by omega), h6, List.getElem?_append_left (by omega)]
        · by_cases hj2 : j < (cs.length + ds.length) * sz
          · rw [if_pos hj2, if_pos (by omega), List.getElem?_append_right (by omega)]
            congr 1
            omega
          · rw [if_neg hj2, List.getElem?_eq_none (by rw [List.length_append]; omega)]
      · simp only [List.mem_cons, List.not_mem_nil, or_false] at hn
        simp only [applyUpd, Heap.get_put, hn, if_false]
      · have : ¬ j = id := by omega
        simp only [applyUpd, Heap.get_put, this, if_false]
    · have hle : cs.length * sz ≤ cap * sz := Nat.mul_le_mul_right _ h1
      have hgrow := ev_append_grow (nx := s.next) (b := b) (o := o) hl hf hcell hdl h3 hfit (by omega) (.inr rfl) hbig
      rw [h5] at hgrow
      have hne : ¬ s.next = id := by omega
      refine ⟨_, _, _, [s.next], hgrow, ⟨hall, .inr ⟨s.next, 0, cs.length + ds.length, cs.flatten ++ ds.flatten, by rw [hlen], rfl, by rw [hlen]; exact Nat.le_refl _, Nat.lt_succ_self _, ?_, by rw [List.length_append]; omega, ?_⟩⟩, ⟨Nat.le_succ _, fun j hj hn => ?_⟩, by simp, fun j hj => ?_⟩
      · simp only [applyUpd, Bool.false_eq_true, if_false, Heap.get_put, if_true, hne]
      · rw [List.drop_zero, hlen, hflat, List.take_of_length_le (by rw [List.length_append]; omega)]
      · simp only [List.mem_cons, List.not_mem_nil, or_false] at hn
        have : ¬ j = s.next := by omega
        simp only [applyUpd, Bool.false_eq_true, if_false, Heap.get_put, hn, this]
      · have h6 : ¬ j = s.next := by omega
        have h7 : ¬ j = id := by omega
        simp only [applyUpd, Bool.false_eq_true, if_false, Heap.get_put, h6, h7]

end Go.Abs
