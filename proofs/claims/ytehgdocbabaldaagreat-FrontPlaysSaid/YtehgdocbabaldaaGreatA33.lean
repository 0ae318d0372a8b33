/-
  Loops without a step; rows of elements of several cells.
-/
import Derived.Test.YtehgdocbabaldaaGreatA32
set_option linter.unusedVariables false
set_option linter.unusedSimpArgs false
namespace Go.Abs
open Go

def RowsO (t : TypeId) (sz : Nat) (s : St) (v : Value) (cs : List (List Value)) (S : List Nat) : Prop :=
  (∀ c ∈ cs, c.length = sz ∧ c.all isCell = true) ∧ ((v = .slice none 0 0 ∧ cs = [] ∧ S = []) ∨ ∃ id o cap c, v = .slice (some ⟨id, o, none⟩) cs.length cap ∧ S = [id] ∧ cs.length ≤ cap ∧ id < s.next ∧ s.heap.get id = some (.cells c t sz false) ∧ o + cap * sz ≤ c.length ∧ (c.drop o).take (cs.length * sz) = cs.flatten)

theorem RowsO.lt {t : TypeId} {sz : Nat} {s : St} {v : Value} {cs : List (List Value)} {S : List Nat} (h : RowsO t sz s v cs S) : ∀ x ∈ S, x < s.next := by
  obtain ⟨hz, ⟨rfl, rfl, rfl⟩ | ⟨id, o, cap, c, rfl, rfl, h1, h2, h3, h4, h5⟩⟩ := h
  · simp
  · simpa using h2

theorem RowsO.kept {t : TypeId} {sz : Nat} {s s' : St} {v : Value} {cs : List (List Value)} {S T : List Nat} (h : RowsO t sz s v cs S) (hk : Kept T s s') (hd : ∀ x ∈ S, x ∉ T) : RowsO t sz s' v cs S := by
  obtain ⟨hz, h | ⟨id, o, cap, c, rfl, rfl, h1, h2, h3, h4, h5⟩⟩ := h
  · exact ⟨hz, .inl h⟩
  · exact ⟨hz, .inr ⟨id, o, cap, c, rfl, rfl, h1, Nat.lt_of_lt_of_le h2 hk.1, by rw [hk.2 id h2 (hd id (by simp))]; exact h3, h4, h5⟩⟩

theorem flatten_len {cs : List (List Value)} {sz : Nat} (h : ∀ c ∈ cs, c.length = sz ∧ c.all isCell = true) : cs.flatten.length = cs.length * sz := by
  induction cs with
  | nil => simp
  | cons c cs ih =>
    simp only [List.flatten_cons, List.length_append, List.length_cons, (h c (List.mem_cons_self ..)).1, ih (fun c hc => h c (List.mem_cons_of_mem _ hc)), Nat.add_mul]
    omega

theorem RowsO.append1 {t : TypeId} {sz b : Nat} {s : St} {v : Value} {cs : List (List Value)} {S : List Nat} (h : RowsO t sz s v cs S) {c1 : List Value} (hc1 : c1.length = sz) (hcell : c1.all isCell = true) {m : Nat} {t' : TypeId} {sz' : Nat} {ro : Bool}
    (hm : s.heap.get m = some (.cells c1 t' sz' ro)) (hbig : tooBig (cs.length + 1) b = false) (hb1 : tooBig 1 b = false) :
    ∃ val upd nx S', evP s.heap.get s.next (.append t sz b v (.slice (some ⟨m, 0, none⟩) 1 1)) = some ⟨val, upd, nx⟩ ∧ RowsO t sz ⟨applyUpd s.heap upd, nx⟩ val (cs ++ [c1]) S' ∧ Kept S s ⟨applyUpd s.heap upd, nx⟩ ∧ ∀ x ∈ S', x ∈ S ∨ s.next ≤ x := by
  have hl : lenV (.slice (some ⟨m, 0, none⟩) 1 1) = some 1 := rfl
  have hf : firstL s.heap.get sz 1 (.slice (some ⟨m, 0, none⟩) 1 1) = some c1 := by
    simp only [firstL, Nat.le_refl, if_true, cellsAt, hm, Nat.one_mul, Nat.zero_add, hc1, List.drop_zero]
    rw [List.take_of_length_le (by omega)]
  have hn : c1.length = 1 * sz := by omega
  have hall : ∀ c ∈ cs ++ [c1], c.length = sz ∧ c.all isCell = true := fun c hc => by
    rcases List.mem_append.1 hc with hc | hc
    · exact h.1 c hc
    · simp only [List.mem_singleton] at hc; subst hc; exact ⟨hc1, hcell⟩
  have hfl := flatten_len hall
  have hflat : (cs ++ [c1]).flatten = cs.flatten ++ c1 := by simp
  have hfl0 := flatten_len h.1
  have hlen : (cs ++ [c1]).length = cs.length + 1 := by simp
  obtain ⟨hz, ⟨rfl, rfl, rfl⟩ | ⟨id, o, cap, c, rfl, rfl, h1, h2, h3, h4, h5⟩⟩ := h
  · refine ⟨_, _, _, [s.next], ev_append_nil hl hf hcell hn (by omega) hb1, ⟨hall, .inr ⟨s.next, 0, 1, c1, by simp, rfl, by simp, Nat.lt_succ_self _, ?_, by omega, ?_⟩⟩, ⟨Nat.le_succ _, fun id hid _ => ?_⟩, by simp⟩
    · simp only [applyUpd, Heap.get_put, if_true]
    · simp [← hc1]
    · have : ¬ id = s.next := by omega
      simp only [applyUpd, Heap.get_put, this, if_false]
  · have hadd : (cs.length + 1) * sz = cs.length * sz + sz := by rw [Nat.add_mul]; omega
    by_cases hfit : cs.length + 1 ≤ cap
    · have hm2 : (cs.length + 1) * sz ≤ cap * sz := Nat.mul_le_mul_right _ hfit
      refine ⟨_, _, _, [id], ev_append_in hl hf hcell hn h3 hfit (by omega), ⟨hall, .inr ⟨id, o, cap, storeL c (o + cs.length * sz) c1, by rw [hlen], rfl, by rw [hlen]; exact hfit, h2, ?_, by rw [storeL_length]; exact h4, ?_⟩⟩, ⟨Nat.le_refl _, fun j hj hn => ?_⟩, fun x hx => .inl hx⟩
      · simp only [applyUpd, Heap.get_put, if_true]
      · rw [hflat, hlen]
        apply List.ext_getElem?
        intro j
        rw [List.getElem?_take, List.getElem?_drop, storeL_get _ _ _ _ (by omega)]
        have h6 := congrArg (fun l => l[j]?) h5
        simp only [List.getElem?_take, List.getElem?_drop] at h6
        by_cases hj : j < cs.length * sz
        · rw [if_pos hj] at h6
          rw [if_pos (by omega), if_neg (by omega), h6, List.getElem?_append_left (by omega)]
        · by_cases hj2 : j < (cs.length + 1) * sz
          · rw [if_pos hj2, if_pos (by omega), List.getElem?_append_right (by omega)]
            congr 1
            omega
          · rw [if_neg hj2, List.getElem?_eq_none (by rw [List.length_append]; omega)]
      · simp only [List.mem_cons, List.not_mem_nil, or_false] at hn
        simp only [applyUpd, Heap.get_put, hn, if_false]
    · have hle : cs.length * sz ≤ cap * sz := Nat.mul_le_mul_right _ h1
      have hgrow := ev_append_grow (nx := s.next) (b := b) (o := o) hl hf hcell hn h3 hfit (by omega) (.inr rfl) hbig
      rw [h5] at hgrow
      have hne : ¬ s.next = id := by omega
      refine ⟨_, _, _, [s.next], hgrow, ⟨hall, .inr ⟨s.next, 0, cs.length + 1, cs.flatten ++ c1, by rw [hlen], rfl, by rw [hlen]; exact Nat.le_refl _, Nat.lt_succ_self _, ?_, by rw [List.length_append]; omega, ?_⟩⟩, ⟨Nat.le_succ _, fun j hj hn => ?_⟩, by simp⟩
      · simp only [applyUpd, Bool.false_eq_true, if_false, Heap.get_put, if_true, hne]
      · rw [List.drop_zero, hlen, hflat, List.take_of_length_le (by rw [List.length_append]; omega)]
      · simp only [List.mem_cons, List.not_mem_nil, or_false] at hn
        have : ¬ j = s.next := by omega
        simp only [applyUpd, Bool.false_eq_true, if_false, Heap.get_put, hn, this]

end Go.Abs
