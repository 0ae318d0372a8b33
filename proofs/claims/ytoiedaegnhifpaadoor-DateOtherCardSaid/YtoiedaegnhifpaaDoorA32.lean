/-
  Slices of bytes of one's own; what is appended to them.
-/
import Derived.Test.YtoiedaegnhifpaaDoorA29
import Derived.Laws.Strings
set_option linter.unusedVariables false
set_option linter.unusedSimpArgs false
namespace Go.Abs
open Go

def strL (b : ByteArray) : List Int := b.data.toList.map fun x => (x.toNat : Int)

theorem strL_length (b : ByteArray) : (strL b).length = b.size := by
  simp [strL]

theorem strL_range (b : ByteArray) : ∀ z ∈ strL b, 0 ≤ z ∧ z ≤ 255 := by
  intro z hz
  simp only [strL, List.mem_map] at hz
  obtain ⟨x, _, rfl⟩ := hz
  have := x.toNat_lt
  omega

theorem extract_all (b : ByteArray) : b.extract 0 b.size = b := by
  simp

def SrcV (s : St) (y : Value) (ys : List Int) : Prop := BytesV s y ys ∨ ∃ b, y = .string b ∧ ys = strL b

theorem SrcV.range {s : St} {y : Value} {ys : List Int} (h : SrcV s y ys) : ∀ z ∈ ys, 0 ≤ z ∧ z ≤ 255 := by
  rcases h with h | ⟨b, _, rfl⟩
  · exact h.1
  · exact strL_range b

theorem SrcV.len {s : St} {y : Value} {ys : List Int} (h : SrcV s y ys) : lenV y = some ys.length := by
  rcases h with h | ⟨b, rfl, rfl⟩
  · obtain ⟨a, cap, rfl⟩ := h.len; rfl
  · simp [lenV, strL_length]

theorem SrcV.first {s : St} {y : Value} {ys : List Int} (h : SrcV s y ys) : firstL s.heap.get 1 ys.length y = some (ys.map (.int .u8)) := by
  rcases h with ⟨_, ⟨rfl, rfl⟩ | ⟨id, o, cap, c, t, sz, ro, rfl, h1, h2, h3, h4, h5, h6⟩⟩ | ⟨b, rfl, rfl⟩
  · rfl
  · simp only [firstL, Nat.le_refl, if_true, cellsAt, h3, Nat.mul_one]
    rw [if_pos h6, h4]
  · simp only [firstL, strL_length, extract_all]
    simp [strL]

theorem cells_bytes (ys : List Int) : (ys.map (Value.int .u8)).all isCell = true := by
  rw [List.all_eq_true]
  intro v hv
  obtain ⟨z, _, rfl⟩ := List.mem_map.1 hv
  rfl

def BytesO (t : TypeId) (s : St) (v : Value) (zs : List Int) (S : List Nat) : Prop :=
  (∀ z ∈ zs, 0 ≤ z ∧ z ≤ 255) ∧ ((v = .slice none 0 0 ∧ zs = [] ∧ S = []) ∨ ∃ id o cap c, v = .slice (some ⟨id, o, none⟩) zs.length cap ∧ S = [id] ∧ zs.length ≤ cap ∧ id < s.next ∧ s.heap.get id = some (.cells c t 1 false) ∧ o + cap ≤ c.length ∧ (c.drop o).take zs.length = zs.map (.int .u8))

theorem BytesO.toV {t : TypeId} {s : St} {v : Value} {zs : List Int} {S : List Nat} (h : BytesO t s v zs S) : BytesV s v zs := by
  obtain ⟨hz, ⟨rfl, rfl, rfl⟩ | ⟨id, o, cap, c, rfl, rfl, h1, h2, h3, h4, h5⟩⟩ := h
  · exact ⟨hz, .inl ⟨rfl, rfl⟩⟩
  · exact ⟨hz, .inr ⟨id, o, cap, c, t, 1, false, rfl, h1, h2, h3, h5, .inr rfl, by omega⟩⟩

theorem BytesO.lt {t : TypeId} {s : St} {v : Value} {zs : List Int} {S : List Nat} (h : BytesO t s v zs S) : ∀ x ∈ S, x < s.next := by
  obtain ⟨hz, ⟨rfl, rfl, rfl⟩ | ⟨id, o, cap, c, rfl, rfl, h1, h2, h3, h4, h5⟩⟩ := h
  · simp
  · simpa using h2

theorem BytesO.kept {t : TypeId} {s s' : St} {v : Value} {zs : List Int} {S T : List Nat} (h : BytesO t s v zs S) (hk : Kept T s s') (hd : ∀ x ∈ S, x ∉ T) : BytesO t s' v zs S := by
  obtain ⟨hz, h | ⟨id, o, cap, c, rfl, rfl, h1, h2, h3, h4, h5⟩⟩ := h
  · exact ⟨hz, .inl h⟩
  · exact ⟨hz, .inr ⟨id, o, cap, c, rfl, rfl, h1, Nat.lt_of_lt_of_le h2 hk.1, by rw [hk.2 id h2 (hd id (by simp))]; exact h3, h4, h5⟩⟩

def Above (s s' : St) : Prop := ∀ id, s'.next ≤ id → s'.heap.get id = s.heap.get id
theorem Above.refl (s : St) : Above s s := fun _ _ => rfl
theorem Above.trans {a b c : St} (h : Above a b) (k : Above b c) (hn : b.next ≤ c.next) : Above a c := fun id hid => (k id hid).trans (h id (Nat.le_trans hn hid))
theorem Kept.quiet {s s' : St} (h : Kept [] s s') (k : Above s s') : Quiet s s' := fun id hid => by
  rcases hid with hid | hid
  · exact h.2 id hid (by simp)
  · exact k id hid

theorem BytesO.append {t : TypeId} {s : St} {v y : Value} {zs ys : List Int} {S : List Nat} (h : BytesO t s v zs S) (hy : SrcV s y ys) (hbig : zs.length + ys.length < 2 ^ 40) :
    ∃ res S', evP s.heap.get s.next (.append t 1 1 v y) = some res ∧ BytesO t ⟨applyUpd s.heap res.upd, res.next⟩ res.val (zs ++ ys) S' ∧ Kept S s ⟨applyUpd s.heap res.upd, res.next⟩ ∧ (∀ x ∈ S', x ∈ S ∨ s.next ≤ x) ∧ Above s ⟨applyUpd s.heap res.upd, res.next⟩ := by
  have hr : ∀ z ∈ zs ++ ys, 0 ≤ z ∧ z ≤ 255 := fun z hz => by
    rcases List.mem_append.1 hz with hz | hz
    · exact h.1 z hz
    · exact hy.range z hz
  have hl := hy.len
  have hf := hy.first
  have hc := cells_bytes ys
  have hn : (ys.map (Value.int .u8)).length = ys.length * 1 := by simp
  have htb : ∀ n, n < 2 ^ 40 → tooBig n 1 = false := fun n hn => by simp [tooBig]; omega
  obtain ⟨hz, ⟨rfl, rfl, rfl⟩ | ⟨id, o, cap, c, rfl, rfl, h1, h2, h3, h4, h5⟩⟩ := h
  · by_cases h0 : ys.length = 0
    · have : ys = [] := List.eq_nil_of_length_eq_zero h0
      subst this
      refine ⟨⟨.slice none 0 0, [], s.next⟩, [], ?_, ⟨by simp, .inl ⟨rfl, rfl, rfl⟩⟩, Kept.refl _ _, by simp, Above.refl _⟩
      simp only [List.length_nil] at hl hf
      simp [evP, hl, hf]
    · refine ⟨_, [s.next], ev_append_nil hl hf hc hn (by omega) (htb _ (by simpa using hbig)), ⟨hr, .inr ⟨s.next, 0, ys.length, ys.map (.int .u8), by simp, rfl, by simp, Nat.lt_succ_self _, ?_, by simp, by rw [List.drop_zero, List.nil_append, List.take_of_length_le (by simp)]⟩⟩, ⟨Nat.le_succ _, fun id hid _ => ?_⟩, by simp, fun id hid => ?_⟩
      · simp only [applyUpd, Heap.get_put, if_true]
      · have : ¬ id = s.next := by omega
        simp only [applyUpd, Heap.get_put, this, if_false]
      · simp only at hid
        have : ¬ id = s.next := by omega
        simp only [applyUpd, Heap.get_put, this, if_false]
  · by_cases hfit : zs.length + ys.length ≤ cap
    · refine ⟨_, [id], ev_append_in hl hf hc hn h3 hfit (by omega), ⟨hr, .inr ⟨id, o, cap, storeL c (o + zs.length * 1) (ys.map (.int .u8)), by rw [List.length_append], rfl, by simpa using hfit, h2, ?_, by rw [storeL_length]; exact h4, ?_⟩⟩, ⟨Nat.le_refl _, fun j hj hn => ?_⟩, fun x hx => .inl hx, fun j hj => ?_⟩
      · simp only [applyUpd, Heap.get_put, if_true]
      · apply List.ext_getElem?
        intro j
        rw [List.getElem?_take, List.getElem?_drop, storeL_get _ _ _ _ (by simp; omega)]
        have h6 := congrArg (fun l => l[j]?) h5
        simp only [List.getElem?_take, List.getElem?_drop] at h6
        simp only [List.length_append, List.length_map, Nat.mul_one]
        by_cases hj : j < zs.length
        · rw [if_pos hj] at h6
          rw [if_pos (by omega), if_neg (by omega), h6, List.map_append, List.getElem?_append_left (by simpa using hj)]
        · by_cases hj2 : j < zs.length + ys.length
          · rw [if_pos hj2, if_pos (by omega), List.map_append, List.getElem?_append_right (by simpa using hj)]
            congr 1
            simp only [List.length_map]; omega
          · rw [if_neg hj2, List.getElem?_eq_none (by simp; omega)]
      · simp only [List.mem_cons, List.not_mem_nil, or_false] at hn
        simp only [applyUpd, Heap.get_put, hn, if_false]
      · simp only at hj
        have : ¬ j = id := by omega
        simp only [applyUpd, Heap.get_put, this, if_false]
    · have hgrow := ev_append_grow (nx := s.next) (b := 1) (o := o) hl hf hc hn h3 hfit (by omega) (.inr rfl) (htb _ hbig)
      have hold : (c.drop o).take (zs.length * 1) = zs.map (.int .u8) := by rw [Nat.mul_one]; exact h5
      rw [hold] at hgrow
      have hne : ¬ s.next = id := by omega
      refine ⟨_, [s.next], hgrow, ⟨hr, .inr ⟨s.next, 0, zs.length + ys.length, (zs.map (Value.int .u8)) ++ ys.map (.int .u8), by rw [List.length_append], rfl, by simp, Nat.lt_succ_self _, ?_, by simp, by rw [List.drop_zero, List.map_append, List.take_of_length_le (by simp)]⟩⟩, ⟨Nat.le_succ _, fun j hj hn => ?_⟩, by simp, fun j hj => ?_⟩
      · simp only [applyUpd, Bool.false_eq_true, if_false, Heap.get_put, if_true, hne]
      · simp only [List.mem_cons, List.not_mem_nil, or_false] at hn
        have : ¬ j = s.next := by omega
        simp only [applyUpd, Bool.false_eq_true, if_false, Heap.get_put, hn, this]
      · simp only at hj
        have h6 : ¬ j = s.next := by omega
        have h7 : ¬ j = id := by omega
        simp only [applyUpd, Bool.false_eq_true, if_false, Heap.get_put, h6, h7]

end Go.Abs


/-
  Strings of bytes.
-/
set_option linter.unusedVariables false
set_option linter.unusedSimpArgs false
namespace Go.Abs
open Go

theorem bytes_ext {a b : ByteArray} (h : a.data.toList = b.data.toList) : a = b := by
  obtain ⟨⟨a⟩⟩ := a
  obtain ⟨⟨b⟩⟩ := b
  simp only at h
  rw [h]

theorem bytesOf_map : ∀ (zs : List Int) (acc : ByteArray), bytesOf (zs.map (.int .u8)) acc = some ⟨acc.data ++ (zs.map fun z => UInt8.ofNat z.toNat).toArray⟩ := by
  intro zs
  induction zs with
  | nil => intro acc; simp [bytesOf]
  | cons z zs ih =>
    intro acc
    simp only [List.map_cons, bytesOf, ih]
    congr 1
    apply bytes_ext
    simp [ByteArray.push]

open Classical in
theorem bin_eqlS (a b : ByteArray) : binV .eql (.string a) (.string b) = some (.bool (decide (a = b))) := by
  simp only [binV]
  congr 2
  rw [Bool.eq_iff_iff, beq_iff_eq, decide_eq_true_eq, Go.ByteArray.toList_eq, Go.ByteArray.toList_eq]
  exact ⟨bytes_ext, fun h => by rw [h]⟩

end Go.Abs


/-
  Regions that draw where the calls are quiet.
-/
set_option linter.unusedVariables false
set_option linter.unusedSimpArgs false
namespace Go.Abs
open Go

def WQ (cs : Nat → CallSem) (quiet : List Nat) : Nat → List AOper → Env → St → (Env → St → Prop) → Prop
  | _, [], e, s, Q => Q e s
  | i, o :: r, e, s, Q =>
    match wantedA o e with
    | none => False
    | some true => WOp cs o.op e s fun v s' => (i ∈ quiet → Quiet s s') ∧ WQ cs quiet (i + 1) r (setE e o.dst v) s' Q
    | some false => WQ cs quiet (i + 1) r (setE e o.dst undefV) s Q

theorem Quiet.refl (s : St) : Quiet s s := fun _ _ => rfl

theorem quietAt_append {fs : List Foot} {f : Foot} {j : Nat} (hj : j < fs.length) (h : quietAt fs j) : quietAt (fs ++ [f]) j := by
  intro g hg
  rw [List.getElem?_append_left hj] at hg
  exact h g hg

theorem WQ.draw {cs : Nat → CallSem} {quiet : List Nat} : ∀ {ops : List AOper} {i : Nat} {fs : List Foot} {e : Env} {s : St} {Q : Env → St → Prop}, fs.length = i → (∀ j ∈ quiet, j < i → quietAt fs j) → WQ cs quiet i ops e s Q →
    WDraw cs ops fs e s fun fs e s => (∀ j ∈ quiet, quietAt fs j) ∧ Q e s := by
  intro ops
  induction ops with
  | nil =>
    intro i fs e s Q hl hq h
    refine ⟨fun j hj => ?_, h⟩
    by_cases hlt : j < i
    · exact hq j hj hlt
    · intro f hf
      rw [List.getElem?_eq_none (by omega)] at hf; cases hf
  | cons o r ih =>
    intro i fs e s Q hl hq h
    unfold WQ at h
    unfold WDraw
    split at h
    · exact h.elim
    · rename_i hw
      unfold WOp at h
      split at h
      · exact h.elim
      · rename_i a ha
        simp only [hw, ha]
        refine WVals.mono ?_ h
        rintro v s' ⟨h1, h2⟩
        refine ih (i := i + 1) (by simp [hl]) (fun j hj hlt => ?_) h2
        by_cases hji : j = i
        · subst hji
          intro f hf
          rw [List.getElem?_append_right (by omega)] at hf
          simp [hl] at hf
          subst hf
          exact h1 hj
        · exact quietAt_append (by omega) (hq j hj (by omega))
    · rename_i hw
      simp only [hw]
      refine ih (i := i + 1) (by simp [hl]) (fun j hj hlt => ?_) h
      by_cases hji : j = i
      · subst hji
        intro f hf
        rw [List.getElem?_append_right (by omega)] at hf
        simp [hl] at hf
        subst hf
        exact Quiet.refl s
      · exact quietAt_append (by omega) (hq j hj (by omega))

theorem WQ.mono {cs : Nat → CallSem} {quiet : List Nat} : ∀ {ops : List AOper} {i : Nat} {e : Env} {s : St} {Q R : Env → St → Prop}, (∀ e s, Q e s → R e s) → WQ cs quiet i ops e s Q → WQ cs quiet i ops e s R := by
  intro ops
  induction ops with
  | nil => intro i e s Q R h hq; exact h _ _ hq
  | cons o r ih =>
    intro i e s Q R h hq
    unfold WQ at hq ⊢
    split at hq
    · exact hq.elim
    · unfold WOp at hq ⊢
      split at hq
      · exact hq.elim
      · exact WVals.mono (fun v s ⟨h1, h2⟩ => ⟨h1, ih h h2⟩) hq
    · exact ih h hq

/-! ### rules for the walk -/
end Go.Abs
