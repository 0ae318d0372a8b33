/-
  Loops as Go's 'range' lays them; numbers of 32 bits; slices of bytes.
-/
import Derived.Test.YtoiedaegnhifpaaDoorA28
set_option linter.unusedVariables false
set_option linter.unusedSimpArgs false
namespace Go.Abs
open Go

/-! ### operations without a rule of their own -/
section
variable (cs : Nat → CallSem) (s : St) (K : Value → St → Prop)
theorem wv_cap (x : Value) : wvals cs s K (.cap x) = bindP (evP s.heap.get s.next (.cap x)) (resK s K) := wv_other cs s K _ (by intro _ _ h; cases h)
theorem wv_appendMake (t : TypeId) (sz b : Nat) (z : List Value) (x n : Value) : wvals cs s K (.appendMake t sz b z x n) = bindP (evP s.heap.get s.next (.appendMake t sz b z x n)) (resK s K) := wv_other cs s K _ (by intro _ _ h; cases h)
theorem wv_clear (sz : Nat) (z : List Value) (x : Value) : wvals cs s K (.clear sz z x) = bindP (evP s.heap.get s.next (.clear sz z x)) (resK s K) := wv_other cs s K _ (by intro _ _ h; cases h)
theorem wv_toString (x : Value) : wvals cs s K (.conv .toString x) = bindP (evP s.heap.get s.next (.conv .toString x)) (resK s K) := wv_other cs s K _ (by intro _ _ h; cases h)
theorem wv_toBytes (t : TypeId) (x : Value) : wvals cs s K (.conv (.toBytes t) x) = bindP (evP s.heap.get s.next (.conv (.toBytes t) x)) (resK s K) := wv_other cs s K _ (by intro _ _ h; cases h)
theorem wv_sameB (x : Value) : wvals cs s K (.conv .sameB x) = bindP (evP s.heap.get s.next (.conv .sameB x)) (resK s K) := wv_other cs s K _ (by intro _ _ h; cases h)
theorem wv_mkIface (t : TypeId) (x : Value) : wvals cs s K (.mkIface t x) = K (.iface t x) s := rfl
theorem wv_minmax (b : Bool) (xs : List Value) : wvals cs s K (.minmax b xs) = bindP (evP s.heap.get s.next (.minmax b xs)) (resK s K) := wv_other cs s K _ (by intro _ _ h; cases h)
end

/-! ### operations on numbers -/
theorem bin_add (k : IntKind) (a b : Int) : binV .add (.int k a) (.int k b) = some (.int k (k.wrap (a + b))) := by simp [binV]
theorem bin_sub (k : IntKind) (a b : Int) : binV .sub (.int k a) (.int k b) = some (.int k (k.wrap (a - b))) := by simp [binV]
theorem bin_mul (k : IntKind) (a b : Int) : binV .mul (.int k a) (.int k b) = some (.int k (k.wrap (a * b))) := by simp [binV]
theorem bin_lss (k : IntKind) (a b : Int) : binV .lss (.int k a) (.int k b) = some (.bool (decide (a < b))) := by simp [binV]
theorem bin_leq (k : IntKind) (a b : Int) : binV .leq (.int k a) (.int k b) = some (.bool (decide (a ≤ b))) := by simp [binV]
theorem bin_gtr (k : IntKind) (a b : Int) : binV .gtr (.int k a) (.int k b) = some (.bool (decide (a > b))) := by simp [binV]
theorem bin_geq (k : IntKind) (a b : Int) : binV .geq (.int k a) (.int k b) = some (.bool (decide (a ≥ b))) := by simp [binV]
theorem bin_eql (k : IntKind) (a b : Int) : binV .eql (.int k a) (.int k b) = some (.bool (a == b)) := by simp [binV]
theorem bin_neq (k : IntKind) (a b : Int) : binV .neq (.int k a) (.int k b) = some (.bool (a != b)) := by simp [binV]
theorem un_not (b : Bool) : unV .not (.bool b) = some (.bool !b) := rfl

/-! ### numbers of 32 bits -/
/-! ### slices of bytes -/
def BytesV (s : St) (v : Value) (zs : List Int) : Prop :=
  (∀ z ∈ zs, 0 ≤ z ∧ z ≤ 255) ∧ ((v = .slice none 0 0 ∧ zs = []) ∨ ∃ id o cap c t sz ro, v = .slice (some ⟨id, o, none⟩) zs.length cap ∧ zs.length ≤ cap ∧ id < s.next ∧ s.heap.get id = some (.cells c t sz ro) ∧ (c.drop o).take zs.length = zs.map (.int .u8) ∧ (ro = true ∨ sz = 1) ∧ o + zs.length ≤ c.length)

def Kept (S : List Nat) (s s' : St) : Prop := s.next ≤ s'.next ∧ ∀ id, id < s.next → id ∉ S → s'.heap.get id = s.heap.get id
theorem Kept.refl (S : List Nat) (s : St) : Kept S s s := ⟨Nat.le_refl _, fun _ _ _ => rfl⟩
theorem Kept.trans {S : List Nat} {a b c : St} (h : Kept S a b) (k : Kept S b c) : Kept S a c :=
  ⟨Nat.le_trans h.1 k.1, fun id hid hn => (k.2 id (Nat.lt_of_lt_of_le hid h.1) hn).trans (h.2 id hid hn)⟩
theorem Kept.sub {S T : List Nat} {a b : St} (h : Kept S a b) (hs : ∀ x ∈ S, x ∈ T) : Kept T a b := ⟨h.1, fun id hid hn => h.2 id hid fun hx => hn (hs id hx)⟩
theorem BytesV.kept {s s' : St} {v : Value} {zs : List Int} (h : BytesV s v zs) (hk : Kept [] s s') : BytesV s' v zs := by
  obtain ⟨hz, h | ⟨id, o, cap, c, t, sz, ro, rfl, h1, h2, h3, h4⟩⟩ := h
  · exact ⟨hz, .inl h⟩
  · exact ⟨hz, .inr ⟨id, o, cap, c, t, sz, ro, rfl, h1, Nat.lt_of_lt_of_le h2 hk.1, by rw [hk.2 id h2 (by simp)]; exact h3, h4⟩⟩

theorem BytesV.len {s : St} {v : Value} {zs : List Int} (h : BytesV s v zs) : ∃ a cap, v = .slice a zs.length cap := by
  obtain ⟨_, ⟨rfl, rfl⟩ | ⟨id, o, cap, c, t, sz, ro, rfl, _⟩⟩ := h
  · exact ⟨_, _, rfl⟩
  · exact ⟨_, _, rfl⟩

theorem BytesV.row {s : St} {v : Value} {zs : List Int} (h : BytesV s v zs) (h0 : 0 < zs.length) : ∃ id o cap c t sz ro, v = .slice (some ⟨id, o, none⟩) zs.length cap ∧ zs.length ≤ cap ∧ id < s.next ∧ s.heap.get id = some (.cells c t sz ro) ∧
    (c.drop o).take zs.length = zs.map (.int .u8) ∧ ∀ i, i < zs.length → c[o + i]? = some (.int .u8 (zs.getD i 0)) := by
  obtain ⟨hz, ⟨rfl, rfl⟩ | ⟨id, o, cap, c, t, sz, ro, rfl, h1, h2, h3, h4, _⟩⟩ := h
  · simp at h0
  · refine ⟨id, o, cap, c, t, sz, ro, rfl, h1, h2, h3, h4, fun i hi => ?_⟩
    have := congrArg (fun l => l[i]?) h4
    simp only [List.getElem?_take, hi, if_true, List.getElem?_drop, List.getElem?_map, List.getElem?_eq_getElem hi, Option.map_some] at this
    rw [this, List.getD_eq_getElem?_getD, List.getElem?_eq_getElem hi, Option.getD_some]

section
variable {g : Nat → Option AObj} {nx id o len cap lo hi sz z : Nat} {c : List Value} {t : TypeId} {ro : Bool} {k k' : IntKind}
theorem ev_slice2 (hg : g id = some (.cells c t z ro)) (hz : ro = true ∨ z = sz ∨ z = sz + 4294967296) (h1 : lo ≤ hi) (h2 : hi ≤ cap) :
    evP g nx (.slice (.slice sz) (.slice (some ⟨id, o, none⟩) len cap) (some (.int k lo)) (some (.int k' hi)) none) = some ⟨.slice (some ⟨id, o + lo * sz, none⟩) (hi - lo) (cap - lo), [], nx⟩ := by
  have a1 : (lo : Int) ≤ hi := by omega
  have a2 : (hi : Int) ≤ cap := by omega
  simp [evP, boundsV, boundV, hg, hz, a1, a2, h1, h2]
theorem ev_sliceH (hg : g id = some (.cells c t z ro)) (hz : ro = true ∨ z = sz ∨ z = sz + 4294967296) (h2 : hi ≤ cap) :
    evP g nx (.slice (.slice sz) (.slice (some ⟨id, o, none⟩) len cap) none (some (.int k' hi)) none) = some ⟨.slice (some ⟨id, o, none⟩) hi cap, [], nx⟩ := by
  have a2 : (hi : Int) ≤ cap := by omega
  simp [evP, boundsV, boundV, hg, hz, a2, h2]
theorem ev_sliceL (hg : g id = some (.cells c t z ro)) (hz : ro = true ∨ z = sz ∨ z = sz + 4294967296) (h1 : lo ≤ len) (h2 : len ≤ cap) :
    evP g nx (.slice (.slice sz) (.slice (some ⟨id, o, none⟩) len cap) (some (.int k lo)) none none) = some ⟨.slice (some ⟨id, o + lo * sz, none⟩) (len - lo) (cap - lo), [], nx⟩ := by
  have a1 : (lo : Int) ≤ len := by omega
  simp [evP, boundsV, boundV, hg, hz, a1, h1, h2]
end

theorem BytesV.take {s : St} {v : Value} {zs : List Int} (h : BytesV s v zs) {n : Nat} (hn : n ≤ zs.length) : ∃ v', BytesV s v' (zs.take n) ∧ ∀ (k : IntKind), evP s.heap.get s.next (.slice (.slice 1) v none (some (.int k n)) none) = some ⟨v', [], s.next⟩ := by
  obtain ⟨hz, ⟨rfl, rfl⟩ | ⟨id, o, cap, c, t, sz, ro, rfl, h1, h2, h3, h4, h5⟩⟩ := h
  · have : n = 0 := by simpa using hn
    subst this
    exact ⟨.slice none 0 0, ⟨by simp, .inl ⟨rfl, rfl⟩⟩, fun k => by simp [evP, boundsV, boundV]⟩
  · have hl : (zs.take n).length = n := by rw [List.length_take]; omega
    refine ⟨.slice (some ⟨id, o, none⟩) n cap, ⟨fun z hzz => hz z (List.mem_of_mem_take hzz), .inr ⟨id, o, cap, c, t, sz, ro, by rw [hl], by omega, h2, h3, ?_, h5.1, by omega⟩⟩, fun k => ev_sliceH h3 (h5.1.imp_right Or.inl) (by omega)⟩
    rw [hl, List.map_take, ← h4, List.take_take]
    congr 1; omega

theorem BytesV.drop {s : St} {v : Value} {zs : List Int} (h : BytesV s v zs) {n : Nat} (hn : n ≤ zs.length) : ∃ v', BytesV s v' (zs.drop n) ∧ ∀ (k : IntKind), evP s.heap.get s.next (.slice (.slice 1) v (some (.int k n)) none none) = some ⟨v', [], s.next⟩ := by
  obtain ⟨hz, ⟨rfl, rfl⟩ | ⟨id, o, cap, c, t, sz, ro, rfl, h1, h2, h3, h4, h5⟩⟩ := h
  · have : n = 0 := by simpa using hn
    subst this
    exact ⟨.slice none 0 0, ⟨by simp, .inl ⟨rfl, rfl⟩⟩, fun k => by simp [evP, boundsV, boundV]⟩
  · have hl : (zs.drop n).length = zs.length - n := List.length_drop
    refine ⟨.slice (some ⟨id, o + n * 1, none⟩) (zs.length - n) (cap - n), ⟨fun z hzz => hz z (List.mem_of_mem_drop hzz), .inr ⟨id, o + n * 1, cap - n, c, t, sz, ro, by rw [hl], by omega, h2, h3, ?_, h5.1, by omega⟩⟩, fun k => ev_sliceL h3 (h5.1.imp_right Or.inl) hn h1⟩
    rw [hl, List.map_drop, ← h4, List.drop_take, List.drop_drop]
    congr 2; omega

theorem BytesV.cut {s : St} {v : Value} {zs : List Int} (h : BytesV s v zs) {m n : Nat} (hmn : m ≤ n) (hn : n ≤ zs.length) : ∃ v', BytesV s v' ((zs.take n).drop m) ∧ ∀ (k k' : IntKind), evP s.heap.get s.next (.slice (.slice 1) v (some (.int k m)) (some (.int k' n)) none) = some ⟨v', [], s.next⟩ := by
  obtain ⟨hz, ⟨rfl, rfl⟩ | ⟨id, o, cap, c, t, sz, ro, rfl, h1, h2, h3, h4, h5⟩⟩ := h
  · have : n = 0 := by simpa using hn
    subst this
    have : m = 0 := by omega
    subst this
    exact ⟨.slice none 0 0, ⟨by simp, .inl ⟨rfl, rfl⟩⟩, fun k k' => by simp [evP, boundsV, boundV]⟩
  · have hl : ((zs.take n).drop m).length = n - m := by rw [List.length_drop, List.length_take]; omega
    refine ⟨.slice (some ⟨id, o + m * 1, none⟩) (n - m) (cap - m), ⟨fun z hzz => hz z (List.mem_of_mem_take (List.mem_of_mem_drop hzz)), .inr ⟨id, o + m * 1, cap - m, c, t, sz, ro, by rw [hl], by omega, h2, h3, ?_, h5.1, by omega⟩⟩, fun k k' => ev_slice2 h3 (h5.1.imp_right Or.inl) hmn (by omega)⟩
    rw [hl, List.map_drop, List.map_take, ← h4, List.take_take, List.drop_take, List.drop_drop]
    congr 2 <;> omega

end Go.Abs
