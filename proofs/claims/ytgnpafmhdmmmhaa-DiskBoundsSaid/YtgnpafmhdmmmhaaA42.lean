/-
  Rows of plain cells of one's own: appended to, put in, taken out.
-/
import Derived.Test.YtgnpafmhdmmmhaaA41
set_option linter.unusedVariables false
set_option linter.unusedSimpArgs false
set_option maxRecDepth 100000
namespace Go.Abs
open Go

/-- A row of elements of sz plain cells, of one's own. -/
def RowsP (t : TypeId) (sz : Nat) (s : St) (v : Value) (cs : List (List Value)) (S : List Nat) : Prop :=
  (∀ c ∈ cs, c.length = sz ∧ c.all primV = true) ∧ ((v = .slice none 0 0 ∧ cs = [] ∧ S = []) ∨ ∃ id o cap c, v = .slice (some ⟨id, o, none⟩) cs.length cap ∧ S = [id] ∧ cs.length ≤ cap ∧ id < s.next ∧ s.heap.get id = some (.cells c t sz false) ∧ c.all primV = true ∧ o + cap * sz ≤ c.length ∧ (c.drop o).take (cs.length * sz) = cs.flatten)

section
variable {t : TypeId} {sz : Nat} {s s' : St} {v : Value} {cs : List (List Value)} {S T : List Nat}

theorem RowsP.toO (h : RowsP t sz s v cs S) : RowsO t sz s v cs S := by
  obtain ⟨hz, h | ⟨id, o, cap, c, rfl, rfl, h1, h2, h3, h4, h5, h6⟩⟩ := h
  · exact ⟨fun c hc => ⟨(hz c hc).1, prim_cells (hz c hc).2⟩, .inl h⟩
  · exact ⟨fun c hc => ⟨(hz c hc).1, prim_cells (hz c hc).2⟩, .inr ⟨id, o, cap, c, rfl, rfl, h1, h2, h3, h5, h6⟩⟩

theorem RowsP.toV (h : RowsP t sz s v cs S) : RowV sz s v cs := h.toO.toV

theorem RowsP.lt (h : RowsP t sz s v cs S) : ∀ x ∈ S, x < s.next := h.toO.lt

theorem RowsP.kept (h : RowsP t sz s v cs S) (hk : Kept T s s') (hd : ∀ x ∈ S, x ∉ T) : RowsP t sz s' v cs S := by
  obtain ⟨hz, h | ⟨id, o, cap, c, rfl, rfl, h1, h2, h3, h4⟩⟩ := h
  · exact ⟨hz, .inl h⟩
  · exact ⟨hz, .inr ⟨id, o, cap, c, rfl, rfl, h1, Nat.lt_of_lt_of_le h2 hk.1, by rw [hk.2 id h2 (hd id (List.mem_singleton.2 rfl))]; exact h3, h4⟩⟩

theorem RowsP.nil : RowsP t sz s (.slice none 0 0) [] [] := ⟨by simp, .inl ⟨rfl, rfl, rfl⟩⟩

theorem all_flatten {p : Value → Bool} (h : ∀ c ∈ cs, c.all p = true) : cs.flatten.all p = true := by
  rw [List.all_eq_true]
  intro x hx
  obtain ⟨c, hc, hxc⟩ := List.mem_flatten.1 hx
  exact List.all_eq_true.1 (h c hc) x hxc

theorem all_storeL {p : Value → Bool} : ∀ {vs c : List Value} {i : Nat}, c.all p = true → vs.all p = true → (storeL c i vs).all p = true := by
  intro vs
  induction vs with
  | nil => intro c i h _; exact h
  | cons x vs ih =>
    intro c i h hv
    simp only [List.all_cons, Bool.and_eq_true] at hv
    refine ih ?_ hv.2
    rw [List.all_eq_true] at h ⊢
    intro y hy
    rcases List.mem_or_eq_of_mem_set hy with hy | rfl
    · exact h y hy
    · exact hv.1

/-- What is appended. -/
theorem RowsP.append {b : Nat} (h : RowsP t sz s v cs S) {y : Value} {ds : List (List Value)} (hy : RowV sz s y ds) (hdp : ∀ c ∈ ds, c.all primV = true) (hbig : tooBig (cs.length + ds.length) b = false) (hb0 : ∀ n, 0 < n → n ≤ ds.length → tooBig n b = false) :
    ∃ val upd nx S', evP s.heap.get s.next (.append t sz b v y) = some ⟨val, upd, nx⟩ ∧ RowsP t sz ⟨applyUpd s.heap upd, nx⟩ val (cs ++ ds) S' ∧ Kept S s ⟨applyUpd s.heap upd, nx⟩ ∧ (∀ x ∈ S', x ∈ S ∨ s.next ≤ x) := by
  have hl := hy.lenV
  have hf := hy.first
  have hdz := hy.1
  have hdl := flatten_len hdz
  have hcell := flat_cells hdz
  have hall : ∀ c ∈ cs ++ ds, c.length = sz ∧ c.all primV = true := fun c hc => by
    rcases List.mem_append.1 hc with hc | hc
    · exact h.1 c hc
    · exact ⟨(hdz c hc).1, hdp c hc⟩
  have hdpf := all_flatten hdp
  have hcpf := all_flatten fun c hc => (h.1 c hc).2
  have hflat : (cs ++ ds).flatten = cs.flatten ++ ds.flatten := List.flatten_append
  have hfl0 := flatten_len h.toO.1
  have hlen : (cs ++ ds).length = cs.length + ds.length := List.length_append
  obtain ⟨hz, ⟨rfl, rfl, rfl⟩ | ⟨id, o, cap, c, rfl, rfl, h1, h2, h3, hcp, h4, h5⟩⟩ := h
  · by_cases h0 : ds.length = 0
    · have : ds = [] := List.eq_nil_of_length_eq_zero h0
      subst this
      refine ⟨.slice none 0 0, [], s.next, [], ?_, ⟨by simp, .inl ⟨rfl, rfl, rfl⟩⟩, Kept.refl _ _, by simp⟩
      simp only [List.length_nil] at hl hf
      simp [evP, hl, hf]
    · refine ⟨_, _, _, [s.next], ev_append_nil hl hf hcell hdl (by omega) (hb0 _ (by omega) (Nat.le_refl _)), ⟨hall, .inr ⟨s.next, 0, ds.length, ds.flatten, by simp, rfl, by simp, Nat.lt_succ_self _, ?_, hdpf, by omega, ?_⟩⟩, ⟨Nat.le_succ _, fun id hid _ => ?_⟩, by simp⟩
      · simp only [applyUpd, Heap.get_put, if_true]
      · rw [List.nil_append, List.drop_zero, List.take_of_length_le (by omega)]
      · have : ¬ id = s.next := by omega
        simp only [applyUpd, Heap.get_put, this, if_false]
  · have hadd : (cs.length + ds.length) * sz = cs.length * sz + ds.length * sz := Nat.add_mul ..
    by_cases hfit : cs.length + ds.length ≤ cap
    · have hm2 : (cs.length + ds.length) * sz ≤ cap * sz := Nat.mul_le_mul_right _ hfit
      refine ⟨_, _, _, [id], ev_append_in hl hf hcell hdl h3 hfit (by omega), ⟨hall, .inr ⟨id, o, cap, storeL c (o + cs.length * sz) ds.flatten, by rw [hlen], rfl, by rw [hlen]; exact hfit, h2, ?_, all_storeL hcp hdpf, by rw [storeL_length]; exact h4, ?_⟩⟩, ⟨Nat.le_refl _, fun j hj hn => ?_⟩, fun x hx => .inl hx⟩
      · simp only [applyUpd, Heap.get_put, if_true]
      · rw [hflat, hlen]
        apply List.ext_getElem?
        intro j
        rw [List.getElem?_take, List.getElem?_drop, storeL_get _ _ _ _ (by omega)]
        have h6 := congrArg (fun l => l[j]?) h5
        simp only [List.getElem?_take, List.getElem?_drop] at h6
        by_cases hj : j < cs.length * sz
        · rw [if_pos hj] at h6
          rw [if_pos (by omega), if_neg (by omega), h6, List.getElem?_append_left (by omega)]
        · by_cases hj2 : j < (cs.length + ds.length) * sz
          · rw [if_pos hj2, if_pos (by omega), List.getElem?_append_right (by omega)]
            congr 1
            omega
          · rw [if_neg hj2, List.getElem?_eq_none (by rw [List.length_append]; omega)]
      · simp only [List.mem_cons, List.not_mem_nil, or_false] at hn
        simp only [applyUpd, Heap.get_put, hn, if_false]
    · have hle : cs.length * sz ≤ cap * sz := Nat.mul_le_mul_right _ h1
      have hgrow := ev_append_grow (nx := s.next) (b := b) (o := o) hl hf hcell hdl h3 hfit (by omega) (.inr rfl) hbig
      rw [h5] at hgrow
      have hne : ¬ s.next = id := by omega
      refine ⟨_, _, _, [s.next], hgrow, ⟨hall, .inr ⟨s.next, 0, cs.length + ds.length, cs.flatten ++ ds.flatten, by rw [hlen], rfl, by rw [hlen]; exact Nat.le_refl _, Nat.lt_succ_self _, ?_, by rw [List.all_append, hcpf, hdpf]; rfl, by rw [List.length_append]; omega, ?_⟩⟩, ⟨Nat.le_succ _, fun j hj hn => ?_⟩, by simp⟩
      · simp only [applyUpd, Bool.false_eq_true, if_false, Heap.get_put, if_true, hne]
      · rw [List.drop_zero, hlen, hflat, List.take_of_length_le (by rw [List.length_append]; omega)]
      · simp only [List.mem_cons, List.not_mem_nil, or_false] at hn
        have : ¬ j = s.next := by omega
        simp only [applyUpd, Bool.false_eq_true, if_false, Heap.get_put, hn, this]

theorem flat_mid (hz : ∀ c ∈ cs, c.length = sz ∧ c.all isCell = true) (k : Nat) (row : List Value) : (cs.take k ++ row :: cs.drop k).flatten = cs.flatten.take (k * sz) ++ row ++ cs.flatten.drop (k * sz) := by
  rw [List.flatten_append, List.flatten_cons, (row_flat hz k).1, (row_flat hz k).2, List.append_assoc]

/-- slices.Insert of one. -/
theorem RowsP.insert {b : Nat} {ki : FuncId} (hsz : 1 < sz) (h32 : sz < 4294967296) (h : RowsP t sz s v cs S) {yb : Nat} {row : List Value} (hyb : s.heap.get yb = some (.cells row t sz false)) (hyl : yb < s.next) (hrl : row.length = sz) (hrp : row.all primV = true) (hyS : yb ∉ S)
    {k : Nat} (hk : k ≤ cs.length) (hbig : tooBig (cs.length + 1) b = false) (hb1 : tooBig 1 b = false) :
    ∃ val s' S', insSem ki t sz b ki [v, .int .i64 (k : Nat), .slice (some ⟨yb, 0, none⟩) 1 1] s = some (val, s') ∧ RowsP t sz s' val (cs.take k ++ row :: cs.drop k) S' ∧ Kept S s s' ∧ (∀ x ∈ S', x ∈ S ∨ s.next ≤ x) := by
  have hy : RowV sz s (.slice (some ⟨yb, 0, none⟩) 1 1) [row] := ⟨fun c hc => by rw [List.mem_singleton.1 hc]; exact ⟨hrl, prim_cells hrp⟩, .inr ⟨yb, 0, 1, row, t, false, rfl, Nat.le_refl _, hyl, hyb, by simp only [List.length_singleton]; omega, by simp [hrl.symm]⟩⟩
  have hall : ∀ c ∈ cs.take k ++ row :: cs.drop k, c.length = sz ∧ c.all primV = true := fun c hc => by
    rcases List.mem_append.1 hc with hc | hc
    · exact h.1 c (List.mem_of_mem_take hc)
    · rcases List.mem_cons.1 hc with rfl | hc
      · exact ⟨hrl, hrp⟩
      · exact h.1 c (List.mem_of_mem_drop hc)
  have hlen : (cs.take k ++ row :: cs.drop k).length = cs.length + 1 := by simp only [List.length_append, List.length_cons, List.length_take, List.length_drop]; omega
  obtain ⟨a, cap, hv⟩ := h.toV.len
  by_cases hkn : k = cs.length
  · obtain ⟨val, upd, nx, S', he, hR, hK, hS⟩ := h.append (b := b) hy (fun c hc => by rw [List.mem_singleton.1 hc]; exact hrp) hbig (fun n h0 h1 => by
      simp only [List.length_singleton] at h1
      have : n = 1 := by omega
      rw [this]; exact hb1)
    refine ⟨val, _, S', ?_, ?_, hK, hS⟩
    · subst hv
      have hok : cs.length ≤ cap ∧ sliceOk sz s a = true := by
        obtain ⟨_, ⟨h1, h2, h3⟩ | ⟨id, o, cap', c, h1, h2, h3, h4, h5, _⟩⟩ := h
        · simp only [Value.slice.injEq] at h1
          obtain ⟨rfl, h1, rfl⟩ := h1
          exact ⟨by omega, rfl⟩
        · simp only [Value.slice.injEq] at h1
          obtain ⟨rfl, _, rfl⟩ := h1
          exact ⟨h3, by simp [sliceOk, h5]⟩
      simp only [insSem]
      rw [if_pos ⟨trivial, hsz, h32⟩, if_pos (by rw [hkn])]
      unfold insEnd
      rw [if_pos hok, he]
      rfl
    · rw [hkn, List.take_length, List.drop_length]; exact hR
  · have hklt : k < cs.length := by omega
    have hz := h.toO.1
    obtain ⟨_, ⟨rfl, rfl, rfl⟩ | ⟨id, o, cap', c, rfl, rfl, h1, h2, h3, hcp, h4, h5⟩⟩ := h
    · simp at hklt
    cases hv
    have hm1 : cs.length * sz ≤ cap * sz := Nat.mul_le_mul_right _ h1
    have hm2 : k * sz + (cs.length - k) * sz = cs.length * sz := by rw [← Nat.add_mul]; congr 1; omega
    have hm3 : (cs.length + 1) * sz = cs.length * sz + sz := by rw [Nat.add_mul, Nat.one_mul]
    have hne : id ≠ yb := fun e => hyS (by simp [e])
    have hrow : (row.drop 0).take sz = row := by rw [List.drop_zero, List.take_of_length_le (by omega)]
    have hgrow : insGrow c o k cs.length sz row = (cs.take k ++ row :: cs.drop k).flatten := by
      rw [flat_mid hz, ← h5]
      unfold insGrow
      rw [List.take_take, List.drop_take, List.drop_drop, show min (k * sz) (cs.length * sz) = k * sz by omega, show cs.length * sz - k * sz = (cs.length - k) * sz by omega]
    have hins : insSem ki t sz b ki [.slice (some ⟨id, o, none⟩) cs.length cap, .int .i64 (k : Nat), .slice (some ⟨yb, 0, none⟩) 1 1] s = some (if cs.length + 1 ≤ cap then (.slice (some ⟨id, o, none⟩) (cs.length + 1) cap, ⟨s.heap.put id (some (.cells (insPlace c o k cs.length sz row) t sz false)), s.next⟩)
        else (.slice (some ⟨s.next, 0, none⟩) (cs.length + 1) (cs.length + 1), ⟨applyUpd s.heap [(s.next, some (.cells (insGrow c o k cs.length sz row) t sz false)), (id, none)], s.next + 1⟩)) := by
      simp only [insSem]
      rw [if_pos ⟨trivial, hsz, h32⟩, if_neg (by omega), if_pos (by omega)]
      simp only [Int.toNat_natCast, insMid, h3, hyb]
      rw [if_pos ⟨hne, trivial, hsz, trivial, hcp, hrp, by omega, h1, h4, hbig⟩, hrow]
    rw [hins]
    split
    · rename_i hfit
      have hm4 : (cs.length + 1) * sz ≤ cap * sz := Nat.mul_le_mul_right _ hfit
      have hpl := insPlace_eq c o k cs.length sz row (by omega)
      have hgl := insGrow_length c o k cs.length sz row hrl hk (by omega)
      refine ⟨_, _, [id], rfl, ⟨hall, .inr ⟨id, o, cap, insPlace c o k cs.length sz row, by rw [hlen], rfl, by rw [hlen]; exact hfit, h2, by simp only [Heap.get_put, if_true], all_mid hcp hrp, ?_, ?_⟩⟩, ⟨Nat.le_refl _, fun j hj hn => ?_⟩, fun x hx => .inl hx⟩
      · rw [hpl, List.length_append, List.length_append, hgl, List.length_take, List.length_drop]; omega
      · rw [hpl, hlen, List.append_assoc, List.drop_append_of_le_length (by simp; omega), List.drop_of_length_le (l := c.take o) (by simp; omega), List.nil_append, List.take_append_of_le_length (by omega), List.take_of_length_le (by omega)]
        exact hgrow
      · simp only [List.mem_cons, List.not_mem_nil, or_false] at hn
        simp only [Heap.get_put, hn, if_false]
    · have hgl := insGrow_length c o k cs.length sz row hrl hk (by omega)
      have hne2 : ¬ s.next = id := by omega
      refine ⟨_, _, [s.next], rfl, ⟨hall, .inr ⟨s.next, 0, cs.length + 1, insGrow c o k cs.length sz row, by rw [hlen], rfl, by rw [hlen]; exact Nat.le_refl _, Nat.lt_succ_self _, ?_, all_grow hcp hrp, by omega, ?_⟩⟩, ⟨Nat.le_succ _, fun j hj hn => ?_⟩, by simp⟩
      · simp only [applyUpd, Heap.get_put, hne2, if_true, if_false]
      · rw [List.drop_zero, hlen, List.take_of_length_le (by omega)]
        exact hgrow
      · simp only [List.mem_cons, List.not_mem_nil, or_false] at hn
        have : ¬ j = s.next := by omega
        simp only [applyUpd, Heap.get_put, hn, this, if_false]
end

end Go.Abs
