/-
  Rows of plain cells of one's own: appended to, put in, taken out.
-/
import Derived.Test.YtehgdocbabaldaaGreatA41
import Derived.Shelf.SlIterI.Nil
import Derived.Shelf.SortM.Plain
import Derived.Shelf.SortM.SortNone
set_option linter.unusedVariables false
set_option linter.unusedSimpArgs false
set_option maxRecDepth 100000
namespace Go.Abs
open Go

def RowsP (t : TypeId) (sz : Nat) (s : St) (v : Value) (cs : List (List Value)) (S : List Nat) : Prop :=
  (∀ c ∈ cs, c.length = sz ∧ c.all primV = true) ∧ ((v = .slice none 0 0 ∧ cs = [] ∧ S = []) ∨ ∃ id o cap c, v = .slice (some ⟨id, o, none⟩) cs.length cap ∧ S = [id] ∧ cs.length ≤ cap ∧ id < s.next ∧ s.heap.get id = some (.cells c t sz false) ∧ c.all primV = true ∧ o + cap * sz ≤ c.length ∧ (c.drop o).take (cs.length * sz) = cs.flatten)

section
variable {t : TypeId} {sz : Nat} {s s' : St} {v : Value} {cs : List (List Value)} {S T : List Nat}

theorem RowsP.toO (h : RowsP t sz s v cs S) : RowsO t sz s v cs S := by
  obtain ⟨hz, h | ⟨id, o, cap, c, rfl, rfl, h1, h2, h3, h4, h5, h6⟩⟩ := h
  · exact ⟨fun c hc => ⟨(hz c hc).1, prim_cells (hz c hc).2⟩, .inl h⟩
  · exact ⟨fun c hc => ⟨(hz c hc).1, prim_cells (hz c hc).2⟩, .inr ⟨id, o, cap, c, rfl, rfl, h1, h2, h3, h5, h6⟩⟩

theorem RowsP.toV (h : RowsP t sz s v cs S) : RowV sz s v cs := h.toO.toV

theorem RowsP.lt (h : RowsP t sz s v cs S) : ∀ x ∈ S, x < s.next := h.toO.lt

theorem RowsP.kept (h : RowsP t sz s v cs S) (hk : Kept T s s') (hd : ∀ x ∈ S, x ∉ T) : RowsP t sz s' v cs S := by
  obtain ⟨hz, h | ⟨id, o, cap, c, rfl, rfl, h1, h2, h3, h4⟩⟩ := h
  · exact ⟨hz, .inl h⟩
  · exact ⟨hz, .inr ⟨id, o, cap, c, rfl, rfl, h1, Nat.lt_of_lt_of_le h2 hk.1, by rw [hk.2 id h2 (hd id (List.mem_singleton.2 rfl))]; exact h3, h4⟩⟩

theorem RowsP.nil : RowsP t sz s (.slice none 0 0) [] [] := ⟨by simp, .inl ⟨rfl, rfl, rfl⟩⟩

theorem all_flatten {p : Value → Bool} (h : ∀ c ∈ cs, c.all p = true) : cs.flatten.all p = true := by
  rw [List.all_eq_true]
  intro x hx
  obtain ⟨c, hc, hxc⟩ := List.mem_flatten.1 hx
  exact List.all_eq_true.1 (h c hc) x hxc

theorem all_storeL {p : Value → Bool} : ∀ {vs c : List Value} {i : Nat}, c.all p = true → vs.all p = true → (storeL c i vs).all p = true := by
  intro vs
  induction vs with
  | nil => intro c i h _; exact h
  | cons x vs ih =>
    intro c i h hv
    simp only [List.all_cons, Bool.and_eq_true] at hv
    refine ih ?_ hv.2
    rw [List.all_eq_true] at h ⊢
    intro y hy
    rcases List.mem_or_eq_of_mem_set hy with hy | rfl
    · exact h y hy
    · exact hv.1

theorem RowsP.append {b : Nat} (h : RowsP t sz s v cs S) {y : Value} {ds : List (List Value)} (hy : RowV sz s y ds) (hdp : ∀ c ∈ ds, c.all primV = true) (hbig : tooBig (cs.length + ds.length) b = false) (hb0 : ∀ n, 0 < n → n ≤ ds.length → tooBig n b = false) :
    ∃ val upd nx S', evP s.heap.get s.next (.append t sz b v y) = some ⟨val, upd, nx⟩ ∧ RowsP t sz ⟨applyUpd s.heap upd, nx⟩ val (cs ++ ds) S' ∧ Kept S s ⟨applyUpd s.heap upd, nx⟩ ∧ (∀ x ∈ S', x ∈ S ∨ s.next ≤ x) := by
  have hl := hy.lenV
  have hf := hy.first
  have hdz := hy.1
  have hdl := flatten_len hdz
  have hcell := flat_cells hdz
  have hall : ∀ c ∈ cs ++ ds, c.length = sz ∧ c.all primV = true := fun c hc => by
    rcases List.mem_append.1 hc with hc | hc
    · exact h.1 c hc
    · exact ⟨(hdz c hc).1, hdp c hc⟩
  have hdpf := all_flatten hdp
  have hcpf := all_flatten fun c hc => (h.1 c hc).2
  have hflat : (cs ++ ds).flatten = cs.flatten ++ ds.flatten := List.flatten_append
  have hfl0 := flatten_len h.toO.1
  have hlen : (cs ++ ds).length = cs.length + ds.length := List.length_append
  obtain ⟨hz, ⟨rfl, rfl, rfl⟩ | ⟨id, o, cap, c, rfl, rfl, h1, h2, h3, hcp, h4, h5⟩⟩ := h
  · by_cases h0 : ds.length = 0
    · have : ds = [] := List.eq_nil_of_length_eq_zero h0
      subst this
      refine ⟨.slice none 0 0, [], s.next, [], ?_, ⟨by simp, .inl ⟨rfl, rfl, rfl⟩⟩, Kept.refl _ _, by simp⟩
      simp only [List.length_nil] at hl hf
      simp [evP, hl, hf]
    · refine ⟨_, _, _, [s.next], ev_append_nil hl hf hcell hdl (by omega) (hb0 _ (by omega) (Nat.le_refl _)), ⟨hall, .inr ⟨s.next, 0, ds.length, ds.flatten, by simp, rfl, by simp, Nat.lt_succ_self _, ?_, hdpf, by omega, ?_⟩⟩, ⟨Nat.le_succ _, fun id hid _ => ?_⟩, by simp⟩
      · simp only [applyUpd, Heap.get_put, if_true]
      · rw [List.nil_append, List.drop_zero, List.take_of_length_le (by omega)]
      · have : ¬ id = s.next := by omega
        simp only [applyUpd, Heap.get_put, this, if_false]
  · have hadd : (cs.length + ds.length) * sz = cs.length * sz + ds.length * sz := Nat.add_mul ..
    by_cases hfit : cs.length + ds.length ≤ cap
    · have hm2 : (cs.length + ds.length) * sz ≤ cap * sz := Nat.mul_le_mul_right _ hfit
      refine ⟨_, _, _, [id], ev_append_in hl hf hcell hdl h3 hfit (by omega), ⟨hall, .inr ⟨id, o, cap, storeL c (o + cs.length * sz) ds.flatten, by rw [hlen], rfl, by rw [hlen]; exact hfit, h2, ?_, all_storeL hcp hdpf, by rw [storeL_length]; exact h4, ?_⟩⟩, ⟨Nat.le_refl _, fun j hj hn => ?_⟩, fun x hx => .inl hx⟩
      · simp only [applyUpd, Heap.get_put, if_true]
      · rw [hflat, hlen]
        apply List.ext_getElem?
        intro j
        rw [List.getElem?_take, List.getElem?_drop, storeL_get _ _ _ _ (by omega)]
        have h6 := congrArg (fun l => l[j]?) h5
        simp only [List.getElem?_take, List.getElem?_drop] at h6
        by_cases hj : j < cs.length * sz
        · rw [if_pos hj] at h6
          rw [if_pos (by omega), if_neg (by omega), h6, List.getElem?_append_left (by omega)]
        · by_cases hj2 : j < (cs.length + ds.length) * sz
          · rw [if_pos hj2, if_pos (by omega), List.getElem?_append_right (by omega)]
            congr 1
            omega
          · rw [if_neg hj2, List.getElem?_eq_none (by rw [List.length_append]; omega)]
      · simp only [List.mem_cons, List.not_mem_nil, or_false] at hn
        simp only [applyUpd, Heap.get_put, hn, if_false]
    · have hle : cs.length * sz ≤ cap * sz := Nat.mul_le_mul_right _ h1
      have hgrow := ev_append_grow (nx := s.next) (b := b) (o := o) hl hf hcell hdl h3 hfit (by omega) (.inr rfl) hbig
      rw [h5] at hgrow
      have hne : ¬ s.next = id := by omega
      refine ⟨_, _, _, [s.next], hgrow, ⟨hall, .inr ⟨s.next, 0, cs.length + ds.length, cs.flatten ++ ds.flatten, by rw [hlen], rfl, by rw [hlen]; exact Nat.le_refl _, Nat.lt_succ_self _, ?_, by rw [List.all_append, hcpf, hdpf]; rfl, by rw [List.length_append]; omega, ?_⟩⟩, ⟨Nat.le_succ _, fun j hj hn => ?_⟩, by simp⟩
      · simp only [applyUpd, Bool.false_eq_true, if_false, Heap.get_put, if_true, hne]
      · rw [List.drop_zero, hlen, hflat, List.take_of_length_le (by rw [List.length_append]; omega)]
      · simp only [List.mem_cons, List.not_mem_nil, or_false] at hn
        have : ¬ j = s.next := by omega
        simp only [applyUpd, Bool.false_eq_true, if_false, Heap.get_put, hn, this]

theorem flat_mid (hz : ∀ c ∈ cs, c.length = sz ∧ c.all isCell = true) (k : Nat) (row : List Value) : (cs.take k ++ row :: cs.drop k).flatten = cs.flatten.take (k * sz) ++ row ++ cs.flatten.drop (k * sz) := by
  rw [List.flatten_append, List.flatten_cons, (row_flat hz k).1, (row_flat hz k).2, List.append_assoc]

theorem RowsP.insert {b : Nat} {ki : FuncId} (hsz : 1 < sz) (h32 : sz < 4294967296) (h : RowsP t sz s v cs S) {yb : Nat} {row : List Value} (hyb : s.heap.get yb = some (.cells row t sz false)) (hyl : yb < s.next) (hrl : row.length = sz) (hrp : row.all primV = true) (hyS : yb ∉ S)
    {k : Nat} (hk : k ≤ cs.length) (hbig : tooBig (cs.length + 1) b = false) (hb1 : tooBig 1 b = false) :
    ∃ val s' S', insSem ki t sz b ki [v, .int .i64 (k : Nat), .slice (some ⟨yb, 0, none⟩) 1 1] s = some (val, s') ∧ RowsP t sz s' val (cs.take k ++ row :: cs.drop k) S' ∧ Kept S s s' ∧ (∀ x ∈ S', x ∈ S ∨ s.next ≤ x) := by
  have hy : RowV sz s (.slice (some ⟨yb, 0, none⟩) 1 1) [row] := ⟨fun c hc => by rw [List.mem_singleton.1 hc]; exact ⟨hrl, prim_cells hrp⟩, .inr ⟨yb, 0, 1, row, t, false, rfl, Nat.le_refl _, hyl, hyb, by simp only [List.length_singleton]; omega, by simp [hrl.symm]⟩⟩
  have hall : ∀ c ∈ cs.take k ++ row :: cs.drop k, c.length = sz ∧ c.all primV = true := fun c hc => by
    rcases List.mem_append.1 hc with hc | hc
    · exact h.1 c (List.mem_of_mem_take hc)
    · rcases List.mem_cons.1 hc with rfl | hc
      · exact ⟨hrl, hrp⟩
      · exact h.1 c (List.mem_of_mem_drop hc)
  have hlen : (cs.take k ++ row :: cs.drop k).length = cs.length + 1 := by simp only [List.length_append, List.length_cons, List.length_take, List.length_drop]; omega
  obtain ⟨a, cap, hv⟩ := h.toV.len
  by_cases hkn : k = cs.length
  · obtain ⟨val, upd, nx, S', he, hR, hK, hS⟩ := h.append (b := b) hy (fun c hc => by rw [List.mem_singleton.1 hc]; exact hrp) hbig (fun n h0 h1 => by
      simp only [List.length_singleton] at h1
      have : n = 1 := by omega
      rw [this]; exact hb1)
    refine ⟨val, _, S', ?_, ?_, hK, hS⟩
    · subst hv
      have hok : cs.length ≤ cap ∧ sliceOk sz s a = true := by
        obtain ⟨_, ⟨h1, h2, h3⟩ | ⟨id, o, cap', c, h1, h2, h3, h4, h5, _⟩⟩ := h
        · simp only [Value.slice.injEq] at h1
          obtain ⟨rfl, h1, rfl⟩ := h1
          exact ⟨by omega, rfl⟩
        · simp only [Value.slice.injEq] at h1
          obtain ⟨rfl, _, rfl⟩ := h1
          exact ⟨h3, by simp [sliceOk, h5]⟩
      simp only [insSem]
      rw [if_pos ⟨trivial, hsz, h32⟩, if_pos (by rw [hkn])]
      unfold insEnd
      rw [if_pos hok, he]
      rfl
    · rw [hkn, List.take_length, List.drop_length]; exact hR
  · have hklt : k < cs.length := by omega
    have hz := h.toO.1
    obtain ⟨_, ⟨rfl, rfl, rfl⟩ | ⟨id, o, cap', c, rfl, rfl, h1, h2, h3, hcp, h4, h5⟩⟩ := h
    · simp at hklt
    cases hv
    have hm1 : cs.length * sz ≤ cap * sz := Nat.mul_le_mul_right _ h1
    have hm2 : k * sz + (cs.length - k) * sz = cs.length * sz := by rw [← Nat.add_mul]; congr 1; omega
    have hm3 : (cs.length + 1) * sz = cs.length * sz + sz := by rw [Nat.add_mul, Nat.one_mul]
    have hne : id ≠ yb := fun e => hyS (by simp [e])
    have hrow : (row.drop 0).take sz = row := by rw [List.drop_zero, List.take_of_length_le (by omega)]
    have hgrow : insGrow c o k cs.length sz row = (cs.take k ++ row :: cs.drop k).flatten := by
      rw [flat_mid hz, ← h5]
      unfold insGrow
      rw [List.take_take, List.drop_take, List.drop_drop, show min (k * sz) (cs.length * sz) = k * sz by omega, show cs.length * sz - k * sz = (cs.length - k) * sz by omega]
    have hins : insSem ki t sz b ki [.slice (some ⟨id, o, none⟩) cs.length cap, .int .i64 (k : Nat), .slice (some ⟨yb, 0, none⟩) 1 1] s = some (if cs.length + 1 ≤ cap then (.slice (some ⟨id, o, none⟩) (cs.length + 1) cap, ⟨s.heap.put id (some (.cells (insPlace c o k cs.length sz row) t sz false)), s.next⟩)
        else (.slice (some ⟨s.next, 0, none⟩) (cs.length + 1) (cs.length + 1), ⟨applyUpd s.heap [(s.next, some (.cells (insGrow c o k cs.length sz row) t sz false)), (id, none)], s.next + 1⟩)) := by
      simp only [insSem]
      rw [if_pos ⟨trivial, hsz, h32⟩, if_neg (by omega), if_pos (by omega)]
      simp only [Int.toNat_natCast, insMid, h3, hyb]
      rw [if_pos ⟨hne, trivial, hsz, trivial, hcp, hrp, by omega, h1, h4, hbig⟩, hrow]
    rw [hins]
    split
    · rename_i hfit
      have hm4 : (cs.length + 1) * sz ≤ cap * sz := Nat.mul_le_mul_right _ hfit
      have hpl := insPlace_eq c o k cs.length sz row (by omega)
      have hgl := insGrow_length c o k cs.length sz row hrl hk (by omega)
      refine ⟨_, _, [id], rfl, ⟨hall, .inr ⟨id, o, cap, insPlace c o k cs.length sz row, by rw [hlen], rfl, by rw [hlen]; exact hfit, h2, by simp only [Heap.get_put, if_true], all_mid hcp hrp, ?_, ?_⟩⟩, ⟨Nat.le_refl _, fun j hj hn => ?_⟩, fun x hx => .inl hx⟩
      · rw [hpl, List.length_append, List.length_append, hgl, List.length_take, List.length_drop]; omega
      · rw [hpl, hlen, List.append_assoc, List.drop_append_of_le_length (by simp; omega), List.drop_of_length_le (l := c.take o) (by simp; omega), List.nil_append, List.take_append_of_le_length (by omega), List.take_of_length_le (by omega)]
        exact hgrow
      · simp only [List.mem_cons, List.not_mem_nil, or_false] at hn
        simp only [Heap.get_put, hn, if_false]
    · have hgl := insGrow_length c o k cs.length sz row hrl hk (by omega)
      have hne2 : ¬ s.next = id := by omega
      refine ⟨_, _, [s.next], rfl, ⟨hall, .inr ⟨s.next, 0, cs.length + 1, insGrow c o k cs.length sz row, by rw [hlen], rfl, by rw [hlen]; exact Nat.le_refl _, Nat.lt_succ_self _, ?_, all_grow hcp hrp, by omega, ?_⟩⟩, ⟨Nat.le_succ _, fun j hj hn => ?_⟩, by simp⟩
      · simp only [applyUpd, Heap.get_put, hne2, if_true, if_false]
      · rw [List.drop_zero, hlen, List.take_of_length_le (by omega)]
        exact hgrow
      · simp only [List.mem_cons, List.not_mem_nil, or_false] at hn
        have : ¬ j = s.next := by omega
        simp only [applyUpd, Heap.get_put, hn, this, if_false]
end

end Go.Abs


/-
  A slice of records as a law's argument.
-/
set_option linter.unusedVariables false
set_option linter.unusedSimpArgs false
set_option maxRecDepth 100000
namespace Go.Abs
open Go

theorem rows_of {α : Type} {cells : α → List Value} {W : α → Prop} {c : Nat} {zs : List Value} {cap : Nat} (hz : zs.length = cap * c) (h : ∀ i, i < cap → ∃ r, (zs.drop (i * c)).take c = cells r ∧ W r) :
    ∀ n, n ≤ cap → ∃ M : List α, M.length = n ∧ zs.take (n * c) = (M.map cells).flatten ∧ ∀ r ∈ M, W r := by
  intro n
  induction n with
  | zero => intro _; exact ⟨[], rfl, by simp, by simp⟩
  | succ n ih =>
    intro hn
    obtain ⟨M, h1, h2, h3⟩ := ih (by omega)
    obtain ⟨r, h4, h5⟩ := h n (by omega)
    refine ⟨M ++ [r], by rw [List.length_append, h1]; rfl, ?_, fun x hx => ?_⟩
    · rw [Nat.add_mul, Nat.one_mul, List.take_add, h2, h4, List.map_append, List.flatten_append, List.map_cons, List.map_nil, List.flatten_cons, List.flatten_nil, List.append_nil]
    · rcases List.mem_append.1 hx with hx | hx
      · exact h3 x hx
      · rw [List.mem_singleton.1 hx]; exact h5

theorem open_recs {α : Type} (cells : α → List Value) (R : α → Prop) {H : Type} {enc : TypeId × Value → H} {P : Program} {w : World} {base : Nat} {t e : TypeId} {c : Nat} {v : Value} {d : DataW H} {ps : List MemPlace} (ht : P.underlying t = some (.slice e)) (hc : P.cellsOf e = c) (hc0 : 0 < c)
    (hlen : ∀ r, (cells r).length = c) (hprim : ∀ r, (cells r).all primV = true) (hQ : ∀ n cs x, DataW.trod enc P w 0 (fun _ => true) true n e cs = some x → cs.length = c → ∃ r, cs = cells r ∧ R r)
    (hval : Value.okWide P w .any base t v) (h : DataW.Trod enc P w 0 (fun _ => true) true t v d ps) :
    ∃ (av : Value) (l : Args) (M : List α), RowV c ⟨Args.heap l, 1⟩ av (M.map cells) ∧ (∀ r ∈ M, R r) ∧ M.length ≤ maxLen ∧ (∀ p ∈ l, p.1 < 1 ∧ (∀ β, ORel β p.2.1 p.2.2 w.heap[p.2.1.blk]?) ∧ p.2.2.isRo = true) ∧ VRel (Args.map' l) av v := by
  obtain ⟨av, l, len, cap, zs, hlc, hcm, hzl, hrow, hl, hav, hrel⟩ := open_rowsA (c := c) (Q := fun cs => ∃ r, cs = cells r ∧ R r) ht hc hc0 hQ (fun cs ⟨r, hr, _⟩ => by rw [hr]; exact hprim r) hval h 0
  obtain ⟨M, hM, hMf, hMR⟩ := rows_of hzl hrow len hlc
  have hmap : ∀ p ∈ l, Args.map' l 0 = some p.2.1 := by
    rcases hav with ⟨rfl, rfl, rfl⟩ | ⟨T, r, rfl, rfl⟩
    · intro p hp; cases hp
    · intro p hp; simp only [List.mem_singleton] at hp; subst hp; rfl
  refine ⟨av, l, M, ⟨fun x hx => ?_, ?_⟩, hMR, by omega, fun p hp => ⟨by rw [(hl p hp).1]; exact Nat.zero_lt_one, (hl p hp).2.1, (hl p hp).2.2⟩, hrel _ hmap⟩
  · obtain ⟨r, _, rfl⟩ := List.mem_map.1 hx
    exact ⟨hlen r, prim_cells (hprim r)⟩
  · rcases hav with ⟨rfl, rfl, rfl⟩ | ⟨T, r, rfl, rfl⟩
    · have : M = [] := List.eq_nil_of_length_eq_zero (by omega)
      subst this
      exact .inl ⟨rfl, rfl⟩
    · have hm : len * c ≤ cap * c := Nat.mul_le_mul_right _ hlc
      exact .inr ⟨0, 0, cap, zs, T, true, by rw [List.length_map, hM], by rw [List.length_map, hM]; exact hlc, Nat.zero_lt_one, rfl, by rw [List.length_map, hM]; omega, by rw [List.length_map, hM, List.drop_zero]; exact hMf⟩

end Go.Abs


/-
  slices.Sorted(maps.Keys(m)) at keys of the kind int: a call whose answer is known.
-/
set_option linter.unusedVariables false
set_option linter.unusedSimpArgs false
set_option maxRecDepth 100000
namespace Go.Abs
open Go Go.Abs.K Go.RowKit Go.ChangeShapes Go.WideShapes

/-! ### Sorting -/
def insZ (x : Int) : List Int → List Int
  | [] => [x]
  | y :: l => if x ≤ y then x :: y :: l else y :: insZ x l
def sortZ : List Int → List Int
  | [] => []
  | x :: l => insZ x (sortZ l)

theorem insZ_perm (x : Int) (l : List Int) : (insZ x l).Perm (x :: l) := by
  induction l with
  | nil => exact .refl _
  | cons y l ih =>
    unfold insZ
    split
    · exact .refl _
    · exact (ih.cons y).trans (.swap x y l)
theorem sortZ_perm (l : List Int) : (sortZ l).Perm l := by
  induction l with
  | nil => exact .refl _
  | cons x l ih => exact (insZ_perm x _).trans (ih.cons x)
theorem insZ_sorted {x : Int} {l : List Int} (h : l.Pairwise (· ≤ ·)) : (insZ x l).Pairwise (· ≤ ·) := by
  induction l with
  | nil => simp [insZ]
  | cons y l ih =>
    have h2 := List.pairwise_cons.1 h
    unfold insZ
    split
    · rename_i hxy
      refine List.pairwise_cons.2 ⟨fun z hz => ?_, h⟩
      rcases List.mem_cons.1 hz with rfl | hz
      · exact hxy
      · exact Int.le_trans hxy (h2.1 z hz)
    · rename_i hxy
      refine List.pairwise_cons.2 ⟨fun z hz => ?_, ih h2.2⟩
      rcases List.mem_cons.1 ((insZ_perm x l).mem_iff.1 hz) with rfl | hz
      · omega
      · exact h2.1 z hz
theorem sortZ_sorted (l : List Int) : (sortZ l).Pairwise (· ≤ ·) := by
  induction l with
  | nil => exact .nil
  | cons x l ih => exact insZ_sorted ih
theorem sortZ_length (l : List Int) : (sortZ l).length = l.length := (sortZ_perm l).length_eq
theorem sorted_unique {a b : List Int} (hp : a.Perm b) (ha : a.Pairwise (· ≤ ·)) (hb : b.Pairwise (· ≤ ·)) : a = b :=
  hp.eq_of_pairwise (fun x y _ _ h1 h2 => Int.le_antisymm h1 h2) ha hb
theorem merge_sortZ {a b : List Int} (hp : a.Perm b) : a.mergeSort (fun x y => decide (x ≤ y)) = sortZ b := by
  refine sorted_unique ((List.mergeSort_perm a _).trans (hp.trans (sortZ_perm b).symm)) ?_ (sortZ_sorted b)
  have := List.pairwise_mergeSort (le := fun x y : Int => decide (x ≤ y)) (fun a b c h1 h2 => by simp only [decide_eq_true_eq] at *; omega) (fun a b => by simp only [Bool.or_eq_true, decide_eq_true_eq]; omega) a
  exact this.imp fun h => by simpa using h

/-! ### What such a map must be -/
def keyInt : Value → Option Int
  | .int .i64 n => if decide (-9223372036854775808 ≤ n) && decide (n < 9223372036854775808) then some n else none
  | _ => none
def keysInt : List MapEntry → Option (List Int)
  | [] => some []
  | e :: es => (keyInt e.key).bind fun n => (keysInt es).map fun l => n :: l
def freshZ : List Int → Bool
  | [] => true
  | x :: l => l.all (fun y => decide (x ≠ y)) && freshZ l
def freshN : List Nat → Bool
  | [] => true
  | x :: l => l.all (fun y => decide (x ≠ y)) && freshN l
theorem freshZ_nodup {l : List Int} (h : freshZ l = true) : l.Nodup := by
  induction l with
  | nil => exact .nil
  | cons x l ih =>
    simp only [freshZ, Bool.and_eq_true, List.all_eq_true, decide_eq_true_eq] at h
    exact List.nodup_cons.2 ⟨fun hm => h.1 x hm rfl, ih h.2⟩
theorem freshN_nodup {l : List Nat} (h : freshN l = true) : l.Nodup := by
  induction l with
  | nil => exact .nil
  | cons x l ih =>
    simp only [freshN, Bool.and_eq_true, List.all_eq_true, decide_eq_true_eq] at h
    exact List.nodup_cons.2 ⟨fun hm => h.1 x hm rfl, ih h.2⟩
theorem nodup_freshZ {l : List Int} (h : l.Nodup) : freshZ l = true := by
  induction l with
  | nil => rfl
  | cons x l ih =>
    have h := List.nodup_cons.1 h
    simp only [freshZ, Bool.and_eq_true, List.all_eq_true, decide_eq_true_eq]
    exact ⟨fun y hy e => h.1 (e ▸ hy), ih h.2⟩
theorem nodup_freshN {l : List Nat} (h : l.Nodup) : freshN l = true := by
  induction l with
  | nil => rfl
  | cons x l ih =>
    have h := List.nodup_cons.1 h
    simp only [freshN, Bool.and_eq_true, List.all_eq_true, decide_eq_true_eq]
    exact ⟨fun y hy e => h.1 (e ▸ hy), ih h.2⟩

theorem keyInt_some {v : Value} {n : Int} (h : keyInt v = some n) : v = .int .i64 n ∧ -9223372036854775808 ≤ n ∧ n < 9223372036854775808 := by
  unfold keyInt at h
  split at h
  · split at h
    · rename_i hc
      simp only [Bool.and_eq_true, decide_eq_true_eq] at hc
      cases h; exact ⟨rfl, hc.1, hc.2⟩
    · cases h
  · cases h
theorem keysInt_some : ∀ {es : List MapEntry} {l : List Int}, keysInt es = some l → es.map (fun e => e.key) = l.map (fun n => Value.int .i64 n) ∧ ∀ n ∈ l, -9223372036854775808 ≤ n ∧ n < 9223372036854775808 := by
  intro es
  induction es with
  | nil => intro l h; simp only [keysInt, Option.some.injEq] at h; subst h; simp
  | cons e es ih =>
    intro l h
    simp only [keysInt, Option.bind_eq_some_iff, Option.map_eq_some_iff] at h
    obtain ⟨n, hn, l', hl, rfl⟩ := h
    obtain ⟨h1, h2⟩ := ih hl
    obtain ⟨k1, k2, k3⟩ := keyInt_some hn
    exact ⟨by simp [h1, k1], fun m hm => (List.mem_cons.1 hm).elim (fun e => e ▸ ⟨k2, k3⟩) (h2 m)⟩

def seqMap (s : St) (fK : FuncId) : Value → Option (List MapEntry × Nat)
  | .func (.func g) a c =>
    if g = fK then
      match a.toList, c.toList with
      | [], [.pointer (some ⟨b, 0, none⟩)] =>
        match s.heap.get b with
        | some (.cells [.map (some m)] _ 0 false) => match s.heap.get m with | some (.map es clock) => some (es, clock) | _ => none
        | _ => none
      | _, _ => none
    else none
  | _ => none

def keysFit (es : List MapEntry) (clock : Nat) (l : List Int) : Bool :=
  es.all (fun e => decide (e.born < clock)) && freshN (es.map fun e => e.born) && freshZ l && decide (es.length ≤ 1073741824)

def sortedSem (fS fK : FuncId) (t : TypeId) : CallSem := fun f args s =>
  if f = fS then
    match args with
    | [v] => (seqMap s fK v).bind fun q => (keysInt q.1).bind fun l =>
      if keysFit q.1 q.2 l = true then
        some (match l with
          | [] => (.slice none 0 0, s)
          | x :: r => (.slice (some ⟨s.next, 0, none⟩) (x :: r).length (x :: r).length, ⟨s.heap.put s.next (some (.cells ((sortZ (x :: r)).map fun n => Value.int .i64 n) t 1 false)), s.next + 1⟩))
      else none
    | _ => none
  else none

/-! ### What the program's functions do -/
def anyR : Value → Option (DataW Unit × List MemPlace) := fun _ => some (.nil, [])

structure SortedOK (P : Program) (fS fK : FuncId) (t : TypeId) : Prop where
  key : P.underlying t = some (.int .i64)
  can : Callable P fS
  run : ∀ (B b nn : Nat) (D : DataW Unit) (w : World), B < w.heap.size → w.cell? ⟨B, 0, none⟩ = some (.map (some b)) → w.ownsMap P t anyR b nn D → Maps.size D ≤ 1073741824 →
    Calls P fS #[.func (.func fK) #[] #[.pointer (some ⟨B, 0, none⟩)]] w fun e w' => ∃ (v : Value) (ss : List Int), e = .returned v ∧ ss.Perm (intKeys D) ∧
      w'.ownsRow w.heap.size t 1 v ss.length ((ss.mergeSort (fun x y => decide (x ≤ y))).map encZ) ∧ (v = .slice none 0 0 ↔ ss = []) ∧ Below w.heap.size w w'

theorem below_step {β : Map} {h : HF} {w w' : World} {n : Nat} (hs : Sim β h w) (hb : Below w.heap.size w w') : Sim β h w' ∧ Step β h w β h w' n n :=
  ⟨⟨fun j q x e f => by rw [hb.block q.blk (hs.lt e f)]; exact hs.obj j q x e f, hs.inj⟩,
    Map.le_refl β, Nat.le_refl _, fun j q e f => (by rw [f] at e; cases e), fun k hk _ => hb.block k hk, hb.size, fun k h _ => h, fun j q x e f _ => ⟨e, f⟩, hb.os, hb.tape, hb.output⟩

theorem fresh_step {β : Map} {h : HF} {w w' : World} {n : Nat} {r : Rec} {o : AObj} (hs : Sim β h w) (hn : β n = none) (hb : Below w.heap.size w w') (hblk : w.heap.size ≤ r.blk) (hro : o.isRo = false) (hnew : ORel (ext β n r) r o w'.heap[r.blk]?) :
    Sim (ext β n r) (fun j => if j = n then some o else h j) w' ∧ Step β h w (ext β n r) (fun j => if j = n then some o else h j) w' n (n + 1) := by
  have hle := ext_le (r := r) hn
  have hold : ∀ j q x, ext β n r j = some q → (if j = n then some o else h j) = some x → j ≠ n → β j = some q ∧ h j = some x ∧ q.blk < w.heap.size := by
    intro j q x e f i
    simp only [ext, if_neg i] at e
    rw [if_neg i] at f
    exact ⟨e, f, hs.lt e f⟩
  refine ⟨⟨fun j q x e f => ?_, fun i1 i2 q1 q2 x1 x2 e1 e2 f1 f2 g => ?_⟩, hle, by omega, fun j q e f => ?_, fun k hk _ => hb.block k hk, hb.size, fun k hk hlt => ?_, fun j q x e f g => ?_, hb.os, hb.tape, hb.output⟩
  · by_cases i : j = n
    · subst i
      simp only [ext, if_true, Option.some.injEq] at e
      subst e
      rw [if_pos rfl] at f; cases f
      exact hnew
    · obtain ⟨a, b, c⟩ := hold j q x e f i
      rw [hb.block q.blk c]
      exact (hs.obj j q x a b).mono hle
  · by_cases i : i1 = n
    · by_cases j : i2 = n
      · exact .inl (i.trans j.symm)
      · obtain ⟨_, _, c⟩ := hold i2 q2 x2 e2 f2 j
        subst i
        simp only [ext, if_true, Option.some.injEq] at e1
        subst e1; omega
    · by_cases j : i2 = n
      · obtain ⟨_, _, c⟩ := hold i1 q1 x1 e1 f1 i
        subst j
        simp only [ext, if_true, Option.some.injEq] at e2
        subst e2; omega
      · obtain ⟨a1, b1, _⟩ := hold i1 q1 x1 e1 f1 i
        obtain ⟨a2, b2, _⟩ := hold i2 q2 x2 e2 f2 j
        exact hs.inj i1 i2 q1 q2 x1 x2 a1 a2 b1 b2 g
  · by_cases i : j = n
    · omega
    · simp only [ext, if_neg i] at e; rw [f] at e; cases e
  · obtain ⟨j, q, x, e, f, g, hq⟩ := hk
    by_cases i : j = n
    · subst i
      simp only [ext, if_true, Option.some.injEq] at e
      subst e; omega
    · obtain ⟨a, b, _⟩ := hold j q x e f i
      exact ⟨j, q, x, a, b, g, hq⟩
  · by_cases i : j = n
    · subst i
      rw [if_pos rfl] at f; cases f; rw [hro] at g; cases g
    · obtain ⟨a, b, _⟩ := hold j q x e f i
      exact ⟨a, b⟩

theorem erel_keys {β : Map} {es ES : List MapEntry} (h : All2 (ERel β) es ES) : ES.map (fun e => e.key) = es.map (fun e => e.key) ∧ ES.map (fun e => e.born) = es.map (fun e => e.born) := by
  induction h with
  | nil => exact ⟨rfl, rfl⟩
  | cons h _ ih => exact ⟨by simp only [List.map_cons, ih.1, h.1], by simp only [List.map_cons, ih.2, h.2.2.2]⟩

theorem keysFit_spec {es : List MapEntry} {clock : Nat} {l : List Int} (h : keysFit es clock l = true) : (∀ e ∈ es, e.born < clock) ∧ (es.map fun e => e.born).Nodup ∧ l.Nodup ∧ es.length ≤ 1073741824 := by
  simp only [keysFit, Bool.and_eq_true, List.all_eq_true, decide_eq_true_eq] at h
  exact ⟨h.1.1.1, freshN_nodup h.1.1.2, freshZ_nodup h.1.2, h.2⟩

theorem owns_of {P : Program} {t : TypeId} (hk : P.underlying t = some (.int .i64)) {β : Map} {es : List MapEntry} {ES : Array MapEntry} {clock b : Nat} {l : List Int} {w : World} (hq : w.heap[b]? = some (.map ES clock)) (ha : All2 (ERel β) es ES.toList)
    (hl : keysInt es = some l) (hf : keysFit es clock l = true) : ∃ D : DataW Unit, w.ownsMap P t anyR b ES.size D ∧ l.Perm (intKeys D) ∧ Maps.size D ≤ 1073741824 := by
  obtain ⟨k1, k2⟩ := keysInt_some hl
  obtain ⟨f1, f2, f3, f4⟩ := keysFit_spec hf
  obtain ⟨e1, e2⟩ := erel_keys ha
  have hlen : ES.size = es.length := by have := congrArg List.length e1; simpa using this
  have hE : ES.toList.map (fun e => e.key) = l.map encZ := by rw [e1, k1]
  have hmem : ∀ x ∈ ES.toList, ∃ n ∈ l, x.key = .int .i64 n := fun x hx => by
    have : x.key ∈ ES.toList.map (fun e => e.key) := List.mem_map_of_mem hx
    rw [hE, List.mem_map] at this
    obtain ⟨n, hn, e⟩ := this
    exact ⟨n, hn, e.symm⟩
  have hrd : ∀ x ∈ ES.toList, ∃ n ∈ l, x.key = .int .i64 n ∧ WideElems.rd P t anyR x = some (.int .i64 n, .nil) := fun x hx => by
    obtain ⟨n, hn, e⟩ := hmem x hx
    obtain ⟨b1, b2⟩ := k2 n hn
    refine ⟨n, hn, e, ?_⟩
    have hw : (Lit.int .i64 n).wf = true := by simp [Lit.wf, IntKind.min, IntKind.max, IntKind.signed, IntKind.bits]; omega
    have := WideElems.rd_mk (P := P) (k := t) (R := anyR) (key := x.key) (val := x.val) (born := x.born) (by rw [e]; exact Maps.keyOf_int_mk hk hw) rfl
    exact this
  refine ⟨_, ⟨ES, clock, hq, ⟨by rw [hlen]; unfold maxLen; omega, ⟨fun x hx => ?_, by rw [e2]; exact f2, ?_⟩, fun x hx => ?_⟩, Nat.le_refl _, rfl⟩, ?_, ?_⟩
  · have : x.born ∈ ES.toList.map (fun e => e.born) := List.mem_map_of_mem hx
    rw [e2, List.mem_map] at this
    obtain ⟨e, he, h⟩ := this
    rw [← h]; exact f1 e he
  · rw [hE]
    exact List.pairwise_map.2 (f3.imp fun h e => h (encZ_inj e))
  · obtain ⟨n, _, _, h⟩ := hrd x hx
    exact ⟨_, h⟩
  · have hp := (WideShapes.sorted_perm (ES.toList.map (WideElems.rg P t anyR))).map fun p => intOf p.1
    refine List.Perm.trans ?_ hp.symm
    rw [List.map_map]
    have : (ES.toList.map ((fun p => intOf p.1) ∘ WideElems.rg P t anyR)) = (ES.toList.map (fun e => e.key)).map (fun v => match v with | .int _ n => n | _ => 0) := by
      rw [List.map_map]
      refine List.map_congr_left fun x hx => ?_
      obtain ⟨n, _, e, h⟩ := hrd x hx
      simp only [Function.comp, WideElems.rg_of h, e, intOf]
    rw [this, hE, List.map_map]
    have : l.map ((fun v : Value => match v with | .int _ n => n | _ => 0) ∘ encZ) = l := by
      refine (List.map_congr_left (g := id) fun x _ => rfl).trans (List.map_id l)
    rw [this]
  · show ((ES.toList.map (WideElems.rg P t anyR)).foldr DataW.insert []).length ≤ _
    rw [Go.length_sorted, List.length_map, Array.length_toList, hlen]
    exact f4

theorem seqMap_spec {s : St} {fK : FuncId} {v : Value} {es : List MapEntry} {clock : Nat} (h : seqMap s fK v = some (es, clock)) : ∃ a c b m T, v = .func (.func fK) a c ∧ a.toList = [] ∧ c.toList = [.pointer (some ⟨b, 0, none⟩)] ∧
    s.heap.get b = some (.cells [.map (some m)] T 0 false) ∧ s.heap.get m = some (.map es clock) := by
  unfold seqMap at h
  split at h
  case h_2 => cases h
  rename_i g a c
  split at h
  case isFalse => cases h
  rename_i hg
  subst hg
  split at h
  case h_2 => cases h
  rename_i b ha hc
  split at h
  case h_2 => cases h
  rename_i m T hb
  split at h
  case h_2 => cases h
  rename_i es' clock' hm
  cases h
  exact ⟨a, c, b, m, T, rfl, ha, hc, hb, hm⟩

theorem sorted_good {P : Program} {fS fK : FuncId} {t : TypeId} (ok : SortedOK P fS fK t) : GoodCalls P (sortedSem fS fK t) ∧ GoodWF (sortedSem fS fK t) := by
  constructor
  · intro f args s u s' hws hq
    unfold sortedSem at hq
    split at hq
    case isFalse => cases hq
    rename_i hf
    subst hf
    split at hq
    case h_2 => cases hq
    rename_i v
    simp only [Option.bind_eq_some_iff] at hq
    obtain ⟨⟨es, clock⟩, hseq, l, hl, hq⟩ := hq
    simp only at hl hq
    split at hq
    case isFalse => cases hq
    rename_i hfit
    obtain ⟨a, c, b, m, T, rfl, ha, hc, hb, hm⟩ := seqMap_spec hseq
    refine .inl ⟨ok.can, ?_, fun β w args' hs hfr hargs => ?_⟩
    · simp only [Option.some.injEq] at hq
      split at hq <;> cases hq <;> simp
    · cases hargs with | cons h1 hargs => ?_
      cases hargs
      obtain ⟨a', c', rfl, ra, rc⟩ := h1.func_inv
      rw [ha] at ra
      rw [hc] at rc
      have ha' : a' = #[] := by cases a'; cases ra; rfl
      subst ha'
      cases hcl : c'.toList with
      | nil => rw [hcl] at rc; cases rc
      | cons x y =>
      rw [hcl] at rc
      cases rc with | cons hp rc => ?_
      cases rc
      obtain ⟨rb, bb, rfl⟩ := hp.ptr_inv
      have hc' : c' = #[.pointer (some ⟨rb.blk, rb.base + 0, none⟩)] := by cases c'; simp only at hcl; rw [hcl]
      subst hc'
      obtain ⟨C, fr, hqb, hn, _, _, hsz, hcell, _, _, hbase⟩ := (hs.obj b rb _ bb hb).cells_inv
      have hb0 : rb.base = 0 := hbase rfl rfl (by rw [hn]; simp)
      obtain ⟨y, hy, hv⟩ := hcell 0 (by simp)
      obtain ⟨rm, bm, rfl⟩ := VRel.map_inv hv
      obtain ⟨ES, hqm, hES⟩ := (hs.obj m rm _ bm hm).map_inv
      rw [hb0] at hy ⊢
      have hlt := hs.lt bb hb
      obtain ⟨D, hown, hperm, hsize⟩ := owns_of (w := w) ok.key hqm hES hl hfit
      refine (ok.run rb.blk rm.blk _ D w hlt ?_ hown hsize).mono ?_
      · have := hy
        simp only [Nat.zero_add] at this
        simp [World.cell?, hqb, this]
      · rintro e w' ⟨v, ss, rfl, hss, hrow, hnil, hbel⟩
        have hsl : ss.Perm l := hss.trans hperm.symm
        have hms := merge_sortZ hsl
        rw [hms] at hrow
        cases l with
        | nil =>
          have : ss = [] := List.perm_nil.1 hsl
          obtain rfl := hnil.2 this
          simp only [Option.some.injEq, Prod.mk.injEq] at hq
          obtain ⟨rfl, rfl⟩ := hq
          obtain ⟨h1, h2⟩ := below_step (n := s.next) hs hbel
          exact ⟨_, β, rfl, .prim _ rfl, h1, h2⟩
        | cons x r =>
          have hne : ss ≠ [] := fun e => by rw [e] at hsl; exact absurd hsl.symm.eq_nil (by simp)
          simp only [Option.some.injEq, Prod.mk.injEq] at hq
          obtain ⟨rfl, rfl⟩ := hq
          have hlen : ss.length = (x :: r).length := hsl.length_eq
          rcases hrow.2 with ⟨h1, h2⟩ | ⟨g, cap, cur, rfl, hg, hgb, hcap, hmax, hcs, hcur⟩
          · exact absurd (List.eq_nil_of_length_eq_zero h2) hne
          · rw [hlen] at hcap hcur ⊢
            simp only [Nat.mul_one] at hcs hcur
            obtain ⟨rn, hrn⟩ : ∃ rn : Rec, rn = ⟨g, 0, cap - (x :: r).length, (x :: r).length, 1⟩ := ⟨_, rfl⟩
            have hll : ((sortZ (x :: r)).map fun n => Value.int .i64 n).length = (x :: r).length := by rw [List.length_map, sortZ_length]
            have hnew : ORel (ext β s.next rn) rn (.cells ((sortZ (x :: r)).map fun n => Value.int .i64 n) t 1 false) w'.heap[rn.blk]? := by
              subst hrn
              simp only
              rw [hgb]
              refine ⟨rfl, hll.symm, by simp, fun _ => ⟨rfl, by omega⟩, by rw [hll]; simp only; omega, fun i hi => ?_, fun _ => .inl rfl, fun h => absurd h (by omega), fun h => absurd h (by omega)⟩
              have hi' : i < (x :: r).length := by rw [← hll]; exact hi
              refine ⟨((sortZ (x :: r)).map fun n => Value.int .i64 n)[i], ?_, ?_⟩
              · have := congrArg (fun q => q[i]?) hcur
                simp only [List.getElem?_take, if_pos hi'] at this
                simp only [Nat.zero_add]
                rw [← Array.getElem?_toList, this]
                exact List.getElem?_eq_getElem hi
              · simp only [List.getElem_map]; exact .int'
            obtain ⟨h1, h2⟩ := fresh_step (n := s.next) hs (hfr s.next (Nat.le_refl _) (Nat.lt_succ_self _)) hbel (by rw [hrn]; exact hg) rfl hnew
            have hx : ext β s.next rn s.next = some rn := by simp [ext]
            have hv := VRel.slice (β := ext β s.next rn) (o := 0) (len := (x :: r).length) (cap := (x :: r).length) (cap' := cap) hx (.inr ⟨by rw [hrn]; simp only; omega, by rw [hrn]; simp only; omega⟩)
            refine ⟨_, ext β s.next rn, rfl, ?_, ?_, ?_⟩
            · rw [hrn] at hv ⊢; exact hv
            · simp only [show (s.heap.put s.next (some (.cells ((sortZ (x :: r)).map fun n => Value.int .i64 n) t 1 false))).get = fun j => if j = s.next then some (.cells ((sortZ (x :: r)).map fun n => Value.int .i64 n) t 1 false) else s.heap.get j from funext fun j => Heap.get_put _ _ _ _]; exact h1
            · simp only [show (s.heap.put s.next (some (.cells ((sortZ (x :: r)).map fun n => Value.int .i64 n) t 1 false))).get = fun j => if j = s.next then some (.cells ((sortZ (x :: r)).map fun n => Value.int .i64 n) t 1 false) else s.heap.get j from funext fun j => Heap.get_put _ _ _ _]; exact h2
  · intro f args s u s' hq hws
    unfold sortedSem at hq
    split at hq
    case isFalse => cases hq
    split at hq
    case h_2 => cases hq
    simp only [Option.bind_eq_some_iff] at hq
    obtain ⟨⟨es, clock⟩, hseq, l, hl, hq⟩ := hq
    split at hq
    case isFalse => cases hq
    simp only [Option.some.injEq] at hq
    split at hq
    · cases hq; exact hws
    · cases hq
      intro j hj
      simp only at hj ⊢
      rw [Heap.get_put, if_neg (by omega)]
      exact hws j (by omega)

end Go.Abs


/-
  A slice of records as a law's argument, where a record's cells may be slices of numbers.
-/
set_option linter.unusedVariables false
set_option linter.unusedSimpArgs false
set_option maxRecDepth 100000
namespace Go.Abs
open Go Go.RowKit Go.ChangeShapes Go.WideShapes

inductive CellSpec where
  | prim (v : Value)
  | ints (k : IntKind) (bs : List Int)

theorem All2.len {α γ : Type} {R : α → γ → Prop} {l : List α} {l' : List γ} (h : All2 R l l') : l.length = l'.length := by
  induction h with
  | nil => rfl
  | cons _ _ ih => simp [ih]
theorem All2.get {α γ : Type} {R : α → γ → Prop} {l : List α} {l' : List γ} (h : All2 R l l') : ∀ {i : Nat} {a : α} {b : γ}, l[i]? = some a → l'[i]? = some b → R a b := by
  induction h with
  | nil => intro i a b h; simp at h
  | cons h0 _ ih =>
    intro i a b h1 h2
    cases i with
    | zero => simp only [List.getElem?_cons_zero, Option.some.injEq] at h1 h2; subst h1 h2; exact h0
    | succ i => exact ih (by simpa using h1) (by simpa using h2)
theorem All2.append' {α γ : Type} {R : α → γ → Prop} {l k : List α} {l' k' : List γ} (h : All2 R l l') (h2 : All2 R k k') : All2 R (l ++ k) (l' ++ k') := by
  induction h with
  | nil => exact h2
  | cons h _ ih => exact .cons h ih

end Go.Abs


/-
  Small helpers for laws: numbers, pointers, maps from numbers to bytes.
-/
set_option linter.unusedVariables false
set_option linter.unusedSimpArgs false
set_option maxRecDepth 100000
namespace Go.Abs
open Go Go.Abs.K

abbrev i64 (n : Int) : Value := .int .i64 n
abbrev ptr (q : Nat) : Value := .pointer (some ⟨q, 0, none⟩)
def W64 (n : Int) : Prop := -9223372036854775808 ≤ n ∧ n ≤ 9223372036854775807
theorem w64_of_wf {n : Int} (h : (Lit.int .i64 n).wf = true) : W64 n := by
  simp [Lit.wf, IntKind.min, IntKind.max, IntKind.signed, IntKind.bits] at h
  exact h
theorem one_of {α : Type} {xs : List α} {i n : Nat} (h : xs.length = n) (hi : i < n) : ∃ y, xs[i]? = some y := ⟨_, List.getElem?_eq_getElem (by omega)⟩
theorem wv_mkFunc (cs : Nat → CallSem) (s : St) (K : Value → St → Prop) (fn : Fn) (a b : List Value) : wvals cs s K (.mkFunc fn a b) = K (.func fn a.toArray b.toArray) s := rfl
theorem resV_cell (e : Env) (s : St) (a : Nat) (n : Option Nat) : resV e s (.cell a n) = (e.get a).bind (loadA s n) := rfl
theorem loadA_n (s : St) (n id o : Nat) : loadA s (some n) (.pointer (some ⟨id, o, none⟩)) = (cellsAt s.heap.get id o n).map fun l => .agg l.toArray := by
  simp only [loadA, evP]
  cases cellsAt s.heap.get id o n <;> rfl
theorem kept_put_nil {s : St} {id : Nat} {o : Option AObj} {n : Nat} (h : s.next ≤ id) (hn : s.next ≤ n) : Kept [] s ⟨s.heap.put id o, n⟩ := ⟨hn, fun j hj _ => by rw [Heap.get_put, if_neg (by omega)]⟩
theorem kept_put {s : St} {o : Option AObj} {n : Nat} : KeptAll s ⟨s.heap.put s.next o, n⟩ := fun id hid => by rw [Heap.get_put, if_neg (by omega)]
theorem kept_put1 {s : St} {id : Nat} {o : Option AObj} {n : Nat} (hn : s.next ≤ n) : Kept [id] s ⟨s.heap.put id o, n⟩ := ⟨hn, fun j _ hj => by rw [Heap.get_put, if_neg (by simpa using hj)]⟩
theorem row_read {sz : Nat} {s : St} {lv : Value} {cs : List (List Value)} (h : RowV sz s lv cs) {i : Nat} (hi : i < cs.length) :
    ∃ id o cap c T ro, lv = .slice (some ⟨id, o, none⟩) cs.length cap ∧ id < s.next ∧ s.heap.get id = some (.cells c T sz ro) ∧ o + i * sz + sz ≤ c.length ∧ (c.drop (o + i * sz)).take sz = cs.getD i [] ∧ ∀ j, j < sz → c[o + i * sz + j]? = (cs.getD i [])[j]? := by
  obtain ⟨id, o, cap, c, T, ro, rfl, h1, h2, h3, h4⟩ := h.at hi
  refine ⟨id, o, cap, c, T, ro, rfl, ?_, h1, h2, h3, h4⟩
  obtain ⟨_, ⟨hx, _⟩ | ⟨id', o', cap', c', T'', ro', h1', _, h2', _⟩⟩ := h
  · cases hx
  · simp only [Value.slice.injEq, Option.some.injEq, Addr.mk.injEq] at h1'
    have := h1'.1.1
    omega

/-! ### maps from numbers to bytes -/
abbrev KInt : Value → Prop := fun v => ∃ n, v = .int .i64 n

def lookF : List (Int × List Int) → Int → Option (List Int)
  | [], _ => none
  | p :: F, k => if p.1 = k then some p.2 else lookF F k
def setF : List (Int × List Int) → Int → List Int → List (Int × List Int)
  | [], _, _ => []
  | p :: F, k, bs => if p.1 = k then (p.1, bs) :: F else p :: setF F k bs
def delF : List (Int × List Int) → Int → List (Int × List Int)
  | [], _ => []
  | p :: F, k => if p.1 = k then F else p :: delF F k
def putF (F : List (Int × List Int)) (k : Int) (bs : List Int) : List (Int × List Int) := if (lookF F k).isSome = true then setF F k bs else F ++ [(k, bs)]

def InV (V : List Nat) (v : Value) : Prop := ∀ id o l c, v = .slice (some ⟨id, o, none⟩) l c → id ∈ V
theorem InV.mono {V W : List Nat} {v : Value} (h : InV V v) (hs : ∀ x ∈ V, x ∈ W) : InV W v := fun id o l c e => hs id (h id o l c e)

def ER (s : St) (V : List Nat) (e : MapEntry) (p : Int × List Int) : Prop := e.key = i64 p.1 ∧ BytesV s e.val p.2 ∧ InV V e.val

theorem hasKey_i64 {k : Int} {e : MapEntry} {p : Int × List Int} (h : e.key = i64 p.1) : hasKey (i64 k) e = decide (p.1 = k) := by
  simp only [hasKey, h, keyEq]
  by_cases hk : p.1 = k
  · subst hk; simp
  · have : ¬ k = p.1 := fun e => hk e.symm
    simp [hk, this]

theorem all2_imp {α γ : Type} {R S : α → γ → Prop} {l : List α} {l' : List γ} (h : All2 R l l') (hi : ∀ a b, R a b → S a b) : All2 S l l' := by
  induction h with
  | nil => exact .nil
  | cons h _ ih => exact .cons (hi _ _ h) ih

section
variable {s : St} {V : List Nat} {es : List MapEntry} {F : List (Int × List Int)} {clock : Nat}

theorem er_get (h : All2 (ER s V) es F) (k : Int) : (mget es (i64 k) = none ∧ lookF F k = none) ∨ ∃ v bs, mget es (i64 k) = some v ∧ lookF F k = some bs ∧ BytesV s v bs ∧ InV V v := by
  induction h with
  | nil => exact .inl ⟨rfl, rfl⟩
  | cons h _ ih =>
    simp only [mget, lookF, hasKey_i64 h.1]
    split
    · rename_i hk
      have hk := of_decide_eq_true hk
      rw [if_pos hk]
      exact .inr ⟨_, _, rfl, rfl, h.2.1, h.2.2⟩
    · rename_i hk
      rw [if_neg (fun e => hk (decide_eq_true e))]
      exact ih
theorem er_none (h : All2 (ER s V) es F) {k : Int} (hn : lookF F k = none) : mget es (i64 k) = none := by
  rcases er_get h k with ⟨h1, _⟩ | ⟨v, bs, _, h2, _⟩
  · exact h1
  · rw [hn] at h2; cases h2
theorem er_some (h : All2 (ER s V) es F) {k : Int} {bs : List Int} (hn : lookF F k = some bs) : ∃ v, mget es (i64 k) = some v ∧ BytesV s v bs ∧ InV V v := by
  rcases er_get h k with ⟨_, h1⟩ | ⟨v, bs', h1, h2, h3⟩
  · rw [hn] at h1; cases h1
  · rw [hn] at h2; cases h2; exact ⟨v, h1, h3⟩
theorem er_set (h : All2 (ER s V) es F) {k : Int} {v : Value} {bs : List Int} (hv : BytesV s v bs) (hV : InV V v) : All2 (ER s V) (mset es (i64 k) v) (setF F k bs) := by
  induction h with
  | nil => exact .nil
  | cons h ht ih =>
    simp only [mset, setF, hasKey_i64 h.1]
    split
    · rename_i hk
      rw [if_pos (of_decide_eq_true hk)]
      exact .cons ⟨h.1, hv, hV⟩ ht
    · rename_i hk
      rw [if_neg (fun e => hk (decide_eq_true e))]
      exact .cons h ih
theorem er_put (h : All2 (ER s V) es F) {k : Int} {v : Value} {bs : List Int} (hv : BytesV s v bs) (hV : InV V v) : All2 (ER s V) (mput es clock (i64 k) v) (putF F k bs) := by
  unfold mput putF
  rcases er_get h k with ⟨h1, h2⟩ | ⟨_, _, h1, h2, _⟩
  · rw [h1, h2]
    simp only [Option.isSome_none, Bool.false_eq_true, if_false]
    exact h.append' (.cons ⟨rfl, hv, hV⟩ .nil)
  · rw [h1, h2]
    simp only [Option.isSome_some, if_true]
    exact er_set h hv hV
theorem er_del (h : All2 (ER s V) es F) (k : Int) : All2 (ER s V) (mdel es (i64 k)) (delF F k) := by
  induction h with
  | nil => exact .nil
  | cons h ht ih =>
    simp only [mdel, delF, hasKey_i64 h.1]
    split
    · rename_i hk
      rw [if_pos (of_decide_eq_true hk)]
      exact ht
    · rename_i hk
      rw [if_neg (fun e => hk (decide_eq_true e))]
      exact .cons h ih
theorem er_kept {s' : St} {T : List Nat} (h : All2 (ER s V) es F) (hk : Kept T s s') (hd : ∀ x ∈ V, x ∉ T) : All2 (ER s' V) es F :=
  all2_imp h fun e p ⟨h1, h2, h3⟩ => ⟨h1, BytesV.kept' (t := 0) (w := undefV) (zs := p.2) (ws := []) h2 hk (fun id o l c e => hd id (h3 id o l c e)), h3⟩
theorem er_sub {W : List Nat} (h : All2 (ER s V) es F) (hs : ∀ x ∈ V, x ∈ W) : All2 (ER s W) es F := all2_imp h fun e p ⟨h1, h2, h3⟩ => ⟨h1, h2, h3.mono hs⟩

theorem er_keys (h : All2 (ER s V) es F) (hr : ∀ p ∈ F, W64 p.1) : keysInt es = some (F.map fun p => p.1) := by
  induction h with
  | nil => rfl
  | cons h _ ih =>
    have hb := hr _ (List.mem_cons_self ..)
    simp only [keysInt, h.1, keyInt]
    rw [if_pos (by simp only [Bool.and_eq_true, decide_eq_true_eq]; exact ⟨hb.1, by have := hb.2; omega⟩)]
    rw [Option.bind_some, ih fun p hp => hr p (List.mem_cons_of_mem _ hp)]
    rfl
theorem er_fit (h : All2 (ER s V) es F) (hm : MOK KInt es clock) (hr : ∀ p ∈ F, W64 p.1) (hl : F.length ≤ 1073741824) : keysFit es clock (F.map fun p => p.1) = true := by
  simp only [keysFit, Bool.and_eq_true, List.all_eq_true, decide_eq_true_eq]
  obtain ⟨k1, _⟩ := keysInt_some (er_keys h hr)
  refine ⟨⟨⟨fun e he => hm.lt e he, nodup_freshN hm.born⟩, nodup_freshZ ?_⟩, by rw [h.len]; exact hl⟩
  have : (es.map fun e => e.key).Nodup := List.pairwise_map.2 hm.keys
  rw [k1] at this
  exact (List.pairwise_map.1 this).imp fun h e => h (by rw [e])
end

theorem lookF_set {F : List (Int × List Int)} {k j : Int} {bs : List Int} : lookF (setF F k bs) j = if j = k then (lookF F k).map (fun _ => bs) else lookF F j := by
  induction F with
  | nil => simp [setF, lookF]
  | cons p F ih =>
    simp only [setF, lookF]
    by_cases hp : p.1 = k
    · rw [if_pos hp]
      simp only [lookF]
      by_cases hj : j = k
      · subst hj; simp [hp]
      · have : ¬ p.1 = j := fun e => hj (e ▸ hp)
        simp [hj, this]
    · rw [if_neg hp]
      simp only [lookF, ih]
      by_cases hj : j = k
      · subst hj; simp [hp]
      · simp [hj]
theorem lookF_append {F G : List (Int × List Int)} {j : Int} : lookF (F ++ G) j = (lookF F j).or (lookF G j) := by
  induction F with
  | nil => simp [lookF]
  | cons p F ih =>
    simp only [List.cons_append, lookF]
    split
    · rfl
    · exact ih
theorem lookF_put {F : List (Int × List Int)} {k j : Int} {bs : List Int} : lookF (putF F k bs) j = if j = k then some bs else lookF F j := by
  unfold putF
  cases h : lookF F k with
  | none =>
    simp only [Option.isSome_none, Bool.false_eq_true, if_false, lookF_append]
    by_cases hj : j = k
    · subst hj; simp [h, lookF]
    · have : ¬ k = j := fun e => hj e.symm
      simp [hj, lookF, this]
  | some v =>
    simp only [Option.isSome_some, if_true, lookF_set, h, Option.map_some]
theorem lookF_none {F : List (Int × List Int)} {k : Int} : lookF F k = none ↔ ∀ p ∈ F, p.1 ≠ k := by
  induction F with
  | nil => simp [lookF]
  | cons p F ih =>
    simp only [lookF]
    split
    · rename_i h; simp [h]
    · rename_i h; rw [ih]; simp [h]
theorem setF_keys (F : List (Int × List Int)) (k : Int) (bs : List Int) : (setF F k bs).map (fun p => p.1) = F.map fun p => p.1 := by
  induction F with
  | nil => rfl
  | cons p F ih =>
    simp only [setF]
    split
    · simp
    · simp [ih]
theorem putF_keys (F : List (Int × List Int)) (k : Int) (bs : List Int) : (putF F k bs).map (fun p => p.1) = if (lookF F k).isSome = true then F.map (fun p => p.1) else F.map (fun p => p.1) ++ [k] := by
  unfold putF
  split
  · exact setF_keys ..
  · simp
theorem delF_sub (F : List (Int × List Int)) (k : Int) : (delF F k).Sublist F := by
  induction F with
  | nil => exact .slnil
  | cons p F ih =>
    simp only [delF]
    split
    · exact List.sublist_cons_self ..
    · exact ih.cons_cons p
end Go.Abs


/-
  Rows of plain cells: one is written whole; the last ones are cleared. Calls that leave the heap.
-/
set_option linter.unusedVariables false
set_option linter.unusedSimpArgs false
set_option maxRecDepth 100000
namespace Go.Abs
open Go

def Pure (tbl : FuncId → Option AFun) (ov : CallSem) (f : FuncId) (args : List Value) (s : St) (v : Value) : Prop :=
  WCall (fun k => call tbl ov k) f args s fun u s' => u = v ∧ s'.heap = s.heap ∧ s.next ≤ s'.next
theorem callee_clo (f : FuncId) (p : Value) (l : List Value) : callee (.func (.func f) #[] #[p]) l = some (f, l ++ [p]) := by simp [callee]

theorem ev_slice3 {g : Nat → Option AObj} {nx id o lo hi mx len cap sz z : Nat} {c : List Value} {t : TypeId} {ro : Bool} {k k' k'' : IntKind} (hg : g id = some (.cells c t z ro)) (hz : ro = true ∨ z = sz ∨ z = sz + 4294967296) (h1 : lo ≤ hi) (h2 : hi ≤ mx) (h3 : mx ≤ cap) :
    evP g nx (.slice (.slice sz) (.slice (some ⟨id, o, none⟩) len cap) (some (.int k lo)) (some (.int k' hi)) (some (.int k'' mx))) = some ⟨.slice (some ⟨id, o + lo * sz, none⟩) (hi - lo) (mx - lo), [], nx⟩ := by
  have a1 : (lo : Int) ≤ hi := by omega
  have a2 : (hi : Int) ≤ mx := by omega
  have a3 : (mx : Int) ≤ cap := by omega
  simp [evP, boundsV, boundV, hg, hz, a1, a2, a3, h1, h2, h3]

theorem ev_clear {g : Nat → Option AObj} {nx id o len cap sz z : Nat} {c zl : List Value} {t : TypeId} (hg : g id = some (.cells c t z false)) (h0 : len ≠ 0) (hz : zl.length = sz) (h1 : o + len * sz ≤ c.length) :
    evP g nx (.clear sz zl (.slice (some ⟨id, o, none⟩) len cap)) = some ⟨.tuple #[], [(id, some (.cells (storeL c o (List.replicate len zl).flatten) t z false))], nx⟩ := by
  simp [evP, hg, h0, hz, h1]

theorem flat_rep (zl : List Value) (n : Nat) : (List.replicate n zl).flatten.length = n * zl.length := by
  induction n with
  | zero => simp
  | succ n ih => rw [List.replicate_succ, List.flatten_cons, List.length_append, ih, Nat.add_mul, Nat.one_mul, Nat.add_comm]

theorem flat_setRow {sz : Nat} : ∀ {cs : List (List Value)}, (∀ c ∈ cs, c.length = sz) → ∀ {i : Nat} {row : List Value}, i < cs.length → row.length = sz → storeL cs.flatten (i * sz) row = (cs.set i row).flatten := by
  intro cs
  induction cs with
  | nil => intro _ i row hi; simp at hi
  | cons r cs ih =>
    intro hz i row hi hr
    have h1 := hz r (List.mem_cons_self ..)
    have hf : ∀ (l : List (List Value)), (∀ c ∈ l, c.length = sz) → l.flatten.length = l.length * sz := by
      intro l
      induction l with
      | nil => intro _; simp
      | cons x l ih =>
        intro h
        rw [List.flatten_cons, List.length_append, ih fun c hc => h c (List.mem_cons_of_mem _ hc), h x (List.mem_cons_self ..), List.length_cons, Nat.add_mul, Nat.one_mul, Nat.add_comm]
    have hz' : ∀ c ∈ cs, c.length = sz := fun c hc => hz c (List.mem_cons_of_mem _ hc)
    cases i with
    | zero =>
      rw [Nat.zero_mul, List.set_cons_zero, List.flatten_cons, List.flatten_cons, storeL_eq _ _ _ (by rw [List.length_append]; omega), List.take_zero, List.nil_append, Nat.zero_add, hr, ← h1, List.drop_left]
    | succ i =>
      simp only [List.length_cons] at hi
      have hi' : i < cs.length := by omega
      have := ih hz' hi' hr
      have hm : (i + 1) * sz ≤ cs.length * sz := Nat.mul_le_mul_right _ hi'
      rw [Nat.add_mul, Nat.one_mul] at hm
      rw [List.set_cons_succ, List.flatten_cons, List.flatten_cons, ← this, storeL_eq _ _ _ (by rw [List.length_append, hf _ hz', Nat.add_mul, Nat.one_mul]; omega), storeL_eq _ _ _ (by rw [hf _ hz']; omega)]
      rw [Nat.add_mul, Nat.one_mul, List.take_append, List.drop_append, List.take_of_length_le (by omega), List.drop_of_length_le (l := r) (by omega), List.nil_append, show i * sz + sz - r.length = i * sz by omega, show i * sz + sz + row.length - r.length = i * sz + row.length by omega]
      simp only [List.append_assoc]

theorem take_storeL {c row : List Value} {o k n : Nat} (h : k + row.length ≤ n) (hc : o + n ≤ c.length) : ((storeL c (o + k) row).drop o).take n = storeL ((c.drop o).take n) k row := by
  apply List.ext_getElem?
  intro j
  have hl : ((c.drop o).take n).length = n := by rw [List.length_take, List.length_drop]; omega
  rw [List.getElem?_take, List.getElem?_drop, storeL_get _ _ _ _ (by omega), storeL_get _ _ _ _ (by rw [hl]; omega), List.getElem?_take, List.getElem?_drop]
  by_cases hj : j < n
  · rw [if_pos hj, if_pos hj]
    by_cases hx : k ≤ j ∧ j < k + row.length
    · rw [if_pos hx, if_pos (by omega)]
      congr 1; omega
    · rw [if_neg hx, if_neg (by omega)]
  · rw [if_neg hj, if_neg hj, if_neg (by omega)]

section
variable {t : TypeId} {sz : Nat} {s : St} {cs : List (List Value)} {S : List Nat}

theorem RowsP.setRow {a : Option Addr} {n cap : Nat} (h : RowsP t sz s (.slice a n cap) cs S) {i : Nat} (hi : i < cs.length) {row : List Value} (hr : row.length = sz) (hp : row.all primV = true) :
    ∃ id o c, a = some ⟨id, o, none⟩ ∧ S = [id] ∧ s.heap.get id = some (.cells c t sz false) ∧ o + i * sz + sz ≤ c.length ∧
      ∀ s' : St, s.next ≤ s'.next → s'.heap.get id = some (.cells (storeL c (o + i * sz) row) t sz false) → RowsP t sz s' (.slice a n cap) (cs.set i row) S := by
  obtain ⟨hz, ⟨hx, hcs, rfl⟩ | ⟨id, o, cap', c, hx, rfl, h1, h2, h3, hcp, h4, h5⟩⟩ := h
  · subst hcs; simp at hi
  simp only [Value.slice.injEq] at hx
  obtain ⟨rfl, rfl, rfl⟩ := hx
  have hm : (i + 1) * sz ≤ cs.length * sz := Nat.mul_le_mul_right _ hi
  have hm2 : cs.length * sz ≤ cap * sz := Nat.mul_le_mul_right _ h1
  rw [Nat.add_mul, Nat.one_mul] at hm
  refine ⟨id, o, c, rfl, rfl, h3, by omega, fun s' hn hg => ⟨fun d hd => ?_, .inr ⟨id, o, cap, _, by rw [List.length_set], rfl, by rw [List.length_set]; exact h1, Nat.lt_of_lt_of_le h2 hn, hg, all_storeL hcp hp, by rw [storeL_length]; exact h4, ?_⟩⟩⟩
  · rcases List.mem_or_eq_of_mem_set hd with hd | rfl
    · exact hz d hd
    · exact ⟨hr, hp⟩
  · rw [List.length_set, take_storeL (by omega) (by omega), h5, flat_setRow (fun c hc => (hz c hc).1) hi hr]

theorem RowsP.cut {a : Option Addr} {n cap : Nat} (h : RowsP t sz s (.slice a n cap) cs S) {i : Nat} (hi : i < cs.length) {zl : List Value} (hzl : zl.length = sz) (hp : zl.all primV = true) :
    ∃ id o c, a = some ⟨id, o, none⟩ ∧ n = cs.length ∧ S = [id] ∧ s.heap.get id = some (.cells c t sz false) ∧
      evP s.heap.get s.next (.slice (.slice sz) (.slice a n cap) (some (.int .i64 (i : Nat))) none none) = some ⟨.slice (some ⟨id, o + i * sz, none⟩) (n - i) (cap - i), [], s.next⟩ ∧
      evP s.heap.get s.next (.clear sz zl (.slice (some ⟨id, o + i * sz, none⟩) (n - i) (cap - i))) = some ⟨.tuple #[], [(id, some (.cells (storeL c (o + i * sz) (List.replicate (n - i) zl).flatten) t sz false))], s.next⟩ ∧
      (∀ s' : St, s'.heap.get id = some (.cells (storeL c (o + i * sz) (List.replicate (n - i) zl).flatten) t sz false) → evP s'.heap.get s'.next (.slice (.slice sz) (.slice a n cap) none (some (.int .i64 (i : Nat))) none) = some ⟨.slice a i cap, [], s'.next⟩ ∧
        (s.next ≤ s'.next → RowsP t sz s' (.slice a i cap) (cs.take i) S)) := by
  obtain ⟨hz, ⟨hx, hcs, rfl⟩ | ⟨id, o, cap', c, hx, rfl, h1, h2, h3, hcp, h4, h5⟩⟩ := h
  · subst hcs; simp at hi
  simp only [Value.slice.injEq] at hx
  obtain ⟨rfl, rfl, rfl⟩ := hx
  have hm2 : cs.length * sz ≤ cap * sz := Nat.mul_le_mul_right _ h1
  have hsub : i * sz + (cs.length - i) * sz = cs.length * sz := by rw [← Nat.add_mul]; congr 1; omega
  have hfl : (List.replicate (cs.length - i) zl).flatten.length = (cs.length - i) * sz := by rw [flat_rep, hzl]
  refine ⟨id, o, c, rfl, rfl, rfl, h3, ev_sliceL h3 (.inr (.inl rfl)) (by omega) h1, ev_clear h3 (by omega) hzl (by omega), fun s' hg => ⟨ev_sliceH hg (.inr (.inl rfl)) (by omega), fun hn => ⟨fun d hd => hz d (List.mem_of_mem_take hd), .inr ⟨id, o, cap, _, by rw [List.length_take]; congr 1; omega, rfl, by rw [List.length_take]; omega, Nat.lt_of_lt_of_le h2 hn, hg, ?_, by rw [storeL_length]; exact h4, ?_⟩⟩⟩⟩
  · refine all_storeL hcp ?_
    rw [List.all_eq_true]
    intro x hx
    obtain ⟨l, hl, hxl⟩ := List.mem_flatten.1 hx
    rw [List.eq_of_mem_replicate hl] at hxl
    exact List.all_eq_true.1 hp x hxl
  · rw [List.length_take, Nat.min_eq_left (by omega), (row_flat (fun c hc => ⟨(hz c hc).1, prim_cells (hz c hc).2⟩) i).1, ← h5, List.take_take, Nat.min_eq_left (by omega)]
    rw [storeL_eq _ _ _ (by rw [hfl]; omega), List.append_assoc, List.drop_append_of_le_length (by rw [List.length_take]; omega), List.take_append_of_le_length (by rw [List.length_drop, List.length_take]; omega), List.drop_take, List.take_take]
    congr 1; omega
end
end Go.Abs


/-
  Rows put together anew: append(append([]T{}, l[:i]...), l[j:]...), and with a row between.
-/
set_option linter.unusedVariables false
set_option linter.unusedSimpArgs false
set_option maxRecDepth 100000
namespace Go.Abs
open Go

def wrOf : Value → List Nat
  | .slice (some a) _ _ => [a.block]
  | _ => []
theorem all_tt (l : List Nat) : (l.all fun _ => true) = true := by simp
theorem foot_append (e : TypeId) (sz b : Nat) (x y : Value) : footOf (.append e sz b x y) = (wrOf y, wrOf x) := rfl
theorem foot_slice (sz : Nat) (x : Value) (lo hi mx : Option Value) : footOf (.slice (.slice sz) x lo hi mx) = (wrOf x, []) := by
  cases x <;> try rfl
  rename_i a _ _
  cases a <;> rfl
theorem wrOf_rowV {sz : Nat} {s : St} {v : Value} {cs : List (List Value)} (h : RowV sz s v cs) : ∀ x ∈ wrOf v, x < s.next := by
  obtain ⟨_, ⟨rfl, _⟩ | ⟨id, o, cap, c, T, ro, rfl, _, h, _⟩⟩ := h
  · intro x hx; cases hx
  · intro x hx; rw [List.mem_singleton.1 hx]; exact h
theorem wrOf_rowsO {t : TypeId} {sz : Nat} {s : St} {v : Value} {cs : List (List Value)} {S : List Nat} (h : RowsO t sz s v cs S) : wrOf v = S := by
  obtain ⟨_, ⟨rfl, _, rfl⟩ | ⟨id, o, cap, c, rfl, rfl, _⟩⟩ := h <;> rfl
theorem disj_of {a b : List Nat} (h : ∀ x ∈ a, ∀ y ∈ b, x ≠ y) : disj a b = true := by
  simp only [disj, List.all_eq_true, decide_eq_true_eq]
  exact h
section
variable {t : TypeId} {sz b : Nat} {s : St} {lv : Value} {rows : List (List Value)}

end

end Go.Abs
