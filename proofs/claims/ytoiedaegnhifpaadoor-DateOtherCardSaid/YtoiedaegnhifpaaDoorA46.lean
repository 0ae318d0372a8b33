/-
  Rows of plain cells of one's own: appended to, put in, taken out.
-/
import Derived.Test.YtoiedaegnhifpaaDoorA41
import Derived.Shelf.SlIterI.Nil
import Derived.Shelf.SortM.Plain
import Derived.Shelf.SortM.SortNone
set_option linter.unusedVariables false
set_option linter.unusedSimpArgs false
set_option maxRecDepth 100000
namespace Go.Abs
open Go

def RowsP (t : TypeId) (sz : Nat) (s : St) (v : Value) (cs : List (List Value)) (S : List Nat) : Prop :=
  (∀ c ∈ cs, c.length = sz ∧ c.all primV = true) ∧ ((v = .slice none 0 0 ∧ cs = [] ∧ S = []) ∨ ∃ id o cap c, v = .slice (some ⟨id, o, none⟩) cs.length cap ∧ S = [id] ∧ cs.length ≤ cap ∧ id < s.next ∧ s.heap.get id = some (.cells c t sz false) ∧ c.all primV = true ∧ o + cap * sz ≤ c.length ∧ (c.drop o).take (cs.length * sz) = cs.flatten)

section
variable {t : TypeId} {sz : Nat} {s s' : St} {v : Value} {cs : List (List Value)} {S T : List Nat}

theorem RowsP.toO (h : RowsP t sz s v cs S) : RowsO t sz s v cs S := by
  obtain ⟨hz, h | ⟨id, o, cap, c, rfl, rfl, h1, h2, h3, h4, h5, h6⟩⟩ := h
  · exact ⟨fun c hc => ⟨(hz c hc).1, prim_cells (hz c hc).2⟩, .inl h⟩
  · exact ⟨fun c hc => ⟨(hz c hc).1, prim_cells (hz c hc).2⟩, .inr ⟨id, o, cap, c, rfl, rfl, h1, h2, h3, h5, h6⟩⟩

theorem RowsP.toV (h : RowsP t sz s v cs S) : RowV sz s v cs := h.toO.toV

theorem RowsP.lt (h : RowsP t sz s v cs S) : ∀ x ∈ S, x < s.next := h.toO.lt

theorem RowsP.kept (h : RowsP t sz s v cs S) (hk : Kept T s s') (hd : ∀ x ∈ S, x ∉ T) : RowsP t sz s' v cs S := by
  obtain ⟨hz, h | ⟨id, o, cap, c, rfl, rfl, h1, h2, h3, h4⟩⟩ := h
  · exact ⟨hz, .inl h⟩
  · exact ⟨hz, .inr ⟨id, o, cap, c, rfl, rfl, h1, Nat.lt_of_lt_of_le h2 hk.1, by rw [hk.2 id h2 (hd id (List.mem_singleton.2 rfl))]; exact h3, h4⟩⟩

theorem RowsP.nil : RowsP t sz s (.slice none 0 0) [] [] := ⟨by simp, .inl ⟨rfl, rfl, rfl⟩⟩

theorem all_flatten {p : Value → Bool} (h : ∀ c ∈ cs, c.all p = true) : cs.flatten.all p = true := by
  rw [List.all_eq_true]
  intro x hx
  obtain ⟨c, hc, hxc⟩ := List.mem_flatten.1 hx
  exact List.all_eq_true.1 (h c hc) x hxc

theorem all_storeL {p : Value → Bool} : ∀ {vs c : List Value} {i : Nat}, c.all p = true → vs.all p = true → (storeL c i vs).all p = true := by
  intro vs
  induction vs with
  | nil => intro c i h _; exact h
  | cons x vs ih =>
    intro c i h hv
    simp only [List.all_cons, Bool.and_eq_true] at hv
    refine ih ?_ hv.2
    rw [List.all_eq_true] at h ⊢
    intro y hy
    rcases List.mem_or_eq_of_mem_set hy with hy | rfl
    · exact h y hy
    · exact hv.1

theorem RowsP.append {b : Nat} (h : RowsP t sz s v cs S) {y : Value} {ds : List (List Value)} (hy : RowV sz s y ds) (hdp : ∀ c ∈ ds, c.all primV = true) (hbig : tooBig (cs.length + ds.length) b = false) (hb0 : ∀ n, 0 < n → n ≤ ds.length → tooBig n b = false) :
    ∃ val upd nx S', evP s.heap.get s.next (.append t sz b v y) = some ⟨val, upd, nx⟩ ∧ RowsP t sz ⟨applyUpd s.heap upd, nx⟩ val (cs ++ ds) S' ∧ Kept S s ⟨applyUpd s.heap upd, nx⟩ ∧ (∀ x ∈ S', x ∈ S ∨ s.next ≤ x) := by
  have hl := hy.lenV
  have hf := hy.first
  have hdz := hy.1
  have hdl := flatten_len hdz
  have hcell := flat_cells hdz
  have hall : ∀ c ∈ cs ++ ds, c.length = sz ∧ c.all primV = true := fun c hc => by
    rcases List.mem_append.1 hc with hc | hc
    · exact h.1 c hc
    · exact ⟨(hdz c hc).1, hdp c hc⟩
  have hdpf := all_flatten hdp
  have hcpf := all_flatten fun c hc => (h.1 c hc).2
  have hflat : (cs ++ ds).flatten = cs.flatten ++ ds.flatten := List.flatten_append
  have hfl0 := flatten_len h.toO.1
  have hlen : (cs ++ ds).length = cs.length + ds.length := List.length_append
  obtain ⟨hz, ⟨rfl, rfl, rfl⟩ | ⟨id, o, cap, c, rfl, rfl, h1, h2, h3, hcp, h4, h5⟩⟩ := h
  · by_cases h0 : ds.length = 0
    · have : ds = [] := List.eq_nil_of_length_eq_zero h0
      subst this
      refine ⟨.slice none 0 0, [], s.next, [], ?_, ⟨by simp, .inl ⟨rfl, rfl, rfl⟩⟩, Kept.refl _ _, by simp⟩
      simp only [List.length_nil] at hl hf
      simp [evP, hl, hf]
    · refine ⟨_, _, _, [s.next], ev_append_nil hl hf hcell hdl (by omega) (hb0 _ (by omega) (Nat.le_refl _)), ⟨hall, .inr ⟨s.next, 0, ds.length, ds.flatten, by simp, rfl, by simp, Nat.lt_succ_self _, ?_, hdpf, by omega, ?_⟩⟩, ⟨Nat.le_succ _, fun id hid _ => ?_⟩, by simp⟩
      · simp only [applyUpd, Heap.get_put, if_true]
      · rw [List.nil_append, List.drop_zero, List.take_of_length_le (by omega)]
      · have : ¬ id = s.next := by omega
        simp only [applyUpd, Heap.get_put, this, if_false]
  · have hadd : (cs.length + ds.length) * sz = cs.length * sz + ds.length * sz := Nat.add_mul ..
    by_cases hfit : cs.length + ds.length ≤ cap
    · have hm2 : (cs.length + ds.length) * sz ≤ cap * sz := Nat.mul_le_mul_right _ hfit
      refine ⟨_, _, _, [id], ev_append_in hl hf hcell hdl h3 hfit (by omega), ⟨hall, .inr ⟨id, o, cap, storeL c (o + cs.length * sz) ds.flatten, by rw [hlen], rfl, by rw [hlen]; exact hfit, h2, ?_, all_storeL hcp hdpf, by rw [storeL_length]; exact h4, ?_⟩⟩, ⟨Nat.le_refl _, fun j hj hn => ?_⟩, fun x hx => .inl hx⟩
      · simp only [applyUpd, Heap.get_put, if_true]
      · rw [hflat, hlen]
        apply List.ext_getElem?
        intro j
        rw [List.getElem?_take, List.getElem?_drop, storeL_get _ _ _ _ (by omega)]
        have h6 := congrArg (fun l => l[j]?) h5
        simp only [List.getElem?_take, List.getElem?_drop] at h6
        by_cases hj : j < cs.length * sz
        · rw [if_pos hj] at h6
          rw [if_pos (by omega), if_neg (by omega), h6, List.getElem?_append_left (by omega)]
        · by_cases hj2 : j < (cs.length + ds.length) * sz
          · rw [if_pos hj2, if_pos (by omega), List.getElem?_append_right (by omega)]
            congr 1
            omega
          · rw [if_neg hj2, List.getElem?_eq_none (by rw [List.length_append]; omega)]
      · simp only [List.mem_cons, List.not_mem_nil, or_false] at hn
        simp only [applyUpd, Heap.get_put, hn, if_false]
    · have hle : cs.length * sz ≤ cap * sz := Nat.mul_le_mul_right _ h1
      have hgrow := ev_append_grow (nx := s.next) (b := b) (o := o) hl hf hcell hdl h3 hfit (by omega) (.inr rfl) hbig
      rw [h5] at hgrow
      have hne : ¬ s.next = id := by omega
      refine ⟨_, _, _, [s.next], hgrow, ⟨hall, .inr ⟨s.next, 0, cs.length + ds.length, cs.flatten ++ ds.flatten, by rw [hlen], rfl, by rw [hlen]; exact Nat.le_refl _, Nat.lt_succ_self _, ?_, by rw [List.all_append, hcpf, hdpf]; rfl, by rw [List.length_append]; omega, ?_⟩⟩, ⟨Nat.le_succ _, fun j hj hn => ?_⟩, by simp⟩
      · simp only [applyUpd, Bool.false_eq_true, if_false, Heap.get_put, if_true, hne]
      · rw [List.drop_zero, hlen, hflat, List.take_of_length_le (by rw [List.length_append]; omega)]
      · simp only [List.mem_cons, List.not_mem_nil, or_false] at hn
        have : ¬ j = s.next := by omega
        simp only [applyUpd, Bool.false_eq_true, if_false, Heap.get_put, hn, this]

theorem flat_mid (hz : ∀ c ∈ cs, c.length = sz ∧ c.all isCell = true) (k : Nat) (row : List Value) : (cs.take k ++ row :: cs.drop k).flatten = cs.flatten.take (k * sz) ++ row ++ cs.flatten.drop (k * sz) := by
  rw [List.flatten_append, List.flatten_cons, (row_flat hz k).1, (row_flat hz k).2, List.append_assoc]

theorem RowsP.insert {b : Nat} {ki : FuncId} (hsz : 1 < sz) (h32 : sz < 4294967296) (h : RowsP t sz s v cs S) {yb : Nat} {row : List Value} (hyb : s.heap.get yb = some (.cells row t sz false)) (hyl : yb < s.next) (hrl : row.length = sz) (hrp : row.all primV = true) (hyS : yb ∉ S)
    {k : Nat} (hk : k ≤ cs.length) (hbig : tooBig (cs.length + 1) b = false) (hb1 : tooBig 1 b = false) :
    ∃ val s' S', insSem ki t sz b ki [v, .int .i64 (k : Nat), .slice (some ⟨yb, 0, none⟩) 1 1] s = some (val, s') ∧ RowsP t sz s' val (cs.take k ++ row :: cs.drop k) S' ∧ Kept S s s' ∧ (∀ x ∈ S', x ∈ S ∨ s.next ≤ x) := by
  have hy : RowV sz s (.slice (some ⟨yb, 0, none⟩) 1 1) [row] := ⟨fun c hc => by rw [List.mem_singleton.1 hc]; exact ⟨hrl, prim_cells hrp⟩, .inr ⟨yb, 0, 1, row, t, false, rfl, Nat.le_refl _, hyl, hyb, by simp only [List.length_singleton]; omega, by simp [hrl.symm]⟩⟩
  have hall : ∀ c ∈ cs.take k ++ row :: cs.drop k, c.length = sz ∧ c.all primV = true := fun c hc => by
    rcases List.mem_append.1 hc with hc | hc
    · exact h.1 c (List.mem_of_mem_take hc)
    · rcases List.mem_cons.1 hc with rfl | hc
      · exact ⟨hrl, hrp⟩
      · exact h.1 c (List.mem_of_mem_drop hc)
  have hlen : (cs.take k ++ row :: cs.drop k).length = cs.length + 1 := by simp only [List.length_append, List.length_cons, List.length_take, List.length_drop]; omega
  obtain ⟨a, cap, hv⟩ := h.toV.len
  by_cases hkn : k = cs.length
  · obtain ⟨val, upd, nx, S', he, hR, hK, hS⟩ := h.append (b := b) hy (fun c hc => by rw [List.mem_singleton.1 hc]; exact hrp) hbig (fun n h0 h1 => by
      simp only [List.length_singleton] at h1
      have : n = 1 := by omega
      rw [this]; exact hb1)
    refine ⟨val, _, S', ?_, ?_, hK, hS⟩
    · subst hv
      have hok : cs.length ≤ cap ∧ sliceOk sz s a = true := by
        obtain ⟨_, ⟨h1, h2, h3⟩ | ⟨id, o, cap', c, h1, h2, h3, h4, h5, _⟩⟩ := h
        · simp only [Value.slice.injEq] at h1
          obtain ⟨rfl, h1, rfl⟩ := h1
          exact ⟨by omega, rfl⟩
        · simp only [Value.slice.injEq] at h1
          obtain ⟨rfl, _, rfl⟩ := h1
          exact ⟨h3, by simp [sliceOk, h5]⟩
      simp only [insSem]
      rw [if_pos ⟨trivial, hsz, h32⟩, if_pos (by rw [hkn])]
      unfold insEnd
      rw [if_pos hok, he]
      rfl
    · rw [hkn, List.take_length, List.drop_length]; exact hR
  · have hklt : k < cs.length := by omega
    have hz := h.toO.1
    obtain ⟨_, ⟨rfl, rfl, rfl⟩ | ⟨id, o, cap', c, rfl, rfl, h1, h2, h3, hcp, h4, h5⟩⟩ := h
    · simp at hklt
    cases hv
    have hm1 : cs.length * sz ≤ cap * sz := Nat.mul_le_mul_right _ h1
    have hm2 : k * sz + (cs.length - k) * sz = cs.length * sz := by rw [← Nat.add_mul]; congr 1; omega
    have hm3 : (cs.length + 1) * sz = cs.length * sz + sz := by rw [Nat.add_mul, Nat.one_mul]
    have hne : id ≠ yb := fun e => hyS (by simp [e])
    have hrow : (row.drop 0).take sz = row := by rw [List.drop_zero, List.take_of_length_le (by omega)]
    have hgrow : insGrow c o k cs.length sz row = (cs.take k ++ row :: cs.drop k).flatten := by
      rw [flat_mid hz, ← h5]
      unfold insGrow
      rw [List.take_take, List.drop_take, List.drop_drop, show min (k * sz) (cs.length * sz) = k * sz by omega, show cs.length * sz - k * sz = (cs.length - k) * sz by omega]
    have hins : insSem ki t sz b ki [.slice (some ⟨id, o, none⟩) cs.length cap, .int .i64 (k : Nat), .slice (some ⟨yb, 0, none⟩) 1 1] s = some (if cs.length + 1 ≤ cap then (.slice (some ⟨id, o, none⟩) (cs.length + 1) cap, ⟨s.heap.put id (some (.cells (insPlace c o k cs.length sz row) t sz false)), s.next⟩)
        else (.slice (some ⟨s.next, 0, none⟩) (cs.length + 1) (cs.length + 1), ⟨applyUpd s.heap [(s.next, some (.cells (insGrow c o k cs.length sz row) t sz false)), (id, none)], s.next + 1⟩)) := by
      simp only [insSem]
      rw [if_pos ⟨trivial, hsz, h32⟩, if_neg (by omega), if_pos (by omega)]
      simp only [Int.toNat_natCast, insMid, h3, hyb]
      rw [if_pos ⟨hne, trivial, hsz, trivial, hcp, hrp, by omega, h1, h4, hbig⟩, hrow]
    rw [hins]
    split
    · rename_i hfit
      have hm4 : (cs.length + 1) * sz ≤ cap * sz := Nat.mul_le_mul_right _ hfit
      have hpl := insPlace_eq c o k cs.length sz row (by omega)
      have hgl := insGrow_length c o k cs.length sz row hrl hk (by omega)
      refine ⟨_, _, [id], rfl, ⟨hall, .inr ⟨id, o, cap, insPlace c o k cs.length sz row, by rw [hlen], rfl, by rw [hlen]; exact hfit, h2, by simp only [Heap.get_put, if_true], all_mid hcp hrp, ?_, ?_⟩⟩, ⟨Nat.le_refl _, fun j hj hn => ?_⟩, fun x hx => .inl hx⟩
      · rw [hpl, List.length_append, List.length_append, hgl, List.length_take, List.length_drop]; omega
      · rw [hpl, hlen, List.append_assoc, List.drop_append_of_le_length (by simp; omega), List.drop_of_length_le (l := c.take o) (by simp; omega), List.nil_append, List.take_append_of_le_length (by omega), List.take_of_length_le (by omega)]
        exact hgrow
      · simp only [List.mem_cons, List.not_mem_nil, or_false] at hn
        simp only [Heap.get_put, hn, if_false]
    · have hgl := insGrow_length c o k cs.length sz row hrl hk (by omega)
      have hne2 : ¬ s.next = id := by omega
      refine ⟨_, _, [s.next], rfl, ⟨hall, .inr ⟨s.next, 0, cs.length + 1, insGrow c o k cs.length sz row, by rw [hlen], rfl, by rw [hlen]; exact Nat.le_refl _, Nat.lt_succ_self _, ?_, all_grow hcp hrp, by omega, ?_⟩⟩, ⟨Nat.le_succ _, fun j hj hn => ?_⟩, by simp⟩
      · simp only [applyUpd, Heap.get_put, hne2, if_true, if_false]
      · rw [List.drop_zero, hlen, List.take_of_length_le (by omega)]
        exact hgrow
      · simp only [List.mem_cons, List.not_mem_nil, or_false] at hn
        have : ¬ j = s.next := by omega
        simp only [applyUpd, Heap.get_put, hn, this, if_false]
end

end Go.Abs


/-
  A slice of records as a law's argument.
-/
set_option linter.unusedVariables false
set_option linter.unusedSimpArgs false
set_option maxRecDepth 100000
namespace Go.Abs
open Go

end Go.Abs


/-
  slices.Sorted(maps.Keys(m)) at keys of the kind int: a call whose answer is known.
-/
set_option linter.unusedVariables false
set_option linter.unusedSimpArgs false
set_option maxRecDepth 100000
namespace Go.Abs
open Go Go.Abs.K Go.RowKit Go.ChangeShapes Go.WideShapes

/-! ### Sorting -/
/-! ### What such a map must be -/
/-! ### What the program's functions do -/
def anyR : Value → Option (DataW Unit × List MemPlace) := fun _ => some (.nil, [])

structure SortedOK (P : Program) (fS fK : FuncId) (t : TypeId) : Prop where
  key : P.underlying t = some (.int .i64)
  can : Callable P fS
  run : ∀ (B b nn : Nat) (D : DataW Unit) (w : World), B < w.heap.size → w.cell? ⟨B, 0, none⟩ = some (.map (some b)) → w.ownsMap P t anyR b nn D → Maps.size D ≤ 1073741824 →
    Calls P fS #[.func (.func fK) #[] #[.pointer (some ⟨B, 0, none⟩)]] w fun e w' => ∃ (v : Value) (ss : List Int), e = .returned v ∧ ss.Perm (intKeys D) ∧
      w'.ownsRow w.heap.size t 1 v ss.length ((ss.mergeSort (fun x y => decide (x ≤ y))).map encZ) ∧ (v = .slice none 0 0 ↔ ss = []) ∧ Below w.heap.size w w'

theorem below_step {β : Map} {h : HF} {w w' : World} {n : Nat} (hs : Sim β h w) (hb : Below w.heap.size w w') : Sim β h w' ∧ Step β h w β h w' n n :=
  ⟨⟨fun j q x e f => by rw [hb.block q.blk (hs.lt e f)]; exact hs.obj j q x e f, hs.inj, hs.tot⟩,
    Map.le_refl β, Nat.le_refl _, fun j q e f => (by rw [f] at e; cases e), fun k hk _ => hb.block k hk, hb.size, fun k h _ => h, fun j q x e f _ => ⟨e, f⟩, hb.os, hb.tape, hb.output⟩

theorem fresh_step {β : Map} {h : HF} {w w' : World} {n : Nat} {r : Rec} {o : AObj} (hs : Sim β h w) (hn : β n = none) (hb : Below w.heap.size w w') (hblk : w.heap.size ≤ r.blk) (hro : o.isRo = false) (hnew : ORel (ext β n r) r o w'.heap[r.blk]?) :
    Sim (ext β n r) (fun j => if j = n then some o else h j) w' ∧ Step β h w (ext β n r) (fun j => if j = n then some o else h j) w' n (n + 1) := by
  have hle := ext_le (r := r) hn
  have hold : ∀ j q x, ext β n r j = some q → (if j = n then some o else h j) = some x → j ≠ n → β j = some q ∧ h j = some x ∧ q.blk < w.heap.size := by
    intro j q x e f i
    simp only [ext, if_neg i] at e
    rw [if_neg i] at f
    exact ⟨e, f, hs.lt e f⟩
  refine ⟨⟨fun j q x e f => ?_, fun i1 i2 q1 q2 x1 x2 e1 e2 f1 f2 g => ?_, fun j hj => (hs.tot j hj).imp fun q e => hle j q e⟩, hle, by omega, fun j q e f => ?_, fun k hk _ => hb.block k hk, hb.size, fun k hk hlt => ?_, fun j q x e f g => ?_, hb.os, hb.tape, hb.output⟩
  · by_cases i : j = n
    · subst i
      simp only [ext, if_true, Option.some.injEq] at e
      subst e
      rw [if_pos rfl] at f; cases f
      exact hnew
    · obtain ⟨a, b, c⟩ := hold j q x e f i
      rw [hb.block q.blk c]
      exact (hs.obj j q x a b).mono hle
  · by_cases i : i1 = n
    · by_cases j : i2 = n
      · exact .inl (i.trans j.symm)
      · obtain ⟨_, _, c⟩ := hold i2 q2 x2 e2 f2 j
        subst i
        simp only [ext, if_true, Option.some.injEq] at e1
        subst e1; omega
    · by_cases j : i2 = n
      · obtain ⟨_, _, c⟩ := hold i1 q1 x1 e1 f1 i
        subst j
        simp only [ext, if_true, Option.some.injEq] at e2
        subst e2; omega
      · obtain ⟨a1, b1, _⟩ := hold i1 q1 x1 e1 f1 i
        obtain ⟨a2, b2, _⟩ := hold i2 q2 x2 e2 f2 j
        exact hs.inj i1 i2 q1 q2 x1 x2 a1 a2 b1 b2 g
  · by_cases i : j = n
    · omega
    · simp only [ext, if_neg i] at e; rw [f] at e; cases e
  · obtain ⟨j, q, x, e, f, g, hq⟩ := hk
    by_cases i : j = n
    · subst i
      simp only [ext, if_true, Option.some.injEq] at e
      subst e; omega
    · obtain ⟨a, b, _⟩ := hold j q x e f i
      exact ⟨j, q, x, a, b, g, hq⟩
  · by_cases i : j = n
    · subst i
      rw [if_pos rfl] at f; cases f; rw [hro] at g; cases g
    · obtain ⟨a, b, _⟩ := hold j q x e f i
      exact ⟨a, b⟩

end Go.Abs


/-
  A slice of records as a law's argument, where a record's cells may be slices of numbers.
-/
set_option linter.unusedVariables false
set_option linter.unusedSimpArgs false
set_option maxRecDepth 100000
namespace Go.Abs
open Go Go.RowKit Go.ChangeShapes Go.WideShapes

inductive CellSpec where
  | prim (v : Value)
  | ints (k : IntKind) (bs : List Int)

theorem All2.len {α γ : Type} {R : α → γ → Prop} {l : List α} {l' : List γ} (h : All2 R l l') : l.length = l'.length := by
  induction h with
  | nil => rfl
  | cons _ _ ih => simp [ih]
theorem All2.get {α γ : Type} {R : α → γ → Prop} {l : List α} {l' : List γ} (h : All2 R l l') : ∀ {i : Nat} {a : α} {b : γ}, l[i]? = some a → l'[i]? = some b → R a b := by
  induction h with
  | nil => intro i a b h; simp at h
  | cons h0 _ ih =>
    intro i a b h1 h2
    cases i with
    | zero => simp only [List.getElem?_cons_zero, Option.some.injEq] at h1 h2; subst h1 h2; exact h0
    | succ i => exact ih (by simpa using h1) (by simpa using h2)
end Go.Abs


/-
  Small helpers for laws: numbers, pointers, maps from numbers to bytes.
-/
set_option linter.unusedVariables false
set_option linter.unusedSimpArgs false
set_option maxRecDepth 100000
namespace Go.Abs
open Go Go.Abs.K

abbrev i64 (n : Int) : Value := .int .i64 n
abbrev ptr (q : Nat) : Value := .pointer (some ⟨q, 0, none⟩)
theorem one_of {α : Type} {xs : List α} {i n : Nat} (h : xs.length = n) (hi : i < n) : ∃ y, xs[i]? = some y := ⟨_, List.getElem?_eq_getElem (by omega)⟩
theorem resV_cell (e : Env) (s : St) (a : Nat) (n : Option Nat) : resV e s (.cell a n) = (e.get a).bind (loadA s n) := rfl
theorem loadA_n (s : St) (n id o : Nat) : loadA s (some n) (.pointer (some ⟨id, o, none⟩)) = (cellsAt s.heap.get id o n).map fun l => .agg l.toArray := by
  simp only [loadA, evP]
  cases cellsAt s.heap.get id o n <;> rfl
/-! ### maps from numbers to bytes -/
def InV (V : List Nat) (v : Value) : Prop := ∀ id o l c, v = .slice (some ⟨id, o, none⟩) l c → id ∈ V
theorem InV.mono {V W : List Nat} {v : Value} (h : InV V v) (hs : ∀ x ∈ V, x ∈ W) : InV W v := fun id o l c e => hs id (h id o l c e)

section
variable {s : St} {V : List Nat} {es : List MapEntry} {F : List (Int × List Int)} {clock : Nat}

end

end Go.Abs
