/-
  Rows of plain cells: one is written whole; the last ones are cleared. Calls that leave the heap.
-/
import Derived.Test.YtgnpafmhdmmmhaaA46
set_option linter.unusedVariables false
set_option linter.unusedSimpArgs false
set_option maxRecDepth 100000
namespace Go.Abs
open Go

/-- What a call that leaves the heap comes to. -/
def Pure (tbl : FuncId → Option AFun) (ov : CallSem) (f : FuncId) (args : List Value) (s : St) (v : Value) : Prop :=
  WCall (fun k => call tbl ov k) f args s fun u s' => u = v ∧ s'.heap = s.heap ∧ s.next ≤ s'.next
theorem callee_clo (f : FuncId) (p : Value) (l : List Value) : callee (.func (.func f) #[] #[p]) l = some (f, l ++ [p]) := by simp [callee]

theorem ev_slice3 {g : Nat → Option AObj} {nx id o lo hi mx len cap sz z : Nat} {c : List Value} {t : TypeId} {ro : Bool} {k k' k'' : IntKind} (hg : g id = some (.cells c t z ro)) (hz : ro = true ∨ z = sz ∨ z = sz + 4294967296) (h1 : lo ≤ hi) (h2 : hi ≤ mx) (h3 : mx ≤ cap) :
    evP g nx (.slice (.slice sz) (.slice (some ⟨id, o, none⟩) len cap) (some (.int k lo)) (some (.int k' hi)) (some (.int k'' mx))) = some ⟨.slice (some ⟨id, o + lo * sz, none⟩) (hi - lo) (mx - lo), [], nx⟩ := by
  have a1 : (lo : Int) ≤ hi := by omega
  have a2 : (hi : Int) ≤ mx := by omega
  have a3 : (mx : Int) ≤ cap := by omega
  simp [evP, boundsV, boundV, hg, hz, a1, a2, a3, h1, h2, h3]

theorem ev_clear {g : Nat → Option AObj} {nx id o len cap sz z : Nat} {c zl : List Value} {t : TypeId} (hg : g id = some (.cells c t z false)) (h0 : len ≠ 0) (hz : zl.length = sz) (h1 : o + len * sz ≤ c.length) :
    evP g nx (.clear sz zl (.slice (some ⟨id, o, none⟩) len cap)) = some ⟨.tuple #[], [(id, some (.cells (storeL c o (List.replicate len zl).flatten) t z false))], nx⟩ := by
  simp [evP, hg, h0, hz, h1]

theorem flat_rep (zl : List Value) (n : Nat) : (List.replicate n zl).flatten.length = n * zl.length := by
  induction n with
  | zero => simp
  | succ n ih => rw [List.replicate_succ, List.flatten_cons, List.length_append, ih, Nat.add_mul, Nat.one_mul, Nat.add_comm]

theorem flat_setRow {sz : Nat} : ∀ {cs : List (List Value)}, (∀ c ∈ cs, c.length = sz) → ∀ {i : Nat} {row : List Value}, i < cs.length → row.length = sz → storeL cs.flatten (i * sz) row = (cs.set i row).flatten := by
  intro cs
  induction cs with
  | nil => intro _ i row hi; simp at hi
  | cons r cs ih =>
    intro hz i row hi hr
    have h1 := hz r (List.mem_cons_self ..)
    have hf : ∀ (l : List (List Value)), (∀ c ∈ l, c.length = sz) → l.flatten.length = l.length * sz := by
      intro l
      induction l with
      | nil => intro _; simp
      | cons x l ih =>
        intro h
        rw [List.flatten_cons, List.length_append, ih fun c hc => h c (List.mem_cons_of_mem _ hc), h x (List.mem_cons_self ..), List.length_cons, Nat.add_mul, Nat.one_mul, Nat.add_comm]
    have hz' : ∀ c ∈ cs, c.length = sz := fun c hc => hz c (List.mem_cons_of_mem _ hc)
    cases i with
    | zero =>
      rw [Nat.zero_mul, List.set_cons_zero, List.flatten_cons, List.flatten_cons, storeL_eq _ _ _ (by rw [List.length_append]; omega), List.take_zero, List.nil_append, Nat.zero_add, hr, ← h1, List.drop_left]
    | succ i =>
      simp only [List.length_cons] at hi
      have hi' : i < cs.length := by omega
      have := ih hz' hi' hr
      have hm : (i + 1) * sz ≤ cs.length * sz := Nat.mul_le_mul_right _ hi'
      rw [Nat.add_mul, Nat.one_mul] at hm
      rw [List.set_cons_succ, List.flatten_cons, List.flatten_cons, ← this, storeL_eq _ _ _ (by rw [List.length_append, hf _ hz', Nat.add_mul, Nat.one_mul]; omega), storeL_eq _ _ _ (by rw [hf _ hz']; omega)]
      rw [Nat.add_mul, Nat.one_mul, List.take_append, List.drop_append, List.take_of_length_le (by omega), List.drop_of_length_le (l := r) (by omega), List.nil_append, show i * sz + sz - r.length = i * sz by omega, show i * sz + sz + row.length - r.length = i * sz + row.length by omega]
      simp only [List.append_assoc]

theorem take_storeL {c row : List Value} {o k n : Nat} (h : k + row.length ≤ n) (hc : o + n ≤ c.length) : ((storeL c (o + k) row).drop o).take n = storeL ((c.drop o).take n) k row := by
  apply List.ext_getElem?
  intro j
  have hl : ((c.drop o).take n).length = n := by rw [List.length_take, List.length_drop]; omega
  rw [List.getElem?_take, List.getElem?_drop, storeL_get _ _ _ _ (by omega), storeL_get _ _ _ _ (by rw [hl]; omega), List.getElem?_take, List.getElem?_drop]
  by_cases hj : j < n
  · rw [if_pos hj, if_pos hj]
    by_cases hx : k ≤ j ∧ j < k + row.length
    · rw [if_pos hx, if_pos (by omega)]
      congr 1; omega
    · rw [if_neg hx, if_neg (by omega)]
  · rw [if_neg hj, if_neg hj, if_neg (by omega)]

section
variable {t : TypeId} {sz : Nat} {s : St} {cs : List (List Value)} {S : List Nat}

/-- A row is written whole. -/
theorem RowsP.setRow {a : Option Addr} {n cap : Nat} (h : RowsP t sz s (.slice a n cap) cs S) {i : Nat} (hi : i < cs.length) {row : List Value} (hr : row.length = sz) (hp : row.all primV = true) :
    ∃ id o c, a = some ⟨id, o, none⟩ ∧ S = [id] ∧ s.heap.get id = some (.cells c t sz false) ∧ o + i * sz + sz ≤ c.length ∧
      ∀ s' : St, s.next ≤ s'.next → s'.heap.get id = some (.cells (storeL c (o + i * sz) row) t sz false) → RowsP t sz s' (.slice a n cap) (cs.set i row) S := by
  obtain ⟨hz, ⟨hx, hcs, rfl⟩ | ⟨id, o, cap', c, hx, rfl, h1, h2, h3, hcp, h4, h5⟩⟩ := h
  · subst hcs; simp at hi
  simp only [Value.slice.injEq] at hx
  obtain ⟨rfl, rfl, rfl⟩ := hx
  have hm : (i + 1) * sz ≤ cs.length * sz := Nat.mul_le_mul_right _ hi
  have hm2 : cs.length * sz ≤ cap * sz := Nat.mul_le_mul_right _ h1
  rw [Nat.add_mul, Nat.one_mul] at hm
  refine ⟨id, o, c, rfl, rfl, h3, by omega, fun s' hn hg => ⟨fun d hd => ?_, .inr ⟨id, o, cap, _, by rw [List.length_set], rfl, by rw [List.length_set]; exact h1, Nat.lt_of_lt_of_le h2 hn, hg, all_storeL hcp hp, by rw [storeL_length]; exact h4, ?_⟩⟩⟩
  · rcases List.mem_or_eq_of_mem_set hd with hd | rfl
    · exact hz d hd
    · exact ⟨hr, hp⟩
  · rw [List.length_set, take_storeL (by omega) (by omega), h5, flat_setRow (fun c hc => (hz c hc).1) hi hr]

/-- The last rows are cleared, and the slice is cut there. -/
theorem RowsP.cut {a : Option Addr} {n cap : Nat} (h : RowsP t sz s (.slice a n cap) cs S) {i : Nat} (hi : i < cs.length) {zl : List Value} (hzl : zl.length = sz) (hp : zl.all primV = true) :
    ∃ id o c, a = some ⟨id, o, none⟩ ∧ n = cs.length ∧ S = [id] ∧ s.heap.get id = some (.cells c t sz false) ∧
      evP s.heap.get s.next (.slice (.slice sz) (.slice a n cap) (some (.int .i64 (i : Nat))) none none) = some ⟨.slice (some ⟨id, o + i * sz, none⟩) (n - i) (cap - i), [], s.next⟩ ∧
      evP s.heap.get s.next (.clear sz zl (.slice (some ⟨id, o + i * sz, none⟩) (n - i) (cap - i))) = some ⟨.tuple #[], [(id, some (.cells (storeL c (o + i * sz) (List.replicate (n - i) zl).flatten) t sz false))], s.next⟩ ∧
      (∀ s' : St, s'.heap.get id = some (.cells (storeL c (o + i * sz) (List.replicate (n - i) zl).flatten) t sz false) → evP s'.heap.get s'.next (.slice (.slice sz) (.slice a n cap) none (some (.int .i64 (i : Nat))) none) = some ⟨.slice a i cap, [], s'.next⟩ ∧
        (s.next ≤ s'.next → RowsP t sz s' (.slice a i cap) (cs.take i) S)) := by
  obtain ⟨hz, ⟨hx, hcs, rfl⟩ | ⟨id, o, cap', c, hx, rfl, h1, h2, h3, hcp, h4, h5⟩⟩ := h
  · subst hcs; simp at hi
  simp only [Value.slice.injEq] at hx
  obtain ⟨rfl, rfl, rfl⟩ := hx
  have hm2 : cs.length * sz ≤ cap * sz := Nat.mul_le_mul_right _ h1
  have hsub : i * sz + (cs.length - i) * sz = cs.length * sz := by rw [← Nat.add_mul]; congr 1; omega
  have hfl : (List.replicate (cs.length - i) zl).flatten.length = (cs.length - i) * sz := by rw [flat_rep, hzl]
  refine ⟨id, o, c, rfl, rfl, rfl, h3, ev_sliceL h3 (.inr (.inl rfl)) (by omega) h1, ev_clear h3 (by omega) hzl (by omega), fun s' hg => ⟨ev_sliceH hg (.inr (.inl rfl)) (by omega), fun hn => ⟨fun d hd => hz d (List.mem_of_mem_take hd), .inr ⟨id, o, cap, _, by rw [List.length_take]; congr 1; omega, rfl, by rw [List.length_take]; omega, Nat.lt_of_lt_of_le h2 hn, hg, ?_, by rw [storeL_length]; exact h4, ?_⟩⟩⟩⟩
  · refine all_storeL hcp ?_
    rw [List.all_eq_true]
    intro x hx
    obtain ⟨l, hl, hxl⟩ := List.mem_flatten.1 hx
    rw [List.eq_of_mem_replicate hl] at hxl
    exact List.all_eq_true.1 hp x hxl
  · rw [List.length_take, Nat.min_eq_left (by omega), (row_flat (fun c hc => ⟨(hz c hc).1, prim_cells (hz c hc).2⟩) i).1, ← h5, List.take_take, Nat.min_eq_left (by omega)]
    rw [storeL_eq _ _ _ (by rw [hfl]; omega), List.append_assoc, List.drop_append_of_le_length (by rw [List.length_take]; omega), List.take_append_of_le_length (by rw [List.length_drop, List.length_take]; omega), List.drop_take, List.take_take]
    congr 1; omega
end
end Go.Abs
