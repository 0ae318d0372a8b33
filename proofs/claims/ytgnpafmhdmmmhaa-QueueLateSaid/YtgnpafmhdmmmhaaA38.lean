/-
  slices.Insert: its code evaluated, where there is room and where there is none.
-/
import Derived.Test.YtgnpafmhdmmmhaaA37
set_option linter.unusedVariables false
set_option linter.unusedSimpArgs false
set_option maxRecDepth 100000
namespace Go.Abs
open Go Go.Abs.K

section
variable {g : Nat → Option AObj} {nx id o dl dc sz z m : Nat} {c new : List Value} {t : TypeId} {y : Value} {ly : Nat}
theorem ev_copy (hd : g id = some (.cells c t z false)) (hn : lenV y = some ly) (hm : min ly dl = m) (hf : firstL g sz m y = some new) (hp : new.all isCell = true) (hl : new.length = m * sz) (ho : o + m * sz ≤ c.length) :
    evP g nx (.copy sz (.slice (some ⟨id, o, none⟩) dl dc) y) = some ⟨.int .i64 (m : Nat), [(id, some (.cells (storeL c o new) t z false))], nx⟩ := by
  subst hm
  have : ¬ (new.all isCell = false ∨ new.length ≠ min ly dl * sz) := by rw [hp, hl]; simp
  simp only [evP, hn, hf, hd, ho, this, Option.bind_some, if_true, if_false]
theorem firstL_cells {ob ln cap : Nat} {ro : Bool} (hd : g id = some (.cells c t z ro)) (h1 : m ≤ ln) (h2 : ob + m * sz ≤ c.length) : firstL g sz m (.slice (some ⟨id, ob, none⟩) ln cap) = some ((c.drop ob).take (m * sz)) := by
  simp [firstL, cellsAt, hd, h1, h2]
theorem ev_cap {cap ln : Nat} {ro : Bool} (hd : g id = some (.cells c t z ro)) (h : ro = true ∨ 4294967296 ≤ z) : evP g nx (.cap (.slice (some ⟨id, o, none⟩) ln cap)) = some ⟨.int .i64 cap, [], nx⟩ := by
  simp [evP, hd, h]
end

/-- The cells with a row put in. -/
def insPlace (c : List Value) (o k n sz : Nat) (row : List Value) : List Value := c.take (o + k * sz) ++ row ++ (c.drop (o + k * sz)).take ((n - k) * sz) ++ c.drop (o + (n + 1) * sz)
/-- The rows alone, with a row put in. -/
def insGrow (c : List Value) (o k n sz : Nat) (row : List Value) : List Value := (c.drop o).take (k * sz) ++ row ++ (c.drop (o + k * sz)).take ((n - k) * sz)

theorem ins_list (c row : List Value) (p m : Nat) (h : p + row.length + m ≤ c.length) : storeL (storeL c (p + row.length) ((c.drop p).take m)) p row = c.take p ++ row ++ (c.drop p).take m ++ c.drop (p + row.length + m) := by
  have hl : ((c.drop p).take m).length = m := by simp; omega
  rw [storeL_eq _ (storeL c (p + row.length) ((c.drop p).take m)) p (by rw [storeL_length]; omega), storeL_eq _ c (p + row.length) (by rw [hl]; omega), hl]
  have h1 : (c.take (p + row.length) ++ (c.drop p).take m ++ c.drop (p + row.length + m)).take p = c.take p := by
    rw [List.append_assoc, List.take_append_of_le_length (by simp; omega), List.take_take]
    congr 1; omega
  have h2 : (c.take (p + row.length) ++ (c.drop p).take m ++ c.drop (p + row.length + m)).drop (p + row.length) = (c.drop p).take m ++ c.drop (p + row.length + m) := by
    rw [List.append_assoc, List.drop_append_of_le_length (by simp; omega), List.drop_take]
    simp
  rw [h1, h2]
  simp [List.append_assoc]

section
variable {cs : Nat → CallSem} {e : TypeId} {sz b : Nat} {z : List Value} {kv kr ki : FuncId} {s : St} {id yb oo oy yc n cc k : Nat} {c ys : List Value} {t ty : TypeId} {zy : Nat}

/-- There is room. -/
theorem ins_place (hid : s.heap.get id = some (.cells c t (sz + 4294967296) false)) (hy : s.heap.get yb = some (.cells ys ty zy false)) (hne : yb ≠ id) (hkv : ki ≠ kv) (hk : k < n) (hcc : n + 1 ≤ cc) (hn : n + 1 ≤ 2 ^ 46) (hsz : 1 < sz)
    (hzy : 1 < zy) (hc : c.all primV = true) (hyp : ys.all primV = true) (ho : oo + cc * sz ≤ c.length) (hoy : oy + sz ≤ ys.length) :
    WCode (fun k => call (tblOf [(ki, insFun e sz b z kv kr)]) (ovlSem kv) k) (insCode e sz b z kv kr) (params 0 [.slice (some ⟨id, oo, none⟩) n cc, .int .i64 (k : Nat), .slice (some ⟨yb, oy, none⟩) 1 yc]) s (ends [.tmp 6] fun u s' =>
      u = .slice (some ⟨id, oo, none⟩) (n + 1) cc ∧ s'.next = s.next ∧ s'.heap.get id = some (.cells (insPlace c oo k n sz ((ys.drop oy).take sz)) t (sz + 4294967296) false) ∧ ∀ j, j ≠ id → s'.heap.get j = s.heap.get j) := by
  have hz2 : ∀ {X : Prop}, X ∨ sz + 4294967296 = sz ∨ sz + 4294967296 = sz + 4294967296 := .inr (.inr rfl)
  have hnk : (n + 1) * sz ≤ cc * sz := Nat.mul_le_mul_right _ hcc
  have hk1 : (k + 1) * sz + (n - k) * sz = (n + 1) * sz := by rw [← Nat.add_mul]; congr 1; omega
  have hk2 : (k + 1) * sz = k * sz + sz := by rw [Nat.add_mul, Nat.one_mul]
  have hrow : ((ys.drop oy).take sz).length = sz := by simp; omega
  have e1 : evP s.heap.get s.next (.slice (.slice sz) (.slice (some ⟨id, oo, none⟩) n cc) (some (.int .i64 (k : Nat))) none none) = _ := ev_sliceL hid hz2 (by omega) (by omega)
  have e2 : evP s.heap.get s.next (.cap (.slice (some ⟨id, oo, none⟩) n cc)) = _ := ev_cap hid (by omega)
  have e3 : evP s.heap.get s.next (.slice (.slice sz) (.slice (some ⟨id, oo, none⟩) n cc) none (some (.int .i64 ((n + 1 : Nat) : Int))) none) = _ := ev_sliceH hid hz2 (by omega)
  have e4 : evP s.heap.get s.next (.slice (.slice sz) (.slice (some ⟨id, oo, none⟩) (n + 1) cc) (some (.int .i64 ((k + 1 : Nat) : Int))) none none) = _ := ev_sliceL hid hz2 (by omega) (by omega)
  have e5 : evP s.heap.get s.next (.slice (.slice sz) (.slice (some ⟨id, oo, none⟩) (n + 1) cc) (some (.int .i64 (k : Nat))) none none) = _ := ev_sliceL hid hz2 (by omega) (by omega)
  have d0 : (((1 : Nat) : Int) == 0) = false := rfl
  have w1 : IntKind.i64.wrap ((n : Int) + ((1 : Nat) : Int)) = ((n + 1 : Nat) : Int) := by rw [IntKind.wrap_i64]; omega
  have w2 : IntKind.i64.wrap ((k : Int) + ((1 : Nat) : Int)) = ((k + 1 : Nat) : Int) := by rw [IntKind.wrap_i64]; omega
  have d1 : ((k : Int) == (n : Int)) = false := by simp; omega
  have d2 : decide (((n + 1 : Nat) : Int) > (cc : Int)) = false := by simp; omega
  have hov : ∀ K, WCall (fun k => call (tblOf [(ki, insFun e sz b z kv kr)]) (ovlSem kv) k) kv [.slice (some ⟨yb, oy, none⟩) 1 yc, .slice (some ⟨id, oo + (k + 1) * sz, none⟩) (n + 1 - (k + 1)) (cc - (k + 1))] s K = K (.bool false) s := fun K =>
    WCall.eq (WCall.ov (by simp [tblOf, hkv]) (r := (.bool false, s)) (by simp only [ovlSem, if_true, hid, hy]; rw [if_pos ⟨hne, hzy, by omega, by omega, by omega⟩]) ⟨rfl, rfl⟩) K
  have e6 : evP s.heap.get s.next (.copy sz (.slice (some ⟨id, oo + (k + 1) * sz, none⟩) (n + 1 - (k + 1)) (cc - (k + 1))) (.slice (some ⟨id, oo + k * sz, none⟩) (n + 1 - k) (cc - k))) = _ :=
    ev_copy (m := n - k) hid rfl (by omega) (firstL_cells hid (by omega) (by omega)) (prim_cells (List.all_eq_true.2 fun v hv => List.all_eq_true.1 hc v (List.mem_of_mem_drop (List.mem_of_mem_take hv)))) (by simp; omega) (by omega)
  have hl1 : (storeL c (oo + (k + 1) * sz) ((c.drop (oo + k * sz)).take ((n - k) * sz))).length = c.length := storeL_length ..
  have hlist := ins_list c ((ys.drop oy).take sz) (oo + k * sz) ((n - k) * sz) (by omega)
  rw [hrow, Nat.add_assoc oo, ← hk2, Nat.add_assoc oo, hk1] at hlist
  generalize hc1 : storeL c (oo + (k + 1) * sz) ((c.drop (oo + k * sz)).take ((n - k) * sz)) = c1 at e6 hl1 hlist
  have hg1 : (s.heap.put id (some (.cells c1 t (sz + 4294967296) false))).get id = some (.cells c1 t (sz + 4294967296) false) := by rw [Heap.get_put, if_pos rfl]
  have hg2 : (s.heap.put id (some (.cells c1 t (sz + 4294967296) false))).get yb = some (.cells ys ty zy false) := by rw [Heap.get_put, if_neg hne, hy]
  have e7 : evP (s.heap.put id (some (.cells c1 t (sz + 4294967296) false))).get s.next (.slice (.slice sz) (.slice (some ⟨id, oo, none⟩) (n + 1) cc) (some (.int .i64 (k : Nat))) none none) = _ := ev_sliceL hg1 hz2 (by omega) (by omega)
  have e8 : evP (s.heap.put id (some (.cells c1 t (sz + 4294967296) false))).get s.next (.copy sz (.slice (some ⟨id, oo + k * sz, none⟩) (n + 1 - k) (cc - k)) (.slice (some ⟨yb, oy, none⟩) 1 yc)) = some ⟨.int .i64 ((1 : Nat) : Int), [(id, some (.cells (storeL c1 (oo + k * sz) ((ys.drop oy).take sz)) t (sz + 4294967296) false))], s.next⟩ :=
    ev_copy (m := 1) hg1 rfl (by omega) (by rw [firstL_cells hg2 (by omega) (by omega), Nat.one_mul]) (prim_cells (List.all_eq_true.2 fun v hv => List.all_eq_true.1 hyp v (List.mem_of_mem_drop (List.mem_of_mem_take hv)))) (by omega) (by omega)
  simp -implicitDefEqProofs only [insCode, params, go_sem, reduceIte, Nat.reduceEqDiff, Nat.reduceAdd, Nat.reduceMul, Nat.reduceLT, Nat.reduceLeDiff, reduceCtorEq, Int.reduceEq, Int.reduceNeg, Nat.reduceSub, Int.reduceLT, Int.reduceLE, Int.reduceGT, Int.reduceGE, Int.reduceAdd, Int.reduceSub, Int.reduceToNat, Int.reduceBNe, Int.reduceBEq, Nat.mul_one, Nat.zero_mul, e1, e2, e3, e4, e5, w1, w2, d0, d1, d2, hov, e6, e7, e8]
  rw [hlist]
  refine ⟨rfl, fun j hj => by rw [if_neg hj, if_neg hj]⟩

theorem ev_appendMake {g : Nat → Option AObj} {nx id o n sc m sz b z : Nat} {c zl : List Value} {t e : TypeId} (hd : g id = some (.cells c t z true)) (h0 : 0 < m) (hb : tooBig (n + m) b = false) (hz : zl.length = sz) (hs : 0 < sz) (ht : t = e) (ho : o + n * sz ≤ c.length) (hc : sc < n + m) :
    evP g nx (.appendMake e sz b zl (.slice (some ⟨id, o, none⟩) n sc) (.int .i64 (m : Nat))) = some ⟨.slice (some ⟨nx, 0, none⟩) (n + m) (n + m), [(nx, some (.cells ((c.drop o).take (n * sz) ++ (List.replicate m zl).flatten) e sz false))], nx + 1⟩ := by
  have h1 : (0 : Int) < (m : Int) := by omega
  simp only [evP, hd, Int.toNat_natCast]
  rw [if_pos ⟨h1, hb, hz, hs, ht, ho, hc⟩]

theorem flat_length {zl : List Value} {m : Nat} : (List.replicate m zl).flatten.length = m * zl.length := by
  induction m with
  | zero => simp
  | succ m ih => rw [List.replicate_succ, List.flatten_cons, List.length_append, ih, Nat.add_mul, Nat.one_mul, Nat.add_comm]

/-- There is no room. -/
theorem ins_grow (hid : s.heap.get id = some (.cells c e sz true)) (hy : s.heap.get yb = some (.cells ys ty zy false)) (hkv : ki ≠ kv) (hk : k < n) (hcc : cc < n + 1) (hnc : n ≤ cc) (hb : tooBig (n + 1) b = false) (hsz : 1 < sz) (hz : z.length = sz)
    (hi1 : id < s.next) (hy1 : yb < s.next) (hc : c.all primV = true) (hyp : ys.all primV = true) (ho : oo + n * sz ≤ c.length) (hoy : oy + sz ≤ ys.length) :
    WCode (fun k => call (tblOf [(ki, insFun e sz b z kv kr)]) (ovlSem kv) k) (insCode e sz b z kv kr) (params 0 [.slice (some ⟨id, oo, none⟩) n cc, .int .i64 (k : Nat), .slice (some ⟨yb, oy, none⟩) 1 yc]) s (ends [.tmp 6] fun u s' =>
      u = .slice (some ⟨s.next, 0, none⟩) (n + 1) (n + 1) ∧ s'.next = s.next + 1 ∧ s'.heap.get s.next = some (.cells (insGrow c oo k n sz ((ys.drop oy).take sz)) e sz false) ∧ ∀ j, j ≠ s.next → s'.heap.get j = s.heap.get j) := by
  have hn := (tooBig_spec hb).2
  have hnk : k * sz + (n - k) * sz = n * sz := by rw [← Nat.add_mul]; congr 1; omega
  have hk1 : (k + 1) * sz + (n - k) * sz = (n + 1) * sz := by rw [← Nat.add_mul]; congr 1; omega
  have hk2 : (k + 1) * sz = k * sz + sz := by rw [Nat.add_mul, Nat.one_mul]
  have hk3 : k * sz + (n + 1 - k) * sz = (n + 1) * sz := by rw [← Nat.add_mul]; congr 1; omega
  have hk4 : (n + 1 - k) * sz = sz + (n - k) * sz := by rw [show n + 1 - k = 1 + (n - k) by omega, Nat.add_mul, Nat.one_mul]
  have hrow : ((ys.drop oy).take sz).length = sz := by simp; omega
  have hkn : k + (n + 1 - k) = n + 1 := by omega
  have e1 : evP s.heap.get s.next (.slice (.slice sz) (.slice (some ⟨id, oo, none⟩) n cc) (some (.int .i64 (k : Nat))) none none) = _ := ev_sliceL hid (.inl rfl) (by omega) (by omega)
  have e2 : evP s.heap.get s.next (.cap (.slice (some ⟨id, oo, none⟩) n cc)) = _ := ev_cap hid (.inl rfl)
  have e3 : evP s.heap.get s.next (.slice (.slice sz) (.slice (some ⟨id, oo, none⟩) n cc) none (some (.int .i64 (k : Nat))) none) = _ := ev_sliceH hid (.inl rfl) (by omega)
  have e4 : evP s.heap.get s.next (.appendMake e sz b z (.slice (some ⟨id, oo, none⟩) k cc) (.int .i64 ((n + 1 - k : Nat) : Int))) = _ := ev_appendMake hid (by omega) (by rw [hkn]; exact hb) hz (by omega) rfl (by omega) (by omega)
  rw [hkn] at e4
  have w1 : IntKind.i64.wrap ((n : Int) + ((1 : Nat) : Int)) = ((n + 1 : Nat) : Int) := by rw [IntKind.wrap_i64]; omega
  have w2 : IntKind.i64.wrap ((k : Int) + ((1 : Nat) : Int)) = ((k + 1 : Nat) : Int) := by rw [IntKind.wrap_i64]; omega
  have w3 : IntKind.i64.wrap (((n + 1 : Nat) : Int) - (k : Int)) = ((n + 1 - k : Nat) : Int) := by rw [IntKind.wrap_i64]; omega
  have d0 : (((1 : Nat) : Int) == 0) = false := rfl
  have d1 : ((k : Int) == (n : Int)) = false := by simp; omega
  have d2 : decide (((n + 1 : Nat) : Int) > (cc : Int)) = true := by simp; omega
  -- the new block, and what is written into it
  have hl0 : ((c.drop oo).take (k * sz)).length = k * sz := by simp; omega
  have hl1 : ((c.drop (oo + k * sz)).take ((n - k) * sz)).length = (n - k) * sz := by simp; omega
  have hlist : storeL (storeL ((c.drop oo).take (k * sz) ++ (List.replicate (n + 1 - k) z).flatten) (k * sz) ((ys.drop oy).take sz)) ((k + 1) * sz) ((c.drop (oo + k * sz)).take ((n - k) * sz)) = insGrow c oo k n sz ((ys.drop oy).take sz) := by
    have hlf : (List.replicate (n + 1 - k) z).flatten.length = sz + (n - k) * sz := by rw [flat_length, hz, hk4]
    generalize (List.replicate (n + 1 - k) z).flatten = F at hlf
    rw [storeL_eq _ (storeL _ _ _) _ (by rw [storeL_length, List.length_append]; omega), storeL_eq _ _ (k * sz) (by rw [List.length_append]; omega)]
    rw [hrow, hl1]
    unfold insGrow
    generalize (c.drop oo).take (k * sz) = A at hl0
    generalize (ys.drop oy).take sz = B at hrow
    have hAB : (A ++ B).length = (k + 1) * sz := by rw [List.length_append]; omega
    have h1 : (A ++ F).take (k * sz) = A := by rw [← hl0, List.take_left]
    have h2 : (A ++ B ++ (A ++ F).drop (k * sz + sz)).take ((k + 1) * sz) = A ++ B := by rw [← hAB, List.take_left]
    have h3 : (A ++ B ++ (A ++ F).drop (k * sz + sz)).drop ((k + 1) * sz + (n - k) * sz) = [] := List.drop_of_length_le (by simp only [List.length_append, List.length_drop] at hAB ⊢; omega)
    rw [h1, h2, h3, List.append_nil]
  generalize hc0 : (c.drop oo).take (k * sz) ++ (List.replicate (n + 1 - k) z).flatten = c0 at e4 hlist
  have hl2 : c0.length = (n + 1) * sz := by rw [← hc0, List.length_append, flat_length, hz, hl0]; exact hk3
  have hg1 : (s.heap.put s.next (some (.cells c0 e sz false))).get s.next = some (.cells c0 e sz false) := by rw [Heap.get_put, if_pos rfl]
  have hg2 : (s.heap.put s.next (some (.cells c0 e sz false))).get yb = some (.cells ys ty zy false) := by rw [Heap.get_put, if_neg (by omega), hy]
  have e5 : evP (s.heap.put s.next (some (.cells c0 e sz false))).get (s.next + 1) (.slice (.slice sz) (.slice (some ⟨s.next, 0, none⟩) (n + 1) (n + 1)) (some (.int .i64 (k : Nat))) none none) = _ := ev_sliceL hg1 (.inr (.inl rfl)) (by omega) (by omega)
  rw [Nat.zero_add] at e5
  have e6 : evP (s.heap.put s.next (some (.cells c0 e sz false))).get (s.next + 1) (.copy sz (.slice (some ⟨s.next, k * sz, none⟩) (n + 1 - k) (n + 1 - k)) (.slice (some ⟨yb, oy, none⟩) 1 yc)) = some ⟨.int .i64 ((1 : Nat) : Int), [(s.next, some (.cells (storeL c0 (k * sz) ((ys.drop oy).take sz)) e sz false))], s.next + 1⟩ :=
    ev_copy (m := 1) hg1 rfl (by omega) (by rw [firstL_cells hg2 (by omega) (by omega), Nat.one_mul]) (prim_cells (List.all_eq_true.2 fun v hv => List.all_eq_true.1 hyp v (List.mem_of_mem_drop (List.mem_of_mem_take hv)))) (by omega) (by omega)
  have hl3 : (storeL c0 (k * sz) ((ys.drop oy).take sz)).length = (n + 1) * sz := by rw [storeL_length, hl2]
  generalize hc1 : storeL c0 (k * sz) ((ys.drop oy).take sz) = c1 at e6 hl3 hlist
  have hg3 : ((s.heap.put s.next (some (.cells c0 e sz false))).put s.next (some (.cells c1 e sz false))).get s.next = some (.cells c1 e sz false) := by rw [Heap.get_put, if_pos rfl]
  have hg4 : ((s.heap.put s.next (some (.cells c0 e sz false))).put s.next (some (.cells c1 e sz false))).get id = some (.cells c e sz true) := by rw [Heap.get_put, if_neg (by omega), Heap.get_put, if_neg (by omega), hid]
  have e7 : evP ((s.heap.put s.next (some (.cells c0 e sz false))).put s.next (some (.cells c1 e sz false))).get (s.next + 1) (.slice (.slice sz) (.slice (some ⟨s.next, 0, none⟩) (n + 1) (n + 1)) (some (.int .i64 ((k + 1 : Nat) : Int))) none none) = _ := ev_sliceL hg3 (.inr (.inl rfl)) (by omega) (by omega)
  rw [Nat.zero_add] at e7
  have e8 : evP ((s.heap.put s.next (some (.cells c0 e sz false))).put s.next (some (.cells c1 e sz false))).get (s.next + 1) (.slice (.slice sz) (.slice (some ⟨id, oo, none⟩) n cc) (some (.int .i64 (k : Nat))) none none) = _ := ev_sliceL hg4 (.inl rfl) (by omega) (by omega)
  have e9 : evP ((s.heap.put s.next (some (.cells c0 e sz false))).put s.next (some (.cells c1 e sz false))).get (s.next + 1) (.copy sz (.slice (some ⟨s.next, (k + 1) * sz, none⟩) (n + 1 - (k + 1)) (n + 1 - (k + 1))) (.slice (some ⟨id, oo + k * sz, none⟩) (n - k) (cc - k))) = _ :=
    ev_copy (m := n - k) hg3 rfl (by omega) (firstL_cells hg4 (by omega) (by omega)) (prim_cells (List.all_eq_true.2 fun v hv => List.all_eq_true.1 hc v (List.mem_of_mem_drop (List.mem_of_mem_take hv)))) (by simp; omega) (by omega)
  simp -implicitDefEqProofs only [insCode, params, go_sem, reduceIte, Nat.reduceEqDiff, Nat.reduceAdd, Nat.reduceMul, Nat.reduceLT, Nat.reduceLeDiff, reduceCtorEq, Int.reduceEq, Int.reduceNeg, Nat.reduceSub, Int.reduceLT, Int.reduceLE, Int.reduceGT, Int.reduceGE, Int.reduceAdd, Int.reduceSub, Int.reduceToNat, Int.reduceBNe, Int.reduceBEq, Nat.mul_one, Nat.zero_mul, e1, e2, e3, e4, e5, w1, w2, w3, d0, d1, d2, e6, e7, e8, e9]
  rw [hlist]
  refine ⟨rfl, fun j hj => by rw [if_neg hj, if_neg hj, if_neg hj]⟩
end
end Go.Abs
