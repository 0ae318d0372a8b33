/-
  HeapPlays: the law's list of pairs; its helpers.
-/
import Derived.Test.YtaigiehdnhehnaaR1Heap7
import Derived.Test.YtaigiehdnhehnaaA35
set_option maxRecDepth 100000
set_option linter.unusedVariables false
set_option linter.unusedSimpArgs false
namespace Go.Proofs.Ytaigiehdnhehnaa
open Go Go.Abs

/-- The functions that HeapPlays reaches stand in the table. -/
structure PlayTbl (tbl : FuncId → Option AFun) : Prop where
  h13 : tbl 13 = some fun13
  h14 : tbl 14 = some fun14
  h15 : tbl 15 = some fun15
  h16 : tbl 16 = some fun16
  h18 : tbl 18 = some fun18
  h19 : tbl 19 = some fun19
  h20 : tbl 20 = some fun20
  h21 : tbl 21 = some fun21
  h22 : tbl 22 = some fun22
  h30 : tbl 30 = some fun30
  h31 : tbl 31 = some fun31
  h32 : tbl 32 = some fun32
  h40 : tbl 40 = some fun40

abbrev pc (n : Node) : List Value := [ik n.1, ik n.2]

theorem pc_getD {P : List Node} {i : Nat} (hi : i < P.length) : (P.map pc).getD i [] = pc (nd P i) := by
  simp only [nd, List.getD_eq_getElem?_getD, List.getElem?_map, List.getElem?_eq_getElem hi, Option.map_some, Option.getD_some]

/-- No number stands twice. -/
def Uniq (P : List Node) : Prop := ∀ i j, i < P.length → j < P.length → (nd P i).1 = (nd P j).1 → i = j

theorem nd_set (P : List Node) (k : Nat) (x : Node) (hk : k < P.length) (j : Nat) : nd (P.set k x) j = if j = k then x else nd P j := by
  simp only [nd, List.getD_eq_getElem?_getD, List.getElem?_set]
  by_cases h : k = j
  · subst h; simp [hk]
  · have : ¬ j = k := fun e => h e.symm
    simp [h, this]

theorem nd_snoc (P : List Node) (x : Node) (j : Nat) (hj : j ≤ P.length) : nd (P ++ [x]) j = if j = P.length then x else nd P j := by
  simp only [nd, List.getD_eq_getElem?_getD]
  by_cases h : j = P.length
  · subst h; simp
  · rw [if_neg h, List.getElem?_append_left (by omega)]

theorem nd_cutK (P : List Node) (k : Nat) (hk : k < P.length) (j : Nat) : nd (P.take k ++ P.drop (k + 1)) j = if j < k then nd P j else nd P (j + 1) := by
  simp only [nd, List.getD_eq_getElem?_getD]
  have hl : (P.take k).length = k := by rw [List.length_take]; omega
  by_cases h : j < k
  · rw [if_pos h, List.getElem?_append_left (by omega), List.getElem?_take, if_pos h]
  · rw [if_neg h, List.getElem?_append_right (by omega), hl, List.getElem?_drop]
    congr 2; omega

theorem mem_nd_lt {P : List Node} {i : Nat} (hi : i < P.length) : nd P i ∈ P := mem_nd.2 ⟨i, hi, rfl⟩

/-- A new pair. -/
theorem uniq_snoc {P : List Node} (h : Uniq P) {id key : Int} (hno : ∀ j, j < P.length → (nd P j).1 ≠ id) : Uniq (P ++ [(id, key)]) ∧ ∀ n, n ∈ P ++ [(id, key)] ↔ n = (id, key) ∨ (n ∈ P ∧ n.1 ≠ id) := by
  constructor
  · intro i j hi hj he
    rw [List.length_append, List.length_singleton] at hi hj
    rw [nd_snoc P _ i (by omega), nd_snoc P _ j (by omega)] at he
    by_cases h1 : i = P.length
    · by_cases h2 : j = P.length
      · omega
      · rw [if_pos h1, if_neg h2] at he
        exact absurd he.symm (hno j (by omega))
    · by_cases h2 : j = P.length
      · rw [if_neg h1, if_pos h2] at he
        exact absurd he (hno i (by omega))
      · rw [if_neg h1, if_neg h2] at he
        exact h i j (by omega) (by omega) he
  · intro n
    rw [List.mem_append, List.mem_singleton]
    constructor
    · rintro (hn | hn)
      · refine .inr ⟨hn, ?_⟩
        obtain ⟨i, hi, rfl⟩ := mem_nd.1 hn
        exact hno i hi
      · exact .inl hn
    · rintro (hn | ⟨hn, _⟩)
      · exact .inr hn
      · exact .inl hn

/-- Another key. -/
theorem uniq_set {P : List Node} (h : Uniq P) {k : Nat} (hk : k < P.length) {id : Int} (hid : (nd P k).1 = id) (key : Int) : Uniq (P.set k (id, key)) ∧ ∀ n, n ∈ P.set k (id, key) ↔ n = (id, key) ∨ (n ∈ P ∧ n.1 ≠ id) := by
  constructor
  · intro i j hi hj he
    rw [List.length_set] at hi hj
    rw [nd_set P k _ hk, nd_set P k _ hk] at he
    by_cases h1 : i = k
    · by_cases h2 : j = k
      · omega
      · rw [if_pos h1, if_neg h2] at he
        have := h k j hk hj (by rw [hid]; exact he)
        omega
    · by_cases h2 : j = k
      · rw [if_neg h1, if_pos h2] at he
        have := h i k hi hk (by rw [hid]; exact he)
        omega
      · rw [if_neg h1, if_neg h2] at he
        exact h i j hi hj he
  · intro n
    rw [mem_nd, List.length_set]
    constructor
    · rintro ⟨i, hi, rfl⟩
      rw [nd_set P k _ hk]
      by_cases h1 : i = k
      · rw [if_pos h1]; exact .inl rfl
      · rw [if_neg h1]
        exact .inr ⟨mem_nd_lt hi, fun he => h1 (h i k hi hk (by rw [hid]; exact he))⟩
    · rintro (rfl | ⟨hn, hne⟩)
      · exact ⟨k, hk, by rw [nd_set P k _ hk, if_pos rfl]⟩
      · obtain ⟨i, hi, rfl⟩ := mem_nd.1 hn
        have : i ≠ k := fun e => hne (by rw [e]; exact hid)
        exact ⟨i, hi, by rw [nd_set P k _ hk, if_neg this]⟩

/-- One pair less. -/
theorem uniq_cut {P : List Node} (h : Uniq P) {k : Nat} (hk : k < P.length) {id : Int} (hid : (nd P k).1 = id) : Uniq (P.take k ++ P.drop (k + 1)) ∧ (P.take k ++ P.drop (k + 1)).length + 1 = P.length ∧ ∀ n, n ∈ P.take k ++ P.drop (k + 1) ↔ n ∈ P ∧ n.1 ≠ id := by
  have hl : (P.take k ++ P.drop (k + 1)).length + 1 = P.length := by rw [List.length_append, List.length_take, List.length_drop]; omega
  refine ⟨?_, hl, ?_⟩
  · intro i j hi hj he
    rw [nd_cutK P k hk, nd_cutK P k hk] at he
    by_cases h1 : i < k
    · by_cases h2 : j < k
      · rw [if_pos h1, if_pos h2] at he
        exact h i j (by omega) (by omega) he
      · rw [if_pos h1, if_neg h2] at he
        have := h i (j + 1) (by omega) (by omega) he
        omega
    · by_cases h2 : j < k
      · rw [if_neg h1, if_pos h2] at he
        have := h (i + 1) j (by omega) (by omega) he
        omega
      · rw [if_neg h1, if_neg h2] at he
        have := h (i + 1) (j + 1) (by omega) (by omega) he
        omega
  · intro n
    rw [mem_nd]
    constructor
    · rintro ⟨i, hi, rfl⟩
      rw [nd_cutK P k hk]
      by_cases h1 : i < k
      · rw [if_pos h1]
        exact ⟨mem_nd_lt (by omega), fun he => by have := h i k (by omega) hk (by rw [hid]; exact he); omega⟩
      · rw [if_neg h1]
        exact ⟨mem_nd_lt (by omega), fun he => by have := h (i + 1) k (by omega) hk (by rw [hid]; exact he); omega⟩
    · rintro ⟨hn, hne⟩
      obtain ⟨i, hi, rfl⟩ := mem_nd.1 hn
      have : i ≠ k := fun e => hne (by rw [e]; exact hid)
      by_cases h1 : i < k
      · exact ⟨i, by omega, by rw [nd_cutK P k hk, if_pos h1]⟩
      · exact ⟨i - 1, by omega, by rw [nd_cutK P k hk, if_neg (by omega), show i - 1 + 1 = i by omega]⟩

section
variable {tbl : FuncId → Option AFun} {ov : CallSem} {s : St} {e : Env} {v : Value} {P : List Node} {i n : Nat} {id : Int}

/-! ### where a number is -/
def l19 : ACode := match code19 with | .seq _ (.seq x _) => x | _ => .skip
def p19_0 : ACode := match code19 with | .seq x _ => x | _ => .skip
def p19_i : ACode := match l19 with | .seq x _ => x | _ => .skip
def p19_h : ACode := match l19 with | .seq _ (.block _ (.loop _ (.seq (.seq x _) _))) => x | _ => .skip
def p19_b : ACode := match l19 with | .seq _ (.block _ (.loop _ (.seq _ (.seq (.block _ (.seq x _)) _)))) => x | _ => .skip
def p19_t : ACode := match l19 with | .seq _ (.block _ (.loop _ (.seq _ (.seq (.block _ (.seq _ (.cond _ x _))) _)))) => x | _ => .skip
def p19_n : ACode := match l19 with | .seq _ (.block _ (.loop _ (.seq _ (.seq _ x)))) => x | _ => .skip
def p19_r : ACode := match code19 with | .seq _ (.seq _ x) => x | _ => .skip
theorem code19_eq : code19 = .seq p19_0 (.seq (.seq p19_i (.block 0 (.loop [0, 1, 5] (.seq (.seq p19_h (.cond (.tmp 9) .skip (.exit 0))) (.seq (.block 1 (.seq p19_b (.cond (.tmp 18) p19_t .skip))) p19_n))))) p19_r) := rfl

theorem at_spec (h19 : tbl 19 = some fun19) (hv : RowV 2 s v (P.map pc)) (hP : P.length < 2 ^ 40) :
    WCall (fun k => call tbl ov k) 19 [v, ik id] s fun u s' => ((∃ k, k < P.length ∧ u = ik (k : Nat) ∧ (nd P k).1 = id) ∨ (u = ik (-1) ∧ ∀ j, j < P.length → (nd P j).1 ≠ id)) ∧ s' = s := by
  have hml : (P.map pc).length = P.length := List.length_map ..
  refine WCall.of h19 rfl ?_
  simp only [fun19, code19_eq, params]
  have hfin : ∀ z (e' : Env) s', (z = AExit.ret ∧ (∃ u, e'.get 4 = some u ∧ ((∃ k, k < P.length ∧ u = ik (k : Nat) ∧ (nd P k).1 = id) ∨ (u = ik (-1) ∧ ∀ j, j < P.length → (nd P j).1 ≠ id))) ∧ s' = s) →
      ends [.tmp 4] (fun u s' => ((∃ k, k < P.length ∧ u = ik (k : Nat) ∧ (nd P k).1 = id) ∨ (u = ik (-1) ∧ ∀ j, j < P.length → (nd P j).1 ≠ id)) ∧ s' = s) z e' s' := by
    rintro z e' s' ⟨rfl, ⟨u, g, h⟩, rfl⟩
    rw [ends_ret]
    simp only [mapList, resV_tmp, g, bindP_some, Option.bind_some, Option.map_some, endK_apply, tupleV]
    exact ⟨h, trivial⟩
  have h0 : WCode (fun k => call tbl ov k) p19_0 [(0, v), (1, ik id)] s fun x e' s' => x = .normal ∧ e'.get 0 = some v ∧ e'.get 1 = some (ik id) ∧ s' = s := by
    simp only [p19_0, code19, params, wc_skip, wc_region, wc_draw, wc_seq, wc_cond, wc_block, wc_exit, wc_ret, next_normal, next_exit, next_ret, inBlock_normal, inBlock_ret, inBlock_exit, sq_apply, nrm_apply, drawnK_apply, boolV_bool, ccond_true, ccond_false, wo_nil, wo_cons, wo_guard, wop, bindP_some, cont_some, cont_none, guardV_bool, guardV_undef, gcont_true, gcont_false, gcont_false', ret_apply, aggK_apply, putK_apply, resK_apply, boolK_apply, ccont_apply, wd_nil, wd_cons, dvals_apply, dcont_some, dcont_none, AOp.vals, rd_tmp, rd_const, rd_func, get_cons, mapList, mapOpt, Option.bind_some, Option.map_some, Nat.reduceEqDiff, if_true, if_false, reduceIte, reduceCtorEq, wv_mov, wv_pick, wv_alloc, wv_box, wv_build, wv_load, wv_loadn, wv_store, wv_nilCheck, wv_bin, wv_eq, wv_un, wv_convInt, wv_convSame, wv_fieldAddr, wv_field, wv_fieldn, wv_extract, wv_lenSlice, wv_lenString, wv_mkMap, wv_call, callee_func, wv_indexAddr, wv_lookup, wv_mapUpdate, wv_mapEntry, wv_entryStore, wv_delete, wv_append, wv_slice, wv_mkSlice, wv_buildSlice, wv_index, wv_copy, wv_lenMap, Abs.cellAt, Abs.rowAt, Abs.storeAt, Heap.get_put, List.getElem?_cons_zero, List.getElem?_cons_succ, Nat.zero_add, Nat.reduceAdd, idx, and_self, Int.toNat_natCast, cellsAt, ne_eq, not_true_eq_false, not_false_eq_true, cellList, Value.cells, List.length_cons, List.length_nil, List.all_cons, List.all_nil, isCell, Bool.and_self, storeL, List.set_cons_zero, List.set_cons_succ, footOf, true_and, and_true, Nat.reduceLeDiff, Nat.le_refl, Nat.reduceMul, Nat.reduceLT, List.nil_append, List.cons_append, List.length_set, ends_normal, ends_ret, endK_apply, resV_tmp, tupleV, eqV, Bool.not_true, Bool.not_false, BEq.rfl, Bool.true_beq, Bool.false_beq, beq_true, beq_false, Nat.sub_self, List.range'_zero, decide_true, decide_false, List.not_mem_nil, false_implies, implies_true, Bool.true_and, Bool.and_true, drawn, pairOk, disj, quietAt, Bool.bne_false, Bool.bne_true, Bool.false_eq_true, applyUpd, Int.reduceEq, Int.reduceNeg, bin_add, bin_sub, bin_mul, bin_lss, bin_leq, bin_gtr, bin_geq, bin_eql, bin_neq, un_not, wv_cap, wv_appendMake, wv_clear, wv_toString, wv_toBytes, wv_sameB, wv_mkIface, wv_minmax]
  refine wc_then h0 ?_
  rintro e1 s1 ⟨a0, a1, rfl⟩
  rw [wc_seq]
  have hi0 : WCode (fun k => call tbl ov k) p19_i e1 s1 fun x e' s' => x = .normal ∧ e'.get 0 = some v ∧ e'.get 1 = some (ik id) ∧ e'.get 5 = some (ik 0) ∧ s' = s1 := by
    simp only [p19_i, l19, code19, params, wc_skip, wc_region, wc_draw, wc_seq, wc_cond, wc_block, wc_exit, wc_ret, next_normal, next_exit, next_ret, inBlock_normal, inBlock_ret, inBlock_exit, sq_apply, nrm_apply, drawnK_apply, boolV_bool, ccond_true, ccond_false, wo_nil, wo_cons, wo_guard, wop, bindP_some, cont_some, cont_none, guardV_bool, guardV_undef, gcont_true, gcont_false, gcont_false', ret_apply, aggK_apply, putK_apply, resK_apply, boolK_apply, ccont_apply, wd_nil, wd_cons, dvals_apply, dcont_some, dcont_none, AOp.vals, rd_tmp, rd_const, rd_func, get_cons, mapList, mapOpt, Option.bind_some, Option.map_some, Nat.reduceEqDiff, if_true, if_false, reduceIte, reduceCtorEq, wv_mov, wv_pick, wv_alloc, wv_box, wv_build, wv_load, wv_loadn, wv_store, wv_nilCheck, wv_bin, wv_eq, wv_un, wv_convInt, wv_convSame, wv_fieldAddr, wv_field, wv_fieldn, wv_extract, wv_lenSlice, wv_lenString, wv_mkMap, wv_call, callee_func, wv_indexAddr, wv_lookup, wv_mapUpdate, wv_mapEntry, wv_entryStore, wv_delete, wv_append, wv_slice, wv_mkSlice, wv_buildSlice, wv_index, wv_copy, wv_lenMap, Abs.cellAt, Abs.rowAt, Abs.storeAt, Heap.get_put, List.getElem?_cons_zero, List.getElem?_cons_succ, Nat.zero_add, Nat.reduceAdd, idx, and_self, Int.toNat_natCast, cellsAt, ne_eq, not_true_eq_false, not_false_eq_true, cellList, Value.cells, List.length_cons, List.length_nil, List.all_cons, List.all_nil, isCell, Bool.and_self, storeL, List.set_cons_zero, List.set_cons_succ, footOf, true_and, and_true, Nat.reduceLeDiff, Nat.le_refl, Nat.reduceMul, Nat.reduceLT, List.nil_append, List.cons_append, List.length_set, ends_normal, ends_ret, endK_apply, resV_tmp, tupleV, eqV, Bool.not_true, Bool.not_false, BEq.rfl, Bool.true_beq, Bool.false_beq, beq_true, beq_false, Nat.sub_self, List.range'_zero, decide_true, decide_false, List.not_mem_nil, false_implies, implies_true, Bool.true_and, Bool.and_true, drawn, pairOk, disj, quietAt, Bool.bne_false, Bool.bne_true, Bool.false_eq_true, applyUpd, Int.reduceEq, Int.reduceNeg, bin_add, bin_sub, bin_mul, bin_lss, bin_leq, bin_gtr, bin_geq, bin_eql, bin_neq, un_not, wv_cap, wv_appendMake, wv_clear, wv_toString, wv_toBytes, wv_sameB, wv_mkIface, wv_minmax, a0, a1]
  refine wc_then hi0 ?_
  rintro e2 s2 ⟨b0, b1, b5, rfl⟩
  refine wc_for (fun m e' s' => ∃ i : Nat, m = P.length - i ∧ i ≤ P.length ∧ (∀ j, j < i → (nd P j).1 ≠ id) ∧ e'.get 0 = some v ∧ e'.get 1 = some (ik id) ∧ e'.get 5 = some (ik (i : Nat)) ∧ s' = s2) P.length ?_ ?_
  · exact ⟨0, rfl, by omega, fun j hj => absurd hj (by omega), b0, b1, b5, rfl⟩
  · rintro m e3 s3 E ⟨i, rfl, hi, hno, c0, c1, c5, rfl⟩ hE
    have d0 := (hE 0 (by simp)).trans c0
    have d1 := (hE 1 (by simp)).trans c1
    have d5 := (hE 5 (by simp)).trans c5
    have hh : WCode (fun k => call tbl ov k) p19_h E s3 fun x e' s' => x = .normal ∧ e'.get 0 = some v ∧ e'.get 1 = some (ik id) ∧ e'.get 5 = some (ik (i : Nat)) ∧ e'.get 9 = some (.bool (decide (i < P.length))) ∧ s' = s3 := by
      obtain ⟨a, c, rfl⟩ := hv.len
      have d : decide ((i : Int) < ((P.map pc).length : Nat)) = decide (i < P.length) := by rw [hml]; simp
      simp only [p19_h, l19, code19, params, wc_skip, wc_region, wc_draw, wc_seq, wc_cond, wc_block, wc_exit, wc_ret, next_normal, next_exit, next_ret, inBlock_normal, inBlock_ret, inBlock_exit, sq_apply, nrm_apply, drawnK_apply, boolV_bool, ccond_true, ccond_false, wo_nil, wo_cons, wo_guard, wop, bindP_some, cont_some, cont_none, guardV_bool, guardV_undef, gcont_true, gcont_false, gcont_false', ret_apply, aggK_apply, putK_apply, resK_apply, boolK_apply, ccont_apply, wd_nil, wd_cons, dvals_apply, dcont_some, dcont_none, AOp.vals, rd_tmp, rd_const, rd_func, get_cons, mapList, mapOpt, Option.bind_some, Option.map_some, Nat.reduceEqDiff, if_true, if_false, reduceIte, reduceCtorEq, wv_mov, wv_pick, wv_alloc, wv_box, wv_build, wv_load, wv_loadn, wv_store, wv_nilCheck, wv_bin, wv_eq, wv_un, wv_convInt, wv_convSame, wv_fieldAddr, wv_field, wv_fieldn, wv_extract, wv_lenSlice, wv_lenString, wv_mkMap, wv_call, callee_func, wv_indexAddr, wv_lookup, wv_mapUpdate, wv_mapEntry, wv_entryStore, wv_delete, wv_append, wv_slice, wv_mkSlice, wv_buildSlice, wv_index, wv_copy, wv_lenMap, Abs.cellAt, Abs.rowAt, Abs.storeAt, Heap.get_put, List.getElem?_cons_zero, List.getElem?_cons_succ, Nat.zero_add, Nat.reduceAdd, idx, and_self, Int.toNat_natCast, cellsAt, ne_eq, not_true_eq_false, not_false_eq_true, cellList, Value.cells, List.length_cons, List.length_nil, List.all_cons, List.all_nil, isCell, Bool.and_self, storeL, List.set_cons_zero, List.set_cons_succ, footOf, true_and, and_true, Nat.reduceLeDiff, Nat.le_refl, Nat.reduceMul, Nat.reduceLT, List.nil_append, List.cons_append, List.length_set, ends_normal, ends_ret, endK_apply, resV_tmp, tupleV, eqV, Bool.not_true, Bool.not_false, BEq.rfl, Bool.true_beq, Bool.false_beq, beq_true, beq_false, Nat.sub_self, List.range'_zero, decide_true, decide_false, List.not_mem_nil, false_implies, implies_true, Bool.true_and, Bool.and_true, drawn, pairOk, disj, quietAt, Bool.bne_false, Bool.bne_true, Bool.false_eq_true, applyUpd, Int.reduceEq, Int.reduceNeg, bin_add, bin_sub, bin_mul, bin_lss, bin_leq, bin_gtr, bin_geq, bin_eql, bin_neq, un_not, wv_cap, wv_appendMake, wv_clear, wv_toString, wv_toBytes, wv_sameB, wv_mkIface, wv_minmax, d0, d1, d5, d]
    refine WCode.mono ?_ hh
    rintro z e4 s4 ⟨rfl, f0, f1, f5, f9, rfl⟩
    refine ⟨rfl, _, f9, fun hbb => ?_, fun hbb => ?_⟩
    · simp only [decide_eq_false_iff_not] at hbb
      rw [next_normal, sq_apply]
      refine WCode.mono hfin ?_
      simp only [p19_r, code19, params, wc_skip, wc_region, wc_draw, wc_seq, wc_cond, wc_block, wc_exit, wc_ret, next_normal, next_exit, next_ret, inBlock_normal, inBlock_ret, inBlock_exit, sq_apply, nrm_apply, drawnK_apply, boolV_bool, ccond_true, ccond_false, wo_nil, wo_cons, wo_guard, wop, bindP_some, cont_some, cont_none, guardV_bool, guardV_undef, gcont_true, gcont_false, gcont_false', ret_apply, aggK_apply, putK_apply, resK_apply, boolK_apply, ccont_apply, wd_nil, wd_cons, dvals_apply, dcont_some, dcont_none, AOp.vals, rd_tmp, rd_const, rd_func, get_cons, mapList, mapOpt, Option.bind_some, Option.map_some, Nat.reduceEqDiff, if_true, if_false, reduceIte, reduceCtorEq, wv_mov, wv_pick, wv_alloc, wv_box, wv_build, wv_load, wv_loadn, wv_store, wv_nilCheck, wv_bin, wv_eq, wv_un, wv_convInt, wv_convSame, wv_fieldAddr, wv_field, wv_fieldn, wv_extract, wv_lenSlice, wv_lenString, wv_mkMap, wv_call, callee_func, wv_indexAddr, wv_lookup, wv_mapUpdate, wv_mapEntry, wv_entryStore, wv_delete, wv_append, wv_slice, wv_mkSlice, wv_buildSlice, wv_index, wv_copy, wv_lenMap, Abs.cellAt, Abs.rowAt, Abs.storeAt, Heap.get_put, List.getElem?_cons_zero, List.getElem?_cons_succ, Nat.zero_add, Nat.reduceAdd, idx, and_self, Int.toNat_natCast, cellsAt, ne_eq, not_true_eq_false, not_false_eq_true, cellList, Value.cells, List.length_cons, List.length_nil, List.all_cons, List.all_nil, isCell, Bool.and_self, storeL, List.set_cons_zero, List.set_cons_succ, footOf, true_and, and_true, Nat.reduceLeDiff, Nat.le_refl, Nat.reduceMul, Nat.reduceLT, List.nil_append, List.cons_append, List.length_set, ends_normal, ends_ret, endK_apply, resV_tmp, tupleV, eqV, Bool.not_true, Bool.not_false, BEq.rfl, Bool.true_beq, Bool.false_beq, beq_true, beq_false, Nat.sub_self, List.range'_zero, decide_true, decide_false, List.not_mem_nil, false_implies, implies_true, Bool.true_and, Bool.and_true, drawn, pairOk, disj, quietAt, Bool.bne_false, Bool.bne_true, Bool.false_eq_true, applyUpd, Int.reduceEq, Int.reduceNeg, bin_add, bin_sub, bin_mul, bin_lss, bin_leq, bin_gtr, bin_geq, bin_eql, bin_neq, un_not, wv_cap, wv_appendMake, wv_clear, wv_toString, wv_toBytes, wv_sameB, wv_mkIface, wv_minmax]
      exact ⟨_, rfl, .inr ⟨rfl, fun j hj => hno j (by omega)⟩⟩
    · simp only [decide_eq_true_eq] at hbb
      obtain ⟨id', o, cap, c, T, ro, rfl, hg, hle, hrow, hcell⟩ := hv.at (i := i) (by rw [hml]; exact hbb)
      have hc0 := hcell 0 (by omega)
      rw [pc_getD hbb, Nat.add_zero] at hc0
      have hc0 : c[o + i * 2]? = some (ik (nd P i).1) := hc0
      have e1 : (0 : Int) ≤ i := by omega
      have e2 : (i : Int) < ((P.map pc).length : Nat) := by rw [hml]; omega
      have hb : WCode (fun k => call tbl ov k) p19_b e4 s4 fun x e' s' => x = .normal ∧ e'.get 0 = e4.get 0 ∧ e'.get 1 = some (ik id) ∧ e'.get 5 = some (ik (i : Nat)) ∧ e'.get 18 = some (.bool ((nd P i).1 == id)) ∧ s' = s4 := by
        simp only [p19_b, l19, code19, params, wc_skip, wc_region, wc_draw, wc_seq, wc_cond, wc_block, wc_exit, wc_ret, next_normal, next_exit, next_ret, inBlock_normal, inBlock_ret, inBlock_exit, sq_apply, nrm_apply, drawnK_apply, boolV_bool, ccond_true, ccond_false, wo_nil, wo_cons, wo_guard, wop, bindP_some, cont_some, cont_none, guardV_bool, guardV_undef, gcont_true, gcont_false, gcont_false', ret_apply, aggK_apply, putK_apply, resK_apply, boolK_apply, ccont_apply, wd_nil, wd_cons, dvals_apply, dcont_some, dcont_none, AOp.vals, rd_tmp, rd_const, rd_func, get_cons, mapList, mapOpt, Option.bind_some, Option.map_some, Nat.reduceEqDiff, if_true, if_false, reduceIte, reduceCtorEq, wv_mov, wv_pick, wv_alloc, wv_box, wv_build, wv_load, wv_loadn, wv_store, wv_nilCheck, wv_bin, wv_eq, wv_un, wv_convInt, wv_convSame, wv_fieldAddr, wv_field, wv_fieldn, wv_extract, wv_lenSlice, wv_lenString, wv_mkMap, wv_call, callee_func, wv_indexAddr, wv_lookup, wv_mapUpdate, wv_mapEntry, wv_entryStore, wv_delete, wv_append, wv_slice, wv_mkSlice, wv_buildSlice, wv_index, wv_copy, wv_lenMap, Abs.cellAt, Abs.rowAt, Abs.storeAt, Heap.get_put, List.getElem?_cons_zero, List.getElem?_cons_succ, Nat.zero_add, Nat.reduceAdd, idx, and_self, Int.toNat_natCast, cellsAt, ne_eq, not_true_eq_false, not_false_eq_true, cellList, Value.cells, List.length_cons, List.length_nil, List.all_cons, List.all_nil, isCell, Bool.and_self, storeL, List.set_cons_zero, List.set_cons_succ, footOf, true_and, and_true, Nat.reduceLeDiff, Nat.le_refl, Nat.reduceMul, Nat.reduceLT, List.nil_append, List.cons_append, List.length_set, ends_normal, ends_ret, endK_apply, resV_tmp, tupleV, eqV, Bool.not_true, Bool.not_false, BEq.rfl, Bool.true_beq, Bool.false_beq, beq_true, beq_false, Nat.sub_self, List.range'_zero, decide_true, decide_false, List.not_mem_nil, false_implies, implies_true, Bool.true_and, Bool.and_true, drawn, pairOk, disj, quietAt, Bool.bne_false, Bool.bne_true, Bool.false_eq_true, applyUpd, Int.reduceEq, Int.reduceNeg, bin_add, bin_sub, bin_mul, bin_lss, bin_leq, bin_gtr, bin_geq, bin_eql, bin_neq, un_not, wv_cap, wv_appendMake, wv_clear, wv_toString, wv_toBytes, wv_sameB, wv_mkIface, wv_minmax, f0, f1, f5, e1, e2, hg, Nat.add_zero, hc0]
      refine wc_if ?_
      refine WCode.mono ?_ hb
      rintro z e5 s5 ⟨rfl, g0, g1, g5, g18, rfl⟩
      refine ⟨rfl, _, g18, fun ht => ?_, fun hf => ?_⟩
      · have hid : (nd P i).1 = id := by simpa using ht
        have : WCode (fun k => call tbl ov k) p19_t e5 s5 fun x e' s' => x = .ret ∧ e'.get 4 = some (ik (i : Nat)) ∧ s' = s5 := by
          simp only [p19_t, l19, code19, params, wc_skip, wc_region, wc_draw, wc_seq, wc_cond, wc_block, wc_exit, wc_ret, next_normal, next_exit, next_ret, inBlock_normal, inBlock_ret, inBlock_exit, sq_apply, nrm_apply, drawnK_apply, boolV_bool, ccond_true, ccond_false, wo_nil, wo_cons, wo_guard, wop, bindP_some, cont_some, cont_none, guardV_bool, guardV_undef, gcont_true, gcont_false, gcont_false', ret_apply, aggK_apply, putK_apply, resK_apply, boolK_apply, ccont_apply, wd_nil, wd_cons, dvals_apply, dcont_some, dcont_none, AOp.vals, rd_tmp, rd_const, rd_func, get_cons, mapList, mapOpt, Option.bind_some, Option.map_some, Nat.reduceEqDiff, if_true, if_false, reduceIte, reduceCtorEq, wv_mov, wv_pick, wv_alloc, wv_box, wv_build, wv_load, wv_loadn, wv_store, wv_nilCheck, wv_bin, wv_eq, wv_un, wv_convInt, wv_convSame, wv_fieldAddr, wv_field, wv_fieldn, wv_extract, wv_lenSlice, wv_lenString, wv_mkMap, wv_call, callee_func, wv_indexAddr, wv_lookup, wv_mapUpdate, wv_mapEntry, wv_entryStore, wv_delete, wv_append, wv_slice, wv_mkSlice, wv_buildSlice, wv_index, wv_copy, wv_lenMap, Abs.cellAt, Abs.rowAt, Abs.storeAt, Heap.get_put, List.getElem?_cons_zero, List.getElem?_cons_succ, Nat.zero_add, Nat.reduceAdd, idx, and_self, Int.toNat_natCast, cellsAt, ne_eq, not_true_eq_false, not_false_eq_true, cellList, Value.cells, List.length_cons, List.length_nil, List.all_cons, List.all_nil, isCell, Bool.and_self, storeL, List.set_cons_zero, List.set_cons_succ, footOf, true_and, and_true, Nat.reduceLeDiff, Nat.le_refl, Nat.reduceMul, Nat.reduceLT, List.nil_append, List.cons_append, List.length_set, ends_normal, ends_ret, endK_apply, resV_tmp, tupleV, eqV, Bool.not_true, Bool.not_false, BEq.rfl, Bool.true_beq, Bool.false_beq, beq_true, beq_false, Nat.sub_self, List.range'_zero, decide_true, decide_false, List.not_mem_nil, false_implies, implies_true, Bool.true_and, Bool.and_true, drawn, pairOk, disj, quietAt, Bool.bne_false, Bool.bne_true, Bool.false_eq_true, applyUpd, Int.reduceEq, Int.reduceNeg, bin_add, bin_sub, bin_mul, bin_lss, bin_leq, bin_gtr, bin_geq, bin_eql, bin_neq, un_not, wv_cap, wv_appendMake, wv_clear, wv_toString, wv_toBytes, wv_sameB, wv_mkIface, wv_minmax, g5]
        refine WCode.mono ?_ this
        rintro z e6 s6 ⟨rfl, g4, rfl⟩
        exact .inr (.inr ⟨rfl, hfin _ _ _ ⟨rfl, ⟨_, g4, .inl ⟨i, hbb, rfl, hid⟩⟩, rfl⟩⟩)
      · have hid : (nd P i).1 ≠ id := by simpa using hf
        rw [wc_skip]
        refine .inl ⟨.inl rfl, ?_⟩
        have w : IntKind.i64.wrap ((i : Int) + 1) = ((i + 1 : Nat) : Int) := by rw [wrap_in (by omega) (by omega)]; omega
        have hn : WCode (fun k => call tbl ov k) p19_n e5 s5 fun x e' s' => x = .normal ∧ e'.get 0 = e4.get 0 ∧ e'.get 1 = some (ik id) ∧ e'.get 5 = some (ik (i + 1 : Nat)) ∧ s' = s5 := by
          simp only [p19_n, l19, code19, params, wc_skip, wc_region, wc_draw, wc_seq, wc_cond, wc_block, wc_exit, wc_ret, next_normal, next_exit, next_ret, inBlock_normal, inBlock_ret, inBlock_exit, sq_apply, nrm_apply, drawnK_apply, boolV_bool, ccond_true, ccond_false, wo_nil, wo_cons, wo_guard, wop, bindP_some, cont_some, cont_none, guardV_bool, guardV_undef, gcont_true, gcont_false, gcont_false', ret_apply, aggK_apply, putK_apply, resK_apply, boolK_apply, ccont_apply, wd_nil, wd_cons, dvals_apply, dcont_some, dcont_none, AOp.vals, rd_tmp, rd_const, rd_func, get_cons, mapList, mapOpt, Option.bind_some, Option.map_some, Nat.reduceEqDiff, if_true, if_false, reduceIte, reduceCtorEq, wv_mov, wv_pick, wv_alloc, wv_box, wv_build, wv_load, wv_loadn, wv_store, wv_nilCheck, wv_bin, wv_eq, wv_un, wv_convInt, wv_convSame, wv_fieldAddr, wv_field, wv_fieldn, wv_extract, wv_lenSlice, wv_lenString, wv_mkMap, wv_call, callee_func, wv_indexAddr, wv_lookup, wv_mapUpdate, wv_mapEntry, wv_entryStore, wv_delete, wv_append, wv_slice, wv_mkSlice, wv_buildSlice, wv_index, wv_copy, wv_lenMap, Abs.cellAt, Abs.rowAt, Abs.storeAt, Heap.get_put, List.getElem?_cons_zero, List.getElem?_cons_succ, Nat.zero_add, Nat.reduceAdd, idx, and_self, Int.toNat_natCast, cellsAt, ne_eq, not_true_eq_false, not_false_eq_true, cellList, Value.cells, List.length_cons, List.length_nil, List.all_cons, List.all_nil, isCell, Bool.and_self, storeL, List.set_cons_zero, List.set_cons_succ, footOf, true_and, and_true, Nat.reduceLeDiff, Nat.le_refl, Nat.reduceMul, Nat.reduceLT, List.nil_append, List.cons_append, List.length_set, ends_normal, ends_ret, endK_apply, resV_tmp, tupleV, eqV, Bool.not_true, Bool.not_false, BEq.rfl, Bool.true_beq, Bool.false_beq, beq_true, beq_false, Nat.sub_self, List.range'_zero, decide_true, decide_false, List.not_mem_nil, false_implies, implies_true, Bool.true_and, Bool.and_true, drawn, pairOk, disj, quietAt, Bool.bne_false, Bool.bne_true, Bool.false_eq_true, applyUpd, Int.reduceEq, Int.reduceNeg, bin_add, bin_sub, bin_mul, bin_lss, bin_leq, bin_gtr, bin_geq, bin_eql, bin_neq, un_not, wv_cap, wv_appendMake, wv_clear, wv_toString, wv_toBytes, wv_sameB, wv_mkIface, wv_minmax, g0, g1, g5, w]
        refine WCode.mono ?_ hn
        rintro z e6 s6 ⟨rfl, x0, x1, x5, rfl⟩
        refine ⟨rfl, P.length - (i + 1), by omega, i + 1, rfl, by omega, fun j hj => ?_, x0.trans f0, x1, x5, rfl⟩
        by_cases hji : j = i
        · rw [hji]; exact hid
        · exact hno j (by omega)

/-! ### binary digits -/
def l21 : ACode := match code21 with | .seq _ (.seq _ (.seq x _)) => x | _ => .skip
def p21_0 : ACode := match code21 with | .seq x _ => x | _ => .skip
def p21_1 : ACode := match code21 with | .seq _ (.seq x _) => x | _ => .skip
def p21_h : ACode := match l21 with | .block _ (.loop _ (.seq (.seq x _) _)) => x | _ => .skip
def p21_b : ACode := match l21 with | .block _ (.loop _ (.seq _ (.block _ x))) => x | _ => .skip
def p21_r : ACode := match code21 with | .seq _ (.seq _ (.seq _ x)) => x | _ => .skip
theorem code21_eq : code21 = .seq p21_0 (.seq p21_1 (.seq (.block 0 (.loop [0, 3] (.seq (.seq p21_h (.cond (.tmp 5) .skip (.exit 0))) (.block 1 p21_b)))) p21_r)) := rfl

theorem bits_spec (h21 : tbl 21 = some fun21) (hn : n < 2 ^ 40) : WCall (fun k => call tbl ov k) 21 [ik n] s fun u s' => u = ik (bitsN n : Nat) ∧ s' = s := by
  refine WCall.of h21 rfl ?_
  simp only [fun21, code21_eq, params]
  have h0 : WCode (fun k => call tbl ov k) p21_0 [(0, ik n)] s fun x e' s' => x = .normal ∧ e'.get 0 = some (ik n) ∧ s' = s := by
    simp only [p21_0, code21, params, wc_skip, wc_region, wc_draw, wc_seq, wc_cond, wc_block, wc_exit, wc_ret, next_normal, next_exit, next_ret, inBlock_normal, inBlock_ret, inBlock_exit, sq_apply, nrm_apply, drawnK_apply, boolV_bool, ccond_true, ccond_false, wo_nil, wo_cons, wo_guard, wop, bindP_some, cont_some, cont_none, guardV_bool, guardV_undef, gcont_true, gcont_false, gcont_false', ret_apply, aggK_apply, putK_apply, resK_apply, boolK_apply, ccont_apply, wd_nil, wd_cons, dvals_apply, dcont_some, dcont_none, AOp.vals, rd_tmp, rd_const, rd_func, get_cons, mapList, mapOpt, Option.bind_some, Option.map_some, Nat.reduceEqDiff, if_true, if_false, reduceIte, reduceCtorEq, wv_mov, wv_pick, wv_alloc, wv_box, wv_build, wv_load, wv_loadn, wv_store, wv_nilCheck, wv_bin, wv_eq, wv_un, wv_convInt, wv_convSame, wv_fieldAddr, wv_field, wv_fieldn, wv_extract, wv_lenSlice, wv_lenString, wv_mkMap, wv_call, callee_func, wv_indexAddr, wv_lookup, wv_mapUpdate, wv_mapEntry, wv_entryStore, wv_delete, wv_append, wv_slice, wv_mkSlice, wv_buildSlice, wv_index, wv_copy, wv_lenMap, Abs.cellAt, Abs.rowAt, Abs.storeAt, Heap.get_put, List.getElem?_cons_zero, List.getElem?_cons_succ, Nat.zero_add, Nat.reduceAdd, idx, and_self, Int.toNat_natCast, cellsAt, ne_eq, not_true_eq_false, not_false_eq_true, cellList, Value.cells, List.length_cons, List.length_nil, List.all_cons, List.all_nil, isCell, Bool.and_self, storeL, List.set_cons_zero, List.set_cons_succ, footOf, true_and, and_true, Nat.reduceLeDiff, Nat.le_refl, Nat.reduceMul, Nat.reduceLT, List.nil_append, List.cons_append, List.length_set, ends_normal, ends_ret, endK_apply, resV_tmp, tupleV, eqV, Bool.not_true, Bool.not_false, BEq.rfl, Bool.true_beq, Bool.false_beq, beq_true, beq_false, Nat.sub_self, List.range'_zero, decide_true, decide_false, List.not_mem_nil, false_implies, implies_true, Bool.true_and, Bool.and_true, drawn, pairOk, disj, quietAt, Bool.bne_false, Bool.bne_true, Bool.false_eq_true, applyUpd, Int.reduceEq, Int.reduceNeg, bin_add, bin_sub, bin_mul, bin_lss, bin_leq, bin_gtr, bin_geq, bin_eql, bin_neq, un_not, wv_cap, wv_appendMake, wv_clear, wv_toString, wv_toBytes, wv_sameB, wv_mkIface, wv_minmax]
  refine wc_then h0 ?_
  rintro e1 s1 ⟨a0, rfl⟩
  have h1 : WCode (fun k => call tbl ov k) p21_1 e1 s1 fun x e' s' => x = .normal ∧ e'.get 0 = some (ik n) ∧ e'.get 3 = some (ik 0) ∧ s' = s1 := by
    simp only [p21_1, code21, params, wc_skip, wc_region, wc_draw, wc_seq, wc_cond, wc_block, wc_exit, wc_ret, next_normal, next_exit, next_ret, inBlock_normal, inBlock_ret, inBlock_exit, sq_apply, nrm_apply, drawnK_apply, boolV_bool, ccond_true, ccond_false, wo_nil, wo_cons, wo_guard, wop, bindP_some, cont_some, cont_none, guardV_bool, guardV_undef, gcont_true, gcont_false, gcont_false', ret_apply, aggK_apply, putK_apply, resK_apply, boolK_apply, ccont_apply, wd_nil, wd_cons, dvals_apply, dcont_some, dcont_none, AOp.vals, rd_tmp, rd_const, rd_func, get_cons, mapList, mapOpt, Option.bind_some, Option.map_some, Nat.reduceEqDiff, if_true, if_false, reduceIte, reduceCtorEq, wv_mov, wv_pick, wv_alloc, wv_box, wv_build, wv_load, wv_loadn, wv_store, wv_nilCheck, wv_bin, wv_eq, wv_un, wv_convInt, wv_convSame, wv_fieldAddr, wv_field, wv_fieldn, wv_extract, wv_lenSlice, wv_lenString, wv_mkMap, wv_call, callee_func, wv_indexAddr, wv_lookup, wv_mapUpdate, wv_mapEntry, wv_entryStore, wv_delete, wv_append, wv_slice, wv_mkSlice, wv_buildSlice, wv_index, wv_copy, wv_lenMap, Abs.cellAt, Abs.rowAt, Abs.storeAt, Heap.get_put, List.getElem?_cons_zero, List.getElem?_cons_succ, Nat.zero_add, Nat.reduceAdd, idx, and_self, Int.toNat_natCast, cellsAt, ne_eq, not_true_eq_false, not_false_eq_true, cellList, Value.cells, List.length_cons, List.length_nil, List.all_cons, List.all_nil, isCell, Bool.and_self, storeL, List.set_cons_zero, List.set_cons_succ, footOf, true_and, and_true, Nat.reduceLeDiff, Nat.le_refl, Nat.reduceMul, Nat.reduceLT, List.nil_append, List.cons_append, List.length_set, ends_normal, ends_ret, endK_apply, resV_tmp, tupleV, eqV, Bool.not_true, Bool.not_false, BEq.rfl, Bool.true_beq, Bool.false_beq, beq_true, beq_false, Nat.sub_self, List.range'_zero, decide_true, decide_false, List.not_mem_nil, false_implies, implies_true, Bool.true_and, Bool.and_true, drawn, pairOk, disj, quietAt, Bool.bne_false, Bool.bne_true, Bool.false_eq_true, applyUpd, Int.reduceEq, Int.reduceNeg, bin_add, bin_sub, bin_mul, bin_lss, bin_leq, bin_gtr, bin_geq, bin_eql, bin_neq, un_not, wv_cap, wv_appendMake, wv_clear, wv_toString, wv_toBytes, wv_sameB, wv_mkIface, wv_minmax, a0]
  refine wc_then h1 ?_
  rintro e2 s2 ⟨b0, b3, rfl⟩
  have hbn : bitsN n ≤ n := by
    have : ∀ m, bitsN m ≤ m := by
      intro m
      induction m using Nat.strongRecOn with
      | _ m ih =>
        by_cases h : 0 < m
        · rw [bitsN_pos h]; have := ih (m / 2) (by omega); omega
        · have : m = 0 := by omega
          subst this; rw [bitsN_zero]; exact Nat.le_refl _
    exact this n
  refine wc_then (R := fun e' s' => e'.get 3 = some (ik (bitsN n : Nat)) ∧ s' = s2) ?_ ?_
  · refine wc_while (fun m e' s' => ∃ k : Nat, k + bitsN m = bitsN n ∧ m ≤ n ∧ e'.get 0 = some (ik (m : Nat)) ∧ e'.get 3 = some (ik (k : Nat)) ∧ s' = s2) n ⟨0, by omega, Nat.le_refl _, b0, b3, rfl⟩ ?_
    rintro m e3 s3 E ⟨k, hk, hmn, c0, c3, rfl⟩ hE
    have d0 := (hE 0 (by simp)).trans c0
    have d3 := (hE 3 (by simp)).trans c3
    have hd : decide ((m : Int) > 0) = decide (0 < m) := by
      have : ((m : Int) > 0) ↔ 0 < m := by omega
      simp only [this]
    have hh : WCode (fun k => call tbl ov k) p21_h E s3 fun x e' s' => x = .normal ∧ e'.get 0 = some (ik (m : Nat)) ∧ e'.get 3 = some (ik (k : Nat)) ∧ e'.get 5 = some (.bool (decide (0 < m))) ∧ s' = s3 := by
      simp only [p21_h, l21, code21, params, wc_skip, wc_region, wc_draw, wc_seq, wc_cond, wc_block, wc_exit, wc_ret, next_normal, next_exit, next_ret, inBlock_normal, inBlock_ret, inBlock_exit, sq_apply, nrm_apply, drawnK_apply, boolV_bool, ccond_true, ccond_false, wo_nil, wo_cons, wo_guard, wop, bindP_some, cont_some, cont_none, guardV_bool, guardV_undef, gcont_true, gcont_false, gcont_false', ret_apply, aggK_apply, putK_apply, resK_apply, boolK_apply, ccont_apply, wd_nil, wd_cons, dvals_apply, dcont_some, dcont_none, AOp.vals, rd_tmp, rd_const, rd_func, get_cons, mapList, mapOpt, Option.bind_some, Option.map_some, Nat.reduceEqDiff, if_true, if_false, reduceIte, reduceCtorEq, wv_mov, wv_pick, wv_alloc, wv_box, wv_build, wv_load, wv_loadn, wv_store, wv_nilCheck, wv_bin, wv_eq, wv_un, wv_convInt, wv_convSame, wv_fieldAddr, wv_field, wv_fieldn, wv_extract, wv_lenSlice, wv_lenString, wv_mkMap, wv_call, callee_func, wv_indexAddr, wv_lookup, wv_mapUpdate, wv_mapEntry, wv_entryStore, wv_delete, wv_append, wv_slice, wv_mkSlice, wv_buildSlice, wv_index, wv_copy, wv_lenMap, Abs.cellAt, Abs.rowAt, Abs.storeAt, Heap.get_put, List.getElem?_cons_zero, List.getElem?_cons_succ, Nat.zero_add, Nat.reduceAdd, idx, and_self, Int.toNat_natCast, cellsAt, ne_eq, not_true_eq_false, not_false_eq_true, cellList, Value.cells, List.length_cons, List.length_nil, List.all_cons, List.all_nil, isCell, Bool.and_self, storeL, List.set_cons_zero, List.set_cons_succ, footOf, true_and, and_true, Nat.reduceLeDiff, Nat.le_refl, Nat.reduceMul, Nat.reduceLT, List.nil_append, List.cons_append, List.length_set, ends_normal, ends_ret, endK_apply, resV_tmp, tupleV, eqV, Bool.not_true, Bool.not_false, BEq.rfl, Bool.true_beq, Bool.false_beq, beq_true, beq_false, Nat.sub_self, List.range'_zero, decide_true, decide_false, List.not_mem_nil, false_implies, implies_true, Bool.true_and, Bool.and_true, drawn, pairOk, disj, quietAt, Bool.bne_false, Bool.bne_true, Bool.false_eq_true, applyUpd, Int.reduceEq, Int.reduceNeg, bin_add, bin_sub, bin_mul, bin_lss, bin_leq, bin_gtr, bin_geq, bin_eql, bin_neq, un_not, wv_cap, wv_appendMake, wv_clear, wv_toString, wv_toBytes, wv_sameB, wv_mkIface, wv_minmax, d0, d3, hd]
    refine WCode.mono ?_ hh
    rintro z e4 s4 ⟨rfl, f0, f3, f5, rfl⟩
    refine ⟨rfl, _, f5, fun hbb => ?_, fun hbb => ?_⟩
    · simp only [decide_eq_false_iff_not] at hbb
      have : m = 0 := by omega
      subst this
      rw [bitsN_zero] at hk
      exact ⟨rfl, by rw [← hk]; exact f3, rfl⟩
    · simp only [decide_eq_true_eq] at hbb
      rw [bitsN_pos hbb] at hk
      have hq : binV .quo (.int .i64 (m : Nat)) (.int .i64 2) = some (ik ((m / 2 : Nat) : Int)) := by
        have h1 : IntKind.i64.wrap ((m : Int).tdiv 2) = ((m / 2 : Nat) : Int) := by
          have : (m : Int).tdiv 2 = ((m / 2 : Nat) : Int) := by
            rw [Int.tdiv_eq_ediv_of_nonneg (by omega)]; omega
          rw [this, wrap_in (by omega) (by omega)]
        simp only [binV, h1]; simp
      have w : IntKind.i64.wrap ((k : Int) + 1) = ((k + 1 : Nat) : Int) := by rw [wrap_in (by omega) (by omega)]; omega
      have hb : WCode (fun k => call tbl ov k) p21_b e4 s4 fun x e' s' => x = .normal ∧ e'.get 0 = some (ik (m / 2 : Nat)) ∧ e'.get 3 = some (ik (k + 1 : Nat)) ∧ s' = s4 := by
        simp only [p21_b, l21, code21, params, wc_skip, wc_region, wc_draw, wc_seq, wc_cond, wc_block, wc_exit, wc_ret, next_normal, next_exit, next_ret, inBlock_normal, inBlock_ret, inBlock_exit, sq_apply, nrm_apply, drawnK_apply, boolV_bool, ccond_true, ccond_false, wo_nil, wo_cons, wo_guard, wop, bindP_some, cont_some, cont_none, guardV_bool, guardV_undef, gcont_true, gcont_false, gcont_false', ret_apply, aggK_apply, putK_apply, resK_apply, boolK_apply, ccont_apply, wd_nil, wd_cons, dvals_apply, dcont_some, dcont_none, AOp.vals, rd_tmp, rd_const, rd_func, get_cons, mapList, mapOpt, Option.bind_some, Option.map_some, Nat.reduceEqDiff, if_true, if_false, reduceIte, reduceCtorEq, wv_mov, wv_pick, wv_alloc, wv_box, wv_build, wv_load, wv_loadn, wv_store, wv_nilCheck, wv_bin, wv_eq, wv_un, wv_convInt, wv_convSame, wv_fieldAddr, wv_field, wv_fieldn, wv_extract, wv_lenSlice, wv_lenString, wv_mkMap, wv_call, callee_func, wv_indexAddr, wv_lookup, wv_mapUpdate, wv_mapEntry, wv_entryStore, wv_delete, wv_append, wv_slice, wv_mkSlice, wv_buildSlice, wv_index, wv_copy, wv_lenMap, Abs.cellAt, Abs.rowAt, Abs.storeAt, Heap.get_put, List.getElem?_cons_zero, List.getElem?_cons_succ, Nat.zero_add, Nat.reduceAdd, idx, and_self, Int.toNat_natCast, cellsAt, ne_eq, not_true_eq_false, not_false_eq_true, cellList, Value.cells, List.length_cons, List.length_nil, List.all_cons, List.all_nil, isCell, Bool.and_self, storeL, List.set_cons_zero, List.set_cons_succ, footOf, true_and, and_true, Nat.reduceLeDiff, Nat.le_refl, Nat.reduceMul, Nat.reduceLT, List.nil_append, List.cons_append, List.length_set, ends_normal, ends_ret, endK_apply, resV_tmp, tupleV, eqV, Bool.not_true, Bool.not_false, BEq.rfl, Bool.true_beq, Bool.false_beq, beq_true, beq_false, Nat.sub_self, List.range'_zero, decide_true, decide_false, List.not_mem_nil, false_implies, implies_true, Bool.true_and, Bool.and_true, drawn, pairOk, disj, quietAt, Bool.bne_false, Bool.bne_true, Bool.false_eq_true, applyUpd, Int.reduceEq, Int.reduceNeg, bin_add, bin_sub, bin_mul, bin_lss, bin_leq, bin_gtr, bin_geq, bin_eql, bin_neq, un_not, wv_cap, wv_appendMake, wv_clear, wv_toString, wv_toBytes, wv_sameB, wv_mkIface, wv_minmax, f0, f3, hq, w]
      refine WCode.mono ?_ hb
      rintro z e5 s5 ⟨rfl, g0, g3, rfl⟩
      exact .inl ⟨.inl rfl, m / 2, by omega, k + 1, by omega, by omega, g0, g3, rfl⟩
  · rintro e3 s3 ⟨c3, rfl⟩
    simp only [p21_r, code21, params, wc_skip, wc_region, wc_draw, wc_seq, wc_cond, wc_block, wc_exit, wc_ret, next_normal, next_exit, next_ret, inBlock_normal, inBlock_ret, inBlock_exit, sq_apply, nrm_apply, drawnK_apply, boolV_bool, ccond_true, ccond_false, wo_nil, wo_cons, wo_guard, wop, bindP_some, cont_some, cont_none, guardV_bool, guardV_undef, gcont_true, gcont_false, gcont_false', ret_apply, aggK_apply, putK_apply, resK_apply, boolK_apply, ccont_apply, wd_nil, wd_cons, dvals_apply, dcont_some, dcont_none, AOp.vals, rd_tmp, rd_const, rd_func, get_cons, mapList, mapOpt, Option.bind_some, Option.map_some, Nat.reduceEqDiff, if_true, if_false, reduceIte, reduceCtorEq, wv_mov, wv_pick, wv_alloc, wv_box, wv_build, wv_load, wv_loadn, wv_store, wv_nilCheck, wv_bin, wv_eq, wv_un, wv_convInt, wv_convSame, wv_fieldAddr, wv_field, wv_fieldn, wv_extract, wv_lenSlice, wv_lenString, wv_mkMap, wv_call, callee_func, wv_indexAddr, wv_lookup, wv_mapUpdate, wv_mapEntry, wv_entryStore, wv_delete, wv_append, wv_slice, wv_mkSlice, wv_buildSlice, wv_index, wv_copy, wv_lenMap, Abs.cellAt, Abs.rowAt, Abs.storeAt, Heap.get_put, List.getElem?_cons_zero, List.getElem?_cons_succ, Nat.zero_add, Nat.reduceAdd, idx, and_self, Int.toNat_natCast, cellsAt, ne_eq, not_true_eq_false, not_false_eq_true, cellList, Value.cells, List.length_cons, List.length_nil, List.all_cons, List.all_nil, isCell, Bool.and_self, storeL, List.set_cons_zero, List.set_cons_succ, footOf, true_and, and_true, Nat.reduceLeDiff, Nat.le_refl, Nat.reduceMul, Nat.reduceLT, List.nil_append, List.cons_append, List.length_set, ends_normal, ends_ret, endK_apply, resV_tmp, tupleV, eqV, Bool.not_true, Bool.not_false, BEq.rfl, Bool.true_beq, Bool.false_beq, beq_true, beq_false, Nat.sub_self, List.range'_zero, decide_true, decide_false, List.not_mem_nil, false_implies, implies_true, Bool.true_and, Bool.and_true, drawn, pairOk, disj, quietAt, Bool.bne_false, Bool.bne_true, Bool.false_eq_true, applyUpd, Int.reduceEq, Int.reduceNeg, bin_add, bin_sub, bin_mul, bin_lss, bin_leq, bin_gtr, bin_geq, bin_eql, bin_neq, un_not, wv_cap, wv_appendMake, wv_clear, wv_toString, wv_toBytes, wv_sameB, wv_mkIface, wv_minmax, c3]

end
end Go.Proofs.Ytaigiehdnhehnaa
