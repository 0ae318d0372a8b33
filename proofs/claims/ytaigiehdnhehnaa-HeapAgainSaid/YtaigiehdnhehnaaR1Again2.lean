/-
  HeapAgain: the second and the third loop.
-/
import Derived.Test.YtaigiehdnhehnaaR1Again
set_option maxRecDepth 100000
set_option linter.unusedVariables false
set_option linter.unusedSimpArgs false
namespace Go.Proofs.Ytaigiehdnhehnaa
open Go Go.Abs

section
variable {tbl : FuncId → Option AFun} {ov : CallSem} {s s0 : St} {pa pb : Nat} {Sa Sb : List Nat} {La Lb : List Node} {e : Env} {av bv : Value} {zs ys : List Int} {len blen : Nat}

theorem c5i_gen : WCode (fun k => call tbl ov k) c5i e s fun x e' s' => x = .normal ∧ (∀ j, j < 8 → e'.get j = e.get j) ∧ e'.get 9 = some (ik 0) ∧ s' = s := by
  simp only [c5i, a4_5, code4, params, wc_skip, wc_region, wc_draw, wc_seq, wc_cond, wc_block, wc_exit, wc_ret, next_normal, next_exit, next_ret, inBlock_normal, inBlock_ret, inBlock_exit, sq_apply, nrm_apply, drawnK_apply, boolV_bool, ccond_true, ccond_false, wo_nil, wo_cons, wo_guard, wop, bindP_some, cont_some, cont_none, guardV_bool, guardV_undef, gcont_true, gcont_false, gcont_false', ret_apply, aggK_apply, putK_apply, resK_apply, boolK_apply, ccont_apply, wd_nil, wd_cons, dvals_apply, dcont_some, dcont_none, AOp.vals, rd_tmp, rd_const, rd_func, get_cons, mapList, mapOpt, Option.bind_some, Option.map_some, Nat.reduceEqDiff, if_true, if_false, reduceIte, reduceCtorEq, wv_mov, wv_pick, wv_alloc, wv_box, wv_build, wv_load, wv_loadn, wv_store, wv_nilCheck, wv_bin, wv_eq, wv_un, wv_convInt, wv_convSame, wv_fieldAddr, wv_field, wv_fieldn, wv_extract, wv_lenSlice, wv_lenString, wv_mkMap, wv_call, callee_func, wv_indexAddr, wv_lookup, wv_mapUpdate, wv_mapEntry, wv_entryStore, wv_delete, wv_append, wv_slice, wv_mkSlice, wv_buildSlice, wv_index, wv_copy, wv_lenMap, Abs.cellAt, Abs.rowAt, Abs.storeAt, Heap.get_put, List.getElem?_cons_zero, List.getElem?_cons_succ, Nat.zero_add, Nat.reduceAdd, idx, and_self, Int.toNat_natCast, cellsAt, ne_eq, not_true_eq_false, not_false_eq_true, cellList, Value.cells, List.length_cons, List.length_nil, List.all_cons, List.all_nil, isCell, Bool.and_self, storeL, List.set_cons_zero, List.set_cons_succ, footOf, true_and, and_true, Nat.reduceLeDiff, Nat.le_refl, Nat.reduceMul, Nat.reduceLT, List.nil_append, List.cons_append, List.length_set, ends_normal, ends_ret, endK_apply, resV_tmp, tupleV, binV, unV, eqV, Bool.not_true, Bool.not_false, BEq.rfl, Bool.true_beq, Bool.false_beq, beq_true, beq_false, Nat.sub_self, List.range'_zero, decide_true, decide_false, List.not_mem_nil, false_implies, implies_true, Bool.true_and, Bool.and_true, drawn, pairOk, disj, quietAt, Bool.bne_false, Bool.bne_true, Bool.false_eq_true, applyUpd, Int.reduceEq, Int.reduceNeg]
  intro j hj
  simp (disch := omega) only [get_cons, if_neg]

theorem c5h_gen {i n : Nat} (hb : BytesAt s bv ys blen) (g1 : e.get 1 = some bv) (g7 : e.get 7 = some (ik n)) (g9 : e.get 9 = some (ik i)) : WCode (fun k => call tbl ov k) c5h e s fun x e' s' => x = .normal ∧ (∀ j, j < 20 → e'.get j = e.get j) ∧ e'.get 47 = some (.bool (decide (i < blen) && (decide (i < 100) && decide (0 < n)))) ∧ s' = s := by
  obtain ⟨a, cap, rfl⟩ := hb.sl
  have d1 : decide ((i : Int) < (blen : Nat)) = decide (i < blen) := by simp
  have d2 : decide ((i : Int) < 100) = decide (i < 100) := by
    have : ((i : Int) < 100) ↔ i < 100 := by omega
    simp only [this]
  have d3 : decide ((n : Int) > 0) = decide (0 < n) := by
    have : ((n : Int) > 0) ↔ 0 < n := by omega
    simp only [this]
  cases h1 : decide (i < blen) with
  | false =>
    simp only [c5h, a4_5, code4, params, wc_skip, wc_region, wc_draw, wc_seq, wc_cond, wc_block, wc_exit, wc_ret, next_normal, next_exit, next_ret, inBlock_normal, inBlock_ret, inBlock_exit, sq_apply, nrm_apply, drawnK_apply, boolV_bool, ccond_true, ccond_false, wo_nil, wo_cons, wo_guard, wop, bindP_some, cont_some, cont_none, guardV_bool, guardV_undef, gcont_true, gcont_false, gcont_false', ret_apply, aggK_apply, putK_apply, resK_apply, boolK_apply, ccont_apply, wd_nil, wd_cons, dvals_apply, dcont_some, dcont_none, AOp.vals, rd_tmp, rd_const, rd_func, get_cons, mapList, mapOpt, Option.bind_some, Option.map_some, Nat.reduceEqDiff, if_true, if_false, reduceIte, reduceCtorEq, wv_mov, wv_pick, wv_alloc, wv_box, wv_build, wv_load, wv_loadn, wv_store, wv_nilCheck, wv_bin, wv_eq, wv_un, wv_convInt, wv_convSame, wv_fieldAddr, wv_field, wv_fieldn, wv_extract, wv_lenSlice, wv_lenString, wv_mkMap, wv_call, callee_func, wv_indexAddr, wv_lookup, wv_mapUpdate, wv_mapEntry, wv_entryStore, wv_delete, wv_append, wv_slice, wv_mkSlice, wv_buildSlice, wv_index, wv_copy, wv_lenMap, Abs.cellAt, Abs.rowAt, Abs.storeAt, Heap.get_put, List.getElem?_cons_zero, List.getElem?_cons_succ, Nat.zero_add, Nat.reduceAdd, idx, and_self, Int.toNat_natCast, cellsAt, ne_eq, not_true_eq_false, not_false_eq_true, cellList, Value.cells, List.length_cons, List.length_nil, List.all_cons, List.all_nil, isCell, Bool.and_self, storeL, List.set_cons_zero, List.set_cons_succ, footOf, true_and, and_true, Nat.reduceLeDiff, Nat.le_refl, Nat.reduceMul, Nat.reduceLT, List.nil_append, List.cons_append, List.length_set, ends_normal, ends_ret, endK_apply, resV_tmp, tupleV, binV, unV, eqV, Bool.not_true, Bool.not_false, BEq.rfl, Bool.true_beq, Bool.false_beq, beq_true, beq_false, Nat.sub_self, List.range'_zero, decide_true, decide_false, List.not_mem_nil, false_implies, implies_true, Bool.true_and, Bool.and_true, drawn, pairOk, disj, quietAt, Bool.bne_false, Bool.bne_true, Bool.false_eq_true, applyUpd, Int.reduceEq, Int.reduceNeg, g1, g7, g9, d1, h1, Bool.false_and]
    intro j hj
    simp (disch := omega) only [get_cons, if_neg]
  | true =>
    cases h2 : decide (i < 100) with
    | false =>
      simp only [c5h, a4_5, code4, params, wc_skip, wc_region, wc_draw, wc_seq, wc_cond, wc_block, wc_exit, wc_ret, next_normal, next_exit, next_ret, inBlock_normal, inBlock_ret, inBlock_exit, sq_apply, nrm_apply, drawnK_apply, boolV_bool, ccond_true, ccond_false, wo_nil, wo_cons, wo_guard, wop, bindP_some, cont_some, cont_none, guardV_bool, guardV_undef, gcont_true, gcont_false, gcont_false', ret_apply, aggK_apply, putK_apply, resK_apply, boolK_apply, ccont_apply, wd_nil, wd_cons, dvals_apply, dcont_some, dcont_none, AOp.vals, rd_tmp, rd_const, rd_func, get_cons, mapList, mapOpt, Option.bind_some, Option.map_some, Nat.reduceEqDiff, if_true, if_false, reduceIte, reduceCtorEq, wv_mov, wv_pick, wv_alloc, wv_box, wv_build, wv_load, wv_loadn, wv_store, wv_nilCheck, wv_bin, wv_eq, wv_un, wv_convInt, wv_convSame, wv_fieldAddr, wv_field, wv_fieldn, wv_extract, wv_lenSlice, wv_lenString, wv_mkMap, wv_call, callee_func, wv_indexAddr, wv_lookup, wv_mapUpdate, wv_mapEntry, wv_entryStore, wv_delete, wv_append, wv_slice, wv_mkSlice, wv_buildSlice, wv_index, wv_copy, wv_lenMap, Abs.cellAt, Abs.rowAt, Abs.storeAt, Heap.get_put, List.getElem?_cons_zero, List.getElem?_cons_succ, Nat.zero_add, Nat.reduceAdd, idx, and_self, Int.toNat_natCast, cellsAt, ne_eq, not_true_eq_false, not_false_eq_true, cellList, Value.cells, List.length_cons, List.length_nil, List.all_cons, List.all_nil, isCell, Bool.and_self, storeL, List.set_cons_zero, List.set_cons_succ, footOf, true_and, and_true, Nat.reduceLeDiff, Nat.le_refl, Nat.reduceMul, Nat.reduceLT, List.nil_append, List.cons_append, List.length_set, ends_normal, ends_ret, endK_apply, resV_tmp, tupleV, binV, unV, eqV, Bool.not_true, Bool.not_false, BEq.rfl, Bool.true_beq, Bool.false_beq, beq_true, beq_false, Nat.sub_self, List.range'_zero, decide_true, decide_false, List.not_mem_nil, false_implies, implies_true, Bool.true_and, Bool.and_true, drawn, pairOk, disj, quietAt, Bool.bne_false, Bool.bne_true, Bool.false_eq_true, applyUpd, Int.reduceEq, Int.reduceNeg, g1, g7, g9, d1, d2, h1, h2, Bool.false_and]
      intro j hj
      simp (disch := omega) only [get_cons, if_neg]
    | true =>
      simp only [c5h, a4_5, code4, params, wc_skip, wc_region, wc_draw, wc_seq, wc_cond, wc_block, wc_exit, wc_ret, next_normal, next_exit, next_ret, inBlock_normal, inBlock_ret, inBlock_exit, sq_apply, nrm_apply, drawnK_apply, boolV_bool, ccond_true, ccond_false, wo_nil, wo_cons, wo_guard, wop, bindP_some, cont_some, cont_none, guardV_bool, guardV_undef, gcont_true, gcont_false, gcont_false', ret_apply, aggK_apply, putK_apply, resK_apply, boolK_apply, ccont_apply, wd_nil, wd_cons, dvals_apply, dcont_some, dcont_none, AOp.vals, rd_tmp, rd_const, rd_func, get_cons, mapList, mapOpt, Option.bind_some, Option.map_some, Nat.reduceEqDiff, if_true, if_false, reduceIte, reduceCtorEq, wv_mov, wv_pick, wv_alloc, wv_box, wv_build, wv_load, wv_loadn, wv_store, wv_nilCheck, wv_bin, wv_eq, wv_un, wv_convInt, wv_convSame, wv_fieldAddr, wv_field, wv_fieldn, wv_extract, wv_lenSlice, wv_lenString, wv_mkMap, wv_call, callee_func, wv_indexAddr, wv_lookup, wv_mapUpdate, wv_mapEntry, wv_entryStore, wv_delete, wv_append, wv_slice, wv_mkSlice, wv_buildSlice, wv_index, wv_copy, wv_lenMap, Abs.cellAt, Abs.rowAt, Abs.storeAt, Heap.get_put, List.getElem?_cons_zero, List.getElem?_cons_succ, Nat.zero_add, Nat.reduceAdd, idx, and_self, Int.toNat_natCast, cellsAt, ne_eq, not_true_eq_false, not_false_eq_true, cellList, Value.cells, List.length_cons, List.length_nil, List.all_cons, List.all_nil, isCell, Bool.and_self, storeL, List.set_cons_zero, List.set_cons_succ, footOf, true_and, and_true, Nat.reduceLeDiff, Nat.le_refl, Nat.reduceMul, Nat.reduceLT, List.nil_append, List.cons_append, List.length_set, ends_normal, ends_ret, endK_apply, resV_tmp, tupleV, binV, unV, eqV, Bool.not_true, Bool.not_false, BEq.rfl, Bool.true_beq, Bool.false_beq, beq_true, beq_false, Nat.sub_self, List.range'_zero, decide_true, decide_false, List.not_mem_nil, false_implies, implies_true, Bool.true_and, Bool.and_true, drawn, pairOk, disj, quietAt, Bool.bne_false, Bool.bne_true, Bool.false_eq_true, applyUpd, Int.reduceEq, Int.reduceNeg, g1, g7, g9, d1, d2, d3, h1, h2]
      intro j hj
      simp (disch := omega) only [get_cons, if_neg]

theorem c5b_gen (T : HeapTbl tbl) (h : Two s0 s pa pb Sa Sb La Lb) (hL : Lb.length < 2 ^ 30) (hb : BytesAt s bv ys blen) {i n : Nat} (hi : i < blen) (hi1 : i < 100) (hn : 0 < n) (g1 : e.get 1 = some bv) (g6 : e.get 6 = some (ptr pb)) (g7 : e.get 7 = some (ik n)) (g9 : e.get 9 = some (ik i)) :
    WCode (fun k => call tbl ov k) c5b e s fun x e' s' => x = .normal ∧ (∀ j, j < 20 → e'.get j = e.get j) ∧ ∃ Sb' Lb' c key, Two s0 s' pa pb Sa Sb' La Lb' ∧ SetTo Lb ((ys.getD i 0).tmod n) key Lb' c := by
  obtain ⟨a, cap, t, rfl, ha, hg⟩ := hb.row (by omega)
  obtain ⟨hz, hr, _⟩ := hb
  have d2 : (0 : Int) ≤ i := by omega
  have d3 : (i : Int) < (blen : Nat) := by omega
  have hgt := bytes_get (zs := ys) (i := i) (by omega)
  have hy := hr _ (getD_mem (zs := ys) (i := i) (by omega))
  have w1 : IntKind.i64.wrap (ys.getD i 0) = ys.getD i 0 := wrap_in (by omega) (by omega)
  have d4 : ¬ (n : Int) = 0 := by omega
  simp only [c5b, a4_5, code4, params, wc_skip, wc_region, wc_draw, wc_seq, wc_cond, wc_block, wc_exit, wc_ret, next_normal, next_exit, next_ret, inBlock_normal, inBlock_ret, inBlock_exit, sq_apply, nrm_apply, drawnK_apply, boolV_bool, ccond_true, ccond_false, wo_nil, wo_cons, wo_guard, wop, bindP_some, cont_some, cont_none, guardV_bool, guardV_undef, gcont_true, gcont_false, gcont_false', ret_apply, aggK_apply, putK_apply, resK_apply, boolK_apply, ccont_apply, wd_nil, wd_cons, dvals_apply, dcont_some, dcont_none, AOp.vals, rd_tmp, rd_const, rd_func, get_cons, mapList, mapOpt, Option.bind_some, Option.map_some, Nat.reduceEqDiff, if_true, if_false, reduceIte, reduceCtorEq, wv_mov, wv_pick, wv_alloc, wv_box, wv_build, wv_load, wv_loadn, wv_store, wv_nilCheck, wv_bin, wv_eq, wv_un, wv_convInt, wv_convSame, wv_fieldAddr, wv_field, wv_fieldn, wv_extract, wv_lenSlice, wv_lenString, wv_mkMap, wv_call, callee_func, wv_indexAddr, wv_lookup, wv_mapUpdate, wv_mapEntry, wv_entryStore, wv_delete, wv_append, wv_slice, wv_mkSlice, wv_buildSlice, wv_index, wv_copy, wv_lenMap, Abs.cellAt, Abs.rowAt, Abs.storeAt, Heap.get_put, List.getElem?_cons_zero, List.getElem?_cons_succ, Nat.zero_add, Nat.reduceAdd, idx, and_self, Int.toNat_natCast, cellsAt, ne_eq, not_true_eq_false, not_false_eq_true, cellList, Value.cells, List.length_cons, List.length_nil, List.all_cons, List.all_nil, isCell, Bool.and_self, storeL, List.set_cons_zero, List.set_cons_succ, footOf, true_and, and_true, Nat.reduceLeDiff, Nat.le_refl, Nat.reduceMul, Nat.reduceLT, List.nil_append, List.cons_append, List.length_set, ends_normal, ends_ret, endK_apply, resV_tmp, tupleV, binV, unV, eqV, Bool.not_true, Bool.not_false, BEq.rfl, Bool.true_beq, Bool.false_beq, beq_true, beq_false, Nat.sub_self, List.range'_zero, decide_true, decide_false, List.not_mem_nil, false_implies, implies_true, Bool.true_and, Bool.and_true, drawn, pairOk, disj, quietAt, Bool.bne_false, Bool.bne_true, Bool.false_eq_true, applyUpd, Int.reduceEq, Int.reduceNeg, g1, g6, g7, g9, d2, d3, Nat.mul_one, hg, hgt, w1, d4]
  refine WCall.mono (two_setB T h hL _ _) ?_
  rintro v s1 ⟨S', L', c, hh, hset⟩
  simp only [params, wc_skip, wc_region, wc_draw, wc_seq, wc_cond, wc_block, wc_exit, wc_ret, next_normal, next_exit, next_ret, inBlock_normal, inBlock_ret, inBlock_exit, sq_apply, nrm_apply, drawnK_apply, boolV_bool, ccond_true, ccond_false, wo_nil, wo_cons, wo_guard, wop, bindP_some, cont_some, cont_none, guardV_bool, guardV_undef, gcont_true, gcont_false, gcont_false', ret_apply, aggK_apply, putK_apply, resK_apply, boolK_apply, ccont_apply, wd_nil, wd_cons, dvals_apply, dcont_some, dcont_none, AOp.vals, rd_tmp, rd_const, rd_func, get_cons, mapList, mapOpt, Option.bind_some, Option.map_some, Nat.reduceEqDiff, if_true, if_false, reduceIte, reduceCtorEq, wv_mov, wv_pick, wv_alloc, wv_box, wv_build, wv_load, wv_loadn, wv_store, wv_nilCheck, wv_bin, wv_eq, wv_un, wv_convInt, wv_convSame, wv_fieldAddr, wv_field, wv_fieldn, wv_extract, wv_lenSlice, wv_lenString, wv_mkMap, wv_call, callee_func, wv_indexAddr, wv_lookup, wv_mapUpdate, wv_mapEntry, wv_entryStore, wv_delete, wv_append, wv_slice, wv_mkSlice, wv_buildSlice, wv_index, wv_copy, wv_lenMap, Abs.cellAt, Abs.rowAt, Abs.storeAt, Heap.get_put, List.getElem?_cons_zero, List.getElem?_cons_succ, Nat.zero_add, Nat.reduceAdd, idx, and_self, Int.toNat_natCast, cellsAt, ne_eq, not_true_eq_false, not_false_eq_true, cellList, Value.cells, List.length_cons, List.length_nil, List.all_cons, List.all_nil, isCell, Bool.and_self, storeL, List.set_cons_zero, List.set_cons_succ, footOf, true_and, and_true, Nat.reduceLeDiff, Nat.le_refl, Nat.reduceMul, Nat.reduceLT, List.nil_append, List.cons_append, List.length_set, ends_normal, ends_ret, endK_apply, resV_tmp, tupleV, binV, unV, eqV, Bool.not_true, Bool.not_false, BEq.rfl, Bool.true_beq, Bool.false_beq, beq_true, beq_false, Nat.sub_self, List.range'_zero, decide_true, decide_false, List.not_mem_nil, false_implies, implies_true, Bool.true_and, Bool.and_true, drawn, pairOk, disj, quietAt, Bool.bne_false, Bool.bne_true, Bool.false_eq_true, applyUpd, Int.reduceEq, Int.reduceNeg]
  refine ⟨fun j hj => ?_, S', L', c, _, hh, hset⟩
  simp (disch := omega) only [get_cons, if_neg]

theorem c5n_gen {i : Nat} (hi : i < 2 ^ 60) (g9 : e.get 9 = some (ik i)) : WCode (fun k => call tbl ov k) c5n e s fun x e' s' => x = .normal ∧ (∀ j, j < 8 → e'.get j = e.get j) ∧ e'.get 9 = some (ik (i + 1 : Nat)) ∧ s' = s := by
  have w : IntKind.i64.wrap ((i : Int) + 1) = ((i + 1 : Nat) : Int) := by rw [wrap_in (by omega) (by omega)]; omega
  simp only [c5n, a4_5, code4, params, wc_skip, wc_region, wc_draw, wc_seq, wc_cond, wc_block, wc_exit, wc_ret, next_normal, next_exit, next_ret, inBlock_normal, inBlock_ret, inBlock_exit, sq_apply, nrm_apply, drawnK_apply, boolV_bool, ccond_true, ccond_false, wo_nil, wo_cons, wo_guard, wop, bindP_some, cont_some, cont_none, guardV_bool, guardV_undef, gcont_true, gcont_false, gcont_false', ret_apply, aggK_apply, putK_apply, resK_apply, boolK_apply, ccont_apply, wd_nil, wd_cons, dvals_apply, dcont_some, dcont_none, AOp.vals, rd_tmp, rd_const, rd_func, get_cons, mapList, mapOpt, Option.bind_some, Option.map_some, Nat.reduceEqDiff, if_true, if_false, reduceIte, reduceCtorEq, wv_mov, wv_pick, wv_alloc, wv_box, wv_build, wv_load, wv_loadn, wv_store, wv_nilCheck, wv_bin, wv_eq, wv_un, wv_convInt, wv_convSame, wv_fieldAddr, wv_field, wv_fieldn, wv_extract, wv_lenSlice, wv_lenString, wv_mkMap, wv_call, callee_func, wv_indexAddr, wv_lookup, wv_mapUpdate, wv_mapEntry, wv_entryStore, wv_delete, wv_append, wv_slice, wv_mkSlice, wv_buildSlice, wv_index, wv_copy, wv_lenMap, Abs.cellAt, Abs.rowAt, Abs.storeAt, Heap.get_put, List.getElem?_cons_zero, List.getElem?_cons_succ, Nat.zero_add, Nat.reduceAdd, idx, and_self, Int.toNat_natCast, cellsAt, ne_eq, not_true_eq_false, not_false_eq_true, cellList, Value.cells, List.length_cons, List.length_nil, List.all_cons, List.all_nil, isCell, Bool.and_self, storeL, List.set_cons_zero, List.set_cons_succ, footOf, true_and, and_true, Nat.reduceLeDiff, Nat.le_refl, Nat.reduceMul, Nat.reduceLT, List.nil_append, List.cons_append, List.length_set, ends_normal, ends_ret, endK_apply, resV_tmp, tupleV, binV, unV, eqV, Bool.not_true, Bool.not_false, BEq.rfl, Bool.true_beq, Bool.false_beq, beq_true, beq_false, Nat.sub_self, List.range'_zero, decide_true, decide_false, List.not_mem_nil, false_implies, implies_true, Bool.true_and, Bool.and_true, drawn, pairOk, disj, quietAt, Bool.bne_false, Bool.bne_true, Bool.false_eq_true, applyUpd, Int.reduceEq, Int.reduceNeg, g9, w]
  intro j hj
  simp (disch := omega) only [get_cons, if_neg]

theorem a4_5_gen (T : HeapTbl tbl) (hb : BytesAt s0 bv ys blen) {n : Nat} (h : Two s0 s pa pb Sa Sb La [])
    (g0 : e.get 0 = some av) (g1 : e.get 1 = some bv) (g5 : e.get 5 = some (ptr pa)) (g6 : e.get 6 = some (ptr pb)) (g7 : e.get 7 = some (ik n)) :
    WCode (fun k => call tbl ov k) a4_5 e s fun x e' s' => x = .normal ∧ (e'.get 0 = some av ∧ e'.get 5 = some (ptr pa) ∧ e'.get 6 = some (ptr pb) ∧ e'.get 7 = some (ik n)) ∧ ∃ Sb' Lb', Two s0 s' pa pb Sa Sb' La Lb' ∧ Lb'.length ≤ 100 ∧ ∀ m ∈ Lb', ∃ j : Nat, j < n ∧ m.1 = j := by
  rw [a4_5_eq]
  refine wc_for' (fun k e s => ∃ i L S, k = 100 - i ∧ i ≤ 100 ∧ (e.get 0 = some av ∧ e.get 1 = some bv ∧ e.get 5 = some (ptr pa) ∧ e.get 6 = some (ptr pb) ∧ e.get 7 = some (ik n)) ∧ e.get 9 = some (ik (i : Nat)) ∧ Two s0 s pa pb Sa S La L ∧ L.length ≤ i ∧ ∀ m ∈ L, ∃ j : Nat, j < n ∧ m.1 = j) 100 ?_ ?_
  · refine WCode.mono ?_ c5i_gen
    rintro x e1 s1 ⟨rfl, k1, a8, rfl⟩
    exact ⟨rfl, 0, [], Sb, rfl, by omega, ⟨(k1 0 (by omega)).trans g0, (k1 1 (by omega)).trans g1, (k1 5 (by omega)).trans g5, (k1 6 (by omega)).trans g6, (k1 7 (by omega)).trans g7⟩, a8, h, Nat.le_refl _, fun m hm => by simp at hm⟩
  · rintro k e1 s1 E ⟨i, L, S, rfl, hi, ⟨b0, b1, b5, b6, b7⟩, b8, hh, hlen, hf⟩ hE
    have c0 := (hE 0 (by simp)).trans b0
    have c1 := (hE 1 (by simp)).trans b1
    have c5 := (hE 5 (by simp)).trans b5
    have c6 := (hE 6 (by simp)).trans b6
    have c7 := (hE 7 (by simp)).trans b7
    have c8 := (hE 9 (by simp)).trans b8
    refine WCode.mono ?_ (c5h_gen (hb.chg hh.chg) c1 c7 c8)
    rintro x e2 s2 ⟨rfl, k2, a26, rfl⟩
    refine ⟨rfl, _, a26, fun hf' => ?_, fun ht => ?_⟩
    · exact ⟨rfl, ⟨(k2 0 (by omega)).trans c0, (k2 5 (by omega)).trans c5, (k2 6 (by omega)).trans c6, (k2 7 (by omega)).trans c7⟩, S, L, hh, by omega, hf⟩
    · simp only [Bool.and_eq_true, decide_eq_true_eq] at ht
      refine WCode.mono ?_ (c5b_gen T hh (by omega) (hb.chg hh.chg) (i := i) (n := n) ht.1 ht.2.1 ht.2.2 ((k2 1 (by omega)).trans c1) ((k2 6 (by omega)).trans c6) ((k2 7 (by omega)).trans c7) ((k2 9 (by omega)).trans c8))
      rintro x e3 s3 ⟨rfl, k3, S', L', c, key, hh3, hset⟩
      refine .inl ⟨.inl rfl, ?_⟩
      refine WCode.mono ?_ (c5n_gen (i := i) (by omega) ((k3 9 (by omega)).trans ((k2 9 (by omega)).trans c8)))
      rintro x e4 s4 ⟨rfl, k4, d8, rfl⟩
      have kk : ∀ j, j < 8 → e4.get j = E.get j := fun j hj => (k4 j hj).trans ((k3 j (by omega)).trans (k2 j (by omega)))
      refine ⟨rfl, 100 - (i + 1), by omega, i + 1, L', S', rfl, by omega, ⟨(kk 0 (by omega)).trans c0, (kk 1 (by omega)).trans c1, (kk 5 (by omega)).trans c5, (kk 6 (by omega)).trans c6, (kk 7 (by omega)).trans c7⟩, d8, hh3, by have := hset.len_le; omega, fun m hm => ?_⟩
      rcases (hset.mem m).1 hm with rfl | ⟨hm, _⟩
      · have hy := hb.2.1 _ (getD_mem (zs := ys) (i := i) (by have := hb.1; omega))
        refine ⟨((ys.getD i 0).tmod n).toNat, ?_, ?_⟩
        · have h1 := Int.tmod_lt_of_pos (ys.getD i 0) (b := n) (by omega)
          have h2 := Int.tmod_nonneg (n : Int) hy.1
          omega
        · have h2 := Int.tmod_nonneg (n : Int) hy.1
          simp only; omega
      · exact hf m hm

/-! ### the third loop -/
theorem c6i_gen {n : Nat} (hn : n ≤ 60) (g7 : e.get 7 = some (ik n)) : WCode (fun k => call tbl ov k) c6i e s fun x e' s' => x = .normal ∧ (∀ j, j < 8 → e'.get j = e.get j) ∧ e'.get 10 = some (ik ((n : Int) - 1)) ∧ s' = s := by
  have w : IntKind.i64.wrap ((n : Int) - 1) = (n : Int) - 1 := wrap_in (by omega) (by omega)
  simp only [c6i, a4_6, code4, params, wc_skip, wc_region, wc_draw, wc_seq, wc_cond, wc_block, wc_exit, wc_ret, next_normal, next_exit, next_ret, inBlock_normal, inBlock_ret, inBlock_exit, sq_apply, nrm_apply, drawnK_apply, boolV_bool, ccond_true, ccond_false, wo_nil, wo_cons, wo_guard, wop, bindP_some, cont_some, cont_none, guardV_bool, guardV_undef, gcont_true, gcont_false, gcont_false', ret_apply, aggK_apply, putK_apply, resK_apply, boolK_apply, ccont_apply, wd_nil, wd_cons, dvals_apply, dcont_some, dcont_none, AOp.vals, rd_tmp, rd_const, rd_func, get_cons, mapList, mapOpt, Option.bind_some, Option.map_some, Nat.reduceEqDiff, if_true, if_false, reduceIte, reduceCtorEq, wv_mov, wv_pick, wv_alloc, wv_box, wv_build, wv_load, wv_loadn, wv_store, wv_nilCheck, wv_bin, wv_eq, wv_un, wv_convInt, wv_convSame, wv_fieldAddr, wv_field, wv_fieldn, wv_extract, wv_lenSlice, wv_lenString, wv_mkMap, wv_call, callee_func, wv_indexAddr, wv_lookup, wv_mapUpdate, wv_mapEntry, wv_entryStore, wv_delete, wv_append, wv_slice, wv_mkSlice, wv_buildSlice, wv_index, wv_copy, wv_lenMap, Abs.cellAt, Abs.rowAt, Abs.storeAt, Heap.get_put, List.getElem?_cons_zero, List.getElem?_cons_succ, Nat.zero_add, Nat.reduceAdd, idx, and_self, Int.toNat_natCast, cellsAt, ne_eq, not_true_eq_false, not_false_eq_true, cellList, Value.cells, List.length_cons, List.length_nil, List.all_cons, List.all_nil, isCell, Bool.and_self, storeL, List.set_cons_zero, List.set_cons_succ, footOf, true_and, and_true, Nat.reduceLeDiff, Nat.le_refl, Nat.reduceMul, Nat.reduceLT, List.nil_append, List.cons_append, List.length_set, ends_normal, ends_ret, endK_apply, resV_tmp, tupleV, binV, unV, eqV, Bool.not_true, Bool.not_false, BEq.rfl, Bool.true_beq, Bool.false_beq, beq_true, beq_false, Nat.sub_self, List.range'_zero, decide_true, decide_false, List.not_mem_nil, false_implies, implies_true, Bool.true_and, Bool.and_true, drawn, pairOk, disj, quietAt, Bool.bne_false, Bool.bne_true, Bool.false_eq_true, applyUpd, Int.reduceEq, Int.reduceNeg, g7, w]
  intro j hj
  simp (disch := omega) only [get_cons, if_neg]

theorem c6h_gen {k : Nat} (g10 : e.get 10 = some (ik ((k : Int) - 1))) : WCode (fun k => call tbl ov k) c6h e s fun x e' s' => x = .normal ∧ (∀ j, j < 20 → e'.get j = e.get j) ∧ e'.get 64 = some (.bool (decide (0 < k))) ∧ s' = s := by
  have d : decide ((k : Int) - 1 ≥ 0) = decide (0 < k) := by
    have : ((k : Int) - 1 ≥ 0) ↔ 0 < k := by omega
    simp only [this]
  simp only [c6h, a4_6, code4, params, wc_skip, wc_region, wc_draw, wc_seq, wc_cond, wc_block, wc_exit, wc_ret, next_normal, next_exit, next_ret, inBlock_normal, inBlock_ret, inBlock_exit, sq_apply, nrm_apply, drawnK_apply, boolV_bool, ccond_true, ccond_false, wo_nil, wo_cons, wo_guard, wop, bindP_some, cont_some, cont_none, guardV_bool, guardV_undef, gcont_true, gcont_false, gcont_false', ret_apply, aggK_apply, putK_apply, resK_apply, boolK_apply, ccont_apply, wd_nil, wd_cons, dvals_apply, dcont_some, dcont_none, AOp.vals, rd_tmp, rd_const, rd_func, get_cons, mapList, mapOpt, Option.bind_some, Option.map_some, Nat.reduceEqDiff, if_true, if_false, reduceIte, reduceCtorEq, wv_mov, wv_pick, wv_alloc, wv_box, wv_build, wv_load, wv_loadn, wv_store, wv_nilCheck, wv_bin, wv_eq, wv_un, wv_convInt, wv_convSame, wv_fieldAddr, wv_field, wv_fieldn, wv_extract, wv_lenSlice, wv_lenString, wv_mkMap, wv_call, callee_func, wv_indexAddr, wv_lookup, wv_mapUpdate, wv_mapEntry, wv_entryStore, wv_delete, wv_append, wv_slice, wv_mkSlice, wv_buildSlice, wv_index, wv_copy, wv_lenMap, Abs.cellAt, Abs.rowAt, Abs.storeAt, Heap.get_put, List.getElem?_cons_zero, List.getElem?_cons_succ, Nat.zero_add, Nat.reduceAdd, idx, and_self, Int.toNat_natCast, cellsAt, ne_eq, not_true_eq_false, not_false_eq_true, cellList, Value.cells, List.length_cons, List.length_nil, List.all_cons, List.all_nil, isCell, Bool.and_self, storeL, List.set_cons_zero, List.set_cons_succ, footOf, true_and, and_true, Nat.reduceLeDiff, Nat.le_refl, Nat.reduceMul, Nat.reduceLT, List.nil_append, List.cons_append, List.length_set, ends_normal, ends_ret, endK_apply, resV_tmp, tupleV, binV, unV, eqV, Bool.not_true, Bool.not_false, BEq.rfl, Bool.true_beq, Bool.false_beq, beq_true, beq_false, Nat.sub_self, List.range'_zero, decide_true, decide_false, List.not_mem_nil, false_implies, implies_true, Bool.true_and, Bool.and_true, drawn, pairOk, disj, quietAt, Bool.bne_false, Bool.bne_true, Bool.false_eq_true, applyUpd, Int.reduceEq, Int.reduceNeg, g10, d]
  intro j hj
  simp (disch := omega) only [get_cons, if_neg]

theorem c6b_gen (T : HeapTbl tbl) (h : Two s0 s pa pb Sa Sb La Lb) (hL : Lb.length < 2 ^ 30) (hk : KeysAt s av zs len) {i : Nat} (hi : i < len) (g0 : e.get 0 = some av) (g6 : e.get 6 = some (ptr pb)) (g10 : e.get 10 = some (ik i)) :
    WCode (fun k => call tbl ov k) c6b e s fun x e' s' => x = .normal ∧ (∀ j, j < 20 → e'.get j = e.get j) ∧ ∃ Sb' Lb' c, Two s0 s' pa pb Sa Sb' La Lb' ∧ SetTo Lb i (zs.getD i 0) Lb' c := by
  obtain ⟨a, cap, t, rfl, ha, hg⟩ := hk.row (by omega)
  have hz := hk.1
  have d2 : (0 : Int) ≤ i := by omega
  have d3 : (i : Int) < (len : Nat) := by omega
  have hgt := keys_get (zs := zs) (i := i) (by omega)
  simp only [c6b, a4_6, code4, params, wc_skip, wc_region, wc_draw, wc_seq, wc_cond, wc_block, wc_exit, wc_ret, next_normal, next_exit, next_ret, inBlock_normal, inBlock_ret, inBlock_exit, sq_apply, nrm_apply, drawnK_apply, boolV_bool, ccond_true, ccond_false, wo_nil, wo_cons, wo_guard, wop, bindP_some, cont_some, cont_none, guardV_bool, guardV_undef, gcont_true, gcont_false, gcont_false', ret_apply, aggK_apply, putK_apply, resK_apply, boolK_apply, ccont_apply, wd_nil, wd_cons, dvals_apply, dcont_some, dcont_none, AOp.vals, rd_tmp, rd_const, rd_func, get_cons, mapList, mapOpt, Option.bind_some, Option.map_some, Nat.reduceEqDiff, if_true, if_false, reduceIte, reduceCtorEq, wv_mov, wv_pick, wv_alloc, wv_box, wv_build, wv_load, wv_loadn, wv_store, wv_nilCheck, wv_bin, wv_eq, wv_un, wv_convInt, wv_convSame, wv_fieldAddr, wv_field, wv_fieldn, wv_extract, wv_lenSlice, wv_lenString, wv_mkMap, wv_call, callee_func, wv_indexAddr, wv_lookup, wv_mapUpdate, wv_mapEntry, wv_entryStore, wv_delete, wv_append, wv_slice, wv_mkSlice, wv_buildSlice, wv_index, wv_copy, wv_lenMap, Abs.cellAt, Abs.rowAt, Abs.storeAt, Heap.get_put, List.getElem?_cons_zero, List.getElem?_cons_succ, Nat.zero_add, Nat.reduceAdd, idx, and_self, Int.toNat_natCast, cellsAt, ne_eq, not_true_eq_false, not_false_eq_true, cellList, Value.cells, List.length_cons, List.length_nil, List.all_cons, List.all_nil, isCell, Bool.and_self, storeL, List.set_cons_zero, List.set_cons_succ, footOf, true_and, and_true, Nat.reduceLeDiff, Nat.le_refl, Nat.reduceMul, Nat.reduceLT, List.nil_append, List.cons_append, List.length_set, ends_normal, ends_ret, endK_apply, resV_tmp, tupleV, binV, unV, eqV, Bool.not_true, Bool.not_false, BEq.rfl, Bool.true_beq, Bool.false_beq, beq_true, beq_false, Nat.sub_self, List.range'_zero, decide_true, decide_false, List.not_mem_nil, false_implies, implies_true, Bool.true_and, Bool.and_true, drawn, pairOk, disj, quietAt, Bool.bne_false, Bool.bne_true, Bool.false_eq_true, applyUpd, Int.reduceEq, Int.reduceNeg, g0, g6, g10, d2, d3, Nat.mul_one, hg, hgt]
  refine WCall.mono (two_setB T h hL _ _) ?_
  rintro v s1 ⟨S', L', c, hh, hset⟩
  simp only [params, wc_skip, wc_region, wc_draw, wc_seq, wc_cond, wc_block, wc_exit, wc_ret, next_normal, next_exit, next_ret, inBlock_normal, inBlock_ret, inBlock_exit, sq_apply, nrm_apply, drawnK_apply, boolV_bool, ccond_true, ccond_false, wo_nil, wo_cons, wo_guard, wop, bindP_some, cont_some, cont_none, guardV_bool, guardV_undef, gcont_true, gcont_false, gcont_false', ret_apply, aggK_apply, putK_apply, resK_apply, boolK_apply, ccont_apply, wd_nil, wd_cons, dvals_apply, dcont_some, dcont_none, AOp.vals, rd_tmp, rd_const, rd_func, get_cons, mapList, mapOpt, Option.bind_some, Option.map_some, Nat.reduceEqDiff, if_true, if_false, reduceIte, reduceCtorEq, wv_mov, wv_pick, wv_alloc, wv_box, wv_build, wv_load, wv_loadn, wv_store, wv_nilCheck, wv_bin, wv_eq, wv_un, wv_convInt, wv_convSame, wv_fieldAddr, wv_field, wv_fieldn, wv_extract, wv_lenSlice, wv_lenString, wv_mkMap, wv_call, callee_func, wv_indexAddr, wv_lookup, wv_mapUpdate, wv_mapEntry, wv_entryStore, wv_delete, wv_append, wv_slice, wv_mkSlice, wv_buildSlice, wv_index, wv_copy, wv_lenMap, Abs.cellAt, Abs.rowAt, Abs.storeAt, Heap.get_put, List.getElem?_cons_zero, List.getElem?_cons_succ, Nat.zero_add, Nat.reduceAdd, idx, and_self, Int.toNat_natCast, cellsAt, ne_eq, not_true_eq_false, not_false_eq_true, cellList, Value.cells, List.length_cons, List.length_nil, List.all_cons, List.all_nil, isCell, Bool.and_self, storeL, List.set_cons_zero, List.set_cons_succ, footOf, true_and, and_true, Nat.reduceLeDiff, Nat.le_refl, Nat.reduceMul, Nat.reduceLT, List.nil_append, List.cons_append, List.length_set, ends_normal, ends_ret, endK_apply, resV_tmp, tupleV, binV, unV, eqV, Bool.not_true, Bool.not_false, BEq.rfl, Bool.true_beq, Bool.false_beq, beq_true, beq_false, Nat.sub_self, List.range'_zero, decide_true, decide_false, List.not_mem_nil, false_implies, implies_true, Bool.true_and, Bool.and_true, drawn, pairOk, disj, quietAt, Bool.bne_false, Bool.bne_true, Bool.false_eq_true, applyUpd, Int.reduceEq, Int.reduceNeg]
  refine ⟨fun j hj => ?_, S', L', c, hh, hset⟩
  simp (disch := omega) only [get_cons, if_neg]

theorem c6n_gen {i : Nat} (hi : i < 2 ^ 60) (g10 : e.get 10 = some (ik i)) : WCode (fun k => call tbl ov k) c6n e s fun x e' s' => x = .normal ∧ (∀ j, j < 8 → e'.get j = e.get j) ∧ e'.get 10 = some (ik ((i : Int) - 1)) ∧ s' = s := by
  have w : IntKind.i64.wrap ((i : Int) - 1) = (i : Int) - 1 := wrap_in (by omega) (by omega)
  simp only [c6n, a4_6, code4, params, wc_skip, wc_region, wc_draw, wc_seq, wc_cond, wc_block, wc_exit, wc_ret, next_normal, next_exit, next_ret, inBlock_normal, inBlock_ret, inBlock_exit, sq_apply, nrm_apply, drawnK_apply, boolV_bool, ccond_true, ccond_false, wo_nil, wo_cons, wo_guard, wop, bindP_some, cont_some, cont_none, guardV_bool, guardV_undef, gcont_true, gcont_false, gcont_false', ret_apply, aggK_apply, putK_apply, resK_apply, boolK_apply, ccont_apply, wd_nil, wd_cons, dvals_apply, dcont_some, dcont_none, AOp.vals, rd_tmp, rd_const, rd_func, get_cons, mapList, mapOpt, Option.bind_some, Option.map_some, Nat.reduceEqDiff, if_true, if_false, reduceIte, reduceCtorEq, wv_mov, wv_pick, wv_alloc, wv_box, wv_build, wv_load, wv_loadn, wv_store, wv_nilCheck, wv_bin, wv_eq, wv_un, wv_convInt, wv_convSame, wv_fieldAddr, wv_field, wv_fieldn, wv_extract, wv_lenSlice, wv_lenString, wv_mkMap, wv_call, callee_func, wv_indexAddr, wv_lookup, wv_mapUpdate, wv_mapEntry, wv_entryStore, wv_delete, wv_append, wv_slice, wv_mkSlice, wv_buildSlice, wv_index, wv_copy, wv_lenMap, Abs.cellAt, Abs.rowAt, Abs.storeAt, Heap.get_put, List.getElem?_cons_zero, List.getElem?_cons_succ, Nat.zero_add, Nat.reduceAdd, idx, and_self, Int.toNat_natCast, cellsAt, ne_eq, not_true_eq_false, not_false_eq_true, cellList, Value.cells, List.length_cons, List.length_nil, List.all_cons, List.all_nil, isCell, Bool.and_self, storeL, List.set_cons_zero, List.set_cons_succ, footOf, true_and, and_true, Nat.reduceLeDiff, Nat.le_refl, Nat.reduceMul, Nat.reduceLT, List.nil_append, List.cons_append, List.length_set, ends_normal, ends_ret, endK_apply, resV_tmp, tupleV, binV, unV, eqV, Bool.not_true, Bool.not_false, BEq.rfl, Bool.true_beq, Bool.false_beq, beq_true, beq_false, Nat.sub_self, List.range'_zero, decide_true, decide_false, List.not_mem_nil, false_implies, implies_true, Bool.true_and, Bool.and_true, drawn, pairOk, disj, quietAt, Bool.bne_false, Bool.bne_true, Bool.false_eq_true, applyUpd, Int.reduceEq, Int.reduceNeg, g10, w]
  intro j hj
  simp (disch := omega) only [get_cons, if_neg]

theorem a4_6_gen (T : HeapTbl tbl) (hk : KeysAt s0 av zs len) {n : Nat} (hn : n ≤ len) (hn1 : n ≤ 60) (h : Two s0 s pa pb Sa Sb La Lb) (hlb : Lb.length ≤ 100) (hmem : ∀ m ∈ Lb, ∃ j : Nat, j < n ∧ m.1 = j)
    (g0 : e.get 0 = some av) (g5 : e.get 5 = some (ptr pa)) (g6 : e.get 6 = some (ptr pb)) (g7 : e.get 7 = some (ik n)) :
    WCode (fun k => call tbl ov k) a4_6 e s fun x e' s' => x = .normal ∧ (e'.get 5 = some (ptr pa) ∧ e'.get 6 = some (ptr pb) ∧ e'.get 7 = some (ik n)) ∧ ∃ Sb' Lb', Two s0 s' pa pb Sa Sb' La Lb' ∧ Lb'.length ≤ 160 ∧ ∀ m, m ∈ Lb' ↔ ∃ j : Nat, j < n ∧ m = ((j : Int), zs.getD j 0) := by
  rw [a4_6_eq]
  refine wc_for' (fun k e s => ∃ L S, k ≤ n ∧ (e.get 0 = some av ∧ e.get 5 = some (ptr pa) ∧ e.get 6 = some (ptr pb) ∧ e.get 7 = some (ik n)) ∧ e.get 10 = some (ik ((k : Int) - 1)) ∧ Two s0 s pa pb Sa S La L ∧ L.length + k ≤ 100 + n ∧ (∀ m ∈ L, ∃ j : Nat, j < n ∧ m.1 = j ∧ (k ≤ j → m.2 = zs.getD j 0)) ∧ ∀ j : Nat, k ≤ j → j < n → ((j : Int), zs.getD j 0) ∈ L) n ?_ ?_
  · refine WCode.mono ?_ (c6i_gen hn1 g7)
    rintro x e1 s1 ⟨rfl, k1, a8, rfl⟩
    refine ⟨rfl, Lb, Sb, by omega, ⟨(k1 0 (by omega)).trans g0, (k1 5 (by omega)).trans g5, (k1 6 (by omega)).trans g6, (k1 7 (by omega)).trans g7⟩, a8, h, by omega, fun m hm => ?_, fun j h1 h2 => by omega⟩
    obtain ⟨j, hj, he⟩ := hmem m hm
    exact ⟨j, hj, he, fun h => by omega⟩
  · rintro k e1 s1 E ⟨L, S, hi, ⟨b0, b5, b6, b7⟩, b8, hh, hlen, hf, hg⟩ hE
    have c0 := (hE 0 (by simp)).trans b0
    have c5 := (hE 5 (by simp)).trans b5
    have c6 := (hE 6 (by simp)).trans b6
    have c7 := (hE 7 (by simp)).trans b7
    have c8 := (hE 10 (by simp)).trans b8
    refine WCode.mono ?_ (c6h_gen c8)
    rintro x e2 s2 ⟨rfl, k2, a26, rfl⟩
    refine ⟨rfl, _, a26, fun hb => ?_, fun hb => ?_⟩
    · simp only [decide_eq_false_iff_not] at hb
      refine ⟨rfl, ⟨(k2 5 (by omega)).trans c5, (k2 6 (by omega)).trans c6, (k2 7 (by omega)).trans c7⟩, S, L, hh, by omega, fun m => ⟨fun hm => ?_, ?_⟩⟩
      · obtain ⟨j, hj, h1, h2⟩ := hf m hm
        exact ⟨j, hj, by rw [← h1, ← h2 (by omega)]⟩
      · rintro ⟨j, hj, rfl⟩
        exact hg j (by omega) hj
    · simp only [decide_eq_true_eq] at hb
      obtain ⟨i, rfl⟩ : ∃ i, k = i + 1 := ⟨k - 1, by omega⟩
      have hik : ((i + 1 : Nat) : Int) - 1 = (i : Int) := by omega
      rw [hik] at c8
      refine WCode.mono ?_ (c6b_gen T hh (by omega) (hk.chg hh.chg) (i := i) (by omega) ((k2 0 (by omega)).trans c0) ((k2 6 (by omega)).trans c6) ((k2 10 (by omega)).trans c8))
      rintro x e3 s3 ⟨rfl, k3, S', L', c, hh3, hset⟩
      refine .inl ⟨.inl rfl, ?_⟩
      refine WCode.mono ?_ (c6n_gen (i := i) (by omega) ((k3 10 (by omega)).trans ((k2 10 (by omega)).trans c8)))
      rintro x e4 s4 ⟨rfl, k4, d8, rfl⟩
      have kk : ∀ j, j < 8 → e4.get j = E.get j := fun j hj => (k4 j hj).trans ((k3 j (by omega)).trans (k2 j (by omega)))
      refine ⟨rfl, i, by omega, L', S', by omega, ⟨(kk 0 (by omega)).trans c0, (kk 5 (by omega)).trans c5, (kk 6 (by omega)).trans c6, (kk 7 (by omega)).trans c7⟩, d8, hh3, by have := hset.len_le; omega, fun m hm => ?_, fun j h1 h2 => ?_⟩
      · rcases (hset.mem m).1 hm with rfl | ⟨hm, hne⟩
        · exact ⟨i, by omega, rfl, fun _ => rfl⟩
        · obtain ⟨j, hj, h1, h2⟩ := hf m hm
          exact ⟨j, hj, h1, fun h => h2 (by
            have : j ≠ i := by rintro rfl; exact hne h1
            omega)⟩
      · rw [hset.mem]
        by_cases hji : j = i
        · subst hji; exact .inl rfl
        · exact .inr ⟨hg j (by omega) h2, by simp only [ne_eq]; omega⟩

end
end Go.Proofs.Ytaigiehdnhehnaa
