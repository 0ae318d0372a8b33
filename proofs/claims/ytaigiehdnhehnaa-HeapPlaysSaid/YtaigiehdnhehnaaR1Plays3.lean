/-
  HeapPlays: the least pair.
-/
import Derived.Test.YtaigiehdnhehnaaR1Plays2
set_option maxRecDepth 100000
set_option linter.unusedVariables false
set_option linter.unusedSimpArgs false
namespace Go.Proofs.Ytaigiehdnhehnaa
open Go Go.Abs

/-- The least pair so far. -/
def Best (P : List Node) (j : Nat) (b : Int) : Prop := (b = -1 ∧ j = 0) ∨ ∃ m : Nat, b = m ∧ m < j ∧ ∀ i, i < j → le (nd P m) (nd P i)

def oK0 : List AOper := opsOf Pk_0
theorem Pk_0_eq : Pk_0 = .region oK0 none := rfl
def oX : List AOper := opsOf Pb_x
theorem Pb_x_eq : Pb_x = .region oX none := rfl

section
variable {tbl : FuncId → Option AFun} {ov : CallSem} {s s1 sB : St} {e : Env} {v : Value} {P L : List Node} {S S4 : List Nat} {i j m n p q : Nat} {id key wk k b : Int} {w0 w5 : Value}

/-- Two pairs of one row. -/
theorem row2 (hv : RowV 2 s v (P.map pc)) (hj : j < P.length) (hm : m < P.length) : ∃ id o cap c T ro, v = .slice (some ⟨id, o, none⟩) P.length cap ∧ s.heap.get id = some (.cells c T 2 ro) ∧
    c[o + j * 2]? = some (ik (nd P j).1) ∧ c[o + j * 2 + 1]? = some (ik (nd P j).2) ∧ c[o + m * 2]? = some (ik (nd P m).1) ∧ c[o + m * 2 + 1]? = some (ik (nd P m).2) := by
  have hml : (P.map pc).length = P.length := List.length_map ..
  obtain ⟨id, o, cap, c, T, ro, rfl, hg, _, _, h1⟩ := hv.at (i := j) (by rw [hml]; exact hj)
  obtain ⟨id', o', cap', c', T', ro', he, hg', _, _, h2⟩ := hv.at (i := m) (by rw [hml]; exact hm)
  cases he
  rw [hg] at hg'
  cases hg'
  rw [pc_getD hj] at h1
  rw [pc_getD hm] at h2
  exact ⟨id, o, cap, c, T, ro, by rw [hml], hg, h1 0 (by omega), h1 1 (by omega), h2 0 (by omega), h2 1 (by omega)⟩

theorem K0t1 (g130 : e.get 130 = some (.bool true)) :
    WCode (fun k => call tbl ov k) (.region ((oK0.drop 16).take 6) none) e s fun x e' s' => x = .normal ∧ (∀ j, j < 14 → e'.get j = e.get j) ∧ e'.get 130 = some (.bool true) ∧ s' = s := by
  simp only [oK0, Pk_0, Pj_b, Pb_7, Py_b, code5, opsOf, List.take_succ_cons, List.take_zero, List.drop_succ_cons, List.drop_zero, params, wc_skip, wc_region, wc_draw, wc_seq, wc_cond, wc_block, wc_exit, wc_ret, next_normal, next_exit, next_ret, inBlock_normal, inBlock_ret, inBlock_exit, sq_apply, nrm_apply, drawnK_apply, boolV_bool, ccond_true, ccond_false, wo_nil, wo_cons, wo_guard, wop, bindP_some, cont_some, cont_none, guardV_bool, guardV_undef, gcont_true, gcont_false, gcont_false', ret_apply, aggK_apply, putK_apply, resK_apply, boolK_apply, ccont_apply, wd_nil, wd_cons, dvals_apply, dcont_some, dcont_none, AOp.vals, rd_tmp, rd_const, rd_func, get_cons, mapList, mapOpt, Option.bind_some, Option.map_some, Nat.reduceEqDiff, if_true, if_false, reduceIte, reduceCtorEq, wv_mov, wv_pick, wv_alloc, wv_box, wv_build, wv_load, wv_loadn, wv_store, wv_nilCheck, wv_bin, wv_eq, wv_un, wv_convInt, wv_convSame, wv_fieldAddr, wv_field, wv_fieldn, wv_extract, wv_lenSlice, wv_lenString, wv_mkMap, wv_call, callee_func, wv_indexAddr, wv_lookup, wv_mapUpdate, wv_mapEntry, wv_entryStore, wv_delete, wv_append, wv_slice, wv_mkSlice, wv_buildSlice, wv_index, wv_copy, wv_lenMap, Abs.cellAt, Abs.rowAt, Abs.storeAt, Heap.get_put, List.getElem?_cons_zero, List.getElem?_cons_succ, Nat.zero_add, Nat.reduceAdd, idx, and_self, Int.toNat_natCast, cellsAt, ne_eq, not_true_eq_false, not_false_eq_true, cellList, Value.cells, List.length_cons, List.length_nil, List.all_cons, List.all_nil, isCell, Bool.and_self, storeL, List.set_cons_zero, List.set_cons_succ, footOf, true_and, and_true, Nat.reduceLeDiff, Nat.le_refl, Nat.reduceMul, Nat.reduceLT, List.nil_append, List.cons_append, List.length_set, ends_normal, ends_ret, endK_apply, resV_tmp, tupleV, eqV, Bool.not_true, Bool.not_false, BEq.rfl, Bool.true_beq, Bool.false_beq, beq_true, beq_false, Nat.sub_self, List.range'_zero, decide_true, decide_false, List.not_mem_nil, false_implies, implies_true, Bool.true_and, Bool.and_true, drawn, pairOk, disj, quietAt, Bool.bne_false, Bool.bne_true, Bool.false_eq_true, applyUpd, Int.reduceEq, Int.reduceNeg, bin_add, bin_sub, bin_mul, bin_lss, bin_leq, bin_gtr, bin_geq, bin_eql, bin_neq, un_not, wv_cap, wv_appendMake, wv_clear, wv_toString, wv_toBytes, wv_sameB, wv_mkIface, wv_minmax, g130]
  intro j hj
  simp (disch := omega) only [get_cons, if_neg]

theorem K0t2 (g130 : e.get 130 = some (.bool true)) :
    WCode (fun k => call tbl ov k) (.region (((oK0.drop 16).drop 6).take 6) none) e s fun x e' s' => x = .normal ∧ (∀ j, j < 14 → e'.get j = e.get j) ∧ e'.get 130 = some (.bool true) ∧ e'.get 142 = some undefV ∧ s' = s := by
  simp only [oK0, Pk_0, Pj_b, Pb_7, Py_b, code5, opsOf, List.take_succ_cons, List.take_zero, List.drop_succ_cons, List.drop_zero, params, wc_skip, wc_region, wc_draw, wc_seq, wc_cond, wc_block, wc_exit, wc_ret, next_normal, next_exit, next_ret, inBlock_normal, inBlock_ret, inBlock_exit, sq_apply, nrm_apply, drawnK_apply, boolV_bool, ccond_true, ccond_false, wo_nil, wo_cons, wo_guard, wop, bindP_some, cont_some, cont_none, guardV_bool, guardV_undef, gcont_true, gcont_false, gcont_false', ret_apply, aggK_apply, putK_apply, resK_apply, boolK_apply, ccont_apply, wd_nil, wd_cons, dvals_apply, dcont_some, dcont_none, AOp.vals, rd_tmp, rd_const, rd_func, get_cons, mapList, mapOpt, Option.bind_some, Option.map_some, Nat.reduceEqDiff, if_true, if_false, reduceIte, reduceCtorEq, wv_mov, wv_pick, wv_alloc, wv_box, wv_build, wv_load, wv_loadn, wv_store, wv_nilCheck, wv_bin, wv_eq, wv_un, wv_convInt, wv_convSame, wv_fieldAddr, wv_field, wv_fieldn, wv_extract, wv_lenSlice, wv_lenString, wv_mkMap, wv_call, callee_func, wv_indexAddr, wv_lookup, wv_mapUpdate, wv_mapEntry, wv_entryStore, wv_delete, wv_append, wv_slice, wv_mkSlice, wv_buildSlice, wv_index, wv_copy, wv_lenMap, Abs.cellAt, Abs.rowAt, Abs.storeAt, Heap.get_put, List.getElem?_cons_zero, List.getElem?_cons_succ, Nat.zero_add, Nat.reduceAdd, idx, and_self, Int.toNat_natCast, cellsAt, ne_eq, not_true_eq_false, not_false_eq_true, cellList, Value.cells, List.length_cons, List.length_nil, List.all_cons, List.all_nil, isCell, Bool.and_self, storeL, List.set_cons_zero, List.set_cons_succ, footOf, true_and, and_true, Nat.reduceLeDiff, Nat.le_refl, Nat.reduceMul, Nat.reduceLT, List.nil_append, List.cons_append, List.length_set, ends_normal, ends_ret, endK_apply, resV_tmp, tupleV, eqV, Bool.not_true, Bool.not_false, BEq.rfl, Bool.true_beq, Bool.false_beq, beq_true, beq_false, Nat.sub_self, List.range'_zero, decide_true, decide_false, List.not_mem_nil, false_implies, implies_true, Bool.true_and, Bool.and_true, drawn, pairOk, disj, quietAt, Bool.bne_false, Bool.bne_true, Bool.false_eq_true, applyUpd, Int.reduceEq, Int.reduceNeg, bin_add, bin_sub, bin_mul, bin_lss, bin_leq, bin_gtr, bin_geq, bin_eql, bin_neq, un_not, wv_cap, wv_appendMake, wv_clear, wv_toString, wv_toBytes, wv_sameB, wv_mkIface, wv_minmax, g130]
  intro j hj
  simp (disch := omega) only [get_cons, if_neg]

theorem K0t3 (g130 : e.get 130 = some (.bool true)) (g142 : e.get 142 = some undefV) :
    WCode (fun k => call tbl ov k) (.region ((((oK0.drop 16).drop 6).drop 6).take 6) none) e s fun x e' s' => x = .normal ∧ (∀ j, j < 14 → e'.get j = e.get j) ∧ e'.get 130 = some (.bool true) ∧ e'.get 142 = some undefV ∧ s' = s := by
  simp only [oK0, Pk_0, Pj_b, Pb_7, Py_b, code5, opsOf, List.take_succ_cons, List.take_zero, List.drop_succ_cons, List.drop_zero, params, wc_skip, wc_region, wc_draw, wc_seq, wc_cond, wc_block, wc_exit, wc_ret, next_normal, next_exit, next_ret, inBlock_normal, inBlock_ret, inBlock_exit, sq_apply, nrm_apply, drawnK_apply, boolV_bool, ccond_true, ccond_false, wo_nil, wo_cons, wo_guard, wop, bindP_some, cont_some, cont_none, guardV_bool, guardV_undef, gcont_true, gcont_false, gcont_false', ret_apply, aggK_apply, putK_apply, resK_apply, boolK_apply, ccont_apply, wd_nil, wd_cons, dvals_apply, dcont_some, dcont_none, AOp.vals, rd_tmp, rd_const, rd_func, get_cons, mapList, mapOpt, Option.bind_some, Option.map_some, Nat.reduceEqDiff, if_true, if_false, reduceIte, reduceCtorEq, wv_mov, wv_pick, wv_alloc, wv_box, wv_build, wv_load, wv_loadn, wv_store, wv_nilCheck, wv_bin, wv_eq, wv_un, wv_convInt, wv_convSame, wv_fieldAddr, wv_field, wv_fieldn, wv_extract, wv_lenSlice, wv_lenString, wv_mkMap, wv_call, callee_func, wv_indexAddr, wv_lookup, wv_mapUpdate, wv_mapEntry, wv_entryStore, wv_delete, wv_append, wv_slice, wv_mkSlice, wv_buildSlice, wv_index, wv_copy, wv_lenMap, Abs.cellAt, Abs.rowAt, Abs.storeAt, Heap.get_put, List.getElem?_cons_zero, List.getElem?_cons_succ, Nat.zero_add, Nat.reduceAdd, idx, and_self, Int.toNat_natCast, cellsAt, ne_eq, not_true_eq_false, not_false_eq_true, cellList, Value.cells, List.length_cons, List.length_nil, List.all_cons, List.all_nil, isCell, Bool.and_self, storeL, List.set_cons_zero, List.set_cons_succ, footOf, true_and, and_true, Nat.reduceLeDiff, Nat.le_refl, Nat.reduceMul, Nat.reduceLT, List.nil_append, List.cons_append, List.length_set, ends_normal, ends_ret, endK_apply, resV_tmp, tupleV, eqV, Bool.not_true, Bool.not_false, BEq.rfl, Bool.true_beq, Bool.false_beq, beq_true, beq_false, Nat.sub_self, List.range'_zero, decide_true, decide_false, List.not_mem_nil, false_implies, implies_true, Bool.true_and, Bool.and_true, drawn, pairOk, disj, quietAt, Bool.bne_false, Bool.bne_true, Bool.false_eq_true, applyUpd, Int.reduceEq, Int.reduceNeg, bin_add, bin_sub, bin_mul, bin_lss, bin_leq, bin_gtr, bin_geq, bin_eql, bin_neq, un_not, wv_cap, wv_appendMake, wv_clear, wv_toString, wv_toBytes, wv_sameB, wv_mkIface, wv_minmax, g130, g142]
  intro j hj
  simp (disch := omega) only [get_cons, if_neg]

theorem K0t4 (g130 : e.get 130 = some (.bool true)) (g142 : e.get 142 = some undefV) :
    WCode (fun k => call tbl ov k) (.region ((((oK0.drop 16).drop 6).drop 6).drop 6) none) e s fun x e' s' => x = .normal ∧ (∀ j, j < 14 → e'.get j = e.get j) ∧ e'.get 155 = some (.bool true) ∧ s' = s := by
  simp only [oK0, Pk_0, Pj_b, Pb_7, Py_b, code5, opsOf, List.drop_succ_cons, List.drop_zero, params, wc_skip, wc_region, wc_draw, wc_seq, wc_cond, wc_block, wc_exit, wc_ret, next_normal, next_exit, next_ret, inBlock_normal, inBlock_ret, inBlock_exit, sq_apply, nrm_apply, drawnK_apply, boolV_bool, ccond_true, ccond_false, wo_nil, wo_cons, wo_guard, wop, bindP_some, cont_some, cont_none, guardV_bool, guardV_undef, gcont_true, gcont_false, gcont_false', ret_apply, aggK_apply, putK_apply, resK_apply, boolK_apply, ccont_apply, wd_nil, wd_cons, dvals_apply, dcont_some, dcont_none, AOp.vals, rd_tmp, rd_const, rd_func, get_cons, mapList, mapOpt, Option.bind_some, Option.map_some, Nat.reduceEqDiff, if_true, if_false, reduceIte, reduceCtorEq, wv_mov, wv_pick, wv_alloc, wv_box, wv_build, wv_load, wv_loadn, wv_store, wv_nilCheck, wv_bin, wv_eq, wv_un, wv_convInt, wv_convSame, wv_fieldAddr, wv_field, wv_fieldn, wv_extract, wv_lenSlice, wv_lenString, wv_mkMap, wv_call, callee_func, wv_indexAddr, wv_lookup, wv_mapUpdate, wv_mapEntry, wv_entryStore, wv_delete, wv_append, wv_slice, wv_mkSlice, wv_buildSlice, wv_index, wv_copy, wv_lenMap, Abs.cellAt, Abs.rowAt, Abs.storeAt, Heap.get_put, List.getElem?_cons_zero, List.getElem?_cons_succ, Nat.zero_add, Nat.reduceAdd, idx, and_self, Int.toNat_natCast, cellsAt, ne_eq, not_true_eq_false, not_false_eq_true, cellList, Value.cells, List.length_cons, List.length_nil, List.all_cons, List.all_nil, isCell, Bool.and_self, storeL, List.set_cons_zero, List.set_cons_succ, footOf, true_and, and_true, Nat.reduceLeDiff, Nat.le_refl, Nat.reduceMul, Nat.reduceLT, List.nil_append, List.cons_append, List.length_set, ends_normal, ends_ret, endK_apply, resV_tmp, tupleV, eqV, Bool.not_true, Bool.not_false, BEq.rfl, Bool.true_beq, Bool.false_beq, beq_true, beq_false, Nat.sub_self, List.range'_zero, decide_true, decide_false, List.not_mem_nil, false_implies, implies_true, Bool.true_and, Bool.and_true, drawn, pairOk, disj, quietAt, Bool.bne_false, Bool.bne_true, Bool.false_eq_true, applyUpd, Int.reduceEq, Int.reduceNeg, bin_add, bin_sub, bin_mul, bin_lss, bin_leq, bin_gtr, bin_geq, bin_eql, bin_neq, un_not, wv_cap, wv_appendMake, wv_clear, wv_toString, wv_toBytes, wv_sameB, wv_mkIface, wv_minmax, g130, g142]
  intro j hj
  simp (disch := omega) only [get_cons, if_neg]

theorem K0t (g130 : e.get 130 = some (.bool true)) :
    WCode (fun k => call tbl ov k) (.region (oK0.drop 16) none) e s fun x e' s' => x = .normal ∧ (∀ j, j < 14 → e'.get j = e.get j) ∧ e'.get 155 = some (.bool true) ∧ s' = s := by
  rw [wc_cut _ _ 6]
  refine WCode.mono ?_ (K0t1 g130)
  rintro z e1 s1 ⟨rfl, k1, a, rfl⟩
  rw [next_normal, wc_cut _ _ 6]
  refine WCode.mono ?_ (K0t2 a)
  rintro z e2 s2 ⟨rfl, k2, b, b2, rfl⟩
  rw [next_normal, wc_cut _ _ 6]
  refine WCode.mono ?_ (K0t3 b b2)
  rintro z e3 s3 ⟨rfl, k3, c, c2, rfl⟩
  rw [next_normal]
  refine WCode.mono ?_ (K0t4 c c2)
  rintro z e4 s4 ⟨rfl, k4, d, rfl⟩
  exact ⟨rfl, fun j hj => (k4 j hj).trans ((k3 j hj).trans ((k2 j hj).trans (k1 j hj))), d, rfl⟩

theorem K0f (g10 : e.get 10 = some (ik (-1))) :
    WCode (fun k => call tbl ov k) (.region (oK0.take 16) none) e s fun x e' s' => x = .normal ∧ (∀ j, j < 14 → e'.get j = e.get j) ∧ e'.get 130 = some (.bool true) ∧ s' = s := by
  have d : decide ((-1 : Int) < 0) = true := rfl
  simp only [oK0, Pk_0, Pj_b, Pb_7, Py_b, code5, opsOf, List.take_succ_cons, List.take_zero, params, wc_skip, wc_region, wc_draw, wc_seq, wc_cond, wc_block, wc_exit, wc_ret, next_normal, next_exit, next_ret, inBlock_normal, inBlock_ret, inBlock_exit, sq_apply, nrm_apply, drawnK_apply, boolV_bool, ccond_true, ccond_false, wo_nil, wo_cons, wo_guard, wop, bindP_some, cont_some, cont_none, guardV_bool, guardV_undef, gcont_true, gcont_false, gcont_false', ret_apply, aggK_apply, putK_apply, resK_apply, boolK_apply, ccont_apply, wd_nil, wd_cons, dvals_apply, dcont_some, dcont_none, AOp.vals, rd_tmp, rd_const, rd_func, get_cons, mapList, mapOpt, Option.bind_some, Option.map_some, Nat.reduceEqDiff, if_true, if_false, reduceIte, reduceCtorEq, wv_mov, wv_pick, wv_alloc, wv_box, wv_build, wv_load, wv_loadn, wv_store, wv_nilCheck, wv_bin, wv_eq, wv_un, wv_convInt, wv_convSame, wv_fieldAddr, wv_field, wv_fieldn, wv_extract, wv_lenSlice, wv_lenString, wv_mkMap, wv_call, callee_func, wv_indexAddr, wv_lookup, wv_mapUpdate, wv_mapEntry, wv_entryStore, wv_delete, wv_append, wv_slice, wv_mkSlice, wv_buildSlice, wv_index, wv_copy, wv_lenMap, Abs.cellAt, Abs.rowAt, Abs.storeAt, Heap.get_put, List.getElem?_cons_zero, List.getElem?_cons_succ, Nat.zero_add, Nat.reduceAdd, idx, and_self, Int.toNat_natCast, cellsAt, ne_eq, not_true_eq_false, not_false_eq_true, cellList, Value.cells, List.length_cons, List.length_nil, List.all_cons, List.all_nil, isCell, Bool.and_self, storeL, List.set_cons_zero, List.set_cons_succ, footOf, true_and, and_true, Nat.reduceLeDiff, Nat.le_refl, Nat.reduceMul, Nat.reduceLT, List.nil_append, List.cons_append, List.length_set, ends_normal, ends_ret, endK_apply, resV_tmp, tupleV, eqV, Bool.not_true, Bool.not_false, BEq.rfl, Bool.true_beq, Bool.false_beq, beq_true, beq_false, Nat.sub_self, List.range'_zero, decide_true, decide_false, List.not_mem_nil, false_implies, implies_true, Bool.true_and, Bool.and_true, drawn, pairOk, disj, quietAt, Bool.bne_false, Bool.bne_true, Bool.false_eq_true, applyUpd, Int.reduceEq, Int.reduceNeg, bin_add, bin_sub, bin_mul, bin_lss, bin_leq, bin_gtr, bin_geq, bin_eql, bin_neq, un_not, wv_cap, wv_appendMake, wv_clear, wv_toString, wv_toBytes, wv_sameB, wv_mkIface, wv_minmax, g10, d]
  intro j hj
  simp (disch := omega) only [get_cons, if_neg]

theorem K0_first (g10 : e.get 10 = some (ik (-1))) :
    WCode (fun k => call tbl ov k) Pk_0 e s fun x e' s' => x = .normal ∧ (∀ j, j < 14 → e'.get j = e.get j) ∧ e'.get 155 = some (.bool true) ∧ s' = s := by
  rw [Pk_0_eq, wc_cut _ _ 16]
  refine WCode.mono ?_ (K0f g10)
  rintro z e1 s1 ⟨rfl, k1, a130, rfl⟩
  rw [next_normal]
  refine WCode.mono ?_ (K0t a130)
  rintro z e2 s2 ⟨rfl, k2, b, rfl⟩
  exact ⟨rfl, fun j hj => (k2 j hj).trans (k1 j hj), b, rfl⟩

theorem K0a (hv : RowV 2 s v (P.map pc)) (hj : j < P.length) (hm : m < P.length) (g4 : e.get 4 = some v) (g10 : e.get 10 = some (ik m)) (g11 : e.get 11 = some (ik j)) :
    WCode (fun k => call tbl ov k) (.region (oK0.take 16) none) e s fun x e' s' => x = .normal ∧ (∀ j, j < 14 → e'.get j = e.get j) ∧ e'.get 130 = some (.bool (decide ((nd P j).2 < (nd P m).2))) ∧ s' = s := by
  obtain ⟨id, o, cap, c, T, ro, rfl, hg, c1, c2, c3, c4⟩ := row2 hv hj hm
  have d : decide ((m : Int) < 0) = false := decide_eq_false (by omega)
  have e1 : (0 : Int) ≤ j := by omega
  have e2 : (j : Int) < (P.length : Nat) := by omega
  have e3 : (0 : Int) ≤ m := by omega
  have e4 : (m : Int) < (P.length : Nat) := by omega
  simp only [oK0, Pk_0, Pj_b, Pb_7, Py_b, code5, opsOf, List.take_succ_cons, List.take_zero, params, wc_skip, wc_region, wc_draw, wc_seq, wc_cond, wc_block, wc_exit, wc_ret, next_normal, next_exit, next_ret, inBlock_normal, inBlock_ret, inBlock_exit, sq_apply, nrm_apply, drawnK_apply, boolV_bool, ccond_true, ccond_false, wo_nil, wo_cons, wo_guard, wop, bindP_some, cont_some, cont_none, guardV_bool, guardV_undef, gcont_true, gcont_false, gcont_false', ret_apply, aggK_apply, putK_apply, resK_apply, boolK_apply, ccont_apply, wd_nil, wd_cons, dvals_apply, dcont_some, dcont_none, AOp.vals, rd_tmp, rd_const, rd_func, get_cons, mapList, mapOpt, Option.bind_some, Option.map_some, Nat.reduceEqDiff, if_true, if_false, reduceIte, reduceCtorEq, wv_mov, wv_pick, wv_alloc, wv_box, wv_build, wv_load, wv_loadn, wv_store, wv_nilCheck, wv_bin, wv_eq, wv_un, wv_convInt, wv_convSame, wv_fieldAddr, wv_field, wv_fieldn, wv_extract, wv_lenSlice, wv_lenString, wv_mkMap, wv_call, callee_func, wv_indexAddr, wv_lookup, wv_mapUpdate, wv_mapEntry, wv_entryStore, wv_delete, wv_append, wv_slice, wv_mkSlice, wv_buildSlice, wv_index, wv_copy, wv_lenMap, Abs.cellAt, Abs.rowAt, Abs.storeAt, Heap.get_put, List.getElem?_cons_zero, List.getElem?_cons_succ, Nat.zero_add, Nat.reduceAdd, idx, and_self, Int.toNat_natCast, cellsAt, ne_eq, not_true_eq_false, not_false_eq_true, cellList, Value.cells, List.length_cons, List.length_nil, List.all_cons, List.all_nil, isCell, Bool.and_self, storeL, List.set_cons_zero, List.set_cons_succ, footOf, true_and, and_true, Nat.reduceLeDiff, Nat.le_refl, Nat.reduceMul, Nat.reduceLT, List.nil_append, List.cons_append, List.length_set, ends_normal, ends_ret, endK_apply, resV_tmp, tupleV, eqV, Bool.not_true, Bool.not_false, BEq.rfl, Bool.true_beq, Bool.false_beq, beq_true, beq_false, Nat.sub_self, List.range'_zero, decide_true, decide_false, List.not_mem_nil, false_implies, implies_true, Bool.true_and, Bool.and_true, drawn, pairOk, disj, quietAt, Bool.bne_false, Bool.bne_true, Bool.false_eq_true, applyUpd, Int.reduceEq, Int.reduceNeg, bin_add, bin_sub, bin_mul, bin_lss, bin_leq, bin_gtr, bin_geq, bin_eql, bin_neq, un_not, wv_cap, wv_appendMake, wv_clear, wv_toString, wv_toBytes, wv_sameB, wv_mkIface, wv_minmax, g4, g10, g11, d, e1, e2, e3, e4, hg, c2, c4]
  intro j hj
  simp (disch := omega) only [get_cons, if_neg]

theorem K0b {t : Bool} (hv : RowV 2 s v (P.map pc)) (hj : j < P.length) (hm : m < P.length) (g4 : e.get 4 = some v) (g10 : e.get 10 = some (ik m)) (g11 : e.get 11 = some (ik j)) (g130 : e.get 130 = some (.bool false)) :
    WCode (fun k => call tbl ov k) (.region ((oK0.drop 16).take 12) none) e s fun x e' s' => x = .normal ∧ (∀ j, j < 14 → e'.get j = e.get j) ∧ e'.get 130 = e.get 130 ∧ e'.get 142 = some (.bool ((nd P j).2 == (nd P m).2)) ∧ s' = s := by
  obtain ⟨id, o, cap, c, T, ro, rfl, hg, c1, c2, c3, c4⟩ := row2 hv hj hm
  have e1 : (0 : Int) ≤ j := by omega
  have e2 : (j : Int) < (P.length : Nat) := by omega
  have e3 : (0 : Int) ≤ m := by omega
  have e4 : (m : Int) < (P.length : Nat) := by omega
  simp only [oK0, Pk_0, Pj_b, Pb_7, Py_b, code5, opsOf, List.take_succ_cons, List.take_zero, List.drop_succ_cons, List.drop_zero, params, wc_skip, wc_region, wc_draw, wc_seq, wc_cond, wc_block, wc_exit, wc_ret, next_normal, next_exit, next_ret, inBlock_normal, inBlock_ret, inBlock_exit, sq_apply, nrm_apply, drawnK_apply, boolV_bool, ccond_true, ccond_false, wo_nil, wo_cons, wo_guard, wop, bindP_some, cont_some, cont_none, guardV_bool, guardV_undef, gcont_true, gcont_false, gcont_false', ret_apply, aggK_apply, putK_apply, resK_apply, boolK_apply, ccont_apply, wd_nil, wd_cons, dvals_apply, dcont_some, dcont_none, AOp.vals, rd_tmp, rd_const, rd_func, get_cons, mapList, mapOpt, Option.bind_some, Option.map_some, Nat.reduceEqDiff, if_true, if_false, reduceIte, reduceCtorEq, wv_mov, wv_pick, wv_alloc, wv_box, wv_build, wv_load, wv_loadn, wv_store, wv_nilCheck, wv_bin, wv_eq, wv_un, wv_convInt, wv_convSame, wv_fieldAddr, wv_field, wv_fieldn, wv_extract, wv_lenSlice, wv_lenString, wv_mkMap, wv_call, callee_func, wv_indexAddr, wv_lookup, wv_mapUpdate, wv_mapEntry, wv_entryStore, wv_delete, wv_append, wv_slice, wv_mkSlice, wv_buildSlice, wv_index, wv_copy, wv_lenMap, Abs.cellAt, Abs.rowAt, Abs.storeAt, Heap.get_put, List.getElem?_cons_zero, List.getElem?_cons_succ, Nat.zero_add, Nat.reduceAdd, idx, and_self, Int.toNat_natCast, cellsAt, ne_eq, not_true_eq_false, not_false_eq_true, cellList, Value.cells, List.length_cons, List.length_nil, List.all_cons, List.all_nil, isCell, Bool.and_self, storeL, List.set_cons_zero, List.set_cons_succ, footOf, true_and, and_true, Nat.reduceLeDiff, Nat.le_refl, Nat.reduceMul, Nat.reduceLT, List.nil_append, List.cons_append, List.length_set, ends_normal, ends_ret, endK_apply, resV_tmp, tupleV, eqV, Bool.not_true, Bool.not_false, BEq.rfl, Bool.true_beq, Bool.false_beq, beq_true, beq_false, Nat.sub_self, List.range'_zero, decide_true, decide_false, List.not_mem_nil, false_implies, implies_true, Bool.true_and, Bool.and_true, drawn, pairOk, disj, quietAt, Bool.bne_false, Bool.bne_true, Bool.false_eq_true, applyUpd, Int.reduceEq, Int.reduceNeg, bin_add, bin_sub, bin_mul, bin_lss, bin_leq, bin_gtr, bin_geq, bin_eql, bin_neq, un_not, wv_cap, wv_appendMake, wv_clear, wv_toString, wv_toBytes, wv_sameB, wv_mkIface, wv_minmax, g4, g10, g11, g130, e1, e2, e3, e4, hg, c2, c4]
  intro j hj
  simp (disch := omega) only [get_cons, if_neg]

theorem K0c {t : Bool} (hv : RowV 2 s v (P.map pc)) (hj : j < P.length) (hm : m < P.length) (g4 : e.get 4 = some v) (g10 : e.get 10 = some (ik m)) (g11 : e.get 11 = some (ik j)) (g130 : e.get 130 = some (.bool false)) (g142 : e.get 142 = some (.bool t)) :
    WCode (fun k => call tbl ov k) (.region ((oK0.drop 16).drop 12) none) e s fun x e' s' => x = .normal ∧ (∀ j, j < 14 → e'.get j = e.get j) ∧ e'.get 155 = some (.bool (t && decide ((nd P j).1 < (nd P m).1))) ∧ s' = s := by
  obtain ⟨id, o, cap, c, T, ro, rfl, hg, c1, c2, c3, c4⟩ := row2 hv hj hm
  have e1 : (0 : Int) ≤ j := by omega
  have e2 : (j : Int) < (P.length : Nat) := by omega
  have e3 : (0 : Int) ≤ m := by omega
  have e4 : (m : Int) < (P.length : Nat) := by omega
  cases t with
  | false =>
    simp only [oK0, Pk_0, Pj_b, Pb_7, Py_b, code5, opsOf, List.drop_succ_cons, List.drop_zero, params, wc_skip, wc_region, wc_draw, wc_seq, wc_cond, wc_block, wc_exit, wc_ret, next_normal, next_exit, next_ret, inBlock_normal, inBlock_ret, inBlock_exit, sq_apply, nrm_apply, drawnK_apply, boolV_bool, ccond_true, ccond_false, wo_nil, wo_cons, wo_guard, wop, bindP_some, cont_some, cont_none, guardV_bool, guardV_undef, gcont_true, gcont_false, gcont_false', ret_apply, aggK_apply, putK_apply, resK_apply, boolK_apply, ccont_apply, wd_nil, wd_cons, dvals_apply, dcont_some, dcont_none, AOp.vals, rd_tmp, rd_const, rd_func, get_cons, mapList, mapOpt, Option.bind_some, Option.map_some, Nat.reduceEqDiff, if_true, if_false, reduceIte, reduceCtorEq, wv_mov, wv_pick, wv_alloc, wv_box, wv_build, wv_load, wv_loadn, wv_store, wv_nilCheck, wv_bin, wv_eq, wv_un, wv_convInt, wv_convSame, wv_fieldAddr, wv_field, wv_fieldn, wv_extract, wv_lenSlice, wv_lenString, wv_mkMap, wv_call, callee_func, wv_indexAddr, wv_lookup, wv_mapUpdate, wv_mapEntry, wv_entryStore, wv_delete, wv_append, wv_slice, wv_mkSlice, wv_buildSlice, wv_index, wv_copy, wv_lenMap, Abs.cellAt, Abs.rowAt, Abs.storeAt, Heap.get_put, List.getElem?_cons_zero, List.getElem?_cons_succ, Nat.zero_add, Nat.reduceAdd, idx, and_self, Int.toNat_natCast, cellsAt, ne_eq, not_true_eq_false, not_false_eq_true, cellList, Value.cells, List.length_cons, List.length_nil, List.all_cons, List.all_nil, isCell, Bool.and_self, storeL, List.set_cons_zero, List.set_cons_succ, footOf, true_and, and_true, Nat.reduceLeDiff, Nat.le_refl, Nat.reduceMul, Nat.reduceLT, List.nil_append, List.cons_append, List.length_set, ends_normal, ends_ret, endK_apply, resV_tmp, tupleV, eqV, Bool.not_true, Bool.not_false, BEq.rfl, Bool.true_beq, Bool.false_beq, beq_true, beq_false, Nat.sub_self, List.range'_zero, decide_true, decide_false, List.not_mem_nil, false_implies, implies_true, Bool.true_and, Bool.and_true, drawn, pairOk, disj, quietAt, Bool.bne_false, Bool.bne_true, Bool.false_eq_true, applyUpd, Int.reduceEq, Int.reduceNeg, bin_add, bin_sub, bin_mul, bin_lss, bin_leq, bin_gtr, bin_geq, bin_eql, bin_neq, un_not, wv_cap, wv_appendMake, wv_clear, wv_toString, wv_toBytes, wv_sameB, wv_mkIface, wv_minmax, g4, g10, g11, g130, g142, Bool.false_and]
    intro j hj
    simp (disch := omega) only [get_cons, if_neg]
  | true =>
    simp only [oK0, Pk_0, Pj_b, Pb_7, Py_b, code5, opsOf, List.drop_succ_cons, List.drop_zero, params, wc_skip, wc_region, wc_draw, wc_seq, wc_cond, wc_block, wc_exit, wc_ret, next_normal, next_exit, next_ret, inBlock_normal, inBlock_ret, inBlock_exit, sq_apply, nrm_apply, drawnK_apply, boolV_bool, ccond_true, ccond_false, wo_nil, wo_cons, wo_guard, wop, bindP_some, cont_some, cont_none, guardV_bool, guardV_undef, gcont_true, gcont_false, gcont_false', ret_apply, aggK_apply, putK_apply, resK_apply, boolK_apply, ccont_apply, wd_nil, wd_cons, dvals_apply, dcont_some, dcont_none, AOp.vals, rd_tmp, rd_const, rd_func, get_cons, mapList, mapOpt, Option.bind_some, Option.map_some, Nat.reduceEqDiff, if_true, if_false, reduceIte, reduceCtorEq, wv_mov, wv_pick, wv_alloc, wv_box, wv_build, wv_load, wv_loadn, wv_store, wv_nilCheck, wv_bin, wv_eq, wv_un, wv_convInt, wv_convSame, wv_fieldAddr, wv_field, wv_fieldn, wv_extract, wv_lenSlice, wv_lenString, wv_mkMap, wv_call, callee_func, wv_indexAddr, wv_lookup, wv_mapUpdate, wv_mapEntry, wv_entryStore, wv_delete, wv_append, wv_slice, wv_mkSlice, wv_buildSlice, wv_index, wv_copy, wv_lenMap, Abs.cellAt, Abs.rowAt, Abs.storeAt, Heap.get_put, List.getElem?_cons_zero, List.getElem?_cons_succ, Nat.zero_add, Nat.reduceAdd, idx, and_self, Int.toNat_natCast, cellsAt, ne_eq, not_true_eq_false, not_false_eq_true, cellList, Value.cells, List.length_cons, List.length_nil, List.all_cons, List.all_nil, isCell, Bool.and_self, storeL, List.set_cons_zero, List.set_cons_succ, footOf, true_and, and_true, Nat.reduceLeDiff, Nat.le_refl, Nat.reduceMul, Nat.reduceLT, List.nil_append, List.cons_append, List.length_set, ends_normal, ends_ret, endK_apply, resV_tmp, tupleV, eqV, Bool.not_true, Bool.not_false, BEq.rfl, Bool.true_beq, Bool.false_beq, beq_true, beq_false, Nat.sub_self, List.range'_zero, decide_true, decide_false, List.not_mem_nil, false_implies, implies_true, Bool.true_and, Bool.and_true, drawn, pairOk, disj, quietAt, Bool.bne_false, Bool.bne_true, Bool.false_eq_true, applyUpd, Int.reduceEq, Int.reduceNeg, bin_add, bin_sub, bin_mul, bin_lss, bin_leq, bin_gtr, bin_geq, bin_eql, bin_neq, un_not, wv_cap, wv_appendMake, wv_clear, wv_toString, wv_toBytes, wv_sameB, wv_mkIface, wv_minmax, g4, g10, g11, g130, g142, e1, e2, e3, e4, hg, Nat.add_zero, c1, c3, Bool.true_and]
    intro j hj
    simp (disch := omega) only [get_cons, if_neg]

theorem Pk_0_gen (hv : RowV 2 s v (P.map pc)) (hj : j < P.length) (hb : Best P j b) (g4 : e.get 4 = some v) (g10 : e.get 10 = some (ik b)) (g11 : e.get 11 = some (ik j)) :
    WCode (fun k => call tbl ov k) Pk_0 e s fun x e' s' => x = .normal ∧ (∀ j, j < 14 → e'.get j = e.get j) ∧ (∃ t, e'.get 155 = some (.bool t) ∧ (t = true → Best P (j + 1) j) ∧ (t = false → Best P (j + 1) b)) ∧ s' = s := by
  rcases hb with ⟨rfl, rfl⟩ | ⟨m, rfl, hm, hmin⟩
  · refine WCode.mono ?_ (K0_first g10)
    rintro z e1 s1 ⟨rfl, k1, a155, rfl⟩
    refine ⟨rfl, k1, ⟨true, a155, fun _ => .inr ⟨0, rfl, by omega, fun i hi => ?_⟩, fun h => by cases h⟩, rfl⟩
    have : i = 0 := by omega
    subst this; exact le_refl _
  · have hstep : ∀ t : Bool, t = lt (nd P j) (nd P m) → (t = true → Best P (j + 1) j) ∧ (t = false → Best P (j + 1) m) := by
      intro t ht
      refine ⟨fun h => .inr ⟨j, rfl, by omega, fun i hi => ?_⟩, fun h => .inr ⟨m, rfl, by omega, fun i hi => ?_⟩⟩
      · rw [h] at ht
        have hl := le_of_lt ht.symm
        by_cases hij : i = j
        · subst hij; exact le_refl _
        · exact le_trans hl (hmin i (by omega))
      · rw [h] at ht
        by_cases hij : i = j
        · subst hij; exact ht.symm
        · exact hmin i (by omega)
    rw [Pk_0_eq, wc_cut _ _ 16]
    refine WCode.mono ?_ (K0a hv hj (by omega) g4 g10 g11)
    rintro z e1 s1 ⟨rfl, k1, a130, rfl⟩
    rw [next_normal]
    cases h1 : decide ((nd P j).2 < (nd P m).2) with
    | true =>
      rw [h1] at a130
      refine WCode.mono ?_ (K0t a130)
      rintro z e2 s2 ⟨rfl, k2, a155, rfl⟩
      exact ⟨rfl, fun j hj => (k2 j hj).trans (k1 j hj), ⟨true, a155, hstep true (by unfold lt; rw [h1]; rfl)⟩, rfl⟩
    | false =>
      rw [h1] at a130
      rw [wc_cut _ _ 12]
      have b4 := (k1 4 (by omega)).trans g4
      have b10 := (k1 10 (by omega)).trans g10
      have b11 := (k1 11 (by omega)).trans g11
      refine WCode.mono ?_ (K0b (t := true) hv hj (by omega) b4 b10 b11 a130)
      rintro z e2 s2 ⟨rfl, k2, b130, b142, rfl⟩
      rw [next_normal]
      refine WCode.mono ?_ (K0c hv hj (by omega) ((k2 4 (by omega)).trans b4) ((k2 10 (by omega)).trans b10) ((k2 11 (by omega)).trans b11) (b130.trans a130) b142)
      rintro z e3 s3 ⟨rfl, k3, a155, rfl⟩
      exact ⟨rfl, fun j hj => (k3 j hj).trans ((k2 j hj).trans (k1 j hj)), ⟨_, a155, hstep _ (by unfold lt; rw [h1]; rfl)⟩, rfl⟩

theorem Pk_0t_gen (g11 : e.get 11 = some (ik k)) :
    WCode (fun k => call tbl ov k) Pk_0t e s fun x e' s' => x = .normal ∧ (∀ j, j < 14 → j ≠ 10 → e'.get j = e.get j) ∧ e'.get 10 = some (ik k) ∧ s' = s := by
  simp only [Pk_0t, Pj_b, Pb_7, Py_b, code5, params, wc_skip, wc_region, wc_draw, wc_seq, wc_cond, wc_block, wc_exit, wc_ret, next_normal, next_exit, next_ret, inBlock_normal, inBlock_ret, inBlock_exit, sq_apply, nrm_apply, drawnK_apply, boolV_bool, ccond_true, ccond_false, wo_nil, wo_cons, wo_guard, wop, bindP_some, cont_some, cont_none, guardV_bool, guardV_undef, gcont_true, gcont_false, gcont_false', ret_apply, aggK_apply, putK_apply, resK_apply, boolK_apply, ccont_apply, wd_nil, wd_cons, dvals_apply, dcont_some, dcont_none, AOp.vals, rd_tmp, rd_const, rd_func, get_cons, mapList, mapOpt, Option.bind_some, Option.map_some, Nat.reduceEqDiff, if_true, if_false, reduceIte, reduceCtorEq, wv_mov, wv_pick, wv_alloc, wv_box, wv_build, wv_load, wv_loadn, wv_store, wv_nilCheck, wv_bin, wv_eq, wv_un, wv_convInt, wv_convSame, wv_fieldAddr, wv_field, wv_fieldn, wv_extract, wv_lenSlice, wv_lenString, wv_mkMap, wv_call, callee_func, wv_indexAddr, wv_lookup, wv_mapUpdate, wv_mapEntry, wv_entryStore, wv_delete, wv_append, wv_slice, wv_mkSlice, wv_buildSlice, wv_index, wv_copy, wv_lenMap, Abs.cellAt, Abs.rowAt, Abs.storeAt, Heap.get_put, List.getElem?_cons_zero, List.getElem?_cons_succ, Nat.zero_add, Nat.reduceAdd, idx, and_self, Int.toNat_natCast, cellsAt, ne_eq, not_true_eq_false, not_false_eq_true, cellList, Value.cells, List.length_cons, List.length_nil, List.all_cons, List.all_nil, isCell, Bool.and_self, storeL, List.set_cons_zero, List.set_cons_succ, footOf, true_and, and_true, Nat.reduceLeDiff, Nat.le_refl, Nat.reduceMul, Nat.reduceLT, List.nil_append, List.cons_append, List.length_set, ends_normal, ends_ret, endK_apply, resV_tmp, tupleV, eqV, Bool.not_true, Bool.not_false, BEq.rfl, Bool.true_beq, Bool.false_beq, beq_true, beq_false, Nat.sub_self, List.range'_zero, decide_true, decide_false, List.not_mem_nil, false_implies, implies_true, Bool.true_and, Bool.and_true, drawn, pairOk, disj, quietAt, Bool.bne_false, Bool.bne_true, Bool.false_eq_true, applyUpd, Int.reduceEq, Int.reduceNeg, bin_add, bin_sub, bin_mul, bin_lss, bin_leq, bin_gtr, bin_geq, bin_eql, bin_neq, un_not, wv_cap, wv_appendMake, wv_clear, wv_toString, wv_toBytes, wv_sameB, wv_mkIface, wv_minmax, g11]
  intro j hj h10
  simp (disch := omega) only [get_cons, if_neg]

theorem Pk_1_gen (T : PlayTbl tbl) (h : HP s p S L wk) (hv : RowV 2 s v (P.map pc)) (hj : j < P.length) (hin : nd P j ∈ L) (g3 : e.get 3 = some (ptr p)) (g4 : e.get 4 = some v) (g11 : e.get 11 = some (ik j)) :
    WCode (fun k => call tbl ov k) Pk_1 e s fun x e' s' => x = .normal ∧ (∀ j, j < 12 → e'.get j = e.get j) ∧ e'.get 12 = some (ik (nd P j).2) ∧ e'.get 13 = some (.bool true) ∧ s' = s := by
  obtain ⟨id, o, cap, c, T', ro, rfl, hg, c1, c2, _, _⟩ := row2 hv hj hj
  have e1 : (0 : Int) ≤ j := by omega
  have e2 : (j : Int) < (P.length : Nat) := by omega
  obtain ⟨i, hi, hni⟩ := mem_nd.1 hin
  simp only [Pk_1, Pj_b, Pb_7, Py_b, code5, params, wc_skip, wc_region, wc_draw, wc_seq, wc_cond, wc_block, wc_exit, wc_ret, next_normal, next_exit, next_ret, inBlock_normal, inBlock_ret, inBlock_exit, sq_apply, nrm_apply, drawnK_apply, boolV_bool, ccond_true, ccond_false, wo_nil, wo_cons, wo_guard, wop, bindP_some, cont_some, cont_none, guardV_bool, guardV_undef, gcont_true, gcont_false, gcont_false', ret_apply, aggK_apply, putK_apply, resK_apply, boolK_apply, ccont_apply, wd_nil, wd_cons, dvals_apply, dcont_some, dcont_none, AOp.vals, rd_tmp, rd_const, rd_func, get_cons, mapList, mapOpt, Option.bind_some, Option.map_some, Nat.reduceEqDiff, if_true, if_false, reduceIte, reduceCtorEq, wv_mov, wv_pick, wv_alloc, wv_box, wv_build, wv_load, wv_loadn, wv_store, wv_nilCheck, wv_bin, wv_eq, wv_un, wv_convInt, wv_convSame, wv_fieldAddr, wv_field, wv_fieldn, wv_extract, wv_lenSlice, wv_lenString, wv_mkMap, wv_call, callee_func, wv_indexAddr, wv_lookup, wv_mapUpdate, wv_mapEntry, wv_entryStore, wv_delete, wv_append, wv_slice, wv_mkSlice, wv_buildSlice, wv_index, wv_copy, wv_lenMap, Abs.cellAt, Abs.rowAt, Abs.storeAt, Heap.get_put, List.getElem?_cons_zero, List.getElem?_cons_succ, Nat.zero_add, Nat.reduceAdd, idx, and_self, Int.toNat_natCast, cellsAt, ne_eq, not_true_eq_false, not_false_eq_true, cellList, Value.cells, List.length_cons, List.length_nil, List.all_cons, List.all_nil, isCell, Bool.and_self, storeL, List.set_cons_zero, List.set_cons_succ, footOf, true_and, and_true, Nat.reduceLeDiff, Nat.le_refl, Nat.reduceMul, Nat.reduceLT, List.nil_append, List.cons_append, List.length_set, ends_normal, ends_ret, endK_apply, resV_tmp, tupleV, eqV, Bool.not_true, Bool.not_false, BEq.rfl, Bool.true_beq, Bool.false_beq, beq_true, beq_false, Nat.sub_self, List.range'_zero, decide_true, decide_false, List.not_mem_nil, false_implies, implies_true, Bool.true_and, Bool.and_true, drawn, pairOk, disj, quietAt, Bool.bne_false, Bool.bne_true, Bool.false_eq_true, applyUpd, Int.reduceEq, Int.reduceNeg, bin_add, bin_sub, bin_mul, bin_lss, bin_leq, bin_gtr, bin_geq, bin_eql, bin_neq, un_not, wv_cap, wv_appendMake, wv_clear, wv_toString, wv_toBytes, wv_sameB, wv_mkIface, wv_minmax, g3, g4, g11, e1, e2, hg, Nat.add_zero, c1]
  refine WCall.mono (key_spec T.h22 h hi (id := (nd P j).1) (by rw [hni])) ?_
  rintro u s1 ⟨rfl, rfl⟩
  rw [hni]
  simp only [params, wc_skip, wc_region, wc_draw, wc_seq, wc_cond, wc_block, wc_exit, wc_ret, next_normal, next_exit, next_ret, inBlock_normal, inBlock_ret, inBlock_exit, sq_apply, nrm_apply, drawnK_apply, boolV_bool, ccond_true, ccond_false, wo_nil, wo_cons, wo_guard, wop, bindP_some, cont_some, cont_none, guardV_bool, guardV_undef, gcont_true, gcont_false, gcont_false', ret_apply, aggK_apply, putK_apply, resK_apply, boolK_apply, ccont_apply, wd_nil, wd_cons, dvals_apply, dcont_some, dcont_none, AOp.vals, rd_tmp, rd_const, rd_func, get_cons, mapList, mapOpt, Option.bind_some, Option.map_some, Nat.reduceEqDiff, if_true, if_false, reduceIte, reduceCtorEq, wv_mov, wv_pick, wv_alloc, wv_box, wv_build, wv_load, wv_loadn, wv_store, wv_nilCheck, wv_bin, wv_eq, wv_un, wv_convInt, wv_convSame, wv_fieldAddr, wv_field, wv_fieldn, wv_extract, wv_lenSlice, wv_lenString, wv_mkMap, wv_call, callee_func, wv_indexAddr, wv_lookup, wv_mapUpdate, wv_mapEntry, wv_entryStore, wv_delete, wv_append, wv_slice, wv_mkSlice, wv_buildSlice, wv_index, wv_copy, wv_lenMap, Abs.cellAt, Abs.rowAt, Abs.storeAt, Heap.get_put, List.getElem?_cons_zero, List.getElem?_cons_succ, Nat.zero_add, Nat.reduceAdd, idx, and_self, Int.toNat_natCast, cellsAt, ne_eq, not_true_eq_false, not_false_eq_true, cellList, Value.cells, List.length_cons, List.length_nil, List.all_cons, List.all_nil, isCell, Bool.and_self, storeL, List.set_cons_zero, List.set_cons_succ, footOf, true_and, and_true, Nat.reduceLeDiff, Nat.le_refl, Nat.reduceMul, Nat.reduceLT, List.nil_append, List.cons_append, List.length_set, ends_normal, ends_ret, endK_apply, resV_tmp, tupleV, eqV, Bool.not_true, Bool.not_false, BEq.rfl, Bool.true_beq, Bool.false_beq, beq_true, beq_false, Nat.sub_self, List.range'_zero, decide_true, decide_false, List.not_mem_nil, false_implies, implies_true, Bool.true_and, Bool.and_true, drawn, pairOk, disj, quietAt, Bool.bne_false, Bool.bne_true, Bool.false_eq_true, applyUpd, Int.reduceEq, Int.reduceNeg, bin_add, bin_sub, bin_mul, bin_lss, bin_leq, bin_gtr, bin_geq, bin_eql, bin_neq, un_not, wv_cap, wv_appendMake, wv_clear, wv_toString, wv_toBytes, wv_sameB, wv_mkIface, wv_minmax]
  intro j hj
  simp (disch := omega) only [get_cons, if_neg]

theorem Pk_2_gen (hv : RowV 2 s v (P.map pc)) (hj : j < P.length) (g4 : e.get 4 = some v) (g11 : e.get 11 = some (ik j)) (g12 : e.get 12 = some (ik (nd P j).2)) (g13 : e.get 13 = some (.bool true)) :
    WCode (fun k => call tbl ov k) Pk_2 e s fun x e' s' => x = .normal ∧ (∀ j, j < 12 → e'.get j = e.get j) ∧ e'.get 177 = some (.bool false) ∧ s' = s := by
  obtain ⟨id, o, cap, c, T', ro, rfl, hg, c1, c2, _, _⟩ := row2 hv hj hj
  have e1 : (0 : Int) ≤ j := by omega
  have e2 : (j : Int) < (P.length : Nat) := by omega
  have d : ((nd P j).2 != (nd P j).2) = false := by simp
  simp only [Pk_2, Pj_b, Pb_7, Py_b, code5, params, wc_skip, wc_region, wc_draw, wc_seq, wc_cond, wc_block, wc_exit, wc_ret, next_normal, next_exit, next_ret, inBlock_normal, inBlock_ret, inBlock_exit, sq_apply, nrm_apply, drawnK_apply, boolV_bool, ccond_true, ccond_false, wo_nil, wo_cons, wo_guard, wop, bindP_some, cont_some, cont_none, guardV_bool, guardV_undef, gcont_true, gcont_false, gcont_false', ret_apply, aggK_apply, putK_apply, resK_apply, boolK_apply, ccont_apply, wd_nil, wd_cons, dvals_apply, dcont_some, dcont_none, AOp.vals, rd_tmp, rd_const, rd_func, get_cons, mapList, mapOpt, Option.bind_some, Option.map_some, Nat.reduceEqDiff, if_true, if_false, reduceIte, reduceCtorEq, wv_mov, wv_pick, wv_alloc, wv_box, wv_build, wv_load, wv_loadn, wv_store, wv_nilCheck, wv_bin, wv_eq, wv_un, wv_convInt, wv_convSame, wv_fieldAddr, wv_field, wv_fieldn, wv_extract, wv_lenSlice, wv_lenString, wv_mkMap, wv_call, callee_func, wv_indexAddr, wv_lookup, wv_mapUpdate, wv_mapEntry, wv_entryStore, wv_delete, wv_append, wv_slice, wv_mkSlice, wv_buildSlice, wv_index, wv_copy, wv_lenMap, Abs.cellAt, Abs.rowAt, Abs.storeAt, Heap.get_put, List.getElem?_cons_zero, List.getElem?_cons_succ, Nat.zero_add, Nat.reduceAdd, idx, and_self, Int.toNat_natCast, cellsAt, ne_eq, not_true_eq_false, not_false_eq_true, cellList, Value.cells, List.length_cons, List.length_nil, List.all_cons, List.all_nil, isCell, Bool.and_self, storeL, List.set_cons_zero, List.set_cons_succ, footOf, true_and, and_true, Nat.reduceLeDiff, Nat.le_refl, Nat.reduceMul, Nat.reduceLT, List.nil_append, List.cons_append, List.length_set, ends_normal, ends_ret, endK_apply, resV_tmp, tupleV, eqV, Bool.not_true, Bool.not_false, BEq.rfl, Bool.true_beq, Bool.false_beq, beq_true, beq_false, Nat.sub_self, List.range'_zero, decide_true, decide_false, List.not_mem_nil, false_implies, implies_true, Bool.true_and, Bool.and_true, drawn, pairOk, disj, quietAt, Bool.bne_false, Bool.bne_true, Bool.false_eq_true, applyUpd, Int.reduceEq, Int.reduceNeg, bin_add, bin_sub, bin_mul, bin_lss, bin_leq, bin_gtr, bin_geq, bin_eql, bin_neq, un_not, wv_cap, wv_appendMake, wv_clear, wv_toString, wv_toBytes, wv_sameB, wv_mkIface, wv_minmax, g4, g11, g12, g13, e1, e2, hg, c2, d]
  intro j hj
  simp (disch := omega) only [get_cons, if_neg]

theorem Pj_h_gen (hv : RowV 2 s v (P.map pc)) (g4 : e.get 4 = some v) (g11 : e.get 11 = some (ik j)) :
    WCode (fun k => call tbl ov k) Pj_h e s fun x e' s' => x = .normal ∧ (∀ j, j < 14 → e'.get j = e.get j) ∧ e'.get 112 = some (.bool (decide (j < P.length))) ∧ s' = s := by
  obtain ⟨a, c, rfl⟩ := hv.len
  have d : decide ((j : Int) < (((P.map pc).length : Nat) : Int)) = decide (j < P.length) := by rw [List.length_map]; simp
  simp only [Pj_h, Pb_7, Py_b, code5, params, wc_skip, wc_region, wc_draw, wc_seq, wc_cond, wc_block, wc_exit, wc_ret, next_normal, next_exit, next_ret, inBlock_normal, inBlock_ret, inBlock_exit, sq_apply, nrm_apply, drawnK_apply, boolV_bool, ccond_true, ccond_false, wo_nil, wo_cons, wo_guard, wop, bindP_some, cont_some, cont_none, guardV_bool, guardV_undef, gcont_true, gcont_false, gcont_false', ret_apply, aggK_apply, putK_apply, resK_apply, boolK_apply, ccont_apply, wd_nil, wd_cons, dvals_apply, dcont_some, dcont_none, AOp.vals, rd_tmp, rd_const, rd_func, get_cons, mapList, mapOpt, Option.bind_some, Option.map_some, Nat.reduceEqDiff, if_true, if_false, reduceIte, reduceCtorEq, wv_mov, wv_pick, wv_alloc, wv_box, wv_build, wv_load, wv_loadn, wv_store, wv_nilCheck, wv_bin, wv_eq, wv_un, wv_convInt, wv_convSame, wv_fieldAddr, wv_field, wv_fieldn, wv_extract, wv_lenSlice, wv_lenString, wv_mkMap, wv_call, callee_func, wv_indexAddr, wv_lookup, wv_mapUpdate, wv_mapEntry, wv_entryStore, wv_delete, wv_append, wv_slice, wv_mkSlice, wv_buildSlice, wv_index, wv_copy, wv_lenMap, Abs.cellAt, Abs.rowAt, Abs.storeAt, Heap.get_put, List.getElem?_cons_zero, List.getElem?_cons_succ, Nat.zero_add, Nat.reduceAdd, idx, and_self, Int.toNat_natCast, cellsAt, ne_eq, not_true_eq_false, not_false_eq_true, cellList, Value.cells, List.length_cons, List.length_nil, List.all_cons, List.all_nil, isCell, Bool.and_self, storeL, List.set_cons_zero, List.set_cons_succ, footOf, true_and, and_true, Nat.reduceLeDiff, Nat.le_refl, Nat.reduceMul, Nat.reduceLT, List.nil_append, List.cons_append, List.length_set, ends_normal, ends_ret, endK_apply, resV_tmp, tupleV, eqV, Bool.not_true, Bool.not_false, BEq.rfl, Bool.true_beq, Bool.false_beq, beq_true, beq_false, Nat.sub_self, List.range'_zero, decide_true, decide_false, List.not_mem_nil, false_implies, implies_true, Bool.true_and, Bool.and_true, drawn, pairOk, disj, quietAt, Bool.bne_false, Bool.bne_true, Bool.false_eq_true, applyUpd, Int.reduceEq, Int.reduceNeg, bin_add, bin_sub, bin_mul, bin_lss, bin_leq, bin_gtr, bin_geq, bin_eql, bin_neq, un_not, wv_cap, wv_appendMake, wv_clear, wv_toString, wv_toBytes, wv_sameB, wv_mkIface, wv_minmax, g4, g11, d]
  intro j hj
  simp (disch := omega) only [get_cons, if_neg]

theorem Pj_n_gen (hj : j < 2 ^ 40) (g11 : e.get 11 = some (ik j)) :
    WCode (fun k => call tbl ov k) Pj_n e s fun x e' s' => x = .normal ∧ (∀ j, j < 11 → e'.get j = e.get j) ∧ e'.get 11 = some (ik (j + 1 : Nat)) ∧ s' = s := by
  have w : IntKind.i64.wrap ((j : Int) + 1) = ((j + 1 : Nat) : Int) := by rw [wrap_in (by omega) (by omega)]; omega
  simp only [Pj_n, Pb_7, Py_b, code5, params, wc_skip, wc_region, wc_draw, wc_seq, wc_cond, wc_block, wc_exit, wc_ret, next_normal, next_exit, next_ret, inBlock_normal, inBlock_ret, inBlock_exit, sq_apply, nrm_apply, drawnK_apply, boolV_bool, ccond_true, ccond_false, wo_nil, wo_cons, wo_guard, wop, bindP_some, cont_some, cont_none, guardV_bool, guardV_undef, gcont_true, gcont_false, gcont_false', ret_apply, aggK_apply, putK_apply, resK_apply, boolK_apply, ccont_apply, wd_nil, wd_cons, dvals_apply, dcont_some, dcont_none, AOp.vals, rd_tmp, rd_const, rd_func, get_cons, mapList, mapOpt, Option.bind_some, Option.map_some, Nat.reduceEqDiff, if_true, if_false, reduceIte, reduceCtorEq, wv_mov, wv_pick, wv_alloc, wv_box, wv_build, wv_load, wv_loadn, wv_store, wv_nilCheck, wv_bin, wv_eq, wv_un, wv_convInt, wv_convSame, wv_fieldAddr, wv_field, wv_fieldn, wv_extract, wv_lenSlice, wv_lenString, wv_mkMap, wv_call, callee_func, wv_indexAddr, wv_lookup, wv_mapUpdate, wv_mapEntry, wv_entryStore, wv_delete, wv_append, wv_slice, wv_mkSlice, wv_buildSlice, wv_index, wv_copy, wv_lenMap, Abs.cellAt, Abs.rowAt, Abs.storeAt, Heap.get_put, List.getElem?_cons_zero, List.getElem?_cons_succ, Nat.zero_add, Nat.reduceAdd, idx, and_self, Int.toNat_natCast, cellsAt, ne_eq, not_true_eq_false, not_false_eq_true, cellList, Value.cells, List.length_cons, List.length_nil, List.all_cons, List.all_nil, isCell, Bool.and_self, storeL, List.set_cons_zero, List.set_cons_succ, footOf, true_and, and_true, Nat.reduceLeDiff, Nat.le_refl, Nat.reduceMul, Nat.reduceLT, List.nil_append, List.cons_append, List.length_set, ends_normal, ends_ret, endK_apply, resV_tmp, tupleV, eqV, Bool.not_true, Bool.not_false, BEq.rfl, Bool.true_beq, Bool.false_beq, beq_true, beq_false, Nat.sub_self, List.range'_zero, decide_true, decide_false, List.not_mem_nil, false_implies, implies_true, Bool.true_and, Bool.and_true, drawn, pairOk, disj, quietAt, Bool.bne_false, Bool.bne_true, Bool.false_eq_true, applyUpd, Int.reduceEq, Int.reduceNeg, bin_add, bin_sub, bin_mul, bin_lss, bin_leq, bin_gtr, bin_geq, bin_eql, bin_neq, un_not, wv_cap, wv_appendMake, wv_clear, wv_toString, wv_toBytes, wv_sameB, wv_mkIface, wv_minmax, g11, w]
  intro j hj
  simp (disch := omega) only [get_cons, if_neg]

theorem Pb_67_gen (T : PlayTbl tbl) (h : HP s p S L wk) (hv : RowV 2 s v (P.map pc)) (hP : P.length < 2 ^ 30) (hin : ∀ n, n ∈ P → n ∈ L) (g0 : e.get 0 = some w0) (g3 : e.get 3 = some (ptr p)) (g4 : e.get 4 = some v) (g5 : e.get 5 = some w5) {cc : ACode} {Q : AExit → Env → St → Prop}
    (hq : ∀ e' b, e'.get 0 = some w0 → e'.get 3 = some (ptr p) → e'.get 4 = some v → e'.get 5 = some w5 → e'.get 10 = some (ik b) → Best P P.length b → WCode (fun k => call tbl ov k) cc e' s Q) :
    WCode (fun k => call tbl ov k) (.seq Pb_6 (.seq Pb_7 cc)) e s Q := by
  have h6 : WCode (fun k => call tbl ov k) Pb_6 e s fun x e' s' => x = .normal ∧ (∀ j, j < 10 → e'.get j = e.get j) ∧ e'.get 10 = some (ik (-1)) ∧ s' = s := by
    simp only [Pb_6, Py_b, code5, params, wc_skip, wc_region, wc_draw, wc_seq, wc_cond, wc_block, wc_exit, wc_ret, next_normal, next_exit, next_ret, inBlock_normal, inBlock_ret, inBlock_exit, sq_apply, nrm_apply, drawnK_apply, boolV_bool, ccond_true, ccond_false, wo_nil, wo_cons, wo_guard, wop, bindP_some, cont_some, cont_none, guardV_bool, guardV_undef, gcont_true, gcont_false, gcont_false', ret_apply, aggK_apply, putK_apply, resK_apply, boolK_apply, ccont_apply, wd_nil, wd_cons, dvals_apply, dcont_some, dcont_none, AOp.vals, rd_tmp, rd_const, rd_func, get_cons, mapList, mapOpt, Option.bind_some, Option.map_some, Nat.reduceEqDiff, if_true, if_false, reduceIte, reduceCtorEq, wv_mov, wv_pick, wv_alloc, wv_box, wv_build, wv_load, wv_loadn, wv_store, wv_nilCheck, wv_bin, wv_eq, wv_un, wv_convInt, wv_convSame, wv_fieldAddr, wv_field, wv_fieldn, wv_extract, wv_lenSlice, wv_lenString, wv_mkMap, wv_call, callee_func, wv_indexAddr, wv_lookup, wv_mapUpdate, wv_mapEntry, wv_entryStore, wv_delete, wv_append, wv_slice, wv_mkSlice, wv_buildSlice, wv_index, wv_copy, wv_lenMap, Abs.cellAt, Abs.rowAt, Abs.storeAt, Heap.get_put, List.getElem?_cons_zero, List.getElem?_cons_succ, Nat.zero_add, Nat.reduceAdd, idx, and_self, Int.toNat_natCast, cellsAt, ne_eq, not_true_eq_false, not_false_eq_true, cellList, Value.cells, List.length_cons, List.length_nil, List.all_cons, List.all_nil, isCell, Bool.and_self, storeL, List.set_cons_zero, List.set_cons_succ, footOf, true_and, and_true, Nat.reduceLeDiff, Nat.le_refl, Nat.reduceMul, Nat.reduceLT, List.nil_append, List.cons_append, List.length_set, ends_normal, ends_ret, endK_apply, resV_tmp, tupleV, eqV, Bool.not_true, Bool.not_false, BEq.rfl, Bool.true_beq, Bool.false_beq, beq_true, beq_false, Nat.sub_self, List.range'_zero, decide_true, decide_false, List.not_mem_nil, false_implies, implies_true, Bool.true_and, Bool.and_true, drawn, pairOk, disj, quietAt, Bool.bne_false, Bool.bne_true, Bool.false_eq_true, applyUpd, Int.reduceEq, Int.reduceNeg, bin_add, bin_sub, bin_mul, bin_lss, bin_leq, bin_gtr, bin_geq, bin_eql, bin_neq, un_not, wv_cap, wv_appendMake, wv_clear, wv_toString, wv_toBytes, wv_sameB, wv_mkIface, wv_minmax]
    intro j hj
    simp (disch := omega) only [get_cons, if_neg]
  refine wc_then h6 ?_
  rintro e1 s1 ⟨k1, a10, rfl⟩
  refine wc_then (R := fun e' s' => ∃ b, e'.get 0 = some w0 ∧ e'.get 3 = some (ptr p) ∧ e'.get 4 = some v ∧ e'.get 5 = some w5 ∧ e'.get 10 = some (ik b) ∧ Best P P.length b ∧ s' = s1) ?_ ?_
  · rw [Pb_7_eq]
    have hi0 : WCode (fun k => call tbl ov k) Pj_i e1 s1 fun x e' s' => x = .normal ∧ (∀ j, j < 11 → e'.get j = e1.get j) ∧ e'.get 11 = some (ik 0) ∧ s' = s1 := by
      simp only [Pj_i, Pb_7, Py_b, code5, params, wc_skip, wc_region, wc_draw, wc_seq, wc_cond, wc_block, wc_exit, wc_ret, next_normal, next_exit, next_ret, inBlock_normal, inBlock_ret, inBlock_exit, sq_apply, nrm_apply, drawnK_apply, boolV_bool, ccond_true, ccond_false, wo_nil, wo_cons, wo_guard, wop, bindP_some, cont_some, cont_none, guardV_bool, guardV_undef, gcont_true, gcont_false, gcont_false', ret_apply, aggK_apply, putK_apply, resK_apply, boolK_apply, ccont_apply, wd_nil, wd_cons, dvals_apply, dcont_some, dcont_none, AOp.vals, rd_tmp, rd_const, rd_func, get_cons, mapList, mapOpt, Option.bind_some, Option.map_some, Nat.reduceEqDiff, if_true, if_false, reduceIte, reduceCtorEq, wv_mov, wv_pick, wv_alloc, wv_box, wv_build, wv_load, wv_loadn, wv_store, wv_nilCheck, wv_bin, wv_eq, wv_un, wv_convInt, wv_convSame, wv_fieldAddr, wv_field, wv_fieldn, wv_extract, wv_lenSlice, wv_lenString, wv_mkMap, wv_call, callee_func, wv_indexAddr, wv_lookup, wv_mapUpdate, wv_mapEntry, wv_entryStore, wv_delete, wv_append, wv_slice, wv_mkSlice, wv_buildSlice, wv_index, wv_copy, wv_lenMap, Abs.cellAt, Abs.rowAt, Abs.storeAt, Heap.get_put, List.getElem?_cons_zero, List.getElem?_cons_succ, Nat.zero_add, Nat.reduceAdd, idx, and_self, Int.toNat_natCast, cellsAt, ne_eq, not_true_eq_false, not_false_eq_true, cellList, Value.cells, List.length_cons, List.length_nil, List.all_cons, List.all_nil, isCell, Bool.and_self, storeL, List.set_cons_zero, List.set_cons_succ, footOf, true_and, and_true, Nat.reduceLeDiff, Nat.le_refl, Nat.reduceMul, Nat.reduceLT, List.nil_append, List.cons_append, List.length_set, ends_normal, ends_ret, endK_apply, resV_tmp, tupleV, eqV, Bool.not_true, Bool.not_false, BEq.rfl, Bool.true_beq, Bool.false_beq, beq_true, beq_false, Nat.sub_self, List.range'_zero, decide_true, decide_false, List.not_mem_nil, false_implies, implies_true, Bool.true_and, Bool.and_true, drawn, pairOk, disj, quietAt, Bool.bne_false, Bool.bne_true, Bool.false_eq_true, applyUpd, Int.reduceEq, Int.reduceNeg, bin_add, bin_sub, bin_mul, bin_lss, bin_leq, bin_gtr, bin_geq, bin_eql, bin_neq, un_not, wv_cap, wv_appendMake, wv_clear, wv_toString, wv_toBytes, wv_sameB, wv_mkIface, wv_minmax]
      intro j hj
      simp (disch := omega) only [get_cons, if_neg]
    refine wc_then hi0 ?_
    rintro e2 s2 ⟨k2, b11, rfl⟩
    refine wc_for (fun mm e' s' => ∃ (j : Nat) (b : Int), mm = P.length - j ∧ j ≤ P.length ∧ e'.get 0 = some w0 ∧ e'.get 3 = some (ptr p) ∧ e'.get 4 = some v ∧ e'.get 5 = some w5 ∧ e'.get 10 = some (ik b) ∧ e'.get 11 = some (ik (j : Nat)) ∧ Best P j b ∧ s' = s2) P.length ?_ ?_
    · exact ⟨0, -1, rfl, by omega, (k2 0 (by omega)).trans ((k1 0 (by omega)).trans g0), (k2 3 (by omega)).trans ((k1 3 (by omega)).trans g3), (k2 4 (by omega)).trans ((k1 4 (by omega)).trans g4), (k2 5 (by omega)).trans ((k1 5 (by omega)).trans g5), (k2 10 (by omega)).trans a10, b11, .inl ⟨rfl, rfl⟩, rfl⟩
    · rintro mm e3 s3 E ⟨j, b, rfl, hj, c0, c3, c4, c5, c10, c11, hb, rfl⟩ hE
      have d0 := (hE 0 (by simp)).trans c0
      have d3 := (hE 3 (by simp)).trans c3
      have d4 := (hE 4 (by simp)).trans c4
      have d5 := (hE 5 (by simp)).trans c5
      have d10 := (hE 10 (by simp)).trans c10
      have d11 := (hE 11 (by simp)).trans c11
      refine WCode.mono ?_ (Pj_h_gen hv d4 d11)
      rintro z e4 s4 ⟨rfl, k4, a112, rfl⟩
      have f0 := (k4 0 (by omega)).trans d0
      have f3 := (k4 3 (by omega)).trans d3
      have f4 := (k4 4 (by omega)).trans d4
      have f5 := (k4 5 (by omega)).trans d5
      have f10 := (k4 10 (by omega)).trans d10
      have f11 := (k4 11 (by omega)).trans d11
      refine ⟨rfl, _, a112, fun hbb => ?_, fun hbb => ?_⟩
      · simp only [decide_eq_false_iff_not] at hbb
        have : j = P.length := by omega
        subst this
        exact ⟨rfl, b, f0, f3, f4, f5, f10, hb, rfl⟩
      · simp only [decide_eq_true_eq] at hbb
        rw [Pj_b_eq, wc_seq]
        refine wc_if ?_
        refine WCode.mono ?_ (Pk_0_gen hv hbb hb f4 f10 f11)
        rintro z e5 s5 ⟨rfl, k5, ⟨t, a155, ht1, ht0⟩, rfl⟩
        have x0 := (k5 0 (by omega)).trans f0
        have x3 := (k5 3 (by omega)).trans f3
        have x4 := (k5 4 (by omega)).trans f4
        have x5 := (k5 5 (by omega)).trans f5
        have x10 := (k5 10 (by omega)).trans f10
        have x11 := (k5 11 (by omega)).trans f11
        have hrest : ∀ (e6 : Env) (b' : Int), e6.get 0 = some w0 → e6.get 3 = some (ptr p) → e6.get 4 = some v → e6.get 5 = some w5 → e6.get 10 = some (ik b') → e6.get 11 = some (ik (j : Nat)) → Best P (j + 1) b' →
            WCode (fun k => call tbl ov k) (.seq Pk_1 (.seq Pk_2 (.cond (.tmp 177) Pk_2t .skip))) e6 s5 (bodyK 2 3 (fun x e' s' => x = .normal ∧ ∃ b, e'.get 0 = some w0 ∧ e'.get 3 = some (ptr p) ∧ e'.get 4 = some v ∧ e'.get 5 = some w5 ∧ e'.get 10 = some (ik b) ∧ Best P P.length b ∧ s' = s5)
              fun e2 s2 => WCode (fun k => call tbl ov k) Pj_n e2 s2 fun z e3 s3 => z = .normal ∧ ∃ k', k' < P.length - j ∧ ∃ (j : Nat) (b : Int), k' = P.length - j ∧ j ≤ P.length ∧ e3.get 0 = some w0 ∧ e3.get 3 = some (ptr p) ∧ e3.get 4 = some v ∧ e3.get 5 = some w5 ∧ e3.get 10 = some (ik b) ∧ e3.get 11 = some (ik (j : Nat)) ∧ Best P j b ∧ s3 = s5) := by
          intro e6 b' y0 y3 y4 y5 y10 y11 hb'
          refine wc_then (Pk_1_gen T h hv hbb (hin _ (mem_nd_lt hbb)) y3 y4 y11) ?_
          rintro e7 s7 ⟨k7, a12, a13, rfl⟩
          refine wc_if ?_
          refine WCode.mono ?_ (Pk_2_gen hv hbb ((k7 4 (by omega)).trans y4) ((k7 11 (by omega)).trans y11) a12 a13)
          rintro z e8 s8 ⟨rfl, k8, a177, rfl⟩
          refine ⟨rfl, _, a177, fun h => (by cases h), fun _ => ?_⟩
          rw [wc_skip]
          refine .inl ⟨.inl rfl, ?_⟩
          refine WCode.mono ?_ (Pj_n_gen (j := j) (by omega) ((k8 11 (by omega)).trans ((k7 11 (by omega)).trans y11)))
          rintro z e9 s9 ⟨rfl, k9, i11, rfl⟩
          exact ⟨rfl, P.length - (j + 1), by omega, j + 1, b', rfl, by omega, (k9 0 (by omega)).trans ((k8 0 (by omega)).trans ((k7 0 (by omega)).trans y0)), (k9 3 (by omega)).trans ((k8 3 (by omega)).trans ((k7 3 (by omega)).trans y3)), (k9 4 (by omega)).trans ((k8 4 (by omega)).trans ((k7 4 (by omega)).trans y4)), (k9 5 (by omega)).trans ((k8 5 (by omega)).trans ((k7 5 (by omega)).trans y5)), (k9 10 (by omega)).trans ((k8 10 (by omega)).trans ((k7 10 (by omega)).trans y10)), i11, hb', rfl⟩
        refine ⟨rfl, t, a155, fun ht => ?_, fun ht => ?_⟩
        · refine WCode.mono ?_ (Pk_0t_gen x11)
          rintro z e6 s6 ⟨rfl, k6, y10, rfl⟩
          rw [next_normal, sq_apply]
          exact hrest e6 j ((k6 0 (by omega) (by omega)).trans x0) ((k6 3 (by omega) (by omega)).trans x3) ((k6 4 (by omega) (by omega)).trans x4) ((k6 5 (by omega) (by omega)).trans x5) y10 ((k6 11 (by omega) (by omega)).trans x11) (ht1 ht)
        · rw [wc_skip, next_normal, sq_apply]
          exact hrest e5 b x0 x3 x4 x5 x10 x11 (ht0 ht)
  · rintro e2 s2 ⟨b, b0, b3, b4, b5, b10, hb, rfl⟩
    exact hq e2 b b0 b3 b4 b5 b10 hb

end
end Go.Proofs.Ytaigiehdnhehnaa
