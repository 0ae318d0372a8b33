/-
  HeapPlays: what is asked at the end of an act; the act as a whole.
-/
import Derived.Test.YtaigiehdnhehnaaR1Plays3
import Derived.Test.YtaigiehdnhehnaaA36
set_option maxRecDepth 100000
set_option linter.unusedVariables false
set_option linter.unusedSimpArgs false
namespace Go.Proofs.Ytaigiehdnhehnaa
open Go Go.Abs

def Pt : ACode := .seq Pb_8 (.seq Pb_9 (.seq Pb_x (.cond (.tmp 216) Pb_xt .skip)))

theorem ord_least {L : List Node} (h : Ord L) : ∀ c, c < L.length → le (nd L 0) (nd L c) := by
  intro c
  induction c using Nat.strongRecOn with
  | _ c ih =>
    intro hc
    by_cases h0 : c = 0
    · subst h0; exact le_refl _
    · exact le_trans (ih ((c - 1) / 2) (by omega) (by omega)) (h c (by omega) hc)

section
variable {tbl : FuncId → Option AFun} {ov : CallSem} {s s0 : St} {e : Env} {v v0 : Value} {P L : List Node} {S S4 : List Nat} {A : List (List Value)} {i n p : Nat} {w id key wk b : Int}

theorem Pb_8_gen (T : PlayTbl tbl) (h : HP s p S L wk) (g3 : e.get 3 = some (ptr p)) :
    WCode (fun k => call tbl ov k) Pb_8 e s fun x e' s' => x = .normal ∧ (∀ j, j < 12 → j ≠ 8 → e'.get j = e.get j) ∧ e'.get 8 = some (ik wk) ∧ s' = s := by
  simp only [Pb_8, Py_b, code5, params, wc_skip, wc_region, wc_draw, wc_seq, wc_cond, wc_block, wc_exit, wc_ret, next_normal, next_exit, next_ret, inBlock_normal, inBlock_ret, inBlock_exit, sq_apply, nrm_apply, drawnK_apply, boolV_bool, ccond_true, ccond_false, wo_nil, wo_cons, wo_guard, wop, bindP_some, cont_some, cont_none, guardV_bool, guardV_undef, gcont_true, gcont_false, gcont_false', ret_apply, aggK_apply, putK_apply, resK_apply, boolK_apply, ccont_apply, wd_nil, wd_cons, dvals_apply, dcont_some, dcont_none, AOp.vals, rd_tmp, rd_const, rd_func, get_cons, mapList, mapOpt, Option.bind_some, Option.map_some, Nat.reduceEqDiff, if_true, if_false, reduceIte, reduceCtorEq, wv_mov, wv_pick, wv_alloc, wv_box, wv_build, wv_load, wv_loadn, wv_store, wv_nilCheck, wv_bin, wv_eq, wv_un, wv_convInt, wv_convSame, wv_fieldAddr, wv_field, wv_fieldn, wv_extract, wv_lenSlice, wv_lenString, wv_mkMap, wv_call, callee_func, wv_indexAddr, wv_lookup, wv_mapUpdate, wv_mapEntry, wv_entryStore, wv_delete, wv_append, wv_slice, wv_mkSlice, wv_buildSlice, wv_index, wv_copy, wv_lenMap, Abs.cellAt, Abs.rowAt, Abs.storeAt, Heap.get_put, List.getElem?_cons_zero, List.getElem?_cons_succ, Nat.zero_add, Nat.reduceAdd, idx, and_self, Int.toNat_natCast, cellsAt, ne_eq, not_true_eq_false, not_false_eq_true, cellList, Value.cells, List.length_cons, List.length_nil, List.all_cons, List.all_nil, isCell, Bool.and_self, storeL, List.set_cons_zero, List.set_cons_succ, footOf, true_and, and_true, Nat.reduceLeDiff, Nat.le_refl, Nat.reduceMul, Nat.reduceLT, List.nil_append, List.cons_append, List.length_set, ends_normal, ends_ret, endK_apply, resV_tmp, tupleV, eqV, Bool.not_true, Bool.not_false, BEq.rfl, Bool.true_beq, Bool.false_beq, beq_true, beq_false, Nat.sub_self, List.range'_zero, decide_true, decide_false, List.not_mem_nil, false_implies, implies_true, Bool.true_and, Bool.and_true, drawn, pairOk, disj, quietAt, Bool.bne_false, Bool.bne_true, Bool.false_eq_true, applyUpd, Int.reduceEq, Int.reduceNeg, bin_add, bin_sub, bin_mul, bin_lss, bin_leq, bin_gtr, bin_geq, bin_eql, bin_neq, un_not, wv_cap, wv_appendMake, wv_clear, wv_toString, wv_toBytes, wv_sameB, wv_mkIface, wv_minmax, g3]
  refine WCall.mono (work_spec T.h20 h) ?_
  rintro u s1 ⟨rfl, rfl⟩
  simp only [params, wc_skip, wc_region, wc_draw, wc_seq, wc_cond, wc_block, wc_exit, wc_ret, next_normal, next_exit, next_ret, inBlock_normal, inBlock_ret, inBlock_exit, sq_apply, nrm_apply, drawnK_apply, boolV_bool, ccond_true, ccond_false, wo_nil, wo_cons, wo_guard, wop, bindP_some, cont_some, cont_none, guardV_bool, guardV_undef, gcont_true, gcont_false, gcont_false', ret_apply, aggK_apply, putK_apply, resK_apply, boolK_apply, ccont_apply, wd_nil, wd_cons, dvals_apply, dcont_some, dcont_none, AOp.vals, rd_tmp, rd_const, rd_func, get_cons, mapList, mapOpt, Option.bind_some, Option.map_some, Nat.reduceEqDiff, if_true, if_false, reduceIte, reduceCtorEq, wv_mov, wv_pick, wv_alloc, wv_box, wv_build, wv_load, wv_loadn, wv_store, wv_nilCheck, wv_bin, wv_eq, wv_un, wv_convInt, wv_convSame, wv_fieldAddr, wv_field, wv_fieldn, wv_extract, wv_lenSlice, wv_lenString, wv_mkMap, wv_call, callee_func, wv_indexAddr, wv_lookup, wv_mapUpdate, wv_mapEntry, wv_entryStore, wv_delete, wv_append, wv_slice, wv_mkSlice, wv_buildSlice, wv_index, wv_copy, wv_lenMap, Abs.cellAt, Abs.rowAt, Abs.storeAt, Heap.get_put, List.getElem?_cons_zero, List.getElem?_cons_succ, Nat.zero_add, Nat.reduceAdd, idx, and_self, Int.toNat_natCast, cellsAt, ne_eq, not_true_eq_false, not_false_eq_true, cellList, Value.cells, List.length_cons, List.length_nil, List.all_cons, List.all_nil, isCell, Bool.and_self, storeL, List.set_cons_zero, List.set_cons_succ, footOf, true_and, and_true, Nat.reduceLeDiff, Nat.le_refl, Nat.reduceMul, Nat.reduceLT, List.nil_append, List.cons_append, List.length_set, ends_normal, ends_ret, endK_apply, resV_tmp, tupleV, eqV, Bool.not_true, Bool.not_false, BEq.rfl, Bool.true_beq, Bool.false_beq, beq_true, beq_false, Nat.sub_self, List.range'_zero, decide_true, decide_false, List.not_mem_nil, false_implies, implies_true, Bool.true_and, Bool.and_true, drawn, pairOk, disj, quietAt, Bool.bne_false, Bool.bne_true, Bool.false_eq_true, applyUpd, Int.reduceEq, Int.reduceNeg, bin_add, bin_sub, bin_mul, bin_lss, bin_leq, bin_gtr, bin_geq, bin_eql, bin_neq, un_not, wv_cap, wv_appendMake, wv_clear, wv_toString, wv_toBytes, wv_sameB, wv_mkIface, wv_minmax]
  intro j hj h8
  simp (disch := omega) only [get_cons, if_neg]

theorem Pb_9_gen (T : PlayTbl tbl) (h : HP s p S L wk) {id key : Int} {t : Bool} (hm : minV L = .tuple #[ik id, ik key, .bool t]) (g3 : e.get 3 = some (ptr p)) :
    WCode (fun k => call tbl ov k) Pb_9 e s fun x e' s' => x = .normal ∧ (∀ j, j < 12 → e'.get j = e.get j) ∧ e'.get 14 = some (ik id) ∧ e'.get 15 = some (ik key) ∧ e'.get 16 = some (.bool t) ∧ s' = s := by
  simp only [Pb_9, Py_b, code5, params, wc_skip, wc_region, wc_draw, wc_seq, wc_cond, wc_block, wc_exit, wc_ret, next_normal, next_exit, next_ret, inBlock_normal, inBlock_ret, inBlock_exit, sq_apply, nrm_apply, drawnK_apply, boolV_bool, ccond_true, ccond_false, wo_nil, wo_cons, wo_guard, wop, bindP_some, cont_some, cont_none, guardV_bool, guardV_undef, gcont_true, gcont_false, gcont_false', ret_apply, aggK_apply, putK_apply, resK_apply, boolK_apply, ccont_apply, wd_nil, wd_cons, dvals_apply, dcont_some, dcont_none, AOp.vals, rd_tmp, rd_const, rd_func, get_cons, mapList, mapOpt, Option.bind_some, Option.map_some, Nat.reduceEqDiff, if_true, if_false, reduceIte, reduceCtorEq, wv_mov, wv_pick, wv_alloc, wv_box, wv_build, wv_load, wv_loadn, wv_store, wv_nilCheck, wv_bin, wv_eq, wv_un, wv_convInt, wv_convSame, wv_fieldAddr, wv_field, wv_fieldn, wv_extract, wv_lenSlice, wv_lenString, wv_mkMap, wv_call, callee_func, wv_indexAddr, wv_lookup, wv_mapUpdate, wv_mapEntry, wv_entryStore, wv_delete, wv_append, wv_slice, wv_mkSlice, wv_buildSlice, wv_index, wv_copy, wv_lenMap, Abs.cellAt, Abs.rowAt, Abs.storeAt, Heap.get_put, List.getElem?_cons_zero, List.getElem?_cons_succ, Nat.zero_add, Nat.reduceAdd, idx, and_self, Int.toNat_natCast, cellsAt, ne_eq, not_true_eq_false, not_false_eq_true, cellList, Value.cells, List.length_cons, List.length_nil, List.all_cons, List.all_nil, isCell, Bool.and_self, storeL, List.set_cons_zero, List.set_cons_succ, footOf, true_and, and_true, Nat.reduceLeDiff, Nat.le_refl, Nat.reduceMul, Nat.reduceLT, List.nil_append, List.cons_append, List.length_set, ends_normal, ends_ret, endK_apply, resV_tmp, tupleV, eqV, Bool.not_true, Bool.not_false, BEq.rfl, Bool.true_beq, Bool.false_beq, beq_true, beq_false, Nat.sub_self, List.range'_zero, decide_true, decide_false, List.not_mem_nil, false_implies, implies_true, Bool.true_and, Bool.and_true, drawn, pairOk, disj, quietAt, Bool.bne_false, Bool.bne_true, Bool.false_eq_true, applyUpd, Int.reduceEq, Int.reduceNeg, bin_add, bin_sub, bin_mul, bin_lss, bin_leq, bin_gtr, bin_geq, bin_eql, bin_neq, un_not, wv_cap, wv_appendMake, wv_clear, wv_toString, wv_toBytes, wv_sameB, wv_mkIface, wv_minmax, g3]
  refine WCall.mono (min_spec T.h15 h) ?_
  rintro u s1 ⟨rfl, rfl⟩
  rw [hm]
  simp only [params, wc_skip, wc_region, wc_draw, wc_seq, wc_cond, wc_block, wc_exit, wc_ret, next_normal, next_exit, next_ret, inBlock_normal, inBlock_ret, inBlock_exit, sq_apply, nrm_apply, drawnK_apply, boolV_bool, ccond_true, ccond_false, wo_nil, wo_cons, wo_guard, wop, bindP_some, cont_some, cont_none, guardV_bool, guardV_undef, gcont_true, gcont_false, gcont_false', ret_apply, aggK_apply, putK_apply, resK_apply, boolK_apply, ccont_apply, wd_nil, wd_cons, dvals_apply, dcont_some, dcont_none, AOp.vals, rd_tmp, rd_const, rd_func, get_cons, mapList, mapOpt, Option.bind_some, Option.map_some, Nat.reduceEqDiff, if_true, if_false, reduceIte, reduceCtorEq, wv_mov, wv_pick, wv_alloc, wv_box, wv_build, wv_load, wv_loadn, wv_store, wv_nilCheck, wv_bin, wv_eq, wv_un, wv_convInt, wv_convSame, wv_fieldAddr, wv_field, wv_fieldn, wv_extract, wv_lenSlice, wv_lenString, wv_mkMap, wv_call, callee_func, wv_indexAddr, wv_lookup, wv_mapUpdate, wv_mapEntry, wv_entryStore, wv_delete, wv_append, wv_slice, wv_mkSlice, wv_buildSlice, wv_index, wv_copy, wv_lenMap, Abs.cellAt, Abs.rowAt, Abs.storeAt, Heap.get_put, List.getElem?_cons_zero, List.getElem?_cons_succ, Nat.zero_add, Nat.reduceAdd, idx, and_self, Int.toNat_natCast, cellsAt, ne_eq, not_true_eq_false, not_false_eq_true, cellList, Value.cells, List.length_cons, List.length_nil, List.all_cons, List.all_nil, isCell, Bool.and_self, storeL, List.set_cons_zero, List.set_cons_succ, footOf, true_and, and_true, Nat.reduceLeDiff, Nat.le_refl, Nat.reduceMul, Nat.reduceLT, List.nil_append, List.cons_append, List.length_set, ends_normal, ends_ret, endK_apply, resV_tmp, tupleV, eqV, Bool.not_true, Bool.not_false, BEq.rfl, Bool.true_beq, Bool.false_beq, beq_true, beq_false, Nat.sub_self, List.range'_zero, decide_true, decide_false, List.not_mem_nil, false_implies, implies_true, Bool.true_and, Bool.and_true, drawn, pairOk, disj, quietAt, Bool.bne_false, Bool.bne_true, Bool.false_eq_true, applyUpd, Int.reduceEq, Int.reduceNeg, bin_add, bin_sub, bin_mul, bin_lss, bin_leq, bin_gtr, bin_geq, bin_eql, bin_neq, un_not, wv_cap, wv_appendMake, wv_clear, wv_toString, wv_toBytes, wv_sameB, wv_mkIface, wv_minmax]
  intro j hj
  simp (disch := omega) only [get_cons, if_neg]

theorem Px_none (T : PlayTbl tbl) (h : HP s p S L wk) (g3 : e.get 3 = some (ptr p)) (g8 : e.get 8 = some (ik wk)) (g10 : e.get 10 = some (ik (-1))) (g16 : e.get 16 = some (.bool false)) :
    WCode (fun k => call tbl ov k) Pb_x e s fun x e' s' => x = .normal ∧ (∀ j, j < 12 → e'.get j = e.get j) ∧ e'.get 216 = some (.bool false) ∧ s' = s := by
  have d : decide ((-1 : Int) ≥ 0) = false := rfl
  have dw : (wk != wk) = false := by simp
  simp -implicitDefEqProofs only [Pb_x, Py_b, code5, go_sem, reduceIte, Nat.reduceEqDiff, Nat.reduceAdd, Nat.reduceMul, Nat.reduceLT, Nat.reduceLeDiff, reduceCtorEq, Int.reduceEq, Int.reduceNeg, Nat.reduceSub, g3, g8, g10, g16, d]
  refine WCall.mono (work_spec T.h20 h) ?_
  rintro u s1 ⟨rfl, rfl⟩
  simp -implicitDefEqProofs only [go_sem, reduceIte, Nat.reduceEqDiff, Nat.reduceAdd, Nat.reduceMul, Nat.reduceLT, Nat.reduceLeDiff, reduceCtorEq, Int.reduceEq, Int.reduceNeg, Nat.reduceSub, dw, g8]
  intro j hj
  simp (disch := omega) only [get_cons, if_neg]

theorem Px_some {m : Nat} {id key : Int} (T : PlayTbl tbl) (h : HP s p S L wk) (hv : RowV 2 s v (P.map pc)) (hm : m < P.length) (hid : (nd P m).1 = id) (hk : (nd P m).2 = key) (g3 : e.get 3 = some (ptr p)) (g4 : e.get 4 = some v) (g8 : e.get 8 = some (ik wk)) (g10 : e.get 10 = some (ik m)) (g14 : e.get 14 = some (ik id)) (g15 : e.get 15 = some (ik key)) (g16 : e.get 16 = some (.bool true)) :
    WCode (fun k => call tbl ov k) Pb_x e s fun x e' s' => x = .normal ∧ (∀ j, j < 12 → e'.get j = e.get j) ∧ e'.get 216 = some (.bool false) ∧ s' = s := by
  obtain ⟨id0, o, cap, c, T', ro, rfl, hg, c1, c2, _, _⟩ := row2 hv hm hm
  rw [hid] at c1
  rw [hk] at c2
  have e1 : (0 : Int) ≤ m := by omega
  have e2 : (m : Int) < (P.length : Nat) := by omega
  have d : decide ((m : Int) ≥ 0) = true := decide_eq_true (by omega)
  have dw : (wk != wk) = false := by simp
  have di : (id != id) = false := by simp
  have dk : (key != key) = false := by simp
  simp -implicitDefEqProofs only [Pb_x, Py_b, code5, go_sem, reduceIte, Nat.reduceEqDiff, Nat.reduceAdd, Nat.reduceMul, Nat.reduceLT, Nat.reduceLeDiff, reduceCtorEq, Int.reduceEq, Int.reduceNeg, Nat.reduceSub, g3, g4, g8, g10, g14, g15, g16, d, e1, e2, hg, Nat.add_zero, c1, c2, di, dk]
  refine WCall.mono (work_spec T.h20 h) ?_
  rintro u s1 ⟨rfl, rfl⟩
  simp -implicitDefEqProofs only [go_sem, reduceIte, Nat.reduceEqDiff, Nat.reduceAdd, Nat.reduceMul, Nat.reduceLT, Nat.reduceLeDiff, reduceCtorEq, Int.reduceEq, Int.reduceNeg, Nat.reduceSub, dw, g8]
  intro j hj
  simp (disch := omega) only [get_cons, if_neg]

theorem Pt_gen (T : PlayTbl tbl) (h : HP s p S L wk) (ho : Ord L) (hv : RowV 2 s v (P.map pc)) (hLP : L.length = P.length) (hmem : ∀ n, n ∈ P ↔ n ∈ L) (hb : Best P P.length b) (g3 : e.get 3 = some (ptr p)) (g4 : e.get 4 = some v) (g10 : e.get 10 = some (ik b)) :
    WCode (fun k => call tbl ov k) Pt e s fun x e' s' => x = .normal ∧ (∀ j, j < 8 → e'.get j = e.get j) ∧ s' = s := by
  unfold Pt
  refine wc_then (Pb_8_gen T h g3) ?_
  rintro e1 s1 ⟨k1, a8, rfl⟩
  have a3 := (k1 3 (by omega) (by omega)).trans g3
  have a4 := (k1 4 (by omega) (by omega)).trans g4
  have a10 := (k1 10 (by omega) (by omega)).trans g10
  have hfin : ∀ (e' : Env), e'.get 216 = some (.bool false) → (∀ j, j < 8 → e'.get j = e1.get j) → WCode (fun k => call tbl ov k) (.cond (.tmp 216) Pb_xt .skip) e' s1 fun x e' s' => x = .normal ∧ (∀ j, j < 8 → e'.get j = e.get j) ∧ s' = s1 := by
    intro e' h216 hk
    simp only [params, wc_skip, wc_region, wc_draw, wc_seq, wc_cond, wc_block, wc_exit, wc_ret, next_normal, next_exit, next_ret, inBlock_normal, inBlock_ret, inBlock_exit, sq_apply, nrm_apply, drawnK_apply, boolV_bool, ccond_true, ccond_false, wo_nil, wo_cons, wo_guard, wop, bindP_some, cont_some, cont_none, guardV_bool, guardV_undef, gcont_true, gcont_false, gcont_false', ret_apply, aggK_apply, putK_apply, resK_apply, boolK_apply, ccont_apply, wd_nil, wd_cons, dvals_apply, dcont_some, dcont_none, AOp.vals, rd_tmp, rd_const, rd_func, get_cons, mapList, mapOpt, Option.bind_some, Option.map_some, Nat.reduceEqDiff, if_true, if_false, reduceIte, reduceCtorEq, wv_mov, wv_pick, wv_alloc, wv_box, wv_build, wv_load, wv_loadn, wv_store, wv_nilCheck, wv_bin, wv_eq, wv_un, wv_convInt, wv_convSame, wv_fieldAddr, wv_field, wv_fieldn, wv_extract, wv_lenSlice, wv_lenString, wv_mkMap, wv_call, callee_func, wv_indexAddr, wv_lookup, wv_mapUpdate, wv_mapEntry, wv_entryStore, wv_delete, wv_append, wv_slice, wv_mkSlice, wv_buildSlice, wv_index, wv_copy, wv_lenMap, Abs.cellAt, Abs.rowAt, Abs.storeAt, Heap.get_put, List.getElem?_cons_zero, List.getElem?_cons_succ, Nat.zero_add, Nat.reduceAdd, idx, and_self, Int.toNat_natCast, cellsAt, ne_eq, not_true_eq_false, not_false_eq_true, cellList, Value.cells, List.length_cons, List.length_nil, List.all_cons, List.all_nil, isCell, Bool.and_self, storeL, List.set_cons_zero, List.set_cons_succ, footOf, true_and, and_true, Nat.reduceLeDiff, Nat.le_refl, Nat.reduceMul, Nat.reduceLT, List.nil_append, List.cons_append, List.length_set, ends_normal, ends_ret, endK_apply, resV_tmp, tupleV, eqV, Bool.not_true, Bool.not_false, BEq.rfl, Bool.true_beq, Bool.false_beq, beq_true, beq_false, Nat.sub_self, List.range'_zero, decide_true, decide_false, List.not_mem_nil, false_implies, implies_true, Bool.true_and, Bool.and_true, drawn, pairOk, disj, quietAt, Bool.bne_false, Bool.bne_true, Bool.false_eq_true, applyUpd, Int.reduceEq, Int.reduceNeg, bin_add, bin_sub, bin_mul, bin_lss, bin_leq, bin_gtr, bin_geq, bin_eql, bin_neq, un_not, wv_cap, wv_appendMake, wv_clear, wv_toString, wv_toBytes, wv_sameB, wv_mkIface, wv_minmax, h216]
    exact fun j hj => (hk j hj).trans (k1 j (by omega) (by omega))
  rcases hb with ⟨rfl, hl⟩ | ⟨m, rfl, hm, hmin⟩
  · have hL : L.length = 0 := by omega
    have hmv : minV L = .tuple #[ik 0, ik 0, .bool false] := by unfold minV; rw [if_pos hL]
    refine wc_then (Pb_9_gen T h hmv a3) ?_
    rintro e2 s2 ⟨k2, b14, b15, b16, rfl⟩
    refine wc_then (Px_none T h ((k2 3 (by omega)).trans a3) ((k2 8 (by omega)).trans a8) ((k2 10 (by omega)).trans a10) b16) ?_
    rintro e3 s3 ⟨k3, c216, rfl⟩
    exact hfin e3 c216 fun j hj => (k3 j (by omega)).trans (k2 j (by omega))
  · have hL : ¬ L.length = 0 := by omega
    have hmv : minV L = .tuple #[ik (nd L 0).1, ik (nd L 0).2, .bool true] := by unfold minV; rw [if_neg hL]
    have heq : nd P m = nd L 0 := by
      refine le_antisymm ?_ ?_
      · obtain ⟨j, hj, hjn⟩ := mem_nd.1 ((hmem (nd L 0)).2 (mem_nd_lt (by omega)))
        rw [← hjn]; exact hmin j hj
      · obtain ⟨j, hj, hjn⟩ := mem_nd.1 ((hmem (nd P m)).1 (mem_nd_lt hm))
        rw [← hjn]; exact ord_least ho j hj
    refine wc_then (Pb_9_gen T h hmv a3) ?_
    rintro e2 s2 ⟨k2, b14, b15, b16, rfl⟩
    have b3 := (k2 3 (by omega)).trans a3
    have b4 := (k2 4 (by omega)).trans a4
    have b8 := (k2 8 (by omega)).trans a8
    have b10 := (k2 10 (by omega)).trans a10
    refine wc_then (Px_some T h hv hm (by rw [heq]) (by rw [heq]) b3 b4 b8 b10 b14 b15 b16) ?_
    rintro e3 s3 ⟨k3, c216, rfl⟩
    exact hfin e3 c216 fun j hj => (k3 j (by omega)).trans (k2 j (by omega))

/-- The heap and the list of pairs agree, behind i acts. -/
def PInv (s0 s : St) (p : Nat) (v : Value) (i : Nat) : Prop :=
  ∃ S L S4 P wk, HP s p S L wk ∧ Ord L ∧ RowsO 41 2 s v (P.map pc) S4 ∧ Uniq P ∧ (∀ n, n ∈ P ↔ n ∈ L) ∧ L.length = P.length ∧ P.length ≤ i ∧ 0 ≤ wk ∧ wk ≤ 1000 * i ∧ (∀ x ∈ S, x ∉ S4) ∧ (∀ x ∈ S, s0.next ≤ x) ∧ (∀ x ∈ S4, s0.next ≤ x) ∧ Kept [] s0 s

theorem bitsN_le (n : Nat) : bitsN n ≤ n := by
  induction n using Nat.strongRecOn with
  | _ m ih =>
    by_cases h : 0 < m
    · rw [bitsN_pos h]; have := ih (m / 2) (by omega); omega
    · have : m = 0 := by omega
      subst this; rw [bitsN_zero]; exact Nat.le_refl _

/-- From the middle of an act to its end. -/
theorem Prest_gen (T : PlayTbl tbl) {c : Nat} {w0 w5 : Value} (h : HP s p S L (wk + c)) (ho : Ord L) (hr : RowsO 41 2 s v (P.map pc) S4) (hu : Uniq P) (hmem : ∀ n, n ∈ P ↔ n ∈ L) (hLP : L.length = P.length)
    (hw : 0 ≤ wk ∧ wk < 2 ^ 40) (hc : c ≤ 3 * bitsN n + 3) (hn : n < 2 ^ 20) (hP : P.length < 2 ^ 20) (g0 : e.get 0 = some w0) (g3 : e.get 3 = some (ptr p)) (g4 : e.get 4 = some v) (g5 : e.get 5 = some w5) (g8 : e.get 8 = some (ik wk)) (g9 : e.get 9 = some (ik n)) :
    WCode (fun k => call tbl ov k) (.seq (.seq Pb_5 (.cond (.tmp 108) Pb_5t .skip)) (.seq Pb_6 (.seq Pb_7 Pt))) e s fun x e' s' => x = .normal ∧ e'.get 0 = some w0 ∧ e'.get 3 = some (ptr p) ∧ e'.get 4 = some v ∧ e'.get 5 = some w5 ∧ s' = s := by
  have hv := hr.toV
  rw [wc_seq]
  refine wc_if ?_
  refine WCode.mono ?_ (Pb_5_gen T h hw hc (by omega) hv hLP g3 g4 g8 g9)
  rintro z e1 s1 ⟨rfl, k1, a108, rfl⟩
  refine ⟨rfl, _, a108, fun h => (by cases h), fun _ => ?_⟩
  rw [wc_skip, next_normal, sq_apply]
  refine Pb_67_gen T h hv (by omega) (fun n hn => (hmem n).1 hn) ((k1 0 (by omega)).trans g0) ((k1 3 (by omega)).trans g3) ((k1 4 (by omega)).trans g4) ((k1 5 (by omega)).trans g5) ?_
  intro e2 b b0 b3 b4 b5 b10 hb
  refine WCode.mono ?_ (Pt_gen T h ho hv hLP hmem hb b3 b4 b10)
  rintro z e3 s3 ⟨rfl, k3, rfl⟩
  exact ⟨rfl, (k3 0 (by omega)).trans b0, (k3 3 (by omega)).trans b3, (k3 4 (by omega)).trans b4, (k3 5 (by omega)).trans b5, rfl⟩

end
end Go.Proofs.Ytaigiehdnhehnaa
