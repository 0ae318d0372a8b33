/-
  The heap: one goes.
-/
import Derived.Test.YtaigiehdnhehnaaR1Heap6
set_option maxRecDepth 100000
set_option linter.unusedVariables false
set_option linter.unusedSimpArgs false
namespace Go.Proofs.Ytaigiehdnhehnaa
open Go Go.Abs

def d16_0 : ACode := match code16 with | .seq a _ => a | _ => .skip
def d16_1 : ACode := match code16 with | .seq _ (.seq a _) => a | _ => .skip
def d16_2 : ACode := match code16 with | .seq _ (.seq _ (.seq a _)) => a | _ => .skip
def d16_3 : ACode := match code16 with | .seq _ (.seq _ (.seq _ (.seq a _))) => a | _ => .skip
def d16_4 : ACode := match code16 with | .seq _ (.seq _ (.seq _ (.seq _ (.seq a _)))) => a | _ => .skip
def d16_5 : ACode := match code16 with | .seq _ (.seq _ (.seq _ (.seq _ (.seq _ (.seq a _))))) => a | _ => .skip
def d16_6 : ACode := match code16 with | .seq _ (.seq _ (.seq _ (.seq _ (.seq _ (.seq _ (.seq a _)))))) => a | _ => .skip
def d16_7 : ACode := match code16 with | .seq _ (.seq _ (.seq _ (.seq _ (.seq _ (.seq _ (.seq _ (.seq a _))))))) => a | _ => .skip
def d16_8 : ACode := match code16 with | .seq _ (.seq _ (.seq _ (.seq _ (.seq _ (.seq _ (.seq _ (.seq _ (.seq a _)))))))) => a | _ => .skip
def d16_9 : ACode := match code16 with | .seq _ (.seq _ (.seq _ (.seq _ (.seq _ (.seq _ (.seq _ (.seq _ (.seq _ a)))))))) => a | _ => .skip
theorem code16_eq : code16 = .seq d16_0 (.seq d16_1 (.seq d16_2 (.seq d16_3 (.seq d16_4 (.seq d16_5 (.seq d16_6 (.seq d16_7 (.seq d16_8 d16_9)))))))) := rfl

section
variable {tbl : FuncId → Option AFun} {ov : CallSem} {s s0 : St} {p m q : Nat} {e : Env} {Q : AExit → Env → St → Prop}

theorem d16_01 (g0 : e.get 0 = some (.pointer (some ⟨p, 0, none⟩))) {rest : ACode}
    (hq : ∀ e' : Env, e'.get 0 = e.get 0 → e'.get 1 = e.get 1 → WCode (fun k => call tbl ov k) rest e' s Q) : WCode (fun k => call tbl ov k) (.seq d16_0 (.seq d16_1 rest)) e s Q := by
  rw [wc_seq]
  have h1 : WCode (fun k => call tbl ov k) d16_0 e s fun x e' s' => x = .normal ∧ e'.get 0 = e.get 0 ∧ e'.get 1 = e.get 1 ∧ s' = s := by
    simp only [d16_0, code16, params, wc_skip, wc_region, wc_draw, wc_seq, wc_cond, wc_block, wc_exit, wc_ret, next_normal, next_exit, next_ret, inBlock_normal, inBlock_ret, inBlock_exit, sq_apply, nrm_apply, drawnK_apply, boolV_bool, ccond_true, ccond_false, wo_nil, wo_cons, wo_guard, wop, bindP_some, cont_some, cont_none, guardV_bool, guardV_undef, gcont_true, gcont_false, gcont_false', ret_apply, aggK_apply, putK_apply, resK_apply, boolK_apply, ccont_apply, wd_nil, wd_cons, dvals_apply, dcont_some, dcont_none, AOp.vals, rd_tmp, rd_const, rd_func, get_cons, mapList, mapOpt, Option.bind_some, Option.map_some, Nat.reduceEqDiff, if_true, if_false, reduceIte, reduceCtorEq, wv_mov, wv_pick, wv_alloc, wv_box, wv_build, wv_load, wv_loadn, wv_store, wv_nilCheck, wv_bin, wv_eq, wv_un, wv_convInt, wv_convSame, wv_fieldAddr, wv_field, wv_fieldn, wv_extract, wv_lenSlice, wv_lenString, wv_mkMap, wv_call, callee_func, wv_indexAddr, wv_lookup, wv_mapUpdate, wv_mapEntry, wv_entryStore, wv_delete, wv_append, wv_slice, wv_mkSlice, wv_buildSlice, wv_index, wv_copy, wv_lenMap, Abs.cellAt, Abs.rowAt, Abs.storeAt, Heap.get_put, List.getElem?_cons_zero, List.getElem?_cons_succ, Nat.zero_add, Nat.reduceAdd, idx, and_self, Int.toNat_natCast, cellsAt, ne_eq, not_true_eq_false, not_false_eq_true, cellList, Value.cells, List.length_cons, List.length_nil, List.all_cons, List.all_nil, isCell, Bool.and_self, storeL, List.set_cons_zero, List.set_cons_succ, footOf, true_and, and_true, Nat.reduceLeDiff, Nat.le_refl, Nat.reduceMul, Nat.reduceLT, List.nil_append, List.cons_append, List.length_set, ends_normal, ends_ret, endK_apply, resV_tmp, tupleV, binV, unV, eqV, Bool.not_true, Bool.not_false, BEq.rfl, Bool.true_beq, Bool.false_beq, beq_true, beq_false, Nat.sub_self, List.range'_zero, decide_true, decide_false, List.not_mem_nil, false_implies, implies_true, Bool.true_and, Bool.and_true, drawn, pairOk, disj, quietAt, Bool.bne_false, Bool.bne_true, Bool.false_eq_true, applyUpd, Int.reduceEq, Int.reduceNeg]
  refine WCode.mono ?_ h1
  rintro x e1 s1 ⟨rfl, a0, a1, rfl⟩
  rw [next_normal, sq_apply, wc_seq]
  have h2 : WCode (fun k => call tbl ov k) d16_1 e1 s1 fun x e' s' => x = .normal ∧ e'.get 0 = e1.get 0 ∧ e'.get 1 = e1.get 1 ∧ s' = s1 := by
    simp only [d16_1, code16, params, wc_skip, wc_region, wc_draw, wc_seq, wc_cond, wc_block, wc_exit, wc_ret, next_normal, next_exit, next_ret, inBlock_normal, inBlock_ret, inBlock_exit, sq_apply, nrm_apply, drawnK_apply, boolV_bool, ccond_true, ccond_false, wo_nil, wo_cons, wo_guard, wop, bindP_some, cont_some, cont_none, guardV_bool, guardV_undef, gcont_true, gcont_false, gcont_false', ret_apply, aggK_apply, putK_apply, resK_apply, boolK_apply, ccont_apply, wd_nil, wd_cons, dvals_apply, dcont_some, dcont_none, AOp.vals, rd_tmp, rd_const, rd_func, get_cons, mapList, mapOpt, Option.bind_some, Option.map_some, Nat.reduceEqDiff, if_true, if_false, reduceIte, reduceCtorEq, wv_mov, wv_pick, wv_alloc, wv_box, wv_build, wv_load, wv_loadn, wv_store, wv_nilCheck, wv_bin, wv_eq, wv_un, wv_convInt, wv_convSame, wv_fieldAddr, wv_field, wv_fieldn, wv_extract, wv_lenSlice, wv_lenString, wv_mkMap, wv_call, callee_func, wv_indexAddr, wv_lookup, wv_mapUpdate, wv_mapEntry, wv_entryStore, wv_delete, wv_append, wv_slice, wv_mkSlice, wv_buildSlice, wv_index, wv_copy, wv_lenMap, Abs.cellAt, Abs.rowAt, Abs.storeAt, Heap.get_put, List.getElem?_cons_zero, List.getElem?_cons_succ, Nat.zero_add, Nat.reduceAdd, idx, and_self, Int.toNat_natCast, cellsAt, ne_eq, not_true_eq_false, not_false_eq_true, cellList, Value.cells, List.length_cons, List.length_nil, List.all_cons, List.all_nil, isCell, Bool.and_self, storeL, List.set_cons_zero, List.set_cons_succ, footOf, true_and, and_true, Nat.reduceLeDiff, Nat.le_refl, Nat.reduceMul, Nat.reduceLT, List.nil_append, List.cons_append, List.length_set, ends_normal, ends_ret, endK_apply, resV_tmp, tupleV, binV, unV, eqV, Bool.not_true, Bool.not_false, BEq.rfl, Bool.true_beq, Bool.false_beq, beq_true, beq_false, Nat.sub_self, List.range'_zero, decide_true, decide_false, List.not_mem_nil, false_implies, implies_true, Bool.true_and, Bool.and_true, drawn, pairOk, disj, quietAt, Bool.bne_false, Bool.bne_true, Bool.false_eq_true, applyUpd, Int.reduceEq, Int.reduceNeg, a0, g0, eqV, Option.isNone_none, Option.isNone_some]
  refine WCode.mono ?_ h2
  rintro x e2 s2 ⟨rfl, b0, b1, rfl⟩
  rw [next_normal, sq_apply]
  exact hq e2 (b0.trans a0) (b1.trans a1)

theorem d16_2_gen {sl : Value} {wk id : Int} {t : TypeId} {es : List MapEntry} {clock : Nat}
    (hp : s.heap.get p = some (.cells [sl, .map (some m), .int .i64 wk] t 0 false)) (hm : s.heap.get m = some (.map es clock)) (hmok : MOK IK es clock)
    (g0 : e.get 0 = some (.pointer (some ⟨p, 0, none⟩))) (g1 : e.get 1 = some (ik id)) {r : Option Value} (hr : mget es (ik id) = r)
    (hq : ∀ (e' : Env), e'.get 0 = e.get 0 → e'.get 1 = e.get 1 → e'.get 5 = some (r.getD (ik 0)) → e'.get 6 = some (.bool r.isSome) → Q .normal e' s) : WCode (fun k => call tbl ov k) d16_2 e s Q := by
  have x1 := fun g nx (h : g m = some (.map es clock)) => ev_lookup (g := g) (nx := nx) (z := .int .i64 0) (kind_int .i64) hmok h ⟨id, rfl⟩ true
  cases r with
  | none =>
    simp only [d16_2, code16, params, wc_skip, wc_region, wc_draw, wc_seq, wc_cond, wc_block, wc_exit, wc_ret, next_normal, next_exit, next_ret, inBlock_normal, inBlock_ret, inBlock_exit, sq_apply, nrm_apply, drawnK_apply, boolV_bool, ccond_true, ccond_false, wo_nil, wo_cons, wo_guard, wop, bindP_some, cont_some, cont_none, guardV_bool, guardV_undef, gcont_true, gcont_false, gcont_false', ret_apply, aggK_apply, putK_apply, resK_apply, boolK_apply, ccont_apply, wd_nil, wd_cons, dvals_apply, dcont_some, dcont_none, AOp.vals, rd_tmp, rd_const, rd_func, get_cons, mapList, mapOpt, Option.bind_some, Option.map_some, Nat.reduceEqDiff, if_true, if_false, reduceIte, reduceCtorEq, wv_mov, wv_pick, wv_alloc, wv_box, wv_build, wv_load, wv_loadn, wv_store, wv_nilCheck, wv_bin, wv_eq, wv_un, wv_convInt, wv_convSame, wv_fieldAddr, wv_field, wv_fieldn, wv_extract, wv_lenSlice, wv_lenString, wv_mkMap, wv_call, callee_func, wv_indexAddr, wv_lookup, wv_mapUpdate, wv_mapEntry, wv_entryStore, wv_delete, wv_append, wv_slice, wv_mkSlice, wv_buildSlice, wv_index, wv_copy, wv_lenMap, Abs.cellAt, Abs.rowAt, Abs.storeAt, Heap.get_put, List.getElem?_cons_zero, List.getElem?_cons_succ, Nat.zero_add, Nat.reduceAdd, idx, and_self, Int.toNat_natCast, cellsAt, ne_eq, not_true_eq_false, not_false_eq_true, cellList, Value.cells, List.length_cons, List.length_nil, List.all_cons, List.all_nil, isCell, Bool.and_self, storeL, List.set_cons_zero, List.set_cons_succ, footOf, true_and, and_true, Nat.reduceLeDiff, Nat.le_refl, Nat.reduceMul, Nat.reduceLT, List.nil_append, List.cons_append, List.length_set, ends_normal, ends_ret, endK_apply, resV_tmp, tupleV, binV, unV, eqV, Bool.not_true, Bool.not_false, BEq.rfl, Bool.true_beq, Bool.false_beq, beq_true, beq_false, Nat.sub_self, List.range'_zero, decide_true, decide_false, List.not_mem_nil, false_implies, implies_true, Bool.true_and, Bool.and_true, drawn, pairOk, disj, quietAt, Bool.bne_false, Bool.bne_true, Bool.false_eq_true, applyUpd, Int.reduceEq, Int.reduceNeg, g0, g1, hp, hm, x1, hr, lookV, Option.map_none]
    refine hq _ ?_ ?_ rfl rfl <;> simp only [get_cons, Nat.reduceEqDiff, reduceIte, g0, g1]
  | some v =>
    simp only [d16_2, code16, params, wc_skip, wc_region, wc_draw, wc_seq, wc_cond, wc_block, wc_exit, wc_ret, next_normal, next_exit, next_ret, inBlock_normal, inBlock_ret, inBlock_exit, sq_apply, nrm_apply, drawnK_apply, boolV_bool, ccond_true, ccond_false, wo_nil, wo_cons, wo_guard, wop, bindP_some, cont_some, cont_none, guardV_bool, guardV_undef, gcont_true, gcont_false, gcont_false', ret_apply, aggK_apply, putK_apply, resK_apply, boolK_apply, ccont_apply, wd_nil, wd_cons, dvals_apply, dcont_some, dcont_none, AOp.vals, rd_tmp, rd_const, rd_func, get_cons, mapList, mapOpt, Option.bind_some, Option.map_some, Nat.reduceEqDiff, if_true, if_false, reduceIte, reduceCtorEq, wv_mov, wv_pick, wv_alloc, wv_box, wv_build, wv_load, wv_loadn, wv_store, wv_nilCheck, wv_bin, wv_eq, wv_un, wv_convInt, wv_convSame, wv_fieldAddr, wv_field, wv_fieldn, wv_extract, wv_lenSlice, wv_lenString, wv_mkMap, wv_call, callee_func, wv_indexAddr, wv_lookup, wv_mapUpdate, wv_mapEntry, wv_entryStore, wv_delete, wv_append, wv_slice, wv_mkSlice, wv_buildSlice, wv_index, wv_copy, wv_lenMap, Abs.cellAt, Abs.rowAt, Abs.storeAt, Heap.get_put, List.getElem?_cons_zero, List.getElem?_cons_succ, Nat.zero_add, Nat.reduceAdd, idx, and_self, Int.toNat_natCast, cellsAt, ne_eq, not_true_eq_false, not_false_eq_true, cellList, Value.cells, List.length_cons, List.length_nil, List.all_cons, List.all_nil, isCell, Bool.and_self, storeL, List.set_cons_zero, List.set_cons_succ, footOf, true_and, and_true, Nat.reduceLeDiff, Nat.le_refl, Nat.reduceMul, Nat.reduceLT, List.nil_append, List.cons_append, List.length_set, ends_normal, ends_ret, endK_apply, resV_tmp, tupleV, binV, unV, eqV, Bool.not_true, Bool.not_false, BEq.rfl, Bool.true_beq, Bool.false_beq, beq_true, beq_false, Nat.sub_self, List.range'_zero, decide_true, decide_false, List.not_mem_nil, false_implies, implies_true, Bool.true_and, Bool.and_true, drawn, pairOk, disj, quietAt, Bool.bne_false, Bool.bne_true, Bool.false_eq_true, applyUpd, Int.reduceEq, Int.reduceNeg, g0, g1, hp, hm, x1, hr, lookV]
    refine hq _ ?_ ?_ rfl rfl <;> simp only [get_cons, Nat.reduceEqDiff, reduceIte, g0, g1]

theorem d16_3_none (g6 : e.get 6 = some (.bool false)) (hq : ∀ e' : Env, e'.get 4 = some (.bool false) → Q .ret e' s) : WCode (fun k => call tbl ov k) d16_3 e s Q := by
  simp only [d16_3, code16, params, wc_skip, wc_region, wc_draw, wc_seq, wc_cond, wc_block, wc_exit, wc_ret, next_normal, next_exit, next_ret, inBlock_normal, inBlock_ret, inBlock_exit, sq_apply, nrm_apply, drawnK_apply, boolV_bool, ccond_true, ccond_false, wo_nil, wo_cons, wo_guard, wop, bindP_some, cont_some, cont_none, guardV_bool, guardV_undef, gcont_true, gcont_false, gcont_false', ret_apply, aggK_apply, putK_apply, resK_apply, boolK_apply, ccont_apply, wd_nil, wd_cons, dvals_apply, dcont_some, dcont_none, AOp.vals, rd_tmp, rd_const, rd_func, get_cons, mapList, mapOpt, Option.bind_some, Option.map_some, Nat.reduceEqDiff, if_true, if_false, reduceIte, reduceCtorEq, wv_mov, wv_pick, wv_alloc, wv_box, wv_build, wv_load, wv_loadn, wv_store, wv_nilCheck, wv_bin, wv_eq, wv_un, wv_convInt, wv_convSame, wv_fieldAddr, wv_field, wv_fieldn, wv_extract, wv_lenSlice, wv_lenString, wv_mkMap, wv_call, callee_func, wv_indexAddr, wv_lookup, wv_mapUpdate, wv_mapEntry, wv_entryStore, wv_delete, wv_append, wv_slice, wv_mkSlice, wv_buildSlice, wv_index, wv_copy, wv_lenMap, Abs.cellAt, Abs.rowAt, Abs.storeAt, Heap.get_put, List.getElem?_cons_zero, List.getElem?_cons_succ, Nat.zero_add, Nat.reduceAdd, idx, and_self, Int.toNat_natCast, cellsAt, ne_eq, not_true_eq_false, not_false_eq_true, cellList, Value.cells, List.length_cons, List.length_nil, List.all_cons, List.all_nil, isCell, Bool.and_self, storeL, List.set_cons_zero, List.set_cons_succ, footOf, true_and, and_true, Nat.reduceLeDiff, Nat.le_refl, Nat.reduceMul, Nat.reduceLT, List.nil_append, List.cons_append, List.length_set, ends_normal, ends_ret, endK_apply, resV_tmp, tupleV, binV, unV, eqV, Bool.not_true, Bool.not_false, BEq.rfl, Bool.true_beq, Bool.false_beq, beq_true, beq_false, Nat.sub_self, List.range'_zero, decide_true, decide_false, List.not_mem_nil, false_implies, implies_true, Bool.true_and, Bool.and_true, drawn, pairOk, disj, quietAt, Bool.bne_false, Bool.bne_true, Bool.false_eq_true, applyUpd, Int.reduceEq, Int.reduceNeg, g6]
  exact hq _ rfl

theorem d16_3_some (g6 : e.get 6 = some (.bool true)) (hq : ∀ e' : Env, (∀ i, i < 10 → e'.get i = e.get i) → Q .normal e' s) : WCode (fun k => call tbl ov k) d16_3 e s Q := by
  simp only [d16_3, code16, params, wc_skip, wc_region, wc_draw, wc_seq, wc_cond, wc_block, wc_exit, wc_ret, next_normal, next_exit, next_ret, inBlock_normal, inBlock_ret, inBlock_exit, sq_apply, nrm_apply, drawnK_apply, boolV_bool, ccond_true, ccond_false, wo_nil, wo_cons, wo_guard, wop, bindP_some, cont_some, cont_none, guardV_bool, guardV_undef, gcont_true, gcont_false, gcont_false', ret_apply, aggK_apply, putK_apply, resK_apply, boolK_apply, ccont_apply, wd_nil, wd_cons, dvals_apply, dcont_some, dcont_none, AOp.vals, rd_tmp, rd_const, rd_func, get_cons, mapList, mapOpt, Option.bind_some, Option.map_some, Nat.reduceEqDiff, if_true, if_false, reduceIte, reduceCtorEq, wv_mov, wv_pick, wv_alloc, wv_box, wv_build, wv_load, wv_loadn, wv_store, wv_nilCheck, wv_bin, wv_eq, wv_un, wv_convInt, wv_convSame, wv_fieldAddr, wv_field, wv_fieldn, wv_extract, wv_lenSlice, wv_lenString, wv_mkMap, wv_call, callee_func, wv_indexAddr, wv_lookup, wv_mapUpdate, wv_mapEntry, wv_entryStore, wv_delete, wv_append, wv_slice, wv_mkSlice, wv_buildSlice, wv_index, wv_copy, wv_lenMap, Abs.cellAt, Abs.rowAt, Abs.storeAt, Heap.get_put, List.getElem?_cons_zero, List.getElem?_cons_succ, Nat.zero_add, Nat.reduceAdd, idx, and_self, Int.toNat_natCast, cellsAt, ne_eq, not_true_eq_false, not_false_eq_true, cellList, Value.cells, List.length_cons, List.length_nil, List.all_cons, List.all_nil, isCell, Bool.and_self, storeL, List.set_cons_zero, List.set_cons_succ, footOf, true_and, and_true, Nat.reduceLeDiff, Nat.le_refl, Nat.reduceMul, Nat.reduceLT, List.nil_append, List.cons_append, List.length_set, ends_normal, ends_ret, endK_apply, resV_tmp, tupleV, binV, unV, eqV, Bool.not_true, Bool.not_false, BEq.rfl, Bool.true_beq, Bool.false_beq, beq_true, beq_false, Nat.sub_self, List.range'_zero, decide_true, decide_false, List.not_mem_nil, false_implies, implies_true, Bool.true_and, Bool.and_true, drawn, pairOk, disj, quietAt, Bool.bne_false, Bool.bne_true, Bool.false_eq_true, applyUpd, Int.reduceEq, Int.reduceNeg, g6]
  refine hq _ fun j hj => ?_
  have h1 : ∀ k, 10 ≤ k → ¬ j = k := fun k hk => by omega
  simp only [get_cons, h1 20 (by omega), h1 21 (by omega), if_false]

theorem d16_4_gen {mv : Value} {a : Option Addr} {len cap : Nat} {wk : Int} {t : TypeId} (hp : s.heap.get p = some (.cells [.slice a len cap, mv, .int .i64 wk] t 0 false)) (h0 : 0 < len) (hlt : len < 2 ^ 40)
    (g0 : e.get 0 = some (.pointer (some ⟨p, 0, none⟩))) (hq : ∀ e' : Env, e'.get 0 = e.get 0 → e'.get 1 = e.get 1 → e'.get 5 = e.get 5 → e'.get 7 = some (ik (len - 1 : Nat)) → Q .normal e' s) : WCode (fun k => call tbl ov k) d16_4 e s Q := by
  have w1 : IntKind.i64.wrap ((len : Int) - 1) = ((len - 1 : Nat) : Int) := by rw [wrap_in (by omega) (by omega)]; omega
  simp only [d16_4, code16, params, wc_skip, wc_region, wc_draw, wc_seq, wc_cond, wc_block, wc_exit, wc_ret, next_normal, next_exit, next_ret, inBlock_normal, inBlock_ret, inBlock_exit, sq_apply, nrm_apply, drawnK_apply, boolV_bool, ccond_true, ccond_false, wo_nil, wo_cons, wo_guard, wop, bindP_some, cont_some, cont_none, guardV_bool, guardV_undef, gcont_true, gcont_false, gcont_false', ret_apply, aggK_apply, putK_apply, resK_apply, boolK_apply, ccont_apply, wd_nil, wd_cons, dvals_apply, dcont_some, dcont_none, AOp.vals, rd_tmp, rd_const, rd_func, get_cons, mapList, mapOpt, Option.bind_some, Option.map_some, Nat.reduceEqDiff, if_true, if_false, reduceIte, reduceCtorEq, wv_mov, wv_pick, wv_alloc, wv_box, wv_build, wv_load, wv_loadn, wv_store, wv_nilCheck, wv_bin, wv_eq, wv_un, wv_convInt, wv_convSame, wv_fieldAddr, wv_field, wv_fieldn, wv_extract, wv_lenSlice, wv_lenString, wv_mkMap, wv_call, callee_func, wv_indexAddr, wv_lookup, wv_mapUpdate, wv_mapEntry, wv_entryStore, wv_delete, wv_append, wv_slice, wv_mkSlice, wv_buildSlice, wv_index, wv_copy, wv_lenMap, Abs.cellAt, Abs.rowAt, Abs.storeAt, Heap.get_put, List.getElem?_cons_zero, List.getElem?_cons_succ, Nat.zero_add, Nat.reduceAdd, idx, and_self, Int.toNat_natCast, cellsAt, ne_eq, not_true_eq_false, not_false_eq_true, cellList, Value.cells, List.length_cons, List.length_nil, List.all_cons, List.all_nil, isCell, Bool.and_self, storeL, List.set_cons_zero, List.set_cons_succ, footOf, true_and, and_true, Nat.reduceLeDiff, Nat.le_refl, Nat.reduceMul, Nat.reduceLT, List.nil_append, List.cons_append, List.length_set, ends_normal, ends_ret, endK_apply, resV_tmp, tupleV, binV, unV, eqV, Bool.not_true, Bool.not_false, BEq.rfl, Bool.true_beq, Bool.false_beq, beq_true, beq_false, Nat.sub_self, List.range'_zero, decide_true, decide_false, List.not_mem_nil, false_implies, implies_true, Bool.true_and, Bool.and_true, drawn, pairOk, disj, quietAt, Bool.bne_false, Bool.bne_true, Bool.false_eq_true, applyUpd, Int.reduceEq, Int.reduceNeg, g0, hp, w1]
  refine hq _ ?_ ?_ ?_ rfl <;> simp only [get_cons, Nat.reduceEqDiff, reduceIte, g0]

theorem d16_5_gen (h32 : tbl 32 = some fun32) {L : List Node} {wk : Int} (hr : HeapAt s0 s p m q L wk) {i k : Nat} (hi : i < L.length) (hk : k < L.length)
    (g0 : e.get 0 = some (.pointer (some ⟨p, 0, none⟩))) (g5 : e.get 5 = some (ik i)) (g7 : e.get 7 = some (ik k))
    (hq : ∀ (e' : Env) (s' : St), (∀ i, i < 10 → e'.get i = e.get i) → HeapAt s0 s' p m q (swapL L i k) wk → Q .normal e' s') : WCode (fun k => call tbl ov k) d16_5 e s Q := by
  obtain ⟨es, hrep, hat, hchg⟩ := hr
  simp only [d16_5, code16, params, wc_skip, wc_region, wc_draw, wc_seq, wc_cond, wc_block, wc_exit, wc_ret, next_normal, next_exit, next_ret, inBlock_normal, inBlock_ret, inBlock_exit, sq_apply, nrm_apply, drawnK_apply, boolV_bool, ccond_true, ccond_false, wo_nil, wo_cons, wo_guard, wop, bindP_some, cont_some, cont_none, guardV_bool, guardV_undef, gcont_true, gcont_false, gcont_false', ret_apply, aggK_apply, putK_apply, resK_apply, boolK_apply, ccont_apply, wd_nil, wd_cons, dvals_apply, dcont_some, dcont_none, AOp.vals, rd_tmp, rd_const, rd_func, get_cons, mapList, mapOpt, Option.bind_some, Option.map_some, Nat.reduceEqDiff, if_true, if_false, reduceIte, reduceCtorEq, wv_mov, wv_pick, wv_alloc, wv_box, wv_build, wv_load, wv_loadn, wv_store, wv_nilCheck, wv_bin, wv_eq, wv_un, wv_convInt, wv_convSame, wv_fieldAddr, wv_field, wv_fieldn, wv_extract, wv_lenSlice, wv_lenString, wv_mkMap, wv_call, callee_func, wv_indexAddr, wv_lookup, wv_mapUpdate, wv_mapEntry, wv_entryStore, wv_delete, wv_append, wv_slice, wv_mkSlice, wv_buildSlice, wv_index, wv_copy, wv_lenMap, Abs.cellAt, Abs.rowAt, Abs.storeAt, Heap.get_put, List.getElem?_cons_zero, List.getElem?_cons_succ, Nat.zero_add, Nat.reduceAdd, idx, and_self, Int.toNat_natCast, cellsAt, ne_eq, not_true_eq_false, not_false_eq_true, cellList, Value.cells, List.length_cons, List.length_nil, List.all_cons, List.all_nil, isCell, Bool.and_self, storeL, List.set_cons_zero, List.set_cons_succ, footOf, true_and, and_true, Nat.reduceLeDiff, Nat.le_refl, Nat.reduceMul, Nat.reduceLT, List.nil_append, List.cons_append, List.length_set, ends_normal, ends_ret, endK_apply, resV_tmp, tupleV, binV, unV, eqV, Bool.not_true, Bool.not_false, BEq.rfl, Bool.true_beq, Bool.false_beq, beq_true, beq_false, Nat.sub_self, List.range'_zero, decide_true, decide_false, List.not_mem_nil, false_implies, implies_true, Bool.true_and, Bool.and_true, drawn, pairOk, disj, quietAt, Bool.bne_false, Bool.bne_true, Bool.false_eq_true, applyUpd, Int.reduceEq, Int.reduceNeg, g0, g5, g7]
  refine WCall.mono (swap_spec h32 hrep hi hk (hat.at_ _ hi) (hat.at_ _ hk)) ?_
  rintro v s2 ⟨hrep2, hchg2⟩
  obtain ⟨clock, _, hmok⟩ := hrep.hm
  simp only [params, wc_skip, wc_region, wc_draw, wc_seq, wc_cond, wc_block, wc_exit, wc_ret, next_normal, next_exit, next_ret, inBlock_normal, inBlock_ret, inBlock_exit, sq_apply, nrm_apply, drawnK_apply, boolV_bool, ccond_true, ccond_false, wo_nil, wo_cons, wo_guard, wop, bindP_some, cont_some, cont_none, guardV_bool, guardV_undef, gcont_true, gcont_false, gcont_false', ret_apply, aggK_apply, putK_apply, resK_apply, boolK_apply, ccont_apply, wd_nil, wd_cons, dvals_apply, dcont_some, dcont_none, AOp.vals, rd_tmp, rd_const, rd_func, get_cons, mapList, mapOpt, Option.bind_some, Option.map_some, Nat.reduceEqDiff, if_true, if_false, reduceIte, reduceCtorEq, wv_mov, wv_pick, wv_alloc, wv_box, wv_build, wv_load, wv_loadn, wv_store, wv_nilCheck, wv_bin, wv_eq, wv_un, wv_convInt, wv_convSame, wv_fieldAddr, wv_field, wv_fieldn, wv_extract, wv_lenSlice, wv_lenString, wv_mkMap, wv_call, callee_func, wv_indexAddr, wv_lookup, wv_mapUpdate, wv_mapEntry, wv_entryStore, wv_delete, wv_append, wv_slice, wv_mkSlice, wv_buildSlice, wv_index, wv_copy, wv_lenMap, Abs.cellAt, Abs.rowAt, Abs.storeAt, Heap.get_put, List.getElem?_cons_zero, List.getElem?_cons_succ, Nat.zero_add, Nat.reduceAdd, idx, and_self, Int.toNat_natCast, cellsAt, ne_eq, not_true_eq_false, not_false_eq_true, cellList, Value.cells, List.length_cons, List.length_nil, List.all_cons, List.all_nil, isCell, Bool.and_self, storeL, List.set_cons_zero, List.set_cons_succ, footOf, true_and, and_true, Nat.reduceLeDiff, Nat.le_refl, Nat.reduceMul, Nat.reduceLT, List.nil_append, List.cons_append, List.length_set, ends_normal, ends_ret, endK_apply, resV_tmp, tupleV, binV, unV, eqV, Bool.not_true, Bool.not_false, BEq.rfl, Bool.true_beq, Bool.false_beq, beq_true, beq_false, Nat.sub_self, List.range'_zero, decide_true, decide_false, List.not_mem_nil, false_implies, implies_true, Bool.true_and, Bool.and_true, drawn, pairOk, disj, quietAt, Bool.bne_false, Bool.bne_true, Bool.false_eq_true, applyUpd, Int.reduceEq, Int.reduceNeg]
  refine hq _ _ (fun j hj => ?_) ⟨_, hrep2, hat.swap hmok hi hk, hchg.trans (hchg2.sub (by simp))⟩
  have h1 : ∀ k, 10 ≤ k → ¬ j = k := fun k hk => by omega
  simp only [get_cons, h1 28 (by omega), h1 29 (by omega), h1 30 (by omega), h1 31 (by omega), if_false]

theorem d16_6_gen {es : List MapEntry} {L : List Node} {wk : Int} (hr : Rep s p m q L es wk) {n : Nat} (hn : n ≤ L.length)
    (g0 : e.get 0 = some (.pointer (some ⟨p, 0, none⟩))) (g7 : e.get 7 = some (ik n))
    (hq : ∀ (e' : Env) (s' : St), (∀ i, i < 10 → e'.get i = e.get i) → Rep s' p m q (L.take n) es wk → Chg [p] s s' → Q .normal e' s') : WCode (fun k => call tbl ov k) d16_6 e s Q := by
  obtain ⟨pm, pq, mq, lp, lm, lq, ⟨t, cap, hp, hcap, c, r, hqq, hlen, hct⟩, clock, hm, hmok⟩ := hr
  have x1 := fun g nx (h : g q = some (.cells (flat L ++ r) c 2 false)) => ev_slice_hi (g := g) (nx := nx) (o := 0) (len := L.length) (cap := cap) (n := n) (k := .i64) h (by omega)
  simp only [d16_6, code16, params, wc_skip, wc_region, wc_draw, wc_seq, wc_cond, wc_block, wc_exit, wc_ret, next_normal, next_exit, next_ret, inBlock_normal, inBlock_ret, inBlock_exit, sq_apply, nrm_apply, drawnK_apply, boolV_bool, ccond_true, ccond_false, wo_nil, wo_cons, wo_guard, wop, bindP_some, cont_some, cont_none, guardV_bool, guardV_undef, gcont_true, gcont_false, gcont_false', ret_apply, aggK_apply, putK_apply, resK_apply, boolK_apply, ccont_apply, wd_nil, wd_cons, dvals_apply, dcont_some, dcont_none, AOp.vals, rd_tmp, rd_const, rd_func, get_cons, mapList, mapOpt, Option.bind_some, Option.map_some, Nat.reduceEqDiff, if_true, if_false, reduceIte, reduceCtorEq, wv_mov, wv_pick, wv_alloc, wv_box, wv_build, wv_load, wv_loadn, wv_store, wv_nilCheck, wv_bin, wv_eq, wv_un, wv_convInt, wv_convSame, wv_fieldAddr, wv_field, wv_fieldn, wv_extract, wv_lenSlice, wv_lenString, wv_mkMap, wv_call, callee_func, wv_indexAddr, wv_lookup, wv_mapUpdate, wv_mapEntry, wv_entryStore, wv_delete, wv_append, wv_slice, wv_mkSlice, wv_buildSlice, wv_index, wv_copy, wv_lenMap, Abs.cellAt, Abs.rowAt, Abs.storeAt, Heap.get_put, List.getElem?_cons_zero, List.getElem?_cons_succ, Nat.zero_add, Nat.reduceAdd, idx, and_self, Int.toNat_natCast, cellsAt, ne_eq, not_true_eq_false, not_false_eq_true, cellList, Value.cells, List.length_cons, List.length_nil, List.all_cons, List.all_nil, isCell, Bool.and_self, storeL, List.set_cons_zero, List.set_cons_succ, footOf, true_and, and_true, Nat.reduceLeDiff, Nat.le_refl, Nat.reduceMul, Nat.reduceLT, List.nil_append, List.cons_append, List.length_set, ends_normal, ends_ret, endK_apply, resV_tmp, tupleV, binV, unV, eqV, Bool.not_true, Bool.not_false, BEq.rfl, Bool.true_beq, Bool.false_beq, beq_true, beq_false, Nat.sub_self, List.range'_zero, decide_true, decide_false, List.not_mem_nil, false_implies, implies_true, Bool.true_and, Bool.and_true, drawn, pairOk, disj, quietAt, Bool.bne_false, Bool.bne_true, Bool.false_eq_true, applyUpd, Int.reduceEq, Int.reduceNeg, g0, g7, hp, hqq, x1]
  have hfl : flat L ++ r = flat (L.take n) ++ (flat (L.drop n) ++ r) := by
    rw [← List.append_assoc, ← flat_append, List.take_append_drop]
  have hln : (L.take n).length = n := by rw [List.length_take]; omega
  refine hq _ _ (fun j hj => ?_) ⟨pm, pq, mq, lp, lm, lq, ⟨t, cap, ?_, by omega, c, flat (L.drop n) ++ r, ?_, by rw [hlen, hfl], hct⟩, clock, ?_, hmok⟩ ⟨Nat.le_refl _, fun j hj hn => ?_⟩
  · have h1 : ∀ k, 10 ≤ k → ¬ j = k := fun k hk => by omega
    simp only [get_cons, h1 32 (by omega), h1 33 (by omega), h1 34 (by omega), h1 35 (by omega), h1 36 (by omega), h1 37 (by omega), h1 38 (by omega), h1 39 (by omega), h1 40 (by omega), if_false]
  · simp only [applyUpd, Heap.get_put, if_true, hln]
  · simp only [applyUpd, Heap.get_put, pq.symm, if_false]; rw [← hfl]; exact hqq
  · simp only [applyUpd, Heap.get_put, pm.symm, if_false]; exact hm
  · simp only [List.mem_cons, List.not_mem_nil, or_false] at hn
    simp only [applyUpd, Heap.get_put, hn, if_false]

theorem d16_7_gen {es : List MapEntry} {L : List Node} {wk id : Int} (hr : Rep s p m q L es wk)
    (g0 : e.get 0 = some (.pointer (some ⟨p, 0, none⟩))) (g1 : e.get 1 = some (ik id))
    (hq : ∀ (e' : Env) (s' : St), (∀ i, i < 10 → e'.get i = e.get i) → Rep s' p m q L (mdel es (ik id)) wk → Chg [m] s s' → Q .normal e' s') : WCode (fun k => call tbl ov k) d16_7 e s Q := by
  obtain ⟨pm, pq, mq, lp, lm, lq, ⟨t, cap, hp, hcap, c, r, hqq, hlen, hct⟩, clock, hm, hmok⟩ := hr
  have x1 := fun g nx (h : g m = some (.map es clock)) => ev_delete (g := g) (nx := nx) (kind_int .i64) hmok h ⟨id, rfl⟩
  simp only [d16_7, code16, params, wc_skip, wc_region, wc_draw, wc_seq, wc_cond, wc_block, wc_exit, wc_ret, next_normal, next_exit, next_ret, inBlock_normal, inBlock_ret, inBlock_exit, sq_apply, nrm_apply, drawnK_apply, boolV_bool, ccond_true, ccond_false, wo_nil, wo_cons, wo_guard, wop, bindP_some, cont_some, cont_none, guardV_bool, guardV_undef, gcont_true, gcont_false, gcont_false', ret_apply, aggK_apply, putK_apply, resK_apply, boolK_apply, ccont_apply, wd_nil, wd_cons, dvals_apply, dcont_some, dcont_none, AOp.vals, rd_tmp, rd_const, rd_func, get_cons, mapList, mapOpt, Option.bind_some, Option.map_some, Nat.reduceEqDiff, if_true, if_false, reduceIte, reduceCtorEq, wv_mov, wv_pick, wv_alloc, wv_box, wv_build, wv_load, wv_loadn, wv_store, wv_nilCheck, wv_bin, wv_eq, wv_un, wv_convInt, wv_convSame, wv_fieldAddr, wv_field, wv_fieldn, wv_extract, wv_lenSlice, wv_lenString, wv_mkMap, wv_call, callee_func, wv_indexAddr, wv_lookup, wv_mapUpdate, wv_mapEntry, wv_entryStore, wv_delete, wv_append, wv_slice, wv_mkSlice, wv_buildSlice, wv_index, wv_copy, wv_lenMap, Abs.cellAt, Abs.rowAt, Abs.storeAt, Heap.get_put, List.getElem?_cons_zero, List.getElem?_cons_succ, Nat.zero_add, Nat.reduceAdd, idx, and_self, Int.toNat_natCast, cellsAt, ne_eq, not_true_eq_false, not_false_eq_true, cellList, Value.cells, List.length_cons, List.length_nil, List.all_cons, List.all_nil, isCell, Bool.and_self, storeL, List.set_cons_zero, List.set_cons_succ, footOf, true_and, and_true, Nat.reduceLeDiff, Nat.le_refl, Nat.reduceMul, Nat.reduceLT, List.nil_append, List.cons_append, List.length_set, ends_normal, ends_ret, endK_apply, resV_tmp, tupleV, binV, unV, eqV, Bool.not_true, Bool.not_false, BEq.rfl, Bool.true_beq, Bool.false_beq, beq_true, beq_false, Nat.sub_self, List.range'_zero, decide_true, decide_false, List.not_mem_nil, false_implies, implies_true, Bool.true_and, Bool.and_true, drawn, pairOk, disj, quietAt, Bool.bne_false, Bool.bne_true, Bool.false_eq_true, applyUpd, Int.reduceEq, Int.reduceNeg, g0, g1, hp, hm, x1]
  refine hq _ _ (fun j hj => ?_) ⟨pm, pq, mq, lp, lm, lq, ⟨t, cap, ?_, hcap, c, r, ?_, hlen, hct⟩, clock, ?_, hmok.sub (mdel_sub _ _)⟩ ⟨Nat.le_refl _, fun j hj hn => ?_⟩
  · have h1 : ∀ k, 10 ≤ k → ¬ j = k := fun k hk => by omega
    simp only [get_cons, h1 41 (by omega), h1 42 (by omega), h1 43 (by omega), h1 44 (by omega), h1 45 (by omega), if_false]
  · simp only [applyUpd, Heap.get_put, pm, if_false]; exact hp
  · simp only [applyUpd, Heap.get_put, mq.symm, if_false]; exact hqq
  · simp only [applyUpd, Heap.get_put, if_true]
  · simp only [List.mem_cons, List.not_mem_nil, or_false] at hn
    simp only [applyUpd, Heap.get_put, hn, if_false]

end

theorem At.pop {L : List Node} {es : List MapEntry} {clock : Nat} (h : At L es) (hm : MOK IK es clock) {n : Nat} (hn : L.length = n + 1) {id : Int} (hid : (nd L n).1 = id) : At (L.take n) (mdel es (ik id)) := by
  have K1 := kind_int .i64
  have hln : (L.take n).length = n := by rw [List.length_take]; omega
  have hg : ∀ j, j < n → (L.take n).getD j (0, 0) = L.getD j (0, 0) := fun j hj => by
    simp only [List.getD_eq_getElem?_getD, List.getElem?_take, hj, if_true]
  constructor
  · intro i hi
    rw [hln] at hi
    rw [hg i hi, mget_mdel K1 hm ⟨_, rfl⟩ ⟨_, rfl⟩, if_neg]
    · exact h.at_ i (by omega)
    · intro e
      have : (L.getD i (0, 0)).1 = (L.getD n (0, 0)).1 := by
        have h1 : (L.getD i (0, 0)).1 = id := by simpa using e
        exact h1.trans hid.symm
      have := h.inj (i := i) (j := n) (by omega) (by omega) this
      omega
  · intro id' hno
    rw [mget_mdel K1 hm ⟨_, rfl⟩ ⟨_, rfl⟩]
    split
    · rfl
    · rename_i hne
      refine h.none id' fun i hi he => ?_
      by_cases h1 : i < n
      · exact hno i (by omega) (by rw [hg i h1]; exact he)
      · have : i = n := by omega
        subst this
        exact hne (by rw [← he, show (L.getD i (0, 0)).1 = id from hid])

section
variable {tbl : FuncId → Option AFun} {ov : CallSem} {s s0 : St} {p m q : Nat} {e : Env} {Q : AExit → Env → St → Prop}

def d16_8a : ACode := match d16_8 with | .seq a _ => a | _ => .skip
def d16_8b : ACode := match d16_8 with | .seq _ (.cond _ (.seq a _) _) => a | _ => .skip
def d16_8c : ACode := match d16_8 with | .seq _ (.cond _ (.seq _ (.seq a _)) _) => a | _ => .skip
def d16_8d : ACode := match d16_8 with | .seq _ (.cond _ (.seq _ (.seq _ a)) _) => a | _ => .skip
theorem d16_8_eq : d16_8 = .seq d16_8a (.cond (.tmp 48) (.seq d16_8b (.seq d16_8c d16_8d)) .skip) := rfl

theorem d16_8a_gen {i n : Nat} (g5 : e.get 5 = some (ik i)) (g7 : e.get 7 = some (ik n)) {b : Bool} (hb : decide (i < n) = b)
    (hq : ∀ e' : Env, (∀ i, i < 10 → e'.get i = e.get i) → e'.get 48 = some (.bool b) → Q .normal e' s) : WCode (fun k => call tbl ov k) d16_8a e s Q := by
  have d : decide ((i : Int) < (n : Int)) = b := by rw [← hb]; simp
  simp only [d16_8a, d16_8, code16, params, wc_skip, wc_region, wc_draw, wc_seq, wc_cond, wc_block, wc_exit, wc_ret, next_normal, next_exit, next_ret, inBlock_normal, inBlock_ret, inBlock_exit, sq_apply, nrm_apply, drawnK_apply, boolV_bool, ccond_true, ccond_false, wo_nil, wo_cons, wo_guard, wop, bindP_some, cont_some, cont_none, guardV_bool, guardV_undef, gcont_true, gcont_false, gcont_false', ret_apply, aggK_apply, putK_apply, resK_apply, boolK_apply, ccont_apply, wd_nil, wd_cons, dvals_apply, dcont_some, dcont_none, AOp.vals, rd_tmp, rd_const, rd_func, get_cons, mapList, mapOpt, Option.bind_some, Option.map_some, Nat.reduceEqDiff, if_true, if_false, reduceIte, reduceCtorEq, wv_mov, wv_pick, wv_alloc, wv_box, wv_build, wv_load, wv_loadn, wv_store, wv_nilCheck, wv_bin, wv_eq, wv_un, wv_convInt, wv_convSame, wv_fieldAddr, wv_field, wv_fieldn, wv_extract, wv_lenSlice, wv_lenString, wv_mkMap, wv_call, callee_func, wv_indexAddr, wv_lookup, wv_mapUpdate, wv_mapEntry, wv_entryStore, wv_delete, wv_append, wv_slice, wv_mkSlice, wv_buildSlice, wv_index, wv_copy, wv_lenMap, Abs.cellAt, Abs.rowAt, Abs.storeAt, Heap.get_put, List.getElem?_cons_zero, List.getElem?_cons_succ, Nat.zero_add, Nat.reduceAdd, idx, and_self, Int.toNat_natCast, cellsAt, ne_eq, not_true_eq_false, not_false_eq_true, cellList, Value.cells, List.length_cons, List.length_nil, List.all_cons, List.all_nil, isCell, Bool.and_self, storeL, List.set_cons_zero, List.set_cons_succ, footOf, true_and, and_true, Nat.reduceLeDiff, Nat.le_refl, Nat.reduceMul, Nat.reduceLT, List.nil_append, List.cons_append, List.length_set, ends_normal, ends_ret, endK_apply, resV_tmp, tupleV, binV, unV, eqV, Bool.not_true, Bool.not_false, BEq.rfl, Bool.true_beq, Bool.false_beq, beq_true, beq_false, Nat.sub_self, List.range'_zero, decide_true, decide_false, List.not_mem_nil, false_implies, implies_true, Bool.true_and, Bool.and_true, drawn, pairOk, disj, quietAt, Bool.bne_false, Bool.bne_true, Bool.false_eq_true, applyUpd, Int.reduceEq, Int.reduceNeg, g5, g7, d]
  refine hq _ (fun j hj => ?_) rfl
  have h1 : ∀ k, 10 ≤ k → ¬ j = k := fun k hk => by omega
  simp only [get_cons, h1 46 (by omega), h1 47 (by omega), h1 48 (by omega), if_false]

theorem d16_8b_gen {es : List MapEntry} {L : List Node} {wk : Int} (hr : Rep s p m q L es wk) {i : Nat} (hi : i < L.length)
    (g0 : e.get 0 = some (.pointer (some ⟨p, 0, none⟩))) (g5 : e.get 5 = some (ik i))
    (hq : ∀ e' : Env, e'.get 0 = e.get 0 → e'.get 5 = e.get 5 → e'.get 8 = some (ik (nd L i).1) → Q .normal e' s) : WCode (fun k => call tbl ov k) d16_8b e s Q := by
  obtain ⟨pm, pq, mq, lp, lm, lq, ⟨t, cap, hp, hcap, c, r, hqq, hlen, hct⟩, clock, hm, hmok⟩ := hr
  obtain ⟨f0, f1⟩ := flat_get L r i hi
  have d2 : (0 : Int) ≤ i := by omega
  have d3 : (i : Int) < (L.length : Nat) := by omega
  simp only [d16_8b, d16_8, code16, params, wc_skip, wc_region, wc_draw, wc_seq, wc_cond, wc_block, wc_exit, wc_ret, next_normal, next_exit, next_ret, inBlock_normal, inBlock_ret, inBlock_exit, sq_apply, nrm_apply, drawnK_apply, boolV_bool, ccond_true, ccond_false, wo_nil, wo_cons, wo_guard, wop, bindP_some, cont_some, cont_none, guardV_bool, guardV_undef, gcont_true, gcont_false, gcont_false', ret_apply, aggK_apply, putK_apply, resK_apply, boolK_apply, ccont_apply, wd_nil, wd_cons, dvals_apply, dcont_some, dcont_none, AOp.vals, rd_tmp, rd_const, rd_func, get_cons, mapList, mapOpt, Option.bind_some, Option.map_some, Nat.reduceEqDiff, if_true, if_false, reduceIte, reduceCtorEq, wv_mov, wv_pick, wv_alloc, wv_box, wv_build, wv_load, wv_loadn, wv_store, wv_nilCheck, wv_bin, wv_eq, wv_un, wv_convInt, wv_convSame, wv_fieldAddr, wv_field, wv_fieldn, wv_extract, wv_lenSlice, wv_lenString, wv_mkMap, wv_call, callee_func, wv_indexAddr, wv_lookup, wv_mapUpdate, wv_mapEntry, wv_entryStore, wv_delete, wv_append, wv_slice, wv_mkSlice, wv_buildSlice, wv_index, wv_copy, wv_lenMap, Abs.cellAt, Abs.rowAt, Abs.storeAt, Heap.get_put, List.getElem?_cons_zero, List.getElem?_cons_succ, Nat.zero_add, Nat.reduceAdd, idx, and_self, Int.toNat_natCast, cellsAt, ne_eq, not_true_eq_false, not_false_eq_true, cellList, Value.cells, List.length_cons, List.length_nil, List.all_cons, List.all_nil, isCell, Bool.and_self, storeL, List.set_cons_zero, List.set_cons_succ, footOf, true_and, and_true, Nat.reduceLeDiff, Nat.le_refl, Nat.reduceMul, Nat.reduceLT, List.nil_append, List.cons_append, List.length_set, ends_normal, ends_ret, endK_apply, resV_tmp, tupleV, binV, unV, eqV, Bool.not_true, Bool.not_false, BEq.rfl, Bool.true_beq, Bool.false_beq, beq_true, beq_false, Nat.sub_self, List.range'_zero, decide_true, decide_false, List.not_mem_nil, false_implies, implies_true, Bool.true_and, Bool.and_true, drawn, pairOk, disj, quietAt, Bool.bne_false, Bool.bne_true, Bool.false_eq_true, applyUpd, Int.reduceEq, Int.reduceNeg, g0, g5, hp, hqq, d2, d3, Nat.add_zero, f0]
  refine hq _ ?_ ?_ rfl <;> simp only [get_cons, Nat.reduceEqDiff, reduceIte, g0, g5]

theorem d16_8c_gen (h30 : tbl 30 = some fun30) (h32 : tbl 32 = some fun32) (h40 : tbl 40 = some fun40) {L : List Node} {wk : Int} (hr : HeapAt s0 s p m q L wk) {i : Nat} (hi : i < L.length) (hL : L.length < 2 ^ 40)
    (g0 : e.get 0 = some (.pointer (some ⟨p, 0, none⟩))) (g5 : e.get 5 = some (ik i))
    (hq : ∀ (e' : Env) (s' : St), (∀ i, i < 10 → e'.get i = e.get i) → HeapAt s0 s' p m q (upL i L i).1 (addW (upL i L i).2 wk) → Q .normal e' s') : WCode (fun k => call tbl ov k) d16_8c e s Q := by
  simp only [d16_8c, d16_8, code16, params, wc_skip, wc_region, wc_draw, wc_seq, wc_cond, wc_block, wc_exit, wc_ret, next_normal, next_exit, next_ret, inBlock_normal, inBlock_ret, inBlock_exit, sq_apply, nrm_apply, drawnK_apply, boolV_bool, ccond_true, ccond_false, wo_nil, wo_cons, wo_guard, wop, bindP_some, cont_some, cont_none, guardV_bool, guardV_undef, gcont_true, gcont_false, gcont_false', ret_apply, aggK_apply, putK_apply, resK_apply, boolK_apply, ccont_apply, wd_nil, wd_cons, dvals_apply, dcont_some, dcont_none, AOp.vals, rd_tmp, rd_const, rd_func, get_cons, mapList, mapOpt, Option.bind_some, Option.map_some, Nat.reduceEqDiff, if_true, if_false, reduceIte, reduceCtorEq, wv_mov, wv_pick, wv_alloc, wv_box, wv_build, wv_load, wv_loadn, wv_store, wv_nilCheck, wv_bin, wv_eq, wv_un, wv_convInt, wv_convSame, wv_fieldAddr, wv_field, wv_fieldn, wv_extract, wv_lenSlice, wv_lenString, wv_mkMap, wv_call, callee_func, wv_indexAddr, wv_lookup, wv_mapUpdate, wv_mapEntry, wv_entryStore, wv_delete, wv_append, wv_slice, wv_mkSlice, wv_buildSlice, wv_index, wv_copy, wv_lenMap, Abs.cellAt, Abs.rowAt, Abs.storeAt, Heap.get_put, List.getElem?_cons_zero, List.getElem?_cons_succ, Nat.zero_add, Nat.reduceAdd, idx, and_self, Int.toNat_natCast, cellsAt, ne_eq, not_true_eq_false, not_false_eq_true, cellList, Value.cells, List.length_cons, List.length_nil, List.all_cons, List.all_nil, isCell, Bool.and_self, storeL, List.set_cons_zero, List.set_cons_succ, footOf, true_and, and_true, Nat.reduceLeDiff, Nat.le_refl, Nat.reduceMul, Nat.reduceLT, List.nil_append, List.cons_append, List.length_set, ends_normal, ends_ret, endK_apply, resV_tmp, tupleV, binV, unV, eqV, Bool.not_true, Bool.not_false, BEq.rfl, Bool.true_beq, Bool.false_beq, beq_true, beq_false, Nat.sub_self, List.range'_zero, decide_true, decide_false, List.not_mem_nil, false_implies, implies_true, Bool.true_and, Bool.and_true, drawn, pairOk, disj, quietAt, Bool.bne_false, Bool.bne_true, Bool.false_eq_true, applyUpd, Int.reduceEq, Int.reduceNeg, g0, g5]
  refine WCall.mono (up_spec h30 h32 h40 hr hi hL) ?_
  intro v s1 h1
  simp only [params, wc_skip, wc_region, wc_draw, wc_seq, wc_cond, wc_block, wc_exit, wc_ret, next_normal, next_exit, next_ret, inBlock_normal, inBlock_ret, inBlock_exit, sq_apply, nrm_apply, drawnK_apply, boolV_bool, ccond_true, ccond_false, wo_nil, wo_cons, wo_guard, wop, bindP_some, cont_some, cont_none, guardV_bool, guardV_undef, gcont_true, gcont_false, gcont_false', ret_apply, aggK_apply, putK_apply, resK_apply, boolK_apply, ccont_apply, wd_nil, wd_cons, dvals_apply, dcont_some, dcont_none, AOp.vals, rd_tmp, rd_const, rd_func, get_cons, mapList, mapOpt, Option.bind_some, Option.map_some, Nat.reduceEqDiff, if_true, if_false, reduceIte, reduceCtorEq, wv_mov, wv_pick, wv_alloc, wv_box, wv_build, wv_load, wv_loadn, wv_store, wv_nilCheck, wv_bin, wv_eq, wv_un, wv_convInt, wv_convSame, wv_fieldAddr, wv_field, wv_fieldn, wv_extract, wv_lenSlice, wv_lenString, wv_mkMap, wv_call, callee_func, wv_indexAddr, wv_lookup, wv_mapUpdate, wv_mapEntry, wv_entryStore, wv_delete, wv_append, wv_slice, wv_mkSlice, wv_buildSlice, wv_index, wv_copy, wv_lenMap, Abs.cellAt, Abs.rowAt, Abs.storeAt, Heap.get_put, List.getElem?_cons_zero, List.getElem?_cons_succ, Nat.zero_add, Nat.reduceAdd, idx, and_self, Int.toNat_natCast, cellsAt, ne_eq, not_true_eq_false, not_false_eq_true, cellList, Value.cells, List.length_cons, List.length_nil, List.all_cons, List.all_nil, isCell, Bool.and_self, storeL, List.set_cons_zero, List.set_cons_succ, footOf, true_and, and_true, Nat.reduceLeDiff, Nat.le_refl, Nat.reduceMul, Nat.reduceLT, List.nil_append, List.cons_append, List.length_set, ends_normal, ends_ret, endK_apply, resV_tmp, tupleV, binV, unV, eqV, Bool.not_true, Bool.not_false, BEq.rfl, Bool.true_beq, Bool.false_beq, beq_true, beq_false, Nat.sub_self, List.range'_zero, decide_true, decide_false, List.not_mem_nil, false_implies, implies_true, Bool.true_and, Bool.and_true, drawn, pairOk, disj, quietAt, Bool.bne_false, Bool.bne_true, Bool.false_eq_true, applyUpd, Int.reduceEq, Int.reduceNeg]
  refine hq _ _ (fun j hj => ?_) h1
  have h1 : ∀ k, 10 ≤ k → ¬ j = k := fun k hk => by omega
  simp only [get_cons, h1 57 (by omega), h1 58 (by omega), h1 59 (by omega), if_false]

theorem d16_8d_gen (h31 : tbl 31 = some fun31) (h32 : tbl 32 = some fun32) (h40 : tbl 40 = some fun40) {L : List Node} {wk id : Int} (hr : HeapAt s0 s p m q L wk) {j : Nat} (hj : j < L.length) (hid : (L.getD j (0, 0)).1 = id) (hL : L.length < 2 ^ 40)
    (g0 : e.get 0 = some (.pointer (some ⟨p, 0, none⟩))) (g8 : e.get 8 = some (ik id))
    (hq : ∀ (e' : Env) (s' : St), HeapAt s0 s' p m q (downL L.length L j).1 (addW (downL L.length L j).2 wk) → Q .normal e' s') : WCode (fun k => call tbl ov k) d16_8d e s Q := by
  have hr0 := hr
  obtain ⟨es, ⟨pm, pq, mq, lp, lm, lq, ⟨t, cap, hp, hcap, c, r, hqq, hlen, hct⟩, clock, hm, hmok⟩, hat, hchg⟩ := hr
  have gj := hat.at_ j hj
  rw [hid] at gj
  have x1 := fun g nx (h : g m = some (.map es clock)) => ev_lookup (g := g) (nx := nx) (z := .int .i64 0) (kind_int .i64) hmok h ⟨id, rfl⟩ false
  simp only [d16_8d, d16_8, code16, params, wc_skip, wc_region, wc_draw, wc_seq, wc_cond, wc_block, wc_exit, wc_ret, next_normal, next_exit, next_ret, inBlock_normal, inBlock_ret, inBlock_exit, sq_apply, nrm_apply, drawnK_apply, boolV_bool, ccond_true, ccond_false, wo_nil, wo_cons, wo_guard, wop, bindP_some, cont_some, cont_none, guardV_bool, guardV_undef, gcont_true, gcont_false, gcont_false', ret_apply, aggK_apply, putK_apply, resK_apply, boolK_apply, ccont_apply, wd_nil, wd_cons, dvals_apply, dcont_some, dcont_none, AOp.vals, rd_tmp, rd_const, rd_func, get_cons, mapList, mapOpt, Option.bind_some, Option.map_some, Nat.reduceEqDiff, if_true, if_false, reduceIte, reduceCtorEq, wv_mov, wv_pick, wv_alloc, wv_box, wv_build, wv_load, wv_loadn, wv_store, wv_nilCheck, wv_bin, wv_eq, wv_un, wv_convInt, wv_convSame, wv_fieldAddr, wv_field, wv_fieldn, wv_extract, wv_lenSlice, wv_lenString, wv_mkMap, wv_call, callee_func, wv_indexAddr, wv_lookup, wv_mapUpdate, wv_mapEntry, wv_entryStore, wv_delete, wv_append, wv_slice, wv_mkSlice, wv_buildSlice, wv_index, wv_copy, wv_lenMap, Abs.cellAt, Abs.rowAt, Abs.storeAt, Heap.get_put, List.getElem?_cons_zero, List.getElem?_cons_succ, Nat.zero_add, Nat.reduceAdd, idx, and_self, Int.toNat_natCast, cellsAt, ne_eq, not_true_eq_false, not_false_eq_true, cellList, Value.cells, List.length_cons, List.length_nil, List.all_cons, List.all_nil, isCell, Bool.and_self, storeL, List.set_cons_zero, List.set_cons_succ, footOf, true_and, and_true, Nat.reduceLeDiff, Nat.le_refl, Nat.reduceMul, Nat.reduceLT, List.nil_append, List.cons_append, List.length_set, ends_normal, ends_ret, endK_apply, resV_tmp, tupleV, binV, unV, eqV, Bool.not_true, Bool.not_false, BEq.rfl, Bool.true_beq, Bool.false_beq, beq_true, beq_false, Nat.sub_self, List.range'_zero, decide_true, decide_false, List.not_mem_nil, false_implies, implies_true, Bool.true_and, Bool.and_true, drawn, pairOk, disj, quietAt, Bool.bne_false, Bool.bne_true, Bool.false_eq_true, applyUpd, Int.reduceEq, Int.reduceNeg, g0, g8, hp, hm, x1, gj, lookV]
  refine WCall.mono (down_spec h31 h32 h40 hr0 hj hL) ?_
  intro v s1 h1
  simp only [params, wc_skip, wc_region, wc_draw, wc_seq, wc_cond, wc_block, wc_exit, wc_ret, next_normal, next_exit, next_ret, inBlock_normal, inBlock_ret, inBlock_exit, sq_apply, nrm_apply, drawnK_apply, boolV_bool, ccond_true, ccond_false, wo_nil, wo_cons, wo_guard, wop, bindP_some, cont_some, cont_none, guardV_bool, guardV_undef, gcont_true, gcont_false, gcont_false', ret_apply, aggK_apply, putK_apply, resK_apply, boolK_apply, ccont_apply, wd_nil, wd_cons, dvals_apply, dcont_some, dcont_none, AOp.vals, rd_tmp, rd_const, rd_func, get_cons, mapList, mapOpt, Option.bind_some, Option.map_some, Nat.reduceEqDiff, if_true, if_false, reduceIte, reduceCtorEq, wv_mov, wv_pick, wv_alloc, wv_box, wv_build, wv_load, wv_loadn, wv_store, wv_nilCheck, wv_bin, wv_eq, wv_un, wv_convInt, wv_convSame, wv_fieldAddr, wv_field, wv_fieldn, wv_extract, wv_lenSlice, wv_lenString, wv_mkMap, wv_call, callee_func, wv_indexAddr, wv_lookup, wv_mapUpdate, wv_mapEntry, wv_entryStore, wv_delete, wv_append, wv_slice, wv_mkSlice, wv_buildSlice, wv_index, wv_copy, wv_lenMap, Abs.cellAt, Abs.rowAt, Abs.storeAt, Heap.get_put, List.getElem?_cons_zero, List.getElem?_cons_succ, Nat.zero_add, Nat.reduceAdd, idx, and_self, Int.toNat_natCast, cellsAt, ne_eq, not_true_eq_false, not_false_eq_true, cellList, Value.cells, List.length_cons, List.length_nil, List.all_cons, List.all_nil, isCell, Bool.and_self, storeL, List.set_cons_zero, List.set_cons_succ, footOf, true_and, and_true, Nat.reduceLeDiff, Nat.le_refl, Nat.reduceMul, Nat.reduceLT, List.nil_append, List.cons_append, List.length_set, ends_normal, ends_ret, endK_apply, resV_tmp, tupleV, binV, unV, eqV, Bool.not_true, Bool.not_false, BEq.rfl, Bool.true_beq, Bool.false_beq, beq_true, beq_false, Nat.sub_self, List.range'_zero, decide_true, decide_false, List.not_mem_nil, false_implies, implies_true, Bool.true_and, Bool.and_true, drawn, pairOk, disj, quietAt, Bool.bne_false, Bool.bne_true, Bool.false_eq_true, applyUpd, Int.reduceEq, Int.reduceNeg]
  exact hq _ _ h1

theorem d16_9_gen (hq : ∀ (e' : Env), e'.get 4 = some (.bool true) → Q .ret e' s) : WCode (fun k => call tbl ov k) d16_9 e s Q := by
  simp only [d16_9, code16, params, wc_skip, wc_region, wc_draw, wc_seq, wc_cond, wc_block, wc_exit, wc_ret, next_normal, next_exit, next_ret, inBlock_normal, inBlock_ret, inBlock_exit, sq_apply, nrm_apply, drawnK_apply, boolV_bool, ccond_true, ccond_false, wo_nil, wo_cons, wo_guard, wop, bindP_some, cont_some, cont_none, guardV_bool, guardV_undef, gcont_true, gcont_false, gcont_false', ret_apply, aggK_apply, putK_apply, resK_apply, boolK_apply, ccont_apply, wd_nil, wd_cons, dvals_apply, dcont_some, dcont_none, AOp.vals, rd_tmp, rd_const, rd_func, get_cons, mapList, mapOpt, Option.bind_some, Option.map_some, Nat.reduceEqDiff, if_true, if_false, reduceIte, reduceCtorEq, wv_mov, wv_pick, wv_alloc, wv_box, wv_build, wv_load, wv_loadn, wv_store, wv_nilCheck, wv_bin, wv_eq, wv_un, wv_convInt, wv_convSame, wv_fieldAddr, wv_field, wv_fieldn, wv_extract, wv_lenSlice, wv_lenString, wv_mkMap, wv_call, callee_func, wv_indexAddr, wv_lookup, wv_mapUpdate, wv_mapEntry, wv_entryStore, wv_delete, wv_append, wv_slice, wv_mkSlice, wv_buildSlice, wv_index, wv_copy, wv_lenMap, Abs.cellAt, Abs.rowAt, Abs.storeAt, Heap.get_put, List.getElem?_cons_zero, List.getElem?_cons_succ, Nat.zero_add, Nat.reduceAdd, idx, and_self, Int.toNat_natCast, cellsAt, ne_eq, not_true_eq_false, not_false_eq_true, cellList, Value.cells, List.length_cons, List.length_nil, List.all_cons, List.all_nil, isCell, Bool.and_self, storeL, List.set_cons_zero, List.set_cons_succ, footOf, true_and, and_true, Nat.reduceLeDiff, Nat.le_refl, Nat.reduceMul, Nat.reduceLT, List.nil_append, List.cons_append, List.length_set, ends_normal, ends_ret, endK_apply, resV_tmp, tupleV, binV, unV, eqV, Bool.not_true, Bool.not_false, BEq.rfl, Bool.true_beq, Bool.false_beq, beq_true, beq_false, Nat.sub_self, List.range'_zero, decide_true, decide_false, List.not_mem_nil, false_implies, implies_true, Bool.true_and, Bool.and_true, drawn, pairOk, disj, quietAt, Bool.bne_false, Bool.bne_true, Bool.false_eq_true, applyUpd, Int.reduceEq, Int.reduceNeg]
  exact hq _ rfl

end

/-- The row that a number's going leaves; c were compared. -/
structure DropTo (L : List Node) (id : Int) (L' : List Node) (c : Nat) : Prop where
  ord : Ord L'
  mem : ∀ n, n ∈ L' ↔ (n ∈ L ∧ n.1 ≠ id)
  len : L'.length + 1 = L.length
  few : c ≤ 3 * bitsN L.length

theorem pop_mem {L : List Node} {es : List MapEntry} (h : At L es) {i : Nat} (hi : i < L.length) {id : Int} (hid : (nd L i).1 = id) (n : Node) : n ∈ (swapL L i (L.length - 1)).take (L.length - 1) ↔ (n ∈ L ∧ n.1 ≠ id) := by
  have hg : ∀ j, j < L.length - 1 → nd ((swapL L i (L.length - 1)).take (L.length - 1)) j = if j = i then nd L (L.length - 1) else nd L j := by
    intro j hj
    have : nd ((swapL L i (L.length - 1)).take (L.length - 1)) j = nd (swapL L i (L.length - 1)) j := by
      simp only [nd, List.getD_eq_getElem?_getD, List.getElem?_take, hj, if_true]
    rw [this, swapL_nd L hi (by omega), if_neg (by omega)]
  have hln : ((swapL L i (L.length - 1)).take (L.length - 1)).length = L.length - 1 := by rw [List.length_take, swapL_length]; omega
  rw [mem_nd, mem_nd]
  constructor
  · rintro ⟨j, hj, rfl⟩
    rw [hln] at hj
    rw [hg j hj]
    split
    · rename_i e
      subst e
      exact ⟨⟨_, by omega, rfl⟩, fun he => by have := h.inj (i := L.length - 1) (j := j) (by omega) hi (he.trans hid.symm); omega⟩
    · rename_i e
      exact ⟨⟨_, by omega, rfl⟩, fun he => e (h.inj (i := j) (j := i) (by omega) hi (he.trans hid.symm))⟩
  · rintro ⟨⟨j, hj, rfl⟩, hne⟩
    have hji : j ≠ i := fun e => hne (by rw [e]; exact hid)
    by_cases h1 : j = L.length - 1
    · exact ⟨i, by omega, by rw [hg i (by omega), if_pos rfl, h1]⟩
    · exact ⟨j, by omega, by rw [hg j (by omega), if_neg hji]⟩

theorem drop_none {tbl : FuncId → Option AFun} {ov : CallSem} (h16 : tbl 16 = some fun16) {s : St} {p : Nat} {S : List Nat} {L : List Node} {wk : Int} (h : HP s p S L wk) {id : Int} (hno : ∀ k, ¬ (id, k) ∈ L) :
    WCall (fun k => call tbl ov k) 16 [.pointer (some ⟨p, 0, none⟩), ik id] s fun v s' => v = .bool false ∧ s' = s := by
  refine WCall.of h16 rfl ?_
  obtain ⟨m, sl, t, es, clock, hp, hm, hmok, hat, _⟩ := h.open
  simp only [fun16, code16_eq, params]
  refine d16_01 rfl fun e1 a0 a1 => ?_
  rw [wc_seq]
  rcases at_cases hat id with ⟨i, hi, hid, hg⟩ | ⟨_, hg⟩
  · exact absurd (mem_nd.2 ⟨i, hi, rfl⟩) (by rw [show nd L i = (id, (nd L i).2) by rw [← hid]]; exact hno _)
  · refine d16_2_gen hp hm hmok a0 a1 hg fun e2 b0 b1 b5 b6 => ?_
    rw [next_normal, sq_apply, wc_seq]
    refine d16_3_none b6 fun e3 c4 => ?_
    rw [next_ret, ends_ret]
    simp only [mapList, resV_tmp, c4, params, wc_skip, wc_region, wc_draw, wc_seq, wc_cond, wc_block, wc_exit, wc_ret, next_normal, next_exit, next_ret, inBlock_normal, inBlock_ret, inBlock_exit, sq_apply, nrm_apply, drawnK_apply, boolV_bool, ccond_true, ccond_false, wo_nil, wo_cons, wo_guard, wop, bindP_some, cont_some, cont_none, guardV_bool, guardV_undef, gcont_true, gcont_false, gcont_false', ret_apply, aggK_apply, putK_apply, resK_apply, boolK_apply, ccont_apply, wd_nil, wd_cons, dvals_apply, dcont_some, dcont_none, AOp.vals, rd_tmp, rd_const, rd_func, get_cons, mapList, mapOpt, Option.bind_some, Option.map_some, Nat.reduceEqDiff, if_true, if_false, reduceIte, reduceCtorEq, wv_mov, wv_pick, wv_alloc, wv_box, wv_build, wv_load, wv_loadn, wv_store, wv_nilCheck, wv_bin, wv_eq, wv_un, wv_convInt, wv_convSame, wv_fieldAddr, wv_field, wv_fieldn, wv_extract, wv_lenSlice, wv_lenString, wv_mkMap, wv_call, callee_func, wv_indexAddr, wv_lookup, wv_mapUpdate, wv_mapEntry, wv_entryStore, wv_delete, wv_append, wv_slice, wv_mkSlice, wv_buildSlice, wv_index, wv_copy, wv_lenMap, Abs.cellAt, Abs.rowAt, Abs.storeAt, Heap.get_put, List.getElem?_cons_zero, List.getElem?_cons_succ, Nat.zero_add, Nat.reduceAdd, idx, and_self, Int.toNat_natCast, cellsAt, ne_eq, not_true_eq_false, not_false_eq_true, cellList, Value.cells, List.length_cons, List.length_nil, List.all_cons, List.all_nil, isCell, Bool.and_self, storeL, List.set_cons_zero, List.set_cons_succ, footOf, true_and, and_true, Nat.reduceLeDiff, Nat.le_refl, Nat.reduceMul, Nat.reduceLT, List.nil_append, List.cons_append, List.length_set, ends_normal, ends_ret, endK_apply, resV_tmp, tupleV, binV, unV, eqV, Bool.not_true, Bool.not_false, BEq.rfl, Bool.true_beq, Bool.false_beq, beq_true, beq_false, Nat.sub_self, List.range'_zero, decide_true, decide_false, List.not_mem_nil, false_implies, implies_true, Bool.true_and, Bool.and_true, drawn, pairOk, disj, quietAt, Bool.bne_false, Bool.bne_true, Bool.false_eq_true, applyUpd, Int.reduceEq, Int.reduceNeg]

theorem drop_spec {tbl : FuncId → Option AFun} {ov : CallSem} (h16 : tbl 16 = some fun16) (h30 : tbl 30 = some fun30) (h31 : tbl 31 = some fun31) (h32 : tbl 32 = some fun32) (h40 : tbl 40 = some fun40) {s : St} {p : Nat} {S : List Nat} {L : List Node} {wk : Int} (h : HP s p S L wk) (ho : Ord L) (hL : L.length < 2 ^ 30) {id k0 : Int} (hin : (id, k0) ∈ L) :
    WCall (fun k => call tbl ov k) 16 [.pointer (some ⟨p, 0, none⟩), ik id] s fun v s' =>
      v = .bool true ∧ ∃ L' c, HP s' p S L' (addW c wk) ∧ Chg S s s' ∧ DropTo L id L' c := by
  refine WCall.of h16 rfl ?_
  have h0 : 0 < L.length := List.length_pos_of_mem hin
  obtain ⟨m, ⟨q, es, rfl, hrep, hat⟩ | ⟨rfl, rfl, _⟩⟩ := h
  · have hrep0 := hrep
    obtain ⟨pm, pq, mq, lp, lm, lq, ⟨t, cap, hp, hcap, c, r, hqq, hlen, hct⟩, clock, hm, hmok⟩ := hrep
    simp only [fun16, code16_eq, params]
    refine d16_01 rfl fun e1 a0 a1 => ?_
    rw [wc_seq]
    rcases at_cases hat id with ⟨i, hi, hid, hg⟩ | ⟨hno, _⟩
    · refine d16_2_gen hp hm hmok a0 a1 hg fun e2 b0 b1 b5 b6 => ?_
      rw [next_normal, sq_apply, wc_seq]
      refine d16_3_some b6 fun e3 hc => ?_
      rw [next_normal, sq_apply, wc_seq]
      have c0 := (hc 0 (by omega)).trans (b0.trans a0)
      have c1 := (hc 1 (by omega)).trans (b1.trans a1)
      have c5 := (hc 5 (by omega)).trans b5
      refine d16_4_gen hp h0 (by omega) c0 fun e4 i0 i1 i5 i7 => ?_
      rw [next_normal, sq_apply, wc_seq]
      have hlast : L.length - 1 < L.length := by omega
      refine d16_5_gen h32 (s0 := s) ⟨es, hrep0, hat, Chg.refl _ _⟩ hi hlast (i0.trans c0) (i5.trans c5) i7 fun e5 s5 h5 hr5 => ?_
      rw [next_normal, sq_apply, wc_seq]
      obtain ⟨es5, hrep5, hat5, hchg5⟩ := hr5
      have hl5 := swapL_length L i (L.length - 1)
      refine d16_6_gen hrep5 (n := L.length - 1) (by omega) ((h5 0 (by omega)).trans (i0.trans c0)) ((h5 7 (by omega)).trans i7) fun e6 s6 h6 hr6 hchg6 => ?_
      rw [next_normal, sq_apply, wc_seq]
      refine d16_7_gen hr6 (id := id) ((h6 0 (by omega)).trans ((h5 0 (by omega)).trans (i0.trans c0))) ((h6 1 (by omega)).trans ((h5 1 (by omega)).trans (i1.trans c1))) fun e7 s7 h7 hr7 hchg7 => ?_
      rw [next_normal, sq_apply, wc_seq]
      obtain ⟨clock5, _, hmok5⟩ := hrep5.hm
      have hlid : (nd (swapL L i (L.length - 1)) (L.length - 1)).1 = id := by
        rw [swapL_nd L hi hlast, if_pos rfl]; exact hid
      have hat7 := hat5.pop hmok5 (n := L.length - 1) (by omega) hlid
      have hc7 : Chg [p, m, q] s s7 := (hchg5.trans (hchg6.sub (by simp))).trans (hchg7.sub (by simp))
      have f0 := (h7 0 (by omega)).trans ((h6 0 (by omega)).trans ((h5 0 (by omega)).trans (i0.trans c0)))
      have f5 := (h7 5 (by omega)).trans ((h6 5 (by omega)).trans ((h5 5 (by omega)).trans (i5.trans c5)))
      have f7 := (h7 7 (by omega)).trans ((h6 7 (by omega)).trans ((h5 7 (by omega)).trans i7))
      have hpm := pop_mem hat hi hid
      have hln : ((swapL L i (L.length - 1)).take (L.length - 1)).length = L.length - 1 := by rw [List.length_take, hl5]; omega
      rw [d16_8_eq, wc_seq]
      by_cases hlt : i < L.length - 1
      · have hw := ho.drop (i := i) (by omega)
        generalize hM : (swapL L i (L.length - 1)).take (L.length - 1) = M at *
        refine d16_8a_gen f5 f7 (decide_eq_true hlt) fun e8 h8 g48 => ?_
        rw [next_normal, sq_apply, wc_cond, rd_tmp, g48, boolV_bool, bindP_some, ccond_true, wc_seq]
        refine d16_8b_gen hr7 (i := i) (by omega) ((h8 0 (by omega)).trans f0) ((h8 5 (by omega)).trans f5) fun e9 j0 j5 j8 => ?_
        rw [next_normal, sq_apply, wc_seq]
        refine d16_8c_gen h30 h32 h40 (s0 := s) ⟨_, hr7, hat7, hc7⟩ (i := i) (by omega) (by omega) (j0.trans ((h8 0 (by omega)).trans f0)) (j5.trans ((h8 5 (by omega)).trans f5)) fun e10 s10 h10 hr10 => ?_
        rw [next_normal, sq_apply]
        obtain ⟨j, hj, hnj, hd⟩ := upL_ord i M i (by omega) (Nat.le_refl _) hw
        have hul := upL_length i M i
        refine d16_8d_gen h31 h32 h40 hr10 (j := j) (by omega) (id := (nd M i).1) (by show (nd _ j).1 = _; rw [hnj]) (by omega) ((h10 0 (by omega)).trans (j0.trans ((h8 0 (by omega)).trans f0))) ((h10 8 (by omega)).trans j8) fun e11 s11 hr11 => ?_
        rw [next_normal, sq_apply]
        refine d16_9_gen fun e12 k4 => ?_
        rw [ends_ret]
        simp only [mapList, resV_tmp, k4, bindP_some, Option.bind_some, Option.map_some, endK_apply, tupleV]
        obtain ⟨es11, hr11, hat11, hc11⟩ := hr11
        rw [addW_add] at hr11
        have hdl := downL_length (upL i M i).1.length (upL i M i).1 j
        refine ⟨trivial, _, _, ⟨m, .inl ⟨q, es11, rfl, hr11, hat11⟩⟩, hc11, downL_ord _ _ _ (by omega) (by omega) hd, fun n => ?_, by omega, ?_⟩
        · rw [downL_mem _ _ _ (by omega), upL_mem _ _ _ (by omega)]; exact hpm n
        · have := few_le M (upL i M i).1 i j (L.length - 1) hln (by omega) hlt
          have hb := bitsN_mono (m := L.length - 1) (n := L.length) (by omega)
          rw [hul, hln]; omega
      · refine d16_8a_gen f5 f7 (decide_eq_false hlt) fun e8 h8 g48 => ?_
        rw [next_normal, sq_apply, wc_cond, rd_tmp, g48, boolV_bool, bindP_some, ccond_false, wc_skip, next_normal, sq_apply]
        refine d16_9_gen fun e12 k4 => ?_
        rw [ends_ret]
        simp only [mapList, resV_tmp, k4, bindP_some, Option.bind_some, Option.map_some, endK_apply, tupleV]
        have hil : i = L.length - 1 := by omega
        refine ⟨trivial, _, 0, ⟨m, .inl ⟨q, _, rfl, hr7, hat7⟩⟩, hc7, ?_, hpm, by omega, Nat.zero_le _⟩
        have hself : ∀ j, nd (swapL L i (L.length - 1)) j = nd L j := by
          intro j
          rw [swapL_nd L hi hlast, hil]
          split
          · rename_i e; rw [e]
          · rfl
        intro cc hc0 hcl
        have hg : ∀ j, j < L.length - 1 → nd ((swapL L i (L.length - 1)).take (L.length - 1)) j = nd L j := by
          intro j hj
          rw [← hself j]
          simp only [nd, List.getD_eq_getElem?_getD, List.getElem?_take, hj, if_true]
        rw [hln] at hcl
        rw [hg _ (by omega), hg _ hcl]
        exact ho cc hc0 (by omega)
    · obtain ⟨i, hi, he⟩ := mem_nd.1 hin
      exact absurd (by rw [he]) (hno i hi)
  · simp at h0

end Go.Proofs.Ytaigiehdnhehnaa
