/-
  The sum of bytes: the program's and the document's.
-/
import Derived.Test.YtaigiehdnhehnaaR1FA
import Derived.Test.YtaigiehdnhehnaaA29
set_option maxRecDepth 100000
set_option linter.unusedVariables false
set_option linter.unusedSimpArgs false
namespace Go.Proofs.Ytaigiehdnhehnaa
open Go Go.Abs

theorem wrap64 {n : Int} (h1 : -9223372036854775808 ≤ n) (h2 : n ≤ 9223372036854775807) : IntKind.i64.wrap n = n := by
  have : IntKind.i64.wrap n = (if n % 18446744073709551616 ≥ 9223372036854775808 then n % 18446744073709551616 - 18446744073709551616 else n % 18446744073709551616) := by
    simp [IntKind.wrap, IntKind.signed, IntKind.bits]
  rw [this]
  split <;> omega

abbrev in64 (n : Int) : Value := .int .i64 n

def poly : BitVec 32 := 0xedb88320#32

theorem and_poly (y : BitVec 32) : binV .and (.int .u32 3988292384) (u32 y) = some (u32 (poly &&& y)) := bin_and poly y
theorem xor_poly (x : BitVec 32) : binV .xor (u32 x) (.int .u32 3988292384) = some (u32 (x ^^^ poly)) := bin_xor x poly

/-- One bit. -/
def s1 (x : BitVec 32) : BitVec 32 := (x >>> 1) ^^^ (poly &&& -(x &&& 1#32))
def s8 : Nat → BitVec 32 → BitVec 32
  | 0, x => x
  | n + 1, x => s8 n (s1 x)
def crcL : List Int → BitVec 32 → BitVec 32
  | [], c => c
  | z :: zs, c => crcL zs (s8 8 (c ^^^ BitVec.ofInt 32 z))
def sumL (zs : List Int) : BitVec 32 := ~~~ crcL zs (BitVec.allOnes 32)

theorem crcL_append (a b : List Int) (c : BitVec 32) : crcL (a ++ b) c = crcL b (crcL a c) := by
  induction a generalizing c with
  | nil => rfl
  | cons z a ih => exact ih _

theorem crcL_take {zs : List Int} {i : Nat} (hi : i < zs.length) (c : BitVec 32) : crcL (zs.take (i + 1)) c = s8 8 (crcL (zs.take i) c ^^^ BitVec.ofInt 32 (zs.getD i 0)) := by
  have h : zs.take (i + 1) = zs.take i ++ [zs.getD i 0] := by
    rw [List.take_add_one, List.getElem?_eq_getElem hi]
    simp [List.getD_eq_getElem?_getD, hi]
  rw [h, crcL_append]; rfl

def u_0 : ACode := match code28 with | .seq x _ => x | _ => .skip
def u_1 : ACode := match code28 with | .seq _ (.seq x _) => x | _ => .skip
def u_2 : ACode := match code28 with | .seq _ (.seq _ (.seq x _)) => x | _ => .skip
def u_3 : ACode := match code28 with | .seq _ (.seq _ (.seq _ x)) => x | _ => .skip
def u2i : ACode := match u_2 with | .seq x _ => x | _ => .skip
def u2h : ACode := match u_2 with | .seq _ (.block _ (.loop _ (.seq x _))) => x | _ => .skip
def u2b : ACode := match u_2 with | .seq _ (.block _ (.loop _ (.seq _ (.seq _ (.seq (.block _ x) _))))) => x | _ => .skip
def u2n : ACode := match u_2 with | .seq _ (.block _ (.loop _ (.seq _ (.seq _ (.seq _ x))))) => x | _ => .skip
def u2ba : ACode := match u2b with | .seq x _ => x | _ => .skip
def u2bb : ACode := match u2b with | .seq _ (.seq x _) => x | _ => .skip
def u2bc : ACode := match u2b with | .seq _ (.seq _ x) => x | _ => .skip
def u3i : ACode := match u2bc with | .seq x _ => x | _ => .skip
def u3h : ACode := match u2bc with | .seq _ (.block _ (.loop _ (.seq x _))) => x | _ => .skip
def u3b : ACode := match u2bc with | .seq _ (.block _ (.loop _ (.seq _ (.seq _ (.seq (.block _ x) _))))) => x | _ => .skip
def u3n : ACode := match u2bc with | .seq _ (.block _ (.loop _ (.seq _ (.seq _ (.seq _ x))))) => x | _ => .skip
theorem code28_eq : code28 = .seq u_0 (.seq u_1 (.seq u_2 u_3)) := rfl
def u3L : ACode := .block 2 (.loop [3, 6, 7, 8, 16] (.seq u3h (.seq (.cond (.tmp 17) .skip (.exit 2)) (.seq (.block 3 u3b) u3n))))
theorem u_2_eq : u_2 = .seq u2i (.block 0 (.loop [3, 6, 7, 8] (.seq u2h (.seq (.cond (.tmp 9) .skip (.exit 0)) (.seq (.block 1 (.seq u2ba (.seq u2bb (.seq u3i u3L)))) u2n))))) := rfl

section
variable {tbl : FuncId → Option AFun} {ov : CallSem} {s s0 : St} {e : Env} {v : Value} {zs : List Int}

theorem u2i_gen (hb : BytesV s v zs) (g0 : e.get 0 = some v) : WCode (fun k => call tbl ov k) u2i e s fun x e' s' => x = .normal ∧ e'.get 3 = e.get 3 ∧ e'.get 6 = some v ∧ e'.get 7 = some (in64 zs.length) ∧ e'.get 8 = some (in64 0) ∧ s' = s := by
  obtain ⟨a, cap, rfl⟩ := hb.len
  simp only [u2i, u_2, code28, params, wc_skip, wc_region, wc_draw, wc_seq, wc_cond, wc_block, wc_exit, wc_ret, next_normal, next_exit, next_ret, inBlock_normal, inBlock_ret, inBlock_exit, sq_apply, nrm_apply, drawnK_apply, boolV_bool, ccond_true, ccond_false, wo_nil, wo_cons, wo_guard, wop, bindP_some, cont_some, cont_none, guardV_bool, guardV_undef, gcont_true, gcont_false, gcont_false', ret_apply, aggK_apply, putK_apply, resK_apply, boolK_apply, ccont_apply, wd_nil, wd_cons, dvals_apply, dcont_some, dcont_none, AOp.vals, rd_tmp, rd_const, rd_func, get_cons, mapList, mapOpt, Option.bind_some, Option.map_some, Nat.reduceEqDiff, if_true, if_false, reduceIte, reduceCtorEq, wv_mov, wv_pick, wv_alloc, wv_box, wv_build, wv_load, wv_loadn, wv_store, wv_nilCheck, wv_bin, wv_eq, wv_un, wv_convInt, wv_convSame, wv_fieldAddr, wv_field, wv_fieldn, wv_extract, wv_lenSlice, wv_lenString, wv_mkMap, wv_call, callee_func, wv_indexAddr, wv_lookup, wv_mapUpdate, wv_mapEntry, wv_entryStore, wv_delete, wv_append, wv_slice, wv_mkSlice, wv_buildSlice, wv_index, wv_copy, wv_lenMap, Abs.cellAt, Abs.rowAt, Abs.storeAt, Heap.get_put, List.getElem?_cons_zero, List.getElem?_cons_succ, Nat.zero_add, Nat.reduceAdd, idx, and_self, Int.toNat_natCast, cellsAt, ne_eq, not_true_eq_false, not_false_eq_true, cellList, Value.cells, List.length_cons, List.length_nil, List.all_cons, List.all_nil, isCell, Bool.and_self, storeL, List.set_cons_zero, List.set_cons_succ, footOf, true_and, and_true, Nat.reduceLeDiff, Nat.le_refl, Nat.reduceMul, Nat.reduceLT, List.nil_append, List.cons_append, List.length_set, ends_normal, ends_ret, endK_apply, resV_tmp, tupleV, eqV, Bool.not_true, Bool.not_false, BEq.rfl, Bool.true_beq, Bool.false_beq, beq_true, beq_false, Nat.sub_self, List.range'_zero, decide_true, decide_false, List.not_mem_nil, false_implies, implies_true, Bool.true_and, Bool.and_true, drawn, pairOk, disj, quietAt, Bool.bne_false, Bool.bne_true, Bool.false_eq_true, applyUpd, Int.reduceEq, Int.reduceNeg, bin_add, bin_sub, bin_mul, bin_lss, bin_leq, bin_gtr, bin_geq, bin_eql, bin_neq, un_not, wv_cap, wv_appendMake, wv_clear, wv_toString, wv_toBytes, wv_sameB, wv_mkIface, wv_minmax, g0]

theorem u2h_gen {i n : Nat} (g7 : e.get 7 = some (in64 n)) (g8 : e.get 8 = some (in64 i)) : WCode (fun k => call tbl ov k) u2h e s fun x e' s' => x = .normal ∧ (∀ j, j < 9 → e'.get j = e.get j) ∧ e'.get 9 = some (.bool (decide (i < n))) ∧ s' = s := by
  have d : decide ((i : Int) < (n : Int)) = decide (i < n) := by simp
  simp only [u2h, u_2, code28, params, wc_skip, wc_region, wc_draw, wc_seq, wc_cond, wc_block, wc_exit, wc_ret, next_normal, next_exit, next_ret, inBlock_normal, inBlock_ret, inBlock_exit, sq_apply, nrm_apply, drawnK_apply, boolV_bool, ccond_true, ccond_false, wo_nil, wo_cons, wo_guard, wop, bindP_some, cont_some, cont_none, guardV_bool, guardV_undef, gcont_true, gcont_false, gcont_false', ret_apply, aggK_apply, putK_apply, resK_apply, boolK_apply, ccont_apply, wd_nil, wd_cons, dvals_apply, dcont_some, dcont_none, AOp.vals, rd_tmp, rd_const, rd_func, get_cons, mapList, mapOpt, Option.bind_some, Option.map_some, Nat.reduceEqDiff, if_true, if_false, reduceIte, reduceCtorEq, wv_mov, wv_pick, wv_alloc, wv_box, wv_build, wv_load, wv_loadn, wv_store, wv_nilCheck, wv_bin, wv_eq, wv_un, wv_convInt, wv_convSame, wv_fieldAddr, wv_field, wv_fieldn, wv_extract, wv_lenSlice, wv_lenString, wv_mkMap, wv_call, callee_func, wv_indexAddr, wv_lookup, wv_mapUpdate, wv_mapEntry, wv_entryStore, wv_delete, wv_append, wv_slice, wv_mkSlice, wv_buildSlice, wv_index, wv_copy, wv_lenMap, Abs.cellAt, Abs.rowAt, Abs.storeAt, Heap.get_put, List.getElem?_cons_zero, List.getElem?_cons_succ, Nat.zero_add, Nat.reduceAdd, idx, and_self, Int.toNat_natCast, cellsAt, ne_eq, not_true_eq_false, not_false_eq_true, cellList, Value.cells, List.length_cons, List.length_nil, List.all_cons, List.all_nil, isCell, Bool.and_self, storeL, List.set_cons_zero, List.set_cons_succ, footOf, true_and, and_true, Nat.reduceLeDiff, Nat.le_refl, Nat.reduceMul, Nat.reduceLT, List.nil_append, List.cons_append, List.length_set, ends_normal, ends_ret, endK_apply, resV_tmp, tupleV, eqV, Bool.not_true, Bool.not_false, BEq.rfl, Bool.true_beq, Bool.false_beq, beq_true, beq_false, Nat.sub_self, List.range'_zero, decide_true, decide_false, List.not_mem_nil, false_implies, implies_true, Bool.true_and, Bool.and_true, drawn, pairOk, disj, quietAt, Bool.bne_false, Bool.bne_true, Bool.false_eq_true, applyUpd, Int.reduceEq, Int.reduceNeg, bin_add, bin_sub, bin_mul, bin_lss, bin_leq, bin_gtr, bin_geq, bin_eql, bin_neq, un_not, wv_cap, wv_appendMake, wv_clear, wv_toString, wv_toBytes, wv_sameB, wv_mkIface, wv_minmax, g7, g8, d]
  intro j hj
  simp (disch := omega) only [get_cons, if_neg]

theorem u2b_gen (hb : BytesV s v zs) {i : Nat} (hi : i < zs.length) {x : BitVec 32} (g3 : e.get 3 = some (u32 x)) (g6 : e.get 6 = some v) (g8 : e.get 8 = some (in64 i)) :
    WCode (fun k => call tbl ov k) (.seq u2ba u2bb) e s fun y e' s' => y = .normal ∧ e'.get 3 = some (u32 (x ^^^ BitVec.ofInt 32 (zs.getD i 0))) ∧ e'.get 6 = e.get 6 ∧ e'.get 7 = e.get 7 ∧ e'.get 8 = e.get 8 ∧ s' = s := by
  obtain ⟨id, o, cap, c, t, sz, ro, rfl, h1, h2, h3, h4, h5⟩ := hb.row (by omega)
  have hz := hb.1 (zs.getD i 0) (by
    rw [List.getD_eq_getElem?_getD, List.getElem?_eq_getElem hi, Option.getD_some]
    exact List.getElem_mem hi)
  have d2 : (0 : Int) ≤ i := by omega
  have d3 : (i : Int) < (zs.length : Nat) := by omega
  have hg := h5 i hi
  have hx := bin_xor x (BitVec.ofInt 32 (zs.getD i 0))
  simp only [u2ba, u2bb, u2b, u_2, code28, params, wc_skip, wc_region, wc_draw, wc_seq, wc_cond, wc_block, wc_exit, wc_ret, next_normal, next_exit, next_ret, inBlock_normal, inBlock_ret, inBlock_exit, sq_apply, nrm_apply, drawnK_apply, boolV_bool, ccond_true, ccond_false, wo_nil, wo_cons, wo_guard, wop, bindP_some, cont_some, cont_none, guardV_bool, guardV_undef, gcont_true, gcont_false, gcont_false', ret_apply, aggK_apply, putK_apply, resK_apply, boolK_apply, ccont_apply, wd_nil, wd_cons, dvals_apply, dcont_some, dcont_none, AOp.vals, rd_tmp, rd_const, rd_func, get_cons, mapList, mapOpt, Option.bind_some, Option.map_some, Nat.reduceEqDiff, if_true, if_false, reduceIte, reduceCtorEq, wv_mov, wv_pick, wv_alloc, wv_box, wv_build, wv_load, wv_loadn, wv_store, wv_nilCheck, wv_bin, wv_eq, wv_un, wv_convInt, wv_convSame, wv_fieldAddr, wv_field, wv_fieldn, wv_extract, wv_lenSlice, wv_lenString, wv_mkMap, wv_call, callee_func, wv_indexAddr, wv_lookup, wv_mapUpdate, wv_mapEntry, wv_entryStore, wv_delete, wv_append, wv_slice, wv_mkSlice, wv_buildSlice, wv_index, wv_copy, wv_lenMap, Abs.cellAt, Abs.rowAt, Abs.storeAt, Heap.get_put, List.getElem?_cons_zero, List.getElem?_cons_succ, Nat.zero_add, Nat.reduceAdd, idx, and_self, Int.toNat_natCast, cellsAt, ne_eq, not_true_eq_false, not_false_eq_true, cellList, Value.cells, List.length_cons, List.length_nil, List.all_cons, List.all_nil, isCell, Bool.and_self, storeL, List.set_cons_zero, List.set_cons_succ, footOf, true_and, and_true, Nat.reduceLeDiff, Nat.le_refl, Nat.reduceMul, Nat.reduceLT, List.nil_append, List.cons_append, List.length_set, ends_normal, ends_ret, endK_apply, resV_tmp, tupleV, eqV, Bool.not_true, Bool.not_false, BEq.rfl, Bool.true_beq, Bool.false_beq, beq_true, beq_false, Nat.sub_self, List.range'_zero, decide_true, decide_false, List.not_mem_nil, false_implies, implies_true, Bool.true_and, Bool.and_true, drawn, pairOk, disj, quietAt, Bool.bne_false, Bool.bne_true, Bool.false_eq_true, applyUpd, Int.reduceEq, Int.reduceNeg, bin_add, bin_sub, bin_mul, bin_lss, bin_leq, bin_gtr, bin_geq, bin_eql, bin_neq, un_not, wv_cap, wv_appendMake, wv_clear, wv_toString, wv_toBytes, wv_sameB, wv_mkIface, wv_minmax, g3, g6, g8, d2, d3, Nat.mul_one, h3, hg, conv_u8_u32 hz, hx]

theorem u3h_gen {k : Nat} (g16 : e.get 16 = some (in64 k)) : WCode (fun k => call tbl ov k) u3h e s fun x e' s' => x = .normal ∧ (∀ j, j < 17 → e'.get j = e.get j) ∧ e'.get 17 = some (.bool (decide (k < 8))) ∧ s' = s := by
  have d : decide ((k : Int) < 8) = decide (k < 8) := by
    have : ((k : Int) < 8) ↔ k < 8 := by omega
    simp only [this]
  simp only [u3h, u2bc, u2b, u_2, code28, params, wc_skip, wc_region, wc_draw, wc_seq, wc_cond, wc_block, wc_exit, wc_ret, next_normal, next_exit, next_ret, inBlock_normal, inBlock_ret, inBlock_exit, sq_apply, nrm_apply, drawnK_apply, boolV_bool, ccond_true, ccond_false, wo_nil, wo_cons, wo_guard, wop, bindP_some, cont_some, cont_none, guardV_bool, guardV_undef, gcont_true, gcont_false, gcont_false', ret_apply, aggK_apply, putK_apply, resK_apply, boolK_apply, ccont_apply, wd_nil, wd_cons, dvals_apply, dcont_some, dcont_none, AOp.vals, rd_tmp, rd_const, rd_func, get_cons, mapList, mapOpt, Option.bind_some, Option.map_some, Nat.reduceEqDiff, if_true, if_false, reduceIte, reduceCtorEq, wv_mov, wv_pick, wv_alloc, wv_box, wv_build, wv_load, wv_loadn, wv_store, wv_nilCheck, wv_bin, wv_eq, wv_un, wv_convInt, wv_convSame, wv_fieldAddr, wv_field, wv_fieldn, wv_extract, wv_lenSlice, wv_lenString, wv_mkMap, wv_call, callee_func, wv_indexAddr, wv_lookup, wv_mapUpdate, wv_mapEntry, wv_entryStore, wv_delete, wv_append, wv_slice, wv_mkSlice, wv_buildSlice, wv_index, wv_copy, wv_lenMap, Abs.cellAt, Abs.rowAt, Abs.storeAt, Heap.get_put, List.getElem?_cons_zero, List.getElem?_cons_succ, Nat.zero_add, Nat.reduceAdd, idx, and_self, Int.toNat_natCast, cellsAt, ne_eq, not_true_eq_false, not_false_eq_true, cellList, Value.cells, List.length_cons, List.length_nil, List.all_cons, List.all_nil, isCell, Bool.and_self, storeL, List.set_cons_zero, List.set_cons_succ, footOf, true_and, and_true, Nat.reduceLeDiff, Nat.le_refl, Nat.reduceMul, Nat.reduceLT, List.nil_append, List.cons_append, List.length_set, ends_normal, ends_ret, endK_apply, resV_tmp, tupleV, eqV, Bool.not_true, Bool.not_false, BEq.rfl, Bool.true_beq, Bool.false_beq, beq_true, beq_false, Nat.sub_self, List.range'_zero, decide_true, decide_false, List.not_mem_nil, false_implies, implies_true, Bool.true_and, Bool.and_true, drawn, pairOk, disj, quietAt, Bool.bne_false, Bool.bne_true, Bool.false_eq_true, applyUpd, Int.reduceEq, Int.reduceNeg, bin_add, bin_sub, bin_mul, bin_lss, bin_leq, bin_gtr, bin_geq, bin_eql, bin_neq, un_not, wv_cap, wv_appendMake, wv_clear, wv_toString, wv_toBytes, wv_sameB, wv_mkIface, wv_minmax, g16, d]
  intro j hj
  simp (disch := omega) only [get_cons, if_neg]

theorem u3b_gen {x : BitVec 32} (g3 : e.get 3 = some (u32 x)) :
    WCode (fun k => call tbl ov k) u3b e s fun y e' s' => y = .normal ∧ e'.get 3 = some (u32 (s1 x)) ∧ e'.get 6 = e.get 6 ∧ e'.get 7 = e.get 7 ∧ e'.get 8 = e.get 8 ∧ e'.get 16 = e.get 16 ∧ s' = s := by
  simp only [u3b, u2bc, u2b, u_2, code28, params, wc_skip, wc_region, wc_draw, wc_seq, wc_cond, wc_block, wc_exit, wc_ret, next_normal, next_exit, next_ret, inBlock_normal, inBlock_ret, inBlock_exit, sq_apply, nrm_apply, drawnK_apply, boolV_bool, ccond_true, ccond_false, wo_nil, wo_cons, wo_guard, wop, bindP_some, cont_some, cont_none, guardV_bool, guardV_undef, gcont_true, gcont_false, gcont_false', ret_apply, aggK_apply, putK_apply, resK_apply, boolK_apply, ccont_apply, wd_nil, wd_cons, dvals_apply, dcont_some, dcont_none, AOp.vals, rd_tmp, rd_const, rd_func, get_cons, mapList, mapOpt, Option.bind_some, Option.map_some, Nat.reduceEqDiff, if_true, if_false, reduceIte, reduceCtorEq, wv_mov, wv_pick, wv_alloc, wv_box, wv_build, wv_load, wv_loadn, wv_store, wv_nilCheck, wv_bin, wv_eq, wv_un, wv_convInt, wv_convSame, wv_fieldAddr, wv_field, wv_fieldn, wv_extract, wv_lenSlice, wv_lenString, wv_mkMap, wv_call, callee_func, wv_indexAddr, wv_lookup, wv_mapUpdate, wv_mapEntry, wv_entryStore, wv_delete, wv_append, wv_slice, wv_mkSlice, wv_buildSlice, wv_index, wv_copy, wv_lenMap, Abs.cellAt, Abs.rowAt, Abs.storeAt, Heap.get_put, List.getElem?_cons_zero, List.getElem?_cons_succ, Nat.zero_add, Nat.reduceAdd, idx, and_self, Int.toNat_natCast, cellsAt, ne_eq, not_true_eq_false, not_false_eq_true, cellList, Value.cells, List.length_cons, List.length_nil, List.all_cons, List.all_nil, isCell, Bool.and_self, storeL, List.set_cons_zero, List.set_cons_succ, footOf, true_and, and_true, Nat.reduceLeDiff, Nat.le_refl, Nat.reduceMul, Nat.reduceLT, List.nil_append, List.cons_append, List.length_set, ends_normal, ends_ret, endK_apply, resV_tmp, tupleV, eqV, Bool.not_true, Bool.not_false, BEq.rfl, Bool.true_beq, Bool.false_beq, beq_true, beq_false, Nat.sub_self, List.range'_zero, decide_true, decide_false, List.not_mem_nil, false_implies, implies_true, Bool.true_and, Bool.and_true, drawn, pairOk, disj, quietAt, Bool.bne_false, Bool.bne_true, Bool.false_eq_true, applyUpd, Int.reduceEq, Int.reduceNeg, bin_add, bin_sub, bin_mul, bin_lss, bin_leq, bin_gtr, bin_geq, bin_eql, bin_neq, un_not, wv_cap, wv_appendMake, wv_clear, wv_toString, wv_toBytes, wv_sameB, wv_mkIface, wv_minmax, g3, bin_shr1, bin_and_1, un_neg, and_poly, bin_xor]
  rfl

theorem u3n_gen {k : Nat} (hk : k < 100) (g16 : e.get 16 = some (in64 k)) : WCode (fun k => call tbl ov k) u3n e s fun x e' s' => x = .normal ∧ (∀ j, j < 9 → e'.get j = e.get j) ∧ e'.get 16 = some (in64 (k + 1 : Nat)) ∧ s' = s := by
  have w : IntKind.i64.wrap ((k : Int) + 1) = ((k + 1 : Nat) : Int) := by rw [wrap64 (by omega) (by omega)]; omega
  simp only [u3n, u2bc, u2b, u_2, code28, params, wc_skip, wc_region, wc_draw, wc_seq, wc_cond, wc_block, wc_exit, wc_ret, next_normal, next_exit, next_ret, inBlock_normal, inBlock_ret, inBlock_exit, sq_apply, nrm_apply, drawnK_apply, boolV_bool, ccond_true, ccond_false, wo_nil, wo_cons, wo_guard, wop, bindP_some, cont_some, cont_none, guardV_bool, guardV_undef, gcont_true, gcont_false, gcont_false', ret_apply, aggK_apply, putK_apply, resK_apply, boolK_apply, ccont_apply, wd_nil, wd_cons, dvals_apply, dcont_some, dcont_none, AOp.vals, rd_tmp, rd_const, rd_func, get_cons, mapList, mapOpt, Option.bind_some, Option.map_some, Nat.reduceEqDiff, if_true, if_false, reduceIte, reduceCtorEq, wv_mov, wv_pick, wv_alloc, wv_box, wv_build, wv_load, wv_loadn, wv_store, wv_nilCheck, wv_bin, wv_eq, wv_un, wv_convInt, wv_convSame, wv_fieldAddr, wv_field, wv_fieldn, wv_extract, wv_lenSlice, wv_lenString, wv_mkMap, wv_call, callee_func, wv_indexAddr, wv_lookup, wv_mapUpdate, wv_mapEntry, wv_entryStore, wv_delete, wv_append, wv_slice, wv_mkSlice, wv_buildSlice, wv_index, wv_copy, wv_lenMap, Abs.cellAt, Abs.rowAt, Abs.storeAt, Heap.get_put, List.getElem?_cons_zero, List.getElem?_cons_succ, Nat.zero_add, Nat.reduceAdd, idx, and_self, Int.toNat_natCast, cellsAt, ne_eq, not_true_eq_false, not_false_eq_true, cellList, Value.cells, List.length_cons, List.length_nil, List.all_cons, List.all_nil, isCell, Bool.and_self, storeL, List.set_cons_zero, List.set_cons_succ, footOf, true_and, and_true, Nat.reduceLeDiff, Nat.le_refl, Nat.reduceMul, Nat.reduceLT, List.nil_append, List.cons_append, List.length_set, ends_normal, ends_ret, endK_apply, resV_tmp, tupleV, eqV, Bool.not_true, Bool.not_false, BEq.rfl, Bool.true_beq, Bool.false_beq, beq_true, beq_false, Nat.sub_self, List.range'_zero, decide_true, decide_false, List.not_mem_nil, false_implies, implies_true, Bool.true_and, Bool.and_true, drawn, pairOk, disj, quietAt, Bool.bne_false, Bool.bne_true, Bool.false_eq_true, applyUpd, Int.reduceEq, Int.reduceNeg, bin_add, bin_sub, bin_mul, bin_lss, bin_leq, bin_gtr, bin_geq, bin_eql, bin_neq, un_not, wv_cap, wv_appendMake, wv_clear, wv_toString, wv_toBytes, wv_sameB, wv_mkIface, wv_minmax, g16, w]
  intro j hj
  simp (disch := omega) only [get_cons, if_neg]

theorem u2n_gen {i : Nat} (hi : i < 2 ^ 62) (g8 : e.get 8 = some (in64 i)) : WCode (fun k => call tbl ov k) u2n e s fun x e' s' => x = .normal ∧ (∀ j, j < 8 → e'.get j = e.get j) ∧ e'.get 8 = some (in64 (i + 1 : Nat)) ∧ s' = s := by
  have w : IntKind.i64.wrap ((i : Int) + 1) = ((i + 1 : Nat) : Int) := by rw [wrap64 (by omega) (by omega)]; omega
  simp only [u2n, u_2, code28, params, wc_skip, wc_region, wc_draw, wc_seq, wc_cond, wc_block, wc_exit, wc_ret, next_normal, next_exit, next_ret, inBlock_normal, inBlock_ret, inBlock_exit, sq_apply, nrm_apply, drawnK_apply, boolV_bool, ccond_true, ccond_false, wo_nil, wo_cons, wo_guard, wop, bindP_some, cont_some, cont_none, guardV_bool, guardV_undef, gcont_true, gcont_false, gcont_false', ret_apply, aggK_apply, putK_apply, resK_apply, boolK_apply, ccont_apply, wd_nil, wd_cons, dvals_apply, dcont_some, dcont_none, AOp.vals, rd_tmp, rd_const, rd_func, get_cons, mapList, mapOpt, Option.bind_some, Option.map_some, Nat.reduceEqDiff, if_true, if_false, reduceIte, reduceCtorEq, wv_mov, wv_pick, wv_alloc, wv_box, wv_build, wv_load, wv_loadn, wv_store, wv_nilCheck, wv_bin, wv_eq, wv_un, wv_convInt, wv_convSame, wv_fieldAddr, wv_field, wv_fieldn, wv_extract, wv_lenSlice, wv_lenString, wv_mkMap, wv_call, callee_func, wv_indexAddr, wv_lookup, wv_mapUpdate, wv_mapEntry, wv_entryStore, wv_delete, wv_append, wv_slice, wv_mkSlice, wv_buildSlice, wv_index, wv_copy, wv_lenMap, Abs.cellAt, Abs.rowAt, Abs.storeAt, Heap.get_put, List.getElem?_cons_zero, List.getElem?_cons_succ, Nat.zero_add, Nat.reduceAdd, idx, and_self, Int.toNat_natCast, cellsAt, ne_eq, not_true_eq_false, not_false_eq_true, cellList, Value.cells, List.length_cons, List.length_nil, List.all_cons, List.all_nil, isCell, Bool.and_self, storeL, List.set_cons_zero, List.set_cons_succ, footOf, true_and, and_true, Nat.reduceLeDiff, Nat.le_refl, Nat.reduceMul, Nat.reduceLT, List.nil_append, List.cons_append, List.length_set, ends_normal, ends_ret, endK_apply, resV_tmp, tupleV, eqV, Bool.not_true, Bool.not_false, BEq.rfl, Bool.true_beq, Bool.false_beq, beq_true, beq_false, Nat.sub_self, List.range'_zero, decide_true, decide_false, List.not_mem_nil, false_implies, implies_true, Bool.true_and, Bool.and_true, drawn, pairOk, disj, quietAt, Bool.bne_false, Bool.bne_true, Bool.false_eq_true, applyUpd, Int.reduceEq, Int.reduceNeg, bin_add, bin_sub, bin_mul, bin_lss, bin_leq, bin_gtr, bin_geq, bin_eql, bin_neq, un_not, wv_cap, wv_appendMake, wv_clear, wv_toString, wv_toBytes, wv_sameB, wv_mkIface, wv_minmax, g8, w]
  intro j hj
  simp (disch := omega) only [get_cons, if_neg]

theorem u3_gen {x : BitVec 32} (g3 : e.get 3 = some (u32 x)) :
    WCode (fun k => call tbl ov k) (.seq u3i u3L) e s fun y e' s' =>
      y = .normal ∧ e'.get 3 = some (u32 (s8 8 x)) ∧ e'.get 6 = e.get 6 ∧ e'.get 7 = e.get 7 ∧ e'.get 8 = e.get 8 ∧ s' = s := by
  have h0 : WCode (fun k => call tbl ov k) u3i e s fun y e' s' => y = .normal ∧ (∀ j, j < 9 → e'.get j = e.get j) ∧ e'.get 16 = some (in64 0) ∧ s' = s := by
    simp only [u3i, u2bc, u2b, u_2, code28, params, wc_skip, wc_region, wc_draw, wc_seq, wc_cond, wc_block, wc_exit, wc_ret, next_normal, next_exit, next_ret, inBlock_normal, inBlock_ret, inBlock_exit, sq_apply, nrm_apply, drawnK_apply, boolV_bool, ccond_true, ccond_false, wo_nil, wo_cons, wo_guard, wop, bindP_some, cont_some, cont_none, guardV_bool, guardV_undef, gcont_true, gcont_false, gcont_false', ret_apply, aggK_apply, putK_apply, resK_apply, boolK_apply, ccont_apply, wd_nil, wd_cons, dvals_apply, dcont_some, dcont_none, AOp.vals, rd_tmp, rd_const, rd_func, get_cons, mapList, mapOpt, Option.bind_some, Option.map_some, Nat.reduceEqDiff, if_true, if_false, reduceIte, reduceCtorEq, wv_mov, wv_pick, wv_alloc, wv_box, wv_build, wv_load, wv_loadn, wv_store, wv_nilCheck, wv_bin, wv_eq, wv_un, wv_convInt, wv_convSame, wv_fieldAddr, wv_field, wv_fieldn, wv_extract, wv_lenSlice, wv_lenString, wv_mkMap, wv_call, callee_func, wv_indexAddr, wv_lookup, wv_mapUpdate, wv_mapEntry, wv_entryStore, wv_delete, wv_append, wv_slice, wv_mkSlice, wv_buildSlice, wv_index, wv_copy, wv_lenMap, Abs.cellAt, Abs.rowAt, Abs.storeAt, Heap.get_put, List.getElem?_cons_zero, List.getElem?_cons_succ, Nat.zero_add, Nat.reduceAdd, idx, and_self, Int.toNat_natCast, cellsAt, ne_eq, not_true_eq_false, not_false_eq_true, cellList, Value.cells, List.length_cons, List.length_nil, List.all_cons, List.all_nil, isCell, Bool.and_self, storeL, List.set_cons_zero, List.set_cons_succ, footOf, true_and, and_true, Nat.reduceLeDiff, Nat.le_refl, Nat.reduceMul, Nat.reduceLT, List.nil_append, List.cons_append, List.length_set, ends_normal, ends_ret, endK_apply, resV_tmp, tupleV, eqV, Bool.not_true, Bool.not_false, BEq.rfl, Bool.true_beq, Bool.false_beq, beq_true, beq_false, Nat.sub_self, List.range'_zero, decide_true, decide_false, List.not_mem_nil, false_implies, implies_true, Bool.true_and, Bool.and_true, drawn, pairOk, disj, quietAt, Bool.bne_false, Bool.bne_true, Bool.false_eq_true, applyUpd, Int.reduceEq, Int.reduceNeg, bin_add, bin_sub, bin_mul, bin_lss, bin_leq, bin_gtr, bin_geq, bin_eql, bin_neq, un_not, wv_cap, wv_appendMake, wv_clear, wv_toString, wv_toBytes, wv_sameB, wv_mkIface, wv_minmax]
    intro j hj
    simp (disch := omega) only [get_cons, if_neg]
  refine wc_then h0 ?_
  rintro e1 s1 ⟨k1, a16, rfl⟩
  refine wc_range (fun m e' s' => ∃ k x', m = 8 - k ∧ k ≤ 8 ∧ e'.get 3 = some (u32 x') ∧ s8 (8 - k) x' = s8 8 x ∧ e'.get 6 = e.get 6 ∧ e'.get 7 = e.get 7 ∧ e'.get 8 = e.get 8 ∧ e'.get 16 = some (in64 (k : Nat)) ∧ s' = s1) 8 ?_ ?_
  · exact ⟨0, x, rfl, by omega, (k1 3 (by omega)).trans g3, rfl, k1 6 (by omega), k1 7 (by omega), k1 8 (by omega), a16, rfl⟩
  · rintro m e2 s2 E ⟨k, x', rfl, hk, b3, hx, b6, b7, b8, b16, rfl⟩ hE
    have c3 := (hE 3 (by simp)).trans b3
    have c6 := (hE 6 (by simp)).trans b6
    have c7 := (hE 7 (by simp)).trans b7
    have c8 := (hE 8 (by simp)).trans b8
    have c16 := (hE 16 (by simp)).trans b16
    refine WCode.mono ?_ (u3h_gen c16)
    rintro y e3 s3 ⟨rfl, k3, a17, rfl⟩
    refine ⟨rfl, _, a17, fun hb => ?_, fun hb => ?_⟩
    · simp only [decide_eq_false_iff_not] at hb
      have : k = 8 := by omega
      subst this
      refine ⟨rfl, (k3 3 (by omega)).trans (c3.trans ?_), (k3 6 (by omega)).trans c6, (k3 7 (by omega)).trans c7, (k3 8 (by omega)).trans c8, rfl⟩
      rw [← hx]; rfl
    · simp only [decide_eq_true_eq] at hb
      refine WCode.mono ?_ (u3b_gen ((k3 3 (by omega)).trans c3))
      rintro y e4 s4 ⟨rfl, d3, d6, d7, d8, d16, rfl⟩
      refine .inl ⟨.inl rfl, ?_⟩
      refine WCode.mono ?_ (u3n_gen (k := k) (by omega) (d16.trans ((k3 16 (by omega)).trans c16)))
      rintro y e5 s5 ⟨rfl, k5, i16, rfl⟩
      refine ⟨rfl, 8 - (k + 1), by omega, k + 1, s1 x', rfl, by omega, (k5 3 (by omega)).trans d3, ?_, (k5 6 (by omega)).trans (d6.trans ((k3 6 (by omega)).trans c6)), (k5 7 (by omega)).trans (d7.trans ((k3 7 (by omega)).trans c7)), (k5 8 (by omega)).trans (d8.trans ((k3 8 (by omega)).trans c8)), i16, rfl⟩
      rw [← hx, show 8 - k = (8 - (k + 1)) + 1 by omega]
      rfl

theorem sum_spec (h28 : tbl 28 = some fun28) (hb : BytesV s v zs) (hz : zs.length < 2 ^ 62) : WCall (fun k => call tbl ov k) 28 [v] s fun u s' => u = u32 (sumL zs) ∧ s' = s := by
  refine WCall.of h28 rfl ?_
  simp only [fun28, code28_eq, params]
  have h0 : WCode (fun k => call tbl ov k) (.seq u_0 u_1) [(0, v)] s fun x e' s' => x = .normal ∧ e'.get 0 = some v ∧ e'.get 3 = some (u32 (BitVec.allOnes 32)) ∧ s' = s := by
    simp only [u_0, u_1, code28, params, wc_skip, wc_region, wc_draw, wc_seq, wc_cond, wc_block, wc_exit, wc_ret, next_normal, next_exit, next_ret, inBlock_normal, inBlock_ret, inBlock_exit, sq_apply, nrm_apply, drawnK_apply, boolV_bool, ccond_true, ccond_false, wo_nil, wo_cons, wo_guard, wop, bindP_some, cont_some, cont_none, guardV_bool, guardV_undef, gcont_true, gcont_false, gcont_false', ret_apply, aggK_apply, putK_apply, resK_apply, boolK_apply, ccont_apply, wd_nil, wd_cons, dvals_apply, dcont_some, dcont_none, AOp.vals, rd_tmp, rd_const, rd_func, get_cons, mapList, mapOpt, Option.bind_some, Option.map_some, Nat.reduceEqDiff, if_true, if_false, reduceIte, reduceCtorEq, wv_mov, wv_pick, wv_alloc, wv_box, wv_build, wv_load, wv_loadn, wv_store, wv_nilCheck, wv_bin, wv_eq, wv_un, wv_convInt, wv_convSame, wv_fieldAddr, wv_field, wv_fieldn, wv_extract, wv_lenSlice, wv_lenString, wv_mkMap, wv_call, callee_func, wv_indexAddr, wv_lookup, wv_mapUpdate, wv_mapEntry, wv_entryStore, wv_delete, wv_append, wv_slice, wv_mkSlice, wv_buildSlice, wv_index, wv_copy, wv_lenMap, Abs.cellAt, Abs.rowAt, Abs.storeAt, Heap.get_put, List.getElem?_cons_zero, List.getElem?_cons_succ, Nat.zero_add, Nat.reduceAdd, idx, and_self, Int.toNat_natCast, cellsAt, ne_eq, not_true_eq_false, not_false_eq_true, cellList, Value.cells, List.length_cons, List.length_nil, List.all_cons, List.all_nil, isCell, Bool.and_self, storeL, List.set_cons_zero, List.set_cons_succ, footOf, true_and, and_true, Nat.reduceLeDiff, Nat.le_refl, Nat.reduceMul, Nat.reduceLT, List.nil_append, List.cons_append, List.length_set, ends_normal, ends_ret, endK_apply, resV_tmp, tupleV, eqV, Bool.not_true, Bool.not_false, BEq.rfl, Bool.true_beq, Bool.false_beq, beq_true, beq_false, Nat.sub_self, List.range'_zero, decide_true, decide_false, List.not_mem_nil, false_implies, implies_true, Bool.true_and, Bool.and_true, drawn, pairOk, disj, quietAt, Bool.bne_false, Bool.bne_true, Bool.false_eq_true, applyUpd, Int.reduceEq, Int.reduceNeg, bin_add, bin_sub, bin_mul, bin_lss, bin_leq, bin_gtr, bin_geq, bin_eql, bin_neq, un_not, wv_cap, wv_appendMake, wv_clear, wv_toString, wv_toBytes, wv_sameB, wv_mkIface, wv_minmax]
    rfl
  rw [wc_assoc]
  refine wc_then h0 ?_
  rintro e1 s1 ⟨a0, a3, rfl⟩
  refine wc_then (R := fun e' s' => e'.get 3 = some (u32 (crcL zs (BitVec.allOnes 32))) ∧ s' = s1) ?_ ?_
  · rw [u_2_eq]
    refine wc_then (u2i_gen hb a0) ?_
    rintro e2 s2 ⟨b3, b6, b7, b8, rfl⟩
    refine wc_range (fun m e' s' => ∃ i, m = zs.length - i ∧ i ≤ zs.length ∧ e'.get 3 = some (u32 (crcL (zs.take i) (BitVec.allOnes 32))) ∧ e'.get 6 = some v ∧ e'.get 7 = some (in64 zs.length) ∧ e'.get 8 = some (in64 (i : Nat)) ∧ s' = s2) zs.length ?_ ?_
    · exact ⟨0, rfl, by omega, b3.trans a3, b6, b7, b8, rfl⟩
    · rintro m e3 s3 E ⟨i, rfl, hi, c3, c6, c7, c8, rfl⟩ hE
      have d3 := (hE 3 (by simp)).trans c3
      have d6 := (hE 6 (by simp)).trans c6
      have d7 := (hE 7 (by simp)).trans c7
      have d8 := (hE 8 (by simp)).trans c8
      refine WCode.mono ?_ (u2h_gen d7 d8)
      rintro y e4 s4 ⟨rfl, k4, a9, rfl⟩
      refine ⟨rfl, _, a9, fun hbb => ?_, fun hbb => ?_⟩
      · simp only [decide_eq_false_iff_not] at hbb
        have : i = zs.length := by omega
        subst this
        exact ⟨rfl, by rw [k4 3 (by omega), d3, List.take_length], rfl⟩
      · simp only [decide_eq_true_eq] at hbb
        rw [wc_assoc]
        refine wc_then (u2b_gen hb hbb ((k4 3 (by omega)).trans d3) ((k4 6 (by omega)).trans d6) ((k4 8 (by omega)).trans d8)) ?_
        rintro e5 s5 ⟨f3, f6, f7, f8, rfl⟩
        refine WCode.mono ?_ (u3_gen f3)
        rintro y e6 s6 ⟨rfl, i3, i6, i7, i8, rfl⟩
        refine .inl ⟨.inl rfl, ?_⟩
        refine WCode.mono ?_ (u2n_gen (i := i) (by omega) (i8.trans (f8.trans ((k4 8 (by omega)).trans d8))))
        rintro y e7 s7 ⟨rfl, k7, j8, rfl⟩
        exact ⟨rfl, zs.length - (i + 1), by omega, i + 1, rfl, by omega, by rw [k7 3 (by omega), i3, crcL_take hbb], (k7 6 (by omega)).trans (i6.trans (f6.trans ((k4 6 (by omega)).trans d6))), (k7 7 (by omega)).trans (i7.trans (f7.trans ((k4 7 (by omega)).trans d7))), j8, rfl⟩
  · rintro e2 s2 ⟨b3, rfl⟩
    simp only [u_3, code28, params, wc_skip, wc_region, wc_draw, wc_seq, wc_cond, wc_block, wc_exit, wc_ret, next_normal, next_exit, next_ret, inBlock_normal, inBlock_ret, inBlock_exit, sq_apply, nrm_apply, drawnK_apply, boolV_bool, ccond_true, ccond_false, wo_nil, wo_cons, wo_guard, wop, bindP_some, cont_some, cont_none, guardV_bool, guardV_undef, gcont_true, gcont_false, gcont_false', ret_apply, aggK_apply, putK_apply, resK_apply, boolK_apply, ccont_apply, wd_nil, wd_cons, dvals_apply, dcont_some, dcont_none, AOp.vals, rd_tmp, rd_const, rd_func, get_cons, mapList, mapOpt, Option.bind_some, Option.map_some, Nat.reduceEqDiff, if_true, if_false, reduceIte, reduceCtorEq, wv_mov, wv_pick, wv_alloc, wv_box, wv_build, wv_load, wv_loadn, wv_store, wv_nilCheck, wv_bin, wv_eq, wv_un, wv_convInt, wv_convSame, wv_fieldAddr, wv_field, wv_fieldn, wv_extract, wv_lenSlice, wv_lenString, wv_mkMap, wv_call, callee_func, wv_indexAddr, wv_lookup, wv_mapUpdate, wv_mapEntry, wv_entryStore, wv_delete, wv_append, wv_slice, wv_mkSlice, wv_buildSlice, wv_index, wv_copy, wv_lenMap, Abs.cellAt, Abs.rowAt, Abs.storeAt, Heap.get_put, List.getElem?_cons_zero, List.getElem?_cons_succ, Nat.zero_add, Nat.reduceAdd, idx, and_self, Int.toNat_natCast, cellsAt, ne_eq, not_true_eq_false, not_false_eq_true, cellList, Value.cells, List.length_cons, List.length_nil, List.all_cons, List.all_nil, isCell, Bool.and_self, storeL, List.set_cons_zero, List.set_cons_succ, footOf, true_and, and_true, Nat.reduceLeDiff, Nat.le_refl, Nat.reduceMul, Nat.reduceLT, List.nil_append, List.cons_append, List.length_set, ends_normal, ends_ret, endK_apply, resV_tmp, tupleV, eqV, Bool.not_true, Bool.not_false, BEq.rfl, Bool.true_beq, Bool.false_beq, beq_true, beq_false, Nat.sub_self, List.range'_zero, decide_true, decide_false, List.not_mem_nil, false_implies, implies_true, Bool.true_and, Bool.and_true, drawn, pairOk, disj, quietAt, Bool.bne_false, Bool.bne_true, Bool.false_eq_true, applyUpd, Int.reduceEq, Int.reduceNeg, bin_add, bin_sub, bin_mul, bin_lss, bin_leq, bin_gtr, bin_geq, bin_eql, bin_neq, un_not, wv_cap, wv_appendMake, wv_clear, wv_toString, wv_toBytes, wv_sameB, wv_mkIface, wv_minmax, b3, un_xor]
    rfl

end
end Go.Proofs.Ytaigiehdnhehnaa
