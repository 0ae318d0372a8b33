/-
  Numbers out of bytes.
-/
import Derived.Test.YtaigiehdnhehnaaR1Unlike
import Derived.Test.YtaigiehdnhehnaaA32
set_option maxRecDepth 100000
set_option linter.unusedVariables false
set_option linter.unusedSimpArgs false
namespace Go.Proofs.Ytaigiehdnhehnaa
open Go Go.Abs

theorem valA_lt : ∀ {zs : List Int} {acc : Nat}, (∀ z ∈ zs, 0 ≤ z ∧ z ≤ 255) → valA acc zs < (acc + 1) * 256 ^ zs.length := by
  intro zs
  induction zs with
  | nil => intro acc _; simp [valA]
  | cons z zs ih =>
    intro acc h
    have hz := h z (List.mem_cons_self ..)
    have := ih (acc := acc * 256 + z.toNat) (fun y hy => h y (List.mem_cons_of_mem _ hy))
    show valA (acc * 256 + z.toNat) zs < _
    refine Nat.lt_of_lt_of_le this ?_
    rw [List.length_cons, Nat.pow_succ, Nat.mul_comm (256 ^ zs.length) 256, ← Nat.mul_assoc]
    exact Nat.mul_le_mul_right _ (by omega)

theorem valL_lt {zs : List Int} (h : ∀ z ∈ zs, 0 ≤ z ∧ z ≤ 255) : valL zs < 256 ^ zs.length := by
  have := valA_lt (acc := 0) h
  simpa [valL] using this

theorem valL_take {zs : List Int} {i : Nat} (hi : i < zs.length) : valL (zs.take (i + 1)) = valL (zs.take i) * 256 + (zs.getD i 0).toNat := by
  have h : zs.take (i + 1) = zs.take i ++ [zs.getD i 0] := by
    rw [List.take_add_one, List.getElem?_eq_getElem hi]
    simp [List.getD_eq_getElem?_getD, hi]
  rw [h]
  simp [valL, valA, List.foldl_append]

theorem wrap_u64' {n : Nat} (h : n < 18446744073709551616) : IntKind.u64.wrap (n : Int) = (n : Int) := wrap_u64 (by omega)

theorem shl8 {n : Nat} (h : n < 72057594037927936) : binV .shl (.int .u64 n) (.int .u64 8) = some (.int .u64 ((n * 256 : Nat) : Int)) := by
  have h1 : min (Int.toNat 8) IntKind.u64.bits = 8 := by decide
  have h2 : ((n : Int) * 2 ^ 8) = ((n * 256 : Nat) : Int) := by push_cast; rfl
  simp only [binV, show ¬ (8 : Int) < 0 by omega, if_false, h1, h2, wrap_u64' (n := n * 256) (by omega)]

theorem or8 {n m : Nat} (hn : n < 72057594037927936) (hm : m < 256) : binV .or (.int .u64 ((n * 256 : Nat) : Int)) (.int .u64 (m : Int)) = some (.int .u64 ((n * 256 + m : Nat) : Int)) := by
  have h1 : (BitVec.ofInt IntKind.u64.bits ((n * 256 : Nat) : Int) ||| BitVec.ofInt IntKind.u64.bits (m : Int)).toNat = n * 256 + m := by
    show (BitVec.ofInt 64 ((n * 256 : Nat) : Int) ||| BitVec.ofInt 64 (m : Int)).toNat = _
    rw [BitVec.ofInt_natCast, BitVec.ofInt_natCast, BitVec.toNat_or, BitVec.toNat_ofNat, BitVec.toNat_ofNat, Nat.mod_eq_of_lt (by omega), Nat.mod_eq_of_lt (by omega)]
    have := Nat.two_pow_add_eq_or_of_lt (b := m) (i := 8) (by omega) n
    rw [Nat.mul_comm n 256]
    exact this.symm
  simp only [binV, ne_eq, not_true_eq_false, if_false, h1, wrap_u64' (n := n * 256 + m) (by omega)]

def k_0 : ACode := match code37 with | .seq x _ => x | _ => .skip
def k_1 : ACode := match code37 with | .seq _ (.seq x _) => x | _ => .skip
def k_2 : ACode := match code37 with | .seq _ (.seq _ (.seq x _)) => x | _ => .skip
def k_3 : ACode := match code37 with | .seq _ (.seq _ (.seq _ x)) => x | _ => .skip
def k2i : ACode := match k_2 with | .seq x _ => x | _ => .skip
def k2h : ACode := match k_2 with | .seq _ (.block _ (.loop _ (.seq x _))) => x | _ => .skip
def k2b : ACode := match k_2 with | .seq _ (.block _ (.loop _ (.seq _ (.seq _ (.seq (.block _ x) _))))) => x | _ => .skip
def k2n : ACode := match k_2 with | .seq _ (.block _ (.loop _ (.seq _ (.seq _ (.seq _ x))))) => x | _ => .skip
theorem code37_eq : code37 = .seq k_0 (.seq k_1 (.seq k_2 k_3)) := rfl
theorem k_2_eq : k_2 = .seq k2i (.block 0 (.loop [3, 6, 7, 8] (.seq k2h (.seq (.cond (.tmp 9) .skip (.exit 0)) (.seq (.block 1 k2b) k2n))))) := rfl

section
variable {tbl : FuncId → Option AFun} {ov : CallSem} {s s1 : St} {e : Env} {v : Value} {zs : List Int}

theorem k2h_gen {i n : Nat} (g7 : e.get 7 = some (in64 n)) (g8 : e.get 8 = some (in64 i)) : WCode (fun k => call tbl ov k) k2h e s fun x e' s' => x = .normal ∧ (∀ j, j < 9 → e'.get j = e.get j) ∧ e'.get 9 = some (.bool (decide (i < n))) ∧ s' = s := by
  have d : decide ((i : Int) < (n : Int)) = decide (i < n) := by simp
  simp only [k2h, k_2, code37, params, wc_skip, wc_region, wc_draw, wc_seq, wc_cond, wc_block, wc_exit, wc_ret, next_normal, next_exit, next_ret, inBlock_normal, inBlock_ret, inBlock_exit, sq_apply, nrm_apply, drawnK_apply, boolV_bool, ccond_true, ccond_false, wo_nil, wo_cons, wo_guard, wop, bindP_some, cont_some, cont_none, guardV_bool, guardV_undef, gcont_true, gcont_false, gcont_false', ret_apply, aggK_apply, putK_apply, resK_apply, boolK_apply, ccont_apply, wd_nil, wd_cons, dvals_apply, dcont_some, dcont_none, AOp.vals, rd_tmp, rd_const, rd_func, get_cons, mapList, mapOpt, Option.bind_some, Option.map_some, Nat.reduceEqDiff, if_true, if_false, reduceIte, reduceCtorEq, wv_mov, wv_pick, wv_alloc, wv_box, wv_build, wv_load, wv_loadn, wv_store, wv_nilCheck, wv_bin, wv_eq, wv_un, wv_convInt, wv_convSame, wv_fieldAddr, wv_field, wv_fieldn, wv_extract, wv_lenSlice, wv_lenString, wv_mkMap, wv_call, callee_func, wv_indexAddr, wv_lookup, wv_mapUpdate, wv_mapEntry, wv_entryStore, wv_delete, wv_append, wv_slice, wv_mkSlice, wv_buildSlice, wv_index, wv_copy, wv_lenMap, Abs.cellAt, Abs.rowAt, Abs.storeAt, Heap.get_put, List.getElem?_cons_zero, List.getElem?_cons_succ, Nat.zero_add, Nat.reduceAdd, idx, and_self, Int.toNat_natCast, cellsAt, ne_eq, not_true_eq_false, not_false_eq_true, cellList, Value.cells, List.length_cons, List.length_nil, List.all_cons, List.all_nil, isCell, Bool.and_self, storeL, List.set_cons_zero, List.set_cons_succ, footOf, true_and, and_true, Nat.reduceLeDiff, Nat.le_refl, Nat.reduceMul, Nat.reduceLT, List.nil_append, List.cons_append, List.length_set, ends_normal, ends_ret, endK_apply, resV_tmp, tupleV, eqV, Bool.not_true, Bool.not_false, BEq.rfl, Bool.true_beq, Bool.false_beq, beq_true, beq_false, Nat.sub_self, List.range'_zero, decide_true, decide_false, List.not_mem_nil, false_implies, implies_true, Bool.true_and, Bool.and_true, drawn, pairOk, disj, quietAt, Bool.bne_false, Bool.bne_true, Bool.false_eq_true, applyUpd, Int.reduceEq, Int.reduceNeg, bin_add, bin_sub, bin_mul, bin_lss, bin_leq, bin_gtr, bin_geq, bin_eql, bin_neq, un_not, wv_cap, wv_appendMake, wv_clear, wv_toString, wv_toBytes, wv_sameB, wv_mkIface, wv_minmax, g7, g8, d]
  intro j hj
  simp (disch := omega) only [get_cons, if_neg]

theorem getD_memI {zs : List Int} {i : Nat} (hi : i < zs.length) : zs.getD i 0 ∈ zs := by
  rw [List.getD_eq_getElem?_getD, List.getElem?_eq_getElem hi, Option.getD_some]
  exact List.getElem_mem hi

theorem k2b_gen (hb : BytesV s v zs) {i n : Nat} (hi : i < zs.length) (hn : n < 72057594037927936) (g3 : e.get 3 = some (.int .u64 n)) (g6 : e.get 6 = some v) (g8 : e.get 8 = some (in64 i)) :
    WCode (fun k => call tbl ov k) k2b e s fun y e' s' => y = .normal ∧ e'.get 3 = some (.int .u64 ((n * 256 + (zs.getD i 0).toNat : Nat) : Int)) ∧ e'.get 6 = e.get 6 ∧ e'.get 7 = e.get 7 ∧ e'.get 8 = e.get 8 ∧ s' = s := by
  obtain ⟨id, o, cap, c, t, sz, ro, rfl, h1, h2, h3, h4, h5⟩ := hb.row (by omega)
  have hz := hb.1 _ (getD_memI hi)
  have d2 : (0 : Int) ≤ i := by omega
  have d3 : (i : Int) < (zs.length : Nat) := by omega
  have hg := h5 i hi
  have w : IntKind.u64.wrap (zs.getD i 0) = ((zs.getD i 0).toNat : Int) := by rw [wrap_u64 (by omega)]; omega
  have ho := or8 (n := n) (m := (zs.getD i 0).toNat) hn (by omega)
  have hs := shl8 hn
  simp only [k2b, k_2, code37, params, wc_skip, wc_region, wc_draw, wc_seq, wc_cond, wc_block, wc_exit, wc_ret, next_normal, next_exit, next_ret, inBlock_normal, inBlock_ret, inBlock_exit, sq_apply, nrm_apply, drawnK_apply, boolV_bool, ccond_true, ccond_false, wo_nil, wo_cons, wo_guard, wop, bindP_some, cont_some, cont_none, guardV_bool, guardV_undef, gcont_true, gcont_false, gcont_false', ret_apply, aggK_apply, putK_apply, resK_apply, boolK_apply, ccont_apply, wd_nil, wd_cons, dvals_apply, dcont_some, dcont_none, AOp.vals, rd_tmp, rd_const, rd_func, get_cons, mapList, mapOpt, Option.bind_some, Option.map_some, Nat.reduceEqDiff, if_true, if_false, reduceIte, reduceCtorEq, wv_mov, wv_pick, wv_alloc, wv_box, wv_build, wv_load, wv_loadn, wv_store, wv_nilCheck, wv_bin, wv_eq, wv_un, wv_convInt, wv_convSame, wv_fieldAddr, wv_field, wv_fieldn, wv_extract, wv_lenSlice, wv_lenString, wv_mkMap, wv_call, callee_func, wv_indexAddr, wv_lookup, wv_mapUpdate, wv_mapEntry, wv_entryStore, wv_delete, wv_append, wv_slice, wv_mkSlice, wv_buildSlice, wv_index, wv_copy, wv_lenMap, Abs.cellAt, Abs.rowAt, Abs.storeAt, Heap.get_put, List.getElem?_cons_zero, List.getElem?_cons_succ, Nat.zero_add, Nat.reduceAdd, idx, and_self, Int.toNat_natCast, cellsAt, ne_eq, not_true_eq_false, not_false_eq_true, cellList, Value.cells, List.length_cons, List.length_nil, List.all_cons, List.all_nil, isCell, Bool.and_self, storeL, List.set_cons_zero, List.set_cons_succ, footOf, true_and, and_true, Nat.reduceLeDiff, Nat.le_refl, Nat.reduceMul, Nat.reduceLT, List.nil_append, List.cons_append, List.length_set, ends_normal, ends_ret, endK_apply, resV_tmp, tupleV, eqV, Bool.not_true, Bool.not_false, BEq.rfl, Bool.true_beq, Bool.false_beq, beq_true, beq_false, Nat.sub_self, List.range'_zero, decide_true, decide_false, List.not_mem_nil, false_implies, implies_true, Bool.true_and, Bool.and_true, drawn, pairOk, disj, quietAt, Bool.bne_false, Bool.bne_true, Bool.false_eq_true, applyUpd, Int.reduceEq, Int.reduceNeg, bin_add, bin_sub, bin_mul, bin_lss, bin_leq, bin_gtr, bin_geq, bin_eql, bin_neq, un_not, wv_cap, wv_appendMake, wv_clear, wv_toString, wv_toBytes, wv_sameB, wv_mkIface, wv_minmax, g3, g6, g8, d2, d3, Nat.mul_one, h3, hg, w, hs, ho]

theorem k2n_gen {i : Nat} (hi : i < 2 ^ 62) (g8 : e.get 8 = some (in64 i)) : WCode (fun k => call tbl ov k) k2n e s fun x e' s' => x = .normal ∧ (∀ j, j < 8 → e'.get j = e.get j) ∧ e'.get 8 = some (in64 (i + 1 : Nat)) ∧ s' = s := by
  have w : IntKind.i64.wrap ((i : Int) + 1) = ((i + 1 : Nat) : Int) := by rw [wrap64 (by omega) (by omega)]; omega
  simp only [k2n, k_2, code37, params, wc_skip, wc_region, wc_draw, wc_seq, wc_cond, wc_block, wc_exit, wc_ret, next_normal, next_exit, next_ret, inBlock_normal, inBlock_ret, inBlock_exit, sq_apply, nrm_apply, drawnK_apply, boolV_bool, ccond_true, ccond_false, wo_nil, wo_cons, wo_guard, wop, bindP_some, cont_some, cont_none, guardV_bool, guardV_undef, gcont_true, gcont_false, gcont_false', ret_apply, aggK_apply, putK_apply, resK_apply, boolK_apply, ccont_apply, wd_nil, wd_cons, dvals_apply, dcont_some, dcont_none, AOp.vals, rd_tmp, rd_const, rd_func, get_cons, mapList, mapOpt, Option.bind_some, Option.map_some, Nat.reduceEqDiff, if_true, if_false, reduceIte, reduceCtorEq, wv_mov, wv_pick, wv_alloc, wv_box, wv_build, wv_load, wv_loadn, wv_store, wv_nilCheck, wv_bin, wv_eq, wv_un, wv_convInt, wv_convSame, wv_fieldAddr, wv_field, wv_fieldn, wv_extract, wv_lenSlice, wv_lenString, wv_mkMap, wv_call, callee_func, wv_indexAddr, wv_lookup, wv_mapUpdate, wv_mapEntry, wv_entryStore, wv_delete, wv_append, wv_slice, wv_mkSlice, wv_buildSlice, wv_index, wv_copy, wv_lenMap, Abs.cellAt, Abs.rowAt, Abs.storeAt, Heap.get_put, List.getElem?_cons_zero, List.getElem?_cons_succ, Nat.zero_add, Nat.reduceAdd, idx, and_self, Int.toNat_natCast, cellsAt, ne_eq, not_true_eq_false, not_false_eq_true, cellList, Value.cells, List.length_cons, List.length_nil, List.all_cons, List.all_nil, isCell, Bool.and_self, storeL, List.set_cons_zero, List.set_cons_succ, footOf, true_and, and_true, Nat.reduceLeDiff, Nat.le_refl, Nat.reduceMul, Nat.reduceLT, List.nil_append, List.cons_append, List.length_set, ends_normal, ends_ret, endK_apply, resV_tmp, tupleV, eqV, Bool.not_true, Bool.not_false, BEq.rfl, Bool.true_beq, Bool.false_beq, beq_true, beq_false, Nat.sub_self, List.range'_zero, decide_true, decide_false, List.not_mem_nil, false_implies, implies_true, Bool.true_and, Bool.and_true, drawn, pairOk, disj, quietAt, Bool.bne_false, Bool.bne_true, Bool.false_eq_true, applyUpd, Int.reduceEq, Int.reduceNeg, bin_add, bin_sub, bin_mul, bin_lss, bin_leq, bin_gtr, bin_geq, bin_eql, bin_neq, un_not, wv_cap, wv_appendMake, wv_clear, wv_toString, wv_toBytes, wv_sameB, wv_mkIface, wv_minmax, g8, w]
  intro j hj
  simp (disch := omega) only [get_cons, if_neg]

theorem read_spec (h37 : tbl 37 = some fun37) (hb : BytesV s v zs) (hz : zs.length ≤ 8) : WCall (fun k => call tbl ov k) 37 [v] s fun u s' => u = .int .u64 (valL zs : Nat) ∧ s' = s := by
  refine WCall.of h37 rfl ?_
  simp only [fun37, code37_eq, params]
  obtain ⟨ad, cap, hv⟩ := hb.len
  have h0 : WCode (fun k => call tbl ov k) (.seq k_0 k_1) [(0, v)] s fun x e' s' => x = .normal ∧ e'.get 0 = some v ∧ e'.get 3 = some (.int .u64 0) ∧ s' = s := by
    simp only [k_0, k_1, code37, params, wc_skip, wc_region, wc_draw, wc_seq, wc_cond, wc_block, wc_exit, wc_ret, next_normal, next_exit, next_ret, inBlock_normal, inBlock_ret, inBlock_exit, sq_apply, nrm_apply, drawnK_apply, boolV_bool, ccond_true, ccond_false, wo_nil, wo_cons, wo_guard, wop, bindP_some, cont_some, cont_none, guardV_bool, guardV_undef, gcont_true, gcont_false, gcont_false', ret_apply, aggK_apply, putK_apply, resK_apply, boolK_apply, ccont_apply, wd_nil, wd_cons, dvals_apply, dcont_some, dcont_none, AOp.vals, rd_tmp, rd_const, rd_func, get_cons, mapList, mapOpt, Option.bind_some, Option.map_some, Nat.reduceEqDiff, if_true, if_false, reduceIte, reduceCtorEq, wv_mov, wv_pick, wv_alloc, wv_box, wv_build, wv_load, wv_loadn, wv_store, wv_nilCheck, wv_bin, wv_eq, wv_un, wv_convInt, wv_convSame, wv_fieldAddr, wv_field, wv_fieldn, wv_extract, wv_lenSlice, wv_lenString, wv_mkMap, wv_call, callee_func, wv_indexAddr, wv_lookup, wv_mapUpdate, wv_mapEntry, wv_entryStore, wv_delete, wv_append, wv_slice, wv_mkSlice, wv_buildSlice, wv_index, wv_copy, wv_lenMap, Abs.cellAt, Abs.rowAt, Abs.storeAt, Heap.get_put, List.getElem?_cons_zero, List.getElem?_cons_succ, Nat.zero_add, Nat.reduceAdd, idx, and_self, Int.toNat_natCast, cellsAt, ne_eq, not_true_eq_false, not_false_eq_true, cellList, Value.cells, List.length_cons, List.length_nil, List.all_cons, List.all_nil, isCell, Bool.and_self, storeL, List.set_cons_zero, List.set_cons_succ, footOf, true_and, and_true, Nat.reduceLeDiff, Nat.le_refl, Nat.reduceMul, Nat.reduceLT, List.nil_append, List.cons_append, List.length_set, ends_normal, ends_ret, endK_apply, resV_tmp, tupleV, eqV, Bool.not_true, Bool.not_false, BEq.rfl, Bool.true_beq, Bool.false_beq, beq_true, beq_false, Nat.sub_self, List.range'_zero, decide_true, decide_false, List.not_mem_nil, false_implies, implies_true, Bool.true_and, Bool.and_true, drawn, pairOk, disj, quietAt, Bool.bne_false, Bool.bne_true, Bool.false_eq_true, applyUpd, Int.reduceEq, Int.reduceNeg, bin_add, bin_sub, bin_mul, bin_lss, bin_leq, bin_gtr, bin_geq, bin_eql, bin_neq, un_not, wv_cap, wv_appendMake, wv_clear, wv_toString, wv_toBytes, wv_sameB, wv_mkIface, wv_minmax]
  rw [wc_assoc]
  refine wc_then h0 ?_
  rintro e1 s1 ⟨a0, a3, rfl⟩
  refine wc_then (R := fun e' s' => e'.get 3 = some (.int .u64 (valL zs : Nat)) ∧ s' = s1) ?_ ?_
  · rw [k_2_eq]
    have hi0 : WCode (fun k => call tbl ov k) k2i e1 s1 fun x e' s' => x = .normal ∧ e'.get 3 = e1.get 3 ∧ e'.get 6 = some v ∧ e'.get 7 = some (in64 zs.length) ∧ e'.get 8 = some (in64 0) ∧ s' = s1 := by
      rw [hv] at a0 ⊢
      simp only [k2i, k_2, code37, params, wc_skip, wc_region, wc_draw, wc_seq, wc_cond, wc_block, wc_exit, wc_ret, next_normal, next_exit, next_ret, inBlock_normal, inBlock_ret, inBlock_exit, sq_apply, nrm_apply, drawnK_apply, boolV_bool, ccond_true, ccond_false, wo_nil, wo_cons, wo_guard, wop, bindP_some, cont_some, cont_none, guardV_bool, guardV_undef, gcont_true, gcont_false, gcont_false', ret_apply, aggK_apply, putK_apply, resK_apply, boolK_apply, ccont_apply, wd_nil, wd_cons, dvals_apply, dcont_some, dcont_none, AOp.vals, rd_tmp, rd_const, rd_func, get_cons, mapList, mapOpt, Option.bind_some, Option.map_some, Nat.reduceEqDiff, if_true, if_false, reduceIte, reduceCtorEq, wv_mov, wv_pick, wv_alloc, wv_box, wv_build, wv_load, wv_loadn, wv_store, wv_nilCheck, wv_bin, wv_eq, wv_un, wv_convInt, wv_convSame, wv_fieldAddr, wv_field, wv_fieldn, wv_extract, wv_lenSlice, wv_lenString, wv_mkMap, wv_call, callee_func, wv_indexAddr, wv_lookup, wv_mapUpdate, wv_mapEntry, wv_entryStore, wv_delete, wv_append, wv_slice, wv_mkSlice, wv_buildSlice, wv_index, wv_copy, wv_lenMap, Abs.cellAt, Abs.rowAt, Abs.storeAt, Heap.get_put, List.getElem?_cons_zero, List.getElem?_cons_succ, Nat.zero_add, Nat.reduceAdd, idx, and_self, Int.toNat_natCast, cellsAt, ne_eq, not_true_eq_false, not_false_eq_true, cellList, Value.cells, List.length_cons, List.length_nil, List.all_cons, List.all_nil, isCell, Bool.and_self, storeL, List.set_cons_zero, List.set_cons_succ, footOf, true_and, and_true, Nat.reduceLeDiff, Nat.le_refl, Nat.reduceMul, Nat.reduceLT, List.nil_append, List.cons_append, List.length_set, ends_normal, ends_ret, endK_apply, resV_tmp, tupleV, eqV, Bool.not_true, Bool.not_false, BEq.rfl, Bool.true_beq, Bool.false_beq, beq_true, beq_false, Nat.sub_self, List.range'_zero, decide_true, decide_false, List.not_mem_nil, false_implies, implies_true, Bool.true_and, Bool.and_true, drawn, pairOk, disj, quietAt, Bool.bne_false, Bool.bne_true, Bool.false_eq_true, applyUpd, Int.reduceEq, Int.reduceNeg, bin_add, bin_sub, bin_mul, bin_lss, bin_leq, bin_gtr, bin_geq, bin_eql, bin_neq, un_not, wv_cap, wv_appendMake, wv_clear, wv_toString, wv_toBytes, wv_sameB, wv_mkIface, wv_minmax, a0]
    refine wc_then hi0 ?_
    rintro e2 s2 ⟨b3, b6, b7, b8, rfl⟩
    refine wc_range (fun m e' s' => ∃ i, m = zs.length - i ∧ i ≤ zs.length ∧ e'.get 3 = some (.int .u64 (valL (zs.take i) : Nat)) ∧ e'.get 6 = some v ∧ e'.get 7 = some (in64 zs.length) ∧ e'.get 8 = some (in64 (i : Nat)) ∧ s' = s2) zs.length ?_ ?_
    · exact ⟨0, rfl, by omega, b3.trans a3, b6, b7, b8, rfl⟩
    · rintro m e3 s3 E ⟨i, rfl, hi, c3, c6, c7, c8, rfl⟩ hE
      have d3 := (hE 3 (by simp)).trans c3
      have d6 := (hE 6 (by simp)).trans c6
      have d7 := (hE 7 (by simp)).trans c7
      have d8 := (hE 8 (by simp)).trans c8
      refine WCode.mono ?_ (k2h_gen d7 d8)
      rintro y e4 s4 ⟨rfl, k4, a9, rfl⟩
      refine ⟨rfl, _, a9, fun hbb => ?_, fun hbb => ?_⟩
      · simp only [decide_eq_false_iff_not] at hbb
        have : i = zs.length := by omega
        subst this
        exact ⟨rfl, by rw [k4 3 (by omega), d3, List.take_length], rfl⟩
      · simp only [decide_eq_true_eq] at hbb
        have hlt := valL_lt (zs := zs.take i) (fun z hz => hb.1 z (List.mem_of_mem_take hz))
        have hpow : (256 : Nat) ^ (zs.take i).length ≤ 256 ^ 7 := Nat.pow_le_pow_right (by omega) (by rw [List.length_take]; omega)
        refine WCode.mono ?_ (k2b_gen hb hbb (n := valL (zs.take i)) (by omega) ((k4 3 (by omega)).trans d3) ((k4 6 (by omega)).trans d6) ((k4 8 (by omega)).trans d8))
        rintro y e5 s5 ⟨rfl, f3, f6, f7, f8, rfl⟩
        refine .inl ⟨.inl rfl, ?_⟩
        refine WCode.mono ?_ (k2n_gen (i := i) (by omega) (f8.trans ((k4 8 (by omega)).trans d8)))
        rintro y e6 s6 ⟨rfl, k6, j8, rfl⟩
        exact ⟨rfl, zs.length - (i + 1), by omega, i + 1, rfl, by omega, by rw [k6 3 (by omega), f3, valL_take hbb], (k6 6 (by omega)).trans (f6.trans ((k4 6 (by omega)).trans d6)), (k6 7 (by omega)).trans (f7.trans ((k4 7 (by omega)).trans d7)), j8, rfl⟩
  · rintro e2 s2 ⟨b3, rfl⟩
    simp only [k_3, code37, params, wc_skip, wc_region, wc_draw, wc_seq, wc_cond, wc_block, wc_exit, wc_ret, next_normal, next_exit, next_ret, inBlock_normal, inBlock_ret, inBlock_exit, sq_apply, nrm_apply, drawnK_apply, boolV_bool, ccond_true, ccond_false, wo_nil, wo_cons, wo_guard, wop, bindP_some, cont_some, cont_none, guardV_bool, guardV_undef, gcont_true, gcont_false, gcont_false', ret_apply, aggK_apply, putK_apply, resK_apply, boolK_apply, ccont_apply, wd_nil, wd_cons, dvals_apply, dcont_some, dcont_none, AOp.vals, rd_tmp, rd_const, rd_func, get_cons, mapList, mapOpt, Option.bind_some, Option.map_some, Nat.reduceEqDiff, if_true, if_false, reduceIte, reduceCtorEq, wv_mov, wv_pick, wv_alloc, wv_box, wv_build, wv_load, wv_loadn, wv_store, wv_nilCheck, wv_bin, wv_eq, wv_un, wv_convInt, wv_convSame, wv_fieldAddr, wv_field, wv_fieldn, wv_extract, wv_lenSlice, wv_lenString, wv_mkMap, wv_call, callee_func, wv_indexAddr, wv_lookup, wv_mapUpdate, wv_mapEntry, wv_entryStore, wv_delete, wv_append, wv_slice, wv_mkSlice, wv_buildSlice, wv_index, wv_copy, wv_lenMap, Abs.cellAt, Abs.rowAt, Abs.storeAt, Heap.get_put, List.getElem?_cons_zero, List.getElem?_cons_succ, Nat.zero_add, Nat.reduceAdd, idx, and_self, Int.toNat_natCast, cellsAt, ne_eq, not_true_eq_false, not_false_eq_true, cellList, Value.cells, List.length_cons, List.length_nil, List.all_cons, List.all_nil, isCell, Bool.and_self, storeL, List.set_cons_zero, List.set_cons_succ, footOf, true_and, and_true, Nat.reduceLeDiff, Nat.le_refl, Nat.reduceMul, Nat.reduceLT, List.nil_append, List.cons_append, List.length_set, ends_normal, ends_ret, endK_apply, resV_tmp, tupleV, eqV, Bool.not_true, Bool.not_false, BEq.rfl, Bool.true_beq, Bool.false_beq, beq_true, beq_false, Nat.sub_self, List.range'_zero, decide_true, decide_false, List.not_mem_nil, false_implies, implies_true, Bool.true_and, Bool.and_true, drawn, pairOk, disj, quietAt, Bool.bne_false, Bool.bne_true, Bool.false_eq_true, applyUpd, Int.reduceEq, Int.reduceNeg, bin_add, bin_sub, bin_mul, bin_lss, bin_leq, bin_gtr, bin_geq, bin_eql, bin_neq, un_not, wv_cap, wv_appendMake, wv_clear, wv_toString, wv_toBytes, wv_sameB, wv_mkIface, wv_minmax, b3]

end
end Go.Proofs.Ytaigiehdnhehnaa
