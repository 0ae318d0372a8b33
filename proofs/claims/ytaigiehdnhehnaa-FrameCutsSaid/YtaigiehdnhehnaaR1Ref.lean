/-
  The document's sum of bytes is the program's.
-/
import Derived.Test.YtaigiehdnhehnaaR1Sum
set_option maxRecDepth 100000
set_option linter.unusedVariables false
set_option linter.unusedSimpArgs false
namespace Go.Proofs.Ytaigiehdnhehnaa
open Go Go.Abs

theorem mask (z : BitVec 32) : poly &&& -(z &&& 1#32) = if z.toNat % 2 = 1 then poly else 0#32 := by
  have h : z &&& 1#32 = BitVec.ofNat 32 (z.toNat % 2) := by
    apply BitVec.eq_of_toNat_eq
    rw [BitVec.toNat_and, show (1#32).toNat = 1 from rfl, Nat.and_one_is_mod, BitVec.toNat_ofNat]
    omega
  rw [h]
  rcases Nat.mod_two_eq_zero_or_one z.toNat with e | e <;> rw [e] <;> decide

def rstep (b : BitVec 32) (k : Nat) (c : BitVec 32) : BitVec 32 := (c >>> 1) ^^^ (if (c ^^^ (b >>> k)).toNat % 2 = 1 then poly else 0#32)
def rL (b : BitVec 32) : Nat → BitVec 32 → BitVec 32
  | 0, c => c
  | k + 1, c => rstep b k (rL b k c)

theorem s1_step (b : BitVec 32) (k : Nat) (c : BitVec 32) : s1 (c ^^^ (b >>> k)) = rstep b k c ^^^ (b >>> (k + 1)) := by
  unfold s1 rstep
  rw [mask, BitVec.ushiftRight_xor_distrib, ← BitVec.shiftRight_add]
  rw [BitVec.xor_assoc, BitVec.xor_assoc, BitVec.xor_comm (b >>> (k + 1))]

theorem s8_rL (b : BitVec 32) (c : BitVec 32) : ∀ (k n : Nat), s8 n (rL b k c ^^^ (b >>> k)) = s8 (n + k) (c ^^^ b) := by
  intro k
  induction k with
  | zero => intro n; simp [rL]
  | succ k ih =>
    intro n
    rw [show n + (k + 1) = (n + 1) + k by omega, ← ih (n + 1)]
    show s8 n _ = s8 n (s1 _)
    rw [s1_step]; rfl

theorem s8_ref {z : Int} (hz : 0 ≤ z ∧ z ≤ 255) (c : BitVec 32) : s8 8 (c ^^^ BitVec.ofInt 32 z) = rL (BitVec.ofInt 32 z) 8 c := by
  have h := s8_rL (BitVec.ofInt 32 z) c 8 0
  have h0 : (BitVec.ofInt 32 z) >>> 8 = 0#32 := by
    apply BitVec.eq_of_toNat_eq
    rw [BitVec.toNat_ushiftRight, Nat.shiftRight_eq_div_pow, BitVec.toNat_ofInt]
    simp only [BitVec.toNat_ofNat]
    omega
  rw [h0, BitVec.xor_zero] at h
  rw [show (0 : Nat) + 8 = 8 from rfl] at h
  rw [← h]; rfl

theorem byte_shr {z : Int} (hz : 0 ≤ z ∧ z ≤ 255) {k : Nat} (hk : k < 8) : IntKind.u32.wrap (z.fdiv (2 ^ min k IntKind.u8.bits)) = (((BitVec.ofInt 32 z) >>> k).toNat : Int) := by
  have h1 : min k IntKind.u8.bits = k := by
    have : IntKind.u8.bits = 8 := rfl
    rw [this]; omega
  obtain ⟨n, rfl⟩ := Int.eq_ofNat_of_zero_le hz.1
  have h2 : ((2 : Int) ^ k) = ((2 ^ k : Nat) : Int) := by push_cast; rfl
  have h3 : n / 2 ^ k ≤ n := Nat.div_le_self _ _
  rw [h1, h2, wrap_u32, BitVec.toNat_ushiftRight, Nat.shiftRight_eq_div_pow, BitVec.toNat_ofInt]
  generalize 2 ^ k = m at *
  have h4 : (((n : Int) % ((2 ^ 32 : Nat) : Int)).toNat) = n := by omega
  rw [h4, Int.fdiv_eq_ediv_of_nonneg _ (Int.natCast_nonneg m), ← Int.natCast_ediv]
  generalize n / m = q at *
  have h5 := hz.2
  omega

def v_0 : ACode := match code29 with | .seq x _ => x | _ => .skip
def v_1 : ACode := match code29 with | .seq _ (.seq x _) => x | _ => .skip
def v_2 : ACode := match code29 with | .seq _ (.seq _ (.seq x _)) => x | _ => .skip
def v_3 : ACode := match code29 with | .seq _ (.seq _ (.seq _ x)) => x | _ => .skip
def v2i : ACode := match v_2 with | .seq x _ => x | _ => .skip
def v2h : ACode := match v_2 with | .seq _ (.block _ (.loop _ (.seq (.seq x _) _))) => x | _ => .skip
def v2b : ACode := match v_2 with | .seq _ (.block _ (.loop _ (.seq _ (.seq (.block _ x) _)))) => x | _ => .skip
def v2n : ACode := match v_2 with | .seq _ (.block _ (.loop _ (.seq _ (.seq _ x)))) => x | _ => .skip
def v3i : ACode := match v2b with | .seq x _ => x | _ => .skip
def v3h : ACode := match v2b with | .seq _ (.block _ (.loop _ (.seq (.seq x _) _))) => x | _ => .skip
def v3ba : ACode := match v2b with | .seq _ (.block _ (.loop _ (.seq _ (.seq (.block _ x) _)))) => x | _ => .skip
def v3n : ACode := match v2b with | .seq _ (.block _ (.loop _ (.seq _ (.seq _ x)))) => x | _ => .skip
def v3c : ACode := match v3ba with | .seq a _ => a | _ => .skip
def v3d : ACode := match v3ba with | .seq _ (.seq a _) => a | _ => .skip
def v3f : ACode := match v3ba with | .seq _ (.seq _ (.seq a _)) => a | _ => .skip
def v3g : ACode := match v3ba with | .seq _ (.seq _ (.seq _ (.cond _ a _))) => a | _ => .skip
theorem code29_eq : code29 = .seq v_0 (.seq v_1 (.seq v_2 v_3)) := rfl
def v3L : ACode := .block 2 (.loop [0, 3, 4, 5] (.seq (.seq v3h (.cond (.tmp 14) .skip (.exit 2))) (.seq (.block 3 (.seq v3c (.seq v3d (.seq v3f (.cond (.tmp 31) v3g .skip))))) v3n)))
theorem v_2_eq : v_2 = .seq v2i (.block 0 (.loop [0, 3, 4] (.seq (.seq v2h (.cond (.tmp 10) .skip (.exit 0))) (.seq (.block 1 (.seq v3i v3L)) v2n)))) := rfl

section
variable {tbl : FuncId → Option AFun} {ov : CallSem} {s s0 : St} {e : Env} {v : Value} {zs : List Int}

theorem v2i_gen : WCode (fun k => call tbl ov k) v2i e s fun x e' s' => x = .normal ∧ (∀ j, j < 4 → e'.get j = e.get j) ∧ e'.get 4 = some (in64 0) ∧ s' = s := by
  simp only [v2i, v_2, code29, params, wc_skip, wc_region, wc_draw, wc_seq, wc_cond, wc_block, wc_exit, wc_ret, next_normal, next_exit, next_ret, inBlock_normal, inBlock_ret, inBlock_exit, sq_apply, nrm_apply, drawnK_apply, boolV_bool, ccond_true, ccond_false, wo_nil, wo_cons, wo_guard, wop, bindP_some, cont_some, cont_none, guardV_bool, guardV_undef, gcont_true, gcont_false, gcont_false', ret_apply, aggK_apply, putK_apply, resK_apply, boolK_apply, ccont_apply, wd_nil, wd_cons, dvals_apply, dcont_some, dcont_none, AOp.vals, rd_tmp, rd_const, rd_func, get_cons, mapList, mapOpt, Option.bind_some, Option.map_some, Nat.reduceEqDiff, if_true, if_false, reduceIte, reduceCtorEq, wv_mov, wv_pick, wv_alloc, wv_box, wv_build, wv_load, wv_loadn, wv_store, wv_nilCheck, wv_bin, wv_eq, wv_un, wv_convInt, wv_convSame, wv_fieldAddr, wv_field, wv_fieldn, wv_extract, wv_lenSlice, wv_lenString, wv_mkMap, wv_call, callee_func, wv_indexAddr, wv_lookup, wv_mapUpdate, wv_mapEntry, wv_entryStore, wv_delete, wv_append, wv_slice, wv_mkSlice, wv_buildSlice, wv_index, wv_copy, wv_lenMap, Abs.cellAt, Abs.rowAt, Abs.storeAt, Heap.get_put, List.getElem?_cons_zero, List.getElem?_cons_succ, Nat.zero_add, Nat.reduceAdd, idx, and_self, Int.toNat_natCast, cellsAt, ne_eq, not_true_eq_false, not_false_eq_true, cellList, Value.cells, List.length_cons, List.length_nil, List.all_cons, List.all_nil, isCell, Bool.and_self, storeL, List.set_cons_zero, List.set_cons_succ, footOf, true_and, and_true, Nat.reduceLeDiff, Nat.le_refl, Nat.reduceMul, Nat.reduceLT, List.nil_append, List.cons_append, List.length_set, ends_normal, ends_ret, endK_apply, resV_tmp, tupleV, eqV, Bool.not_true, Bool.not_false, BEq.rfl, Bool.true_beq, Bool.false_beq, beq_true, beq_false, Nat.sub_self, List.range'_zero, decide_true, decide_false, List.not_mem_nil, false_implies, implies_true, Bool.true_and, Bool.and_true, drawn, pairOk, disj, quietAt, Bool.bne_false, Bool.bne_true, Bool.false_eq_true, applyUpd, Int.reduceEq, Int.reduceNeg, bin_add, bin_sub, bin_mul, bin_lss, bin_leq, bin_gtr, bin_geq, bin_eql, bin_neq, un_not, wv_cap, wv_appendMake, wv_clear, wv_toString, wv_toBytes, wv_sameB, wv_mkIface, wv_minmax]
  intro j hj
  simp (disch := omega) only [get_cons, if_neg]

theorem v2h_gen {i : Nat} (hb : BytesV s v zs) (g0 : e.get 0 = some v) (g4 : e.get 4 = some (in64 i)) : WCode (fun k => call tbl ov k) v2h e s fun x e' s' => x = .normal ∧ (∀ j, j < 7 → e'.get j = e.get j) ∧ e'.get 10 = some (.bool (decide (i < zs.length))) ∧ s' = s := by
  obtain ⟨a, cap, rfl⟩ := hb.len
  have d : decide ((i : Int) < (zs.length : Nat)) = decide (i < zs.length) := by simp
  simp only [v2h, v_2, code29, params, wc_skip, wc_region, wc_draw, wc_seq, wc_cond, wc_block, wc_exit, wc_ret, next_normal, next_exit, next_ret, inBlock_normal, inBlock_ret, inBlock_exit, sq_apply, nrm_apply, drawnK_apply, boolV_bool, ccond_true, ccond_false, wo_nil, wo_cons, wo_guard, wop, bindP_some, cont_some, cont_none, guardV_bool, guardV_undef, gcont_true, gcont_false, gcont_false', ret_apply, aggK_apply, putK_apply, resK_apply, boolK_apply, ccont_apply, wd_nil, wd_cons, dvals_apply, dcont_some, dcont_none, AOp.vals, rd_tmp, rd_const, rd_func, get_cons, mapList, mapOpt, Option.bind_some, Option.map_some, Nat.reduceEqDiff, if_true, if_false, reduceIte, reduceCtorEq, wv_mov, wv_pick, wv_alloc, wv_box, wv_build, wv_load, wv_loadn, wv_store, wv_nilCheck, wv_bin, wv_eq, wv_un, wv_convInt, wv_convSame, wv_fieldAddr, wv_field, wv_fieldn, wv_extract, wv_lenSlice, wv_lenString, wv_mkMap, wv_call, callee_func, wv_indexAddr, wv_lookup, wv_mapUpdate, wv_mapEntry, wv_entryStore, wv_delete, wv_append, wv_slice, wv_mkSlice, wv_buildSlice, wv_index, wv_copy, wv_lenMap, Abs.cellAt, Abs.rowAt, Abs.storeAt, Heap.get_put, List.getElem?_cons_zero, List.getElem?_cons_succ, Nat.zero_add, Nat.reduceAdd, idx, and_self, Int.toNat_natCast, cellsAt, ne_eq, not_true_eq_false, not_false_eq_true, cellList, Value.cells, List.length_cons, List.length_nil, List.all_cons, List.all_nil, isCell, Bool.and_self, storeL, List.set_cons_zero, List.set_cons_succ, footOf, true_and, and_true, Nat.reduceLeDiff, Nat.le_refl, Nat.reduceMul, Nat.reduceLT, List.nil_append, List.cons_append, List.length_set, ends_normal, ends_ret, endK_apply, resV_tmp, tupleV, eqV, Bool.not_true, Bool.not_false, BEq.rfl, Bool.true_beq, Bool.false_beq, beq_true, beq_false, Nat.sub_self, List.range'_zero, decide_true, decide_false, List.not_mem_nil, false_implies, implies_true, Bool.true_and, Bool.and_true, drawn, pairOk, disj, quietAt, Bool.bne_false, Bool.bne_true, Bool.false_eq_true, applyUpd, Int.reduceEq, Int.reduceNeg, bin_add, bin_sub, bin_mul, bin_lss, bin_leq, bin_gtr, bin_geq, bin_eql, bin_neq, un_not, wv_cap, wv_appendMake, wv_clear, wv_toString, wv_toBytes, wv_sameB, wv_mkIface, wv_minmax, g0, g4, d]
  intro j hj
  simp (disch := omega) only [get_cons, if_neg]

theorem v3i_gen : WCode (fun k => call tbl ov k) v3i e s fun x e' s' => x = .normal ∧ (∀ j, j < 5 → e'.get j = e.get j) ∧ e'.get 5 = some (in64 0) ∧ s' = s := by
  simp only [v3i, v2b, v_2, code29, params, wc_skip, wc_region, wc_draw, wc_seq, wc_cond, wc_block, wc_exit, wc_ret, next_normal, next_exit, next_ret, inBlock_normal, inBlock_ret, inBlock_exit, sq_apply, nrm_apply, drawnK_apply, boolV_bool, ccond_true, ccond_false, wo_nil, wo_cons, wo_guard, wop, bindP_some, cont_some, cont_none, guardV_bool, guardV_undef, gcont_true, gcont_false, gcont_false', ret_apply, aggK_apply, putK_apply, resK_apply, boolK_apply, ccont_apply, wd_nil, wd_cons, dvals_apply, dcont_some, dcont_none, AOp.vals, rd_tmp, rd_const, rd_func, get_cons, mapList, mapOpt, Option.bind_some, Option.map_some, Nat.reduceEqDiff, if_true, if_false, reduceIte, reduceCtorEq, wv_mov, wv_pick, wv_alloc, wv_box, wv_build, wv_load, wv_loadn, wv_store, wv_nilCheck, wv_bin, wv_eq, wv_un, wv_convInt, wv_convSame, wv_fieldAddr, wv_field, wv_fieldn, wv_extract, wv_lenSlice, wv_lenString, wv_mkMap, wv_call, callee_func, wv_indexAddr, wv_lookup, wv_mapUpdate, wv_mapEntry, wv_entryStore, wv_delete, wv_append, wv_slice, wv_mkSlice, wv_buildSlice, wv_index, wv_copy, wv_lenMap, Abs.cellAt, Abs.rowAt, Abs.storeAt, Heap.get_put, List.getElem?_cons_zero, List.getElem?_cons_succ, Nat.zero_add, Nat.reduceAdd, idx, and_self, Int.toNat_natCast, cellsAt, ne_eq, not_true_eq_false, not_false_eq_true, cellList, Value.cells, List.length_cons, List.length_nil, List.all_cons, List.all_nil, isCell, Bool.and_self, storeL, List.set_cons_zero, List.set_cons_succ, footOf, true_and, and_true, Nat.reduceLeDiff, Nat.le_refl, Nat.reduceMul, Nat.reduceLT, List.nil_append, List.cons_append, List.length_set, ends_normal, ends_ret, endK_apply, resV_tmp, tupleV, eqV, Bool.not_true, Bool.not_false, BEq.rfl, Bool.true_beq, Bool.false_beq, beq_true, beq_false, Nat.sub_self, List.range'_zero, decide_true, decide_false, List.not_mem_nil, false_implies, implies_true, Bool.true_and, Bool.and_true, drawn, pairOk, disj, quietAt, Bool.bne_false, Bool.bne_true, Bool.false_eq_true, applyUpd, Int.reduceEq, Int.reduceNeg, bin_add, bin_sub, bin_mul, bin_lss, bin_leq, bin_gtr, bin_geq, bin_eql, bin_neq, un_not, wv_cap, wv_appendMake, wv_clear, wv_toString, wv_toBytes, wv_sameB, wv_mkIface, wv_minmax]
  intro j hj
  simp (disch := omega) only [get_cons, if_neg]

theorem v3h_gen {k : Nat} (g5 : e.get 5 = some (in64 k)) : WCode (fun k => call tbl ov k) v3h e s fun x e' s' => x = .normal ∧ (∀ j, j < 7 → e'.get j = e.get j) ∧ e'.get 14 = some (.bool (decide (k < 8))) ∧ s' = s := by
  have d : decide ((k : Int) < 8) = decide (k < 8) := by
    have : ((k : Int) < 8) ↔ k < 8 := by omega
    simp only [this]
  simp only [v3h, v2b, v_2, code29, params, wc_skip, wc_region, wc_draw, wc_seq, wc_cond, wc_block, wc_exit, wc_ret, next_normal, next_exit, next_ret, inBlock_normal, inBlock_ret, inBlock_exit, sq_apply, nrm_apply, drawnK_apply, boolV_bool, ccond_true, ccond_false, wo_nil, wo_cons, wo_guard, wop, bindP_some, cont_some, cont_none, guardV_bool, guardV_undef, gcont_true, gcont_false, gcont_false', ret_apply, aggK_apply, putK_apply, resK_apply, boolK_apply, ccont_apply, wd_nil, wd_cons, dvals_apply, dcont_some, dcont_none, AOp.vals, rd_tmp, rd_const, rd_func, get_cons, mapList, mapOpt, Option.bind_some, Option.map_some, Nat.reduceEqDiff, if_true, if_false, reduceIte, reduceCtorEq, wv_mov, wv_pick, wv_alloc, wv_box, wv_build, wv_load, wv_loadn, wv_store, wv_nilCheck, wv_bin, wv_eq, wv_un, wv_convInt, wv_convSame, wv_fieldAddr, wv_field, wv_fieldn, wv_extract, wv_lenSlice, wv_lenString, wv_mkMap, wv_call, callee_func, wv_indexAddr, wv_lookup, wv_mapUpdate, wv_mapEntry, wv_entryStore, wv_delete, wv_append, wv_slice, wv_mkSlice, wv_buildSlice, wv_index, wv_copy, wv_lenMap, Abs.cellAt, Abs.rowAt, Abs.storeAt, Heap.get_put, List.getElem?_cons_zero, List.getElem?_cons_succ, Nat.zero_add, Nat.reduceAdd, idx, and_self, Int.toNat_natCast, cellsAt, ne_eq, not_true_eq_false, not_false_eq_true, cellList, Value.cells, List.length_cons, List.length_nil, List.all_cons, List.all_nil, isCell, Bool.and_self, storeL, List.set_cons_zero, List.set_cons_succ, footOf, true_and, and_true, Nat.reduceLeDiff, Nat.le_refl, Nat.reduceMul, Nat.reduceLT, List.nil_append, List.cons_append, List.length_set, ends_normal, ends_ret, endK_apply, resV_tmp, tupleV, eqV, Bool.not_true, Bool.not_false, BEq.rfl, Bool.true_beq, Bool.false_beq, beq_true, beq_false, Nat.sub_self, List.range'_zero, decide_true, decide_false, List.not_mem_nil, false_implies, implies_true, Bool.true_and, Bool.and_true, drawn, pairOk, disj, quietAt, Bool.bne_false, Bool.bne_true, Bool.false_eq_true, applyUpd, Int.reduceEq, Int.reduceNeg, bin_add, bin_sub, bin_mul, bin_lss, bin_leq, bin_gtr, bin_geq, bin_eql, bin_neq, un_not, wv_cap, wv_appendMake, wv_clear, wv_toString, wv_toBytes, wv_sameB, wv_mkIface, wv_minmax, g5, d]
  intro j hj
  simp (disch := omega) only [get_cons, if_neg]

theorem bin_shr_u8 {z : Int} {k : Nat} : binV .shr (.int .u8 z) (.int .u64 k) = some (.int .u8 (z.fdiv (2 ^ min k IntKind.u8.bits))) := by
  simp only [binV, show ¬ (k : Int) < 0 by omega, if_false, Int.toNat_natCast]

theorem v3c_gen (hb : BytesV s v zs) {i k : Nat} (hi : i < zs.length) (hk : k < 8) {x : BitVec 32} (g0 : e.get 0 = some v) (g3 : e.get 3 = some (u32 x)) (g4 : e.get 4 = some (in64 i)) (g5 : e.get 5 = some (in64 k)) :
    WCode (fun k => call tbl ov k) v3c e s fun y e' s' => y = .normal ∧ (∀ j, j < 6 → e'.get j = e.get j) ∧ e'.get 6 = some (.int .u32 (((x ^^^ ((BitVec.ofInt 32 (zs.getD i 0)) >>> k)).toNat % 2 : Nat) : Int)) ∧ s' = s := by
  obtain ⟨id, o, cap, c, t, sz, ro, rfl, h1, h2, h3, h4, h5⟩ := hb.row (by omega)
  have hz := hb.1 (zs.getD i 0) (by
    rw [List.getD_eq_getElem?_getD, List.getElem?_eq_getElem hi, Option.getD_some]
    exact List.getElem_mem hi)
  have d2 : (0 : Int) ≤ i := by omega
  have d3 : (i : Int) < (zs.length : Nat) := by omega
  have hg := h5 i hi
  have w : IntKind.u64.wrap (k : Int) = k := by
    have : IntKind.u64.wrap (k : Int) = (k : Int) % 18446744073709551616 := by simp [IntKind.wrap, IntKind.signed, IntKind.bits]
    rw [this]; omega
  have hsh := byte_shr hz hk
  have hx := bin_xor x ((BitVec.ofInt 32 (zs.getD i 0)) >>> k)
  have hr := bin_rem2 (x ^^^ ((BitVec.ofInt 32 (zs.getD i 0)) >>> k))
  simp only [v3c, v3ba, v2b, v_2, code29, params, wc_skip, wc_region, wc_draw, wc_seq, wc_cond, wc_block, wc_exit, wc_ret, next_normal, next_exit, next_ret, inBlock_normal, inBlock_ret, inBlock_exit, sq_apply, nrm_apply, drawnK_apply, boolV_bool, ccond_true, ccond_false, wo_nil, wo_cons, wo_guard, wop, bindP_some, cont_some, cont_none, guardV_bool, guardV_undef, gcont_true, gcont_false, gcont_false', ret_apply, aggK_apply, putK_apply, resK_apply, boolK_apply, ccont_apply, wd_nil, wd_cons, dvals_apply, dcont_some, dcont_none, AOp.vals, rd_tmp, rd_const, rd_func, get_cons, mapList, mapOpt, Option.bind_some, Option.map_some, Nat.reduceEqDiff, if_true, if_false, reduceIte, reduceCtorEq, wv_mov, wv_pick, wv_alloc, wv_box, wv_build, wv_load, wv_loadn, wv_store, wv_nilCheck, wv_bin, wv_eq, wv_un, wv_convInt, wv_convSame, wv_fieldAddr, wv_field, wv_fieldn, wv_extract, wv_lenSlice, wv_lenString, wv_mkMap, wv_call, callee_func, wv_indexAddr, wv_lookup, wv_mapUpdate, wv_mapEntry, wv_entryStore, wv_delete, wv_append, wv_slice, wv_mkSlice, wv_buildSlice, wv_index, wv_copy, wv_lenMap, Abs.cellAt, Abs.rowAt, Abs.storeAt, Heap.get_put, List.getElem?_cons_zero, List.getElem?_cons_succ, Nat.zero_add, Nat.reduceAdd, idx, and_self, Int.toNat_natCast, cellsAt, ne_eq, not_true_eq_false, not_false_eq_true, cellList, Value.cells, List.length_cons, List.length_nil, List.all_cons, List.all_nil, isCell, Bool.and_self, storeL, List.set_cons_zero, List.set_cons_succ, footOf, true_and, and_true, Nat.reduceLeDiff, Nat.le_refl, Nat.reduceMul, Nat.reduceLT, List.nil_append, List.cons_append, List.length_set, ends_normal, ends_ret, endK_apply, resV_tmp, tupleV, eqV, Bool.not_true, Bool.not_false, BEq.rfl, Bool.true_beq, Bool.false_beq, beq_true, beq_false, Nat.sub_self, List.range'_zero, decide_true, decide_false, List.not_mem_nil, false_implies, implies_true, Bool.true_and, Bool.and_true, drawn, pairOk, disj, quietAt, Bool.bne_false, Bool.bne_true, Bool.false_eq_true, applyUpd, Int.reduceEq, Int.reduceNeg, bin_add, bin_sub, bin_mul, bin_lss, bin_leq, bin_gtr, bin_geq, bin_eql, bin_neq, un_not, wv_cap, wv_appendMake, wv_clear, wv_toString, wv_toBytes, wv_sameB, wv_mkIface, wv_minmax, g0, g3, g4, g5, d2, d3, Nat.mul_one, h3, hg, w, bin_shr_u8, hsh, hx, hr]
  intro j hj
  simp (disch := omega) only [get_cons, if_neg]

theorem v3d_gen {x : BitVec 32} {b : Nat} (g3 : e.get 3 = some (u32 x)) (g6 : e.get 6 = some (.int .u32 (b : Int))) :
    WCode (fun k => call tbl ov k) (.seq v3d v3f) e s fun y e' s' => y = .normal ∧ e'.get 0 = e.get 0 ∧ e'.get 4 = e.get 4 ∧ e'.get 5 = e.get 5 ∧ e'.get 3 = some (u32 (x >>> 1)) ∧ e'.get 31 = some (.bool (decide (b = 1))) ∧ s' = s := by
  have d : (((b : Nat) : Int) == 1) = decide (b = 1) := by
    rw [Bool.eq_iff_iff]; simp; omega
  simp only [v3d, v3f, v3ba, v2b, v_2, code29, params, wc_skip, wc_region, wc_draw, wc_seq, wc_cond, wc_block, wc_exit, wc_ret, next_normal, next_exit, next_ret, inBlock_normal, inBlock_ret, inBlock_exit, sq_apply, nrm_apply, drawnK_apply, boolV_bool, ccond_true, ccond_false, wo_nil, wo_cons, wo_guard, wop, bindP_some, cont_some, cont_none, guardV_bool, guardV_undef, gcont_true, gcont_false, gcont_false', ret_apply, aggK_apply, putK_apply, resK_apply, boolK_apply, ccont_apply, wd_nil, wd_cons, dvals_apply, dcont_some, dcont_none, AOp.vals, rd_tmp, rd_const, rd_func, get_cons, mapList, mapOpt, Option.bind_some, Option.map_some, Nat.reduceEqDiff, if_true, if_false, reduceIte, reduceCtorEq, wv_mov, wv_pick, wv_alloc, wv_box, wv_build, wv_load, wv_loadn, wv_store, wv_nilCheck, wv_bin, wv_eq, wv_un, wv_convInt, wv_convSame, wv_fieldAddr, wv_field, wv_fieldn, wv_extract, wv_lenSlice, wv_lenString, wv_mkMap, wv_call, callee_func, wv_indexAddr, wv_lookup, wv_mapUpdate, wv_mapEntry, wv_entryStore, wv_delete, wv_append, wv_slice, wv_mkSlice, wv_buildSlice, wv_index, wv_copy, wv_lenMap, Abs.cellAt, Abs.rowAt, Abs.storeAt, Heap.get_put, List.getElem?_cons_zero, List.getElem?_cons_succ, Nat.zero_add, Nat.reduceAdd, idx, and_self, Int.toNat_natCast, cellsAt, ne_eq, not_true_eq_false, not_false_eq_true, cellList, Value.cells, List.length_cons, List.length_nil, List.all_cons, List.all_nil, isCell, Bool.and_self, storeL, List.set_cons_zero, List.set_cons_succ, footOf, true_and, and_true, Nat.reduceLeDiff, Nat.le_refl, Nat.reduceMul, Nat.reduceLT, List.nil_append, List.cons_append, List.length_set, ends_normal, ends_ret, endK_apply, resV_tmp, tupleV, eqV, Bool.not_true, Bool.not_false, BEq.rfl, Bool.true_beq, Bool.false_beq, beq_true, beq_false, Nat.sub_self, List.range'_zero, decide_true, decide_false, List.not_mem_nil, false_implies, implies_true, Bool.true_and, Bool.and_true, drawn, pairOk, disj, quietAt, Bool.bne_false, Bool.bne_true, Bool.false_eq_true, applyUpd, Int.reduceEq, Int.reduceNeg, bin_add, bin_sub, bin_mul, bin_lss, bin_leq, bin_gtr, bin_geq, bin_eql, bin_neq, un_not, wv_cap, wv_appendMake, wv_clear, wv_toString, wv_toBytes, wv_sameB, wv_mkIface, wv_minmax, g3, g6, bin_quo2, d]

theorem v3g_gen {x : BitVec 32} (g3 : e.get 3 = some (u32 x)) : WCode (fun k => call tbl ov k) v3g e s fun y e' s' => y = .normal ∧ e'.get 0 = e.get 0 ∧ e'.get 4 = e.get 4 ∧ e'.get 5 = e.get 5 ∧ e'.get 3 = some (u32 (x ^^^ poly)) ∧ s' = s := by
  simp only [v3g, v3ba, v2b, v_2, code29, params, wc_skip, wc_region, wc_draw, wc_seq, wc_cond, wc_block, wc_exit, wc_ret, next_normal, next_exit, next_ret, inBlock_normal, inBlock_ret, inBlock_exit, sq_apply, nrm_apply, drawnK_apply, boolV_bool, ccond_true, ccond_false, wo_nil, wo_cons, wo_guard, wop, bindP_some, cont_some, cont_none, guardV_bool, guardV_undef, gcont_true, gcont_false, gcont_false', ret_apply, aggK_apply, putK_apply, resK_apply, boolK_apply, ccont_apply, wd_nil, wd_cons, dvals_apply, dcont_some, dcont_none, AOp.vals, rd_tmp, rd_const, rd_func, get_cons, mapList, mapOpt, Option.bind_some, Option.map_some, Nat.reduceEqDiff, if_true, if_false, reduceIte, reduceCtorEq, wv_mov, wv_pick, wv_alloc, wv_box, wv_build, wv_load, wv_loadn, wv_store, wv_nilCheck, wv_bin, wv_eq, wv_un, wv_convInt, wv_convSame, wv_fieldAddr, wv_field, wv_fieldn, wv_extract, wv_lenSlice, wv_lenString, wv_mkMap, wv_call, callee_func, wv_indexAddr, wv_lookup, wv_mapUpdate, wv_mapEntry, wv_entryStore, wv_delete, wv_append, wv_slice, wv_mkSlice, wv_buildSlice, wv_index, wv_copy, wv_lenMap, Abs.cellAt, Abs.rowAt, Abs.storeAt, Heap.get_put, List.getElem?_cons_zero, List.getElem?_cons_succ, Nat.zero_add, Nat.reduceAdd, idx, and_self, Int.toNat_natCast, cellsAt, ne_eq, not_true_eq_false, not_false_eq_true, cellList, Value.cells, List.length_cons, List.length_nil, List.all_cons, List.all_nil, isCell, Bool.and_self, storeL, List.set_cons_zero, List.set_cons_succ, footOf, true_and, and_true, Nat.reduceLeDiff, Nat.le_refl, Nat.reduceMul, Nat.reduceLT, List.nil_append, List.cons_append, List.length_set, ends_normal, ends_ret, endK_apply, resV_tmp, tupleV, eqV, Bool.not_true, Bool.not_false, BEq.rfl, Bool.true_beq, Bool.false_beq, beq_true, beq_false, Nat.sub_self, List.range'_zero, decide_true, decide_false, List.not_mem_nil, false_implies, implies_true, Bool.true_and, Bool.and_true, drawn, pairOk, disj, quietAt, Bool.bne_false, Bool.bne_true, Bool.false_eq_true, applyUpd, Int.reduceEq, Int.reduceNeg, bin_add, bin_sub, bin_mul, bin_lss, bin_leq, bin_gtr, bin_geq, bin_eql, bin_neq, un_not, wv_cap, wv_appendMake, wv_clear, wv_toString, wv_toBytes, wv_sameB, wv_mkIface, wv_minmax, g3, xor_poly]

theorem v3n_gen {k : Nat} (hk : k < 100) (g5 : e.get 5 = some (in64 k)) : WCode (fun k => call tbl ov k) v3n e s fun x e' s' => x = .normal ∧ (∀ j, j < 5 → e'.get j = e.get j) ∧ e'.get 5 = some (in64 (k + 1 : Nat)) ∧ s' = s := by
  have w : IntKind.i64.wrap ((k : Int) + 1) = ((k + 1 : Nat) : Int) := by rw [wrap64 (by omega) (by omega)]; omega
  simp only [v3n, v2b, v_2, code29, params, wc_skip, wc_region, wc_draw, wc_seq, wc_cond, wc_block, wc_exit, wc_ret, next_normal, next_exit, next_ret, inBlock_normal, inBlock_ret, inBlock_exit, sq_apply, nrm_apply, drawnK_apply, boolV_bool, ccond_true, ccond_false, wo_nil, wo_cons, wo_guard, wop, bindP_some, cont_some, cont_none, guardV_bool, guardV_undef, gcont_true, gcont_false, gcont_false', ret_apply, aggK_apply, putK_apply, resK_apply, boolK_apply, ccont_apply, wd_nil, wd_cons, dvals_apply, dcont_some, dcont_none, AOp.vals, rd_tmp, rd_const, rd_func, get_cons, mapList, mapOpt, Option.bind_some, Option.map_some, Nat.reduceEqDiff, if_true, if_false, reduceIte, reduceCtorEq, wv_mov, wv_pick, wv_alloc, wv_box, wv_build, wv_load, wv_loadn, wv_store, wv_nilCheck, wv_bin, wv_eq, wv_un, wv_convInt, wv_convSame, wv_fieldAddr, wv_field, wv_fieldn, wv_extract, wv_lenSlice, wv_lenString, wv_mkMap, wv_call, callee_func, wv_indexAddr, wv_lookup, wv_mapUpdate, wv_mapEntry, wv_entryStore, wv_delete, wv_append, wv_slice, wv_mkSlice, wv_buildSlice, wv_index, wv_copy, wv_lenMap, Abs.cellAt, Abs.rowAt, Abs.storeAt, Heap.get_put, List.getElem?_cons_zero, List.getElem?_cons_succ, Nat.zero_add, Nat.reduceAdd, idx, and_self, Int.toNat_natCast, cellsAt, ne_eq, not_true_eq_false, not_false_eq_true, cellList, Value.cells, List.length_cons, List.length_nil, List.all_cons, List.all_nil, isCell, Bool.and_self, storeL, List.set_cons_zero, List.set_cons_succ, footOf, true_and, and_true, Nat.reduceLeDiff, Nat.le_refl, Nat.reduceMul, Nat.reduceLT, List.nil_append, List.cons_append, List.length_set, ends_normal, ends_ret, endK_apply, resV_tmp, tupleV, eqV, Bool.not_true, Bool.not_false, BEq.rfl, Bool.true_beq, Bool.false_beq, beq_true, beq_false, Nat.sub_self, List.range'_zero, decide_true, decide_false, List.not_mem_nil, false_implies, implies_true, Bool.true_and, Bool.and_true, drawn, pairOk, disj, quietAt, Bool.bne_false, Bool.bne_true, Bool.false_eq_true, applyUpd, Int.reduceEq, Int.reduceNeg, bin_add, bin_sub, bin_mul, bin_lss, bin_leq, bin_gtr, bin_geq, bin_eql, bin_neq, un_not, wv_cap, wv_appendMake, wv_clear, wv_toString, wv_toBytes, wv_sameB, wv_mkIface, wv_minmax, g5, w]
  intro j hj
  simp (disch := omega) only [get_cons, if_neg]

theorem v2n_gen {i : Nat} (hi : i < 2 ^ 62) (g4 : e.get 4 = some (in64 i)) : WCode (fun k => call tbl ov k) v2n e s fun x e' s' => x = .normal ∧ (∀ j, j < 4 → e'.get j = e.get j) ∧ e'.get 4 = some (in64 (i + 1 : Nat)) ∧ s' = s := by
  have w : IntKind.i64.wrap ((i : Int) + 1) = ((i + 1 : Nat) : Int) := by rw [wrap64 (by omega) (by omega)]; omega
  simp only [v2n, v_2, code29, params, wc_skip, wc_region, wc_draw, wc_seq, wc_cond, wc_block, wc_exit, wc_ret, next_normal, next_exit, next_ret, inBlock_normal, inBlock_ret, inBlock_exit, sq_apply, nrm_apply, drawnK_apply, boolV_bool, ccond_true, ccond_false, wo_nil, wo_cons, wo_guard, wop, bindP_some, cont_some, cont_none, guardV_bool, guardV_undef, gcont_true, gcont_false, gcont_false', ret_apply, aggK_apply, putK_apply, resK_apply, boolK_apply, ccont_apply, wd_nil, wd_cons, dvals_apply, dcont_some, dcont_none, AOp.vals, rd_tmp, rd_const, rd_func, get_cons, mapList, mapOpt, Option.bind_some, Option.map_some, Nat.reduceEqDiff, if_true, if_false, reduceIte, reduceCtorEq, wv_mov, wv_pick, wv_alloc, wv_box, wv_build, wv_load, wv_loadn, wv_store, wv_nilCheck, wv_bin, wv_eq, wv_un, wv_convInt, wv_convSame, wv_fieldAddr, wv_field, wv_fieldn, wv_extract, wv_lenSlice, wv_lenString, wv_mkMap, wv_call, callee_func, wv_indexAddr, wv_lookup, wv_mapUpdate, wv_mapEntry, wv_entryStore, wv_delete, wv_append, wv_slice, wv_mkSlice, wv_buildSlice, wv_index, wv_copy, wv_lenMap, Abs.cellAt, Abs.rowAt, Abs.storeAt, Heap.get_put, List.getElem?_cons_zero, List.getElem?_cons_succ, Nat.zero_add, Nat.reduceAdd, idx, and_self, Int.toNat_natCast, cellsAt, ne_eq, not_true_eq_false, not_false_eq_true, cellList, Value.cells, List.length_cons, List.length_nil, List.all_cons, List.all_nil, isCell, Bool.and_self, storeL, List.set_cons_zero, List.set_cons_succ, footOf, true_and, and_true, Nat.reduceLeDiff, Nat.le_refl, Nat.reduceMul, Nat.reduceLT, List.nil_append, List.cons_append, List.length_set, ends_normal, ends_ret, endK_apply, resV_tmp, tupleV, eqV, Bool.not_true, Bool.not_false, BEq.rfl, Bool.true_beq, Bool.false_beq, beq_true, beq_false, Nat.sub_self, List.range'_zero, decide_true, decide_false, List.not_mem_nil, false_implies, implies_true, Bool.true_and, Bool.and_true, drawn, pairOk, disj, quietAt, Bool.bne_false, Bool.bne_true, Bool.false_eq_true, applyUpd, Int.reduceEq, Int.reduceNeg, bin_add, bin_sub, bin_mul, bin_lss, bin_leq, bin_gtr, bin_geq, bin_eql, bin_neq, un_not, wv_cap, wv_appendMake, wv_clear, wv_toString, wv_toBytes, wv_sameB, wv_mkIface, wv_minmax, g4, w]
  intro j hj
  simp (disch := omega) only [get_cons, if_neg]

theorem v3L_gen (hb : BytesV s v zs) {i : Nat} (hi : i < zs.length) {x : BitVec 32} (g0 : e.get 0 = some v) (g3 : e.get 3 = some (u32 x)) (g4 : e.get 4 = some (in64 i)) :
    WCode (fun k => call tbl ov k) (.seq v3i v3L) e s fun y e' s' => y = .normal ∧ e'.get 0 = some v ∧ e'.get 4 = some (in64 i) ∧ e'.get 3 = some (u32 (rL (BitVec.ofInt 32 (zs.getD i 0)) 8 x)) ∧ s' = s := by
  refine wc_then v3i_gen ?_
  rintro e1 s1 ⟨k1, a5, rfl⟩
  refine wc_for (fun m e' s' => ∃ k, m = 8 - k ∧ k ≤ 8 ∧ e'.get 0 = some v ∧ e'.get 4 = some (in64 i) ∧ e'.get 3 = some (u32 (rL (BitVec.ofInt 32 (zs.getD i 0)) k x)) ∧ e'.get 5 = some (in64 (k : Nat)) ∧ s' = s1) 8 ?_ ?_
  · exact ⟨0, rfl, by omega, (k1 0 (by omega)).trans g0, (k1 4 (by omega)).trans g4, (k1 3 (by omega)).trans g3, a5, rfl⟩
  · rintro m e2 s2 E ⟨k, rfl, hk, b0, b4, b3, b5, rfl⟩ hE
    have c0 := (hE 0 (by simp)).trans b0
    have c3 := (hE 3 (by simp)).trans b3
    have c4 := (hE 4 (by simp)).trans b4
    have c5 := (hE 5 (by simp)).trans b5
    refine WCode.mono ?_ (v3h_gen c5)
    rintro y e3 s3 ⟨rfl, k3, a14, rfl⟩
    refine ⟨rfl, _, a14, fun hbb => ?_, fun hbb => ?_⟩
    · simp only [decide_eq_false_iff_not] at hbb
      have : k = 8 := by omega
      subst this
      exact ⟨rfl, (k3 0 (by omega)).trans c0, (k3 4 (by omega)).trans c4, (k3 3 (by omega)).trans c3, rfl⟩
    · simp only [decide_eq_true_eq] at hbb
      rw [wc_seq]
      refine WCode.mono ?_ (v3c_gen hb hi hbb ((k3 0 (by omega)).trans c0) ((k3 3 (by omega)).trans c3) ((k3 4 (by omega)).trans c4) ((k3 5 (by omega)).trans c5))
      rintro y e4 s4 ⟨rfl, k4, a6, rfl⟩
      rw [next_normal, sq_apply, wc_assoc, wc_seq]
      refine WCode.mono ?_ (v3d_gen ((k4 3 (by omega)).trans ((k3 3 (by omega)).trans c3)) a6)
      rintro y e5 s5 ⟨rfl, d0, d4, d5, d3, d31, rfl⟩
      rw [next_normal, sq_apply, wc_cond, rd_tmp, d31, boolV_bool, bindP_some]
      have f0 := d0.trans ((k4 0 (by omega)).trans ((k3 0 (by omega)).trans c0))
      have f4 := d4.trans ((k4 4 (by omega)).trans ((k3 4 (by omega)).trans c4))
      have f5 := d5.trans ((k4 5 (by omega)).trans ((k3 5 (by omega)).trans c5))
      have key : WCode (fun k => call tbl ov k) (if ((rL (BitVec.ofInt 32 (zs.getD i 0)) k x) ^^^ ((BitVec.ofInt 32 (zs.getD i 0)) >>> k)).toNat % 2 = 1 then v3g else .skip) e5 s5 fun y e' s' => y = .normal ∧ e'.get 0 = e5.get 0 ∧ e'.get 4 = e5.get 4 ∧ e'.get 5 = e5.get 5 ∧ e'.get 3 = some (u32 (rL (BitVec.ofInt 32 (zs.getD i 0)) (k + 1) x)) ∧ s' = s5 := by
        split
        · rename_i h1
          refine WCode.mono ?_ (v3g_gen d3)
          rintro y e' s' ⟨rfl, h0, h4, h5, h3, rfl⟩
          refine ⟨rfl, h0, h4, h5, ?_, rfl⟩
          rw [h3, rL, rstep, if_pos h1]
        · rename_i h1
          rw [wc_skip]
          refine ⟨rfl, rfl, rfl, rfl, ?_, rfl⟩
          rw [d3, rL, rstep, if_neg h1, BitVec.xor_zero]
      have hfin : ∀ y e6 s6, (y = AExit.normal ∧ e6.get 0 = e5.get 0 ∧ e6.get 4 = e5.get 4 ∧ e6.get 5 = e5.get 5 ∧ e6.get 3 = some (u32 (rL (BitVec.ofInt 32 (zs.getD i 0)) (k + 1) x)) ∧ s6 = s5) →
          bodyK 2 3 (fun y e' s' => y = AExit.normal ∧ e'.get 0 = some v ∧ e'.get 4 = some (in64 i) ∧ e'.get 3 = some (u32 (rL (BitVec.ofInt 32 (zs.getD i 0)) 8 x)) ∧ s' = s5)
            (fun e2 s2 => WCode (fun k => call tbl ov k) v3n e2 s2 fun z e3 s3 => z = .normal ∧ ∃ k', k' < 8 - k ∧ ∃ k_1, k' = 8 - k_1 ∧ k_1 ≤ 8 ∧ e3.get 0 = some v ∧ e3.get 4 = some (in64 i) ∧ e3.get 3 = some (u32 (rL (BitVec.ofInt 32 (zs.getD i 0)) k_1 x)) ∧ e3.get 5 = some (in64 (k_1 : Nat)) ∧ s3 = s5) y e6 s6 := by
        rintro y e6 s6 ⟨rfl, h0, h4, h5, h3, rfl⟩
        refine .inl ⟨.inl rfl, ?_⟩
        refine WCode.mono ?_ (v3n_gen (k := k) (by omega) (h5.trans f5))
        rintro y e7 s7 ⟨rfl, k7, j5, rfl⟩
        exact ⟨rfl, 8 - (k + 1), by omega, k + 1, rfl, by omega, (k7 0 (by omega)).trans (h0.trans f0), (k7 4 (by omega)).trans (h4.trans f4), (k7 3 (by omega)).trans h3, j5, rfl⟩
      by_cases h1 : ((rL (BitVec.ofInt 32 (zs.getD i 0)) k x) ^^^ ((BitVec.ofInt 32 (zs.getD i 0)) >>> k)).toNat % 2 = 1
      · rw [decide_eq_true h1, ccond_true]
        rw [if_pos h1] at key
        exact WCode.mono hfin key
      · rw [decide_eq_false h1, ccond_false]
        rw [if_neg h1] at key
        exact WCode.mono hfin key

theorem ref_spec (h29 : tbl 29 = some fun29) (hb : BytesV s v zs) (hz : zs.length < 2 ^ 62) : WCall (fun k => call tbl ov k) 29 [v] s fun u s' => u = u32 (sumL zs) ∧ s' = s := by
  refine WCall.of h29 rfl ?_
  simp only [fun29, code29_eq, params]
  have h0 : WCode (fun k => call tbl ov k) (.seq v_0 v_1) [(0, v)] s fun x e' s' => x = .normal ∧ e'.get 0 = some v ∧ e'.get 3 = some (u32 (BitVec.allOnes 32)) ∧ s' = s := by
    simp only [v_0, v_1, code29, params, wc_skip, wc_region, wc_draw, wc_seq, wc_cond, wc_block, wc_exit, wc_ret, next_normal, next_exit, next_ret, inBlock_normal, inBlock_ret, inBlock_exit, sq_apply, nrm_apply, drawnK_apply, boolV_bool, ccond_true, ccond_false, wo_nil, wo_cons, wo_guard, wop, bindP_some, cont_some, cont_none, guardV_bool, guardV_undef, gcont_true, gcont_false, gcont_false', ret_apply, aggK_apply, putK_apply, resK_apply, boolK_apply, ccont_apply, wd_nil, wd_cons, dvals_apply, dcont_some, dcont_none, AOp.vals, rd_tmp, rd_const, rd_func, get_cons, mapList, mapOpt, Option.bind_some, Option.map_some, Nat.reduceEqDiff, if_true, if_false, reduceIte, reduceCtorEq, wv_mov, wv_pick, wv_alloc, wv_box, wv_build, wv_load, wv_loadn, wv_store, wv_nilCheck, wv_bin, wv_eq, wv_un, wv_convInt, wv_convSame, wv_fieldAddr, wv_field, wv_fieldn, wv_extract, wv_lenSlice, wv_lenString, wv_mkMap, wv_call, callee_func, wv_indexAddr, wv_lookup, wv_mapUpdate, wv_mapEntry, wv_entryStore, wv_delete, wv_append, wv_slice, wv_mkSlice, wv_buildSlice, wv_index, wv_copy, wv_lenMap, Abs.cellAt, Abs.rowAt, Abs.storeAt, Heap.get_put, List.getElem?_cons_zero, List.getElem?_cons_succ, Nat.zero_add, Nat.reduceAdd, idx, and_self, Int.toNat_natCast, cellsAt, ne_eq, not_true_eq_false, not_false_eq_true, cellList, Value.cells, List.length_cons, List.length_nil, List.all_cons, List.all_nil, isCell, Bool.and_self, storeL, List.set_cons_zero, List.set_cons_succ, footOf, true_and, and_true, Nat.reduceLeDiff, Nat.le_refl, Nat.reduceMul, Nat.reduceLT, List.nil_append, List.cons_append, List.length_set, ends_normal, ends_ret, endK_apply, resV_tmp, tupleV, eqV, Bool.not_true, Bool.not_false, BEq.rfl, Bool.true_beq, Bool.false_beq, beq_true, beq_false, Nat.sub_self, List.range'_zero, decide_true, decide_false, List.not_mem_nil, false_implies, implies_true, Bool.true_and, Bool.and_true, drawn, pairOk, disj, quietAt, Bool.bne_false, Bool.bne_true, Bool.false_eq_true, applyUpd, Int.reduceEq, Int.reduceNeg, bin_add, bin_sub, bin_mul, bin_lss, bin_leq, bin_gtr, bin_geq, bin_eql, bin_neq, un_not, wv_cap, wv_appendMake, wv_clear, wv_toString, wv_toBytes, wv_sameB, wv_mkIface, wv_minmax]
    rfl
  rw [wc_assoc]
  refine wc_then h0 ?_
  rintro e1 s1 ⟨a0, a3, rfl⟩
  refine wc_then (R := fun e' s' => e'.get 3 = some (u32 (crcL zs (BitVec.allOnes 32))) ∧ s' = s1) ?_ ?_
  · rw [v_2_eq]
    refine wc_then v2i_gen ?_
    rintro e2 s2 ⟨k2, b4, rfl⟩
    refine wc_for (fun m e' s' => ∃ i, m = zs.length - i ∧ i ≤ zs.length ∧ e'.get 0 = some v ∧ e'.get 3 = some (u32 (crcL (zs.take i) (BitVec.allOnes 32))) ∧ e'.get 4 = some (in64 (i : Nat)) ∧ s' = s2) zs.length ?_ ?_
    · exact ⟨0, rfl, by omega, (k2 0 (by omega)).trans a0, (k2 3 (by omega)).trans a3, b4, rfl⟩
    · rintro m e3 s3 E ⟨i, rfl, hi, c0, c3, c4, rfl⟩ hE
      have d0 := (hE 0 (by simp)).trans c0
      have d3 := (hE 3 (by simp)).trans c3
      have d4 := (hE 4 (by simp)).trans c4
      refine WCode.mono ?_ (v2h_gen hb d0 d4)
      rintro y e4 s4 ⟨rfl, k4, a10, rfl⟩
      refine ⟨rfl, _, a10, fun hbb => ?_, fun hbb => ?_⟩
      · simp only [decide_eq_false_iff_not] at hbb
        have : i = zs.length := by omega
        subst this
        exact ⟨rfl, by rw [k4 3 (by omega), d3, List.take_length], rfl⟩
      · simp only [decide_eq_true_eq] at hbb
        refine WCode.mono ?_ (v3L_gen hb hbb ((k4 0 (by omega)).trans d0) ((k4 3 (by omega)).trans d3) ((k4 4 (by omega)).trans d4))
        rintro y e6 s6 ⟨rfl, i0, i4, i3, rfl⟩
        refine .inl ⟨.inl rfl, ?_⟩
        refine WCode.mono ?_ (v2n_gen (i := i) (by omega) i4)
        rintro y e7 s7 ⟨rfl, k7, j4, rfl⟩
        refine ⟨rfl, zs.length - (i + 1), by omega, i + 1, rfl, by omega, (k7 0 (by omega)).trans i0, ?_, j4, rfl⟩
        have hzi := hb.1 (zs.getD i 0) (by
          rw [List.getD_eq_getElem?_getD, List.getElem?_eq_getElem hbb, Option.getD_some]
          exact List.getElem_mem hbb)
        rw [k7 3 (by omega), i3, crcL_take hbb, s8_ref hzi]
  · rintro e2 s2 ⟨b3, rfl⟩
    simp only [v_3, code29, params, wc_skip, wc_region, wc_draw, wc_seq, wc_cond, wc_block, wc_exit, wc_ret, next_normal, next_exit, next_ret, inBlock_normal, inBlock_ret, inBlock_exit, sq_apply, nrm_apply, drawnK_apply, boolV_bool, ccond_true, ccond_false, wo_nil, wo_cons, wo_guard, wop, bindP_some, cont_some, cont_none, guardV_bool, guardV_undef, gcont_true, gcont_false, gcont_false', ret_apply, aggK_apply, putK_apply, resK_apply, boolK_apply, ccont_apply, wd_nil, wd_cons, dvals_apply, dcont_some, dcont_none, AOp.vals, rd_tmp, rd_const, rd_func, get_cons, mapList, mapOpt, Option.bind_some, Option.map_some, Nat.reduceEqDiff, if_true, if_false, reduceIte, reduceCtorEq, wv_mov, wv_pick, wv_alloc, wv_box, wv_build, wv_load, wv_loadn, wv_store, wv_nilCheck, wv_bin, wv_eq, wv_un, wv_convInt, wv_convSame, wv_fieldAddr, wv_field, wv_fieldn, wv_extract, wv_lenSlice, wv_lenString, wv_mkMap, wv_call, callee_func, wv_indexAddr, wv_lookup, wv_mapUpdate, wv_mapEntry, wv_entryStore, wv_delete, wv_append, wv_slice, wv_mkSlice, wv_buildSlice, wv_index, wv_copy, wv_lenMap, Abs.cellAt, Abs.rowAt, Abs.storeAt, Heap.get_put, List.getElem?_cons_zero, List.getElem?_cons_succ, Nat.zero_add, Nat.reduceAdd, idx, and_self, Int.toNat_natCast, cellsAt, ne_eq, not_true_eq_false, not_false_eq_true, cellList, Value.cells, List.length_cons, List.length_nil, List.all_cons, List.all_nil, isCell, Bool.and_self, storeL, List.set_cons_zero, List.set_cons_succ, footOf, true_and, and_true, Nat.reduceLeDiff, Nat.le_refl, Nat.reduceMul, Nat.reduceLT, List.nil_append, List.cons_append, List.length_set, ends_normal, ends_ret, endK_apply, resV_tmp, tupleV, eqV, Bool.not_true, Bool.not_false, BEq.rfl, Bool.true_beq, Bool.false_beq, beq_true, beq_false, Nat.sub_self, List.range'_zero, decide_true, decide_false, List.not_mem_nil, false_implies, implies_true, Bool.true_and, Bool.and_true, drawn, pairOk, disj, quietAt, Bool.bne_false, Bool.bne_true, Bool.false_eq_true, applyUpd, Int.reduceEq, Int.reduceNeg, bin_add, bin_sub, bin_mul, bin_lss, bin_leq, bin_gtr, bin_geq, bin_eql, bin_neq, un_not, wv_cap, wv_appendMake, wv_clear, wv_toString, wv_toBytes, wv_sameB, wv_mkIface, wv_minmax, b3, bin_xor_ones]
    rfl

end
end Go.Proofs.Ytaigiehdnhehnaa
