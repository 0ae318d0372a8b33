/-
  A number's bytes; and when a record is sound.
-/
import Derived.Test.YtaigiehdnhehnaaR1Sum
import Derived.Test.YtaigiehdnhehnaaA30
set_option maxRecDepth 100000
set_option linter.unusedVariables false
set_option linter.unusedSimpArgs false
namespace Go.Proofs.Ytaigiehdnhehnaa
open Go Go.Abs

/-- A number's lowest k bytes, the highest first. -/
def beL (n : Nat) : Nat → List Int
  | 0 => []
  | k + 1 => ((n / 256 ^ k % 256 : Nat) : Int) :: beL n k

theorem beL_length (n k : Nat) : (beL n k).length = k := by
  induction k with
  | zero => rfl
  | succ k ih => simp [beL, ih]

theorem beL_range (n k : Nat) : ∀ z ∈ beL n k, 0 ≤ z ∧ z ≤ 255 := by
  induction k with
  | zero => intro z hz; cases hz
  | succ k ih =>
    intro z hz
    rcases List.mem_cons.1 hz with rfl | hz
    · omega
    · exact ih z hz

theorem set_rep {α : Type} (a b : α) (l : List α) (m : Nat) : (List.replicate (m + 1) a ++ l).set m b = List.replicate m a ++ b :: l := by
  induction m with
  | zero => rfl
  | succ m ih =>
    rw [List.replicate_succ, List.cons_append, List.set_cons_succ, ih, List.replicate_succ, List.cons_append]

theorem shr_u64 {n k : Nat} (hk : k < 8) : IntKind.u8.wrap ((n : Int).fdiv (2 ^ min (8 * k) IntKind.u64.bits)) = ((n / 256 ^ k % 256 : Nat) : Int) := by
  have h1 : min (8 * k) IntKind.u64.bits = 8 * k := by
    have : IntKind.u64.bits = 64 := rfl
    rw [this]; omega
  have h2 : ((2 : Int) ^ (8 * k)) = ((256 ^ k : Nat) : Int) := by
    rw [show (256 : Nat) = 2 ^ 8 from rfl, ← Nat.pow_mul]; push_cast; rfl
  have h3 : ∀ m : Int, IntKind.u8.wrap m = m % 256 := fun m => by simp [IntKind.wrap, IntKind.signed, IntKind.bits]
  rw [h1, h2, h3, Int.fdiv_eq_ediv_of_nonneg _ (Int.natCast_nonneg _), ← Int.natCast_ediv]
  push_cast; rfl

theorem bin_shr_u64 {n : Int} {k : Nat} : binV .shr (.int .u64 n) (.int .i64 (k : Int)) = some (.int .u64 (n.fdiv (2 ^ min k IntKind.u64.bits))) := by
  simp only [binV, show ¬ (k : Int) < 0 by omega, if_false, Int.toNat_natCast]

def n_0 : ACode := match code36 with | .seq x _ => x | _ => .skip
def n_1 : ACode := match code36 with | .seq _ (.seq x _) => x | _ => .skip
def n_2 : ACode := match code36 with | .seq _ (.seq _ (.seq x _)) => x | _ => .skip
def n_3 : ACode := match code36 with | .seq _ (.seq _ (.seq _ x)) => x | _ => .skip
def n2i : ACode := match n_2 with | .seq x _ => x | _ => .skip
def n2h : ACode := match n_2 with | .seq _ (.block _ (.loop _ (.seq x _))) => x | _ => .skip
def n2b : ACode := match n_2 with | .seq _ (.block _ (.loop _ (.seq _ (.seq _ (.seq (.block _ x) _))))) => x | _ => .skip
def n2n : ACode := match n_2 with | .seq _ (.block _ (.loop _ (.seq _ (.seq _ (.seq _ x))))) => x | _ => .skip
theorem code36_eq : code36 = .seq n_0 (.seq n_1 (.seq n_2 n_3)) := rfl
theorem n_2_eq : n_2 = .seq n2i (.block 0 (.loop [0, 1, 5, 10, 11] (.seq n2h (.seq (.cond (.tmp 12) .skip (.exit 0)) (.seq (.block 1 n2b) n2n))))) := rfl

section
variable {tbl : FuncId → Option AFun} {ov : CallSem} {s s0 : St} {e : Env} {v : Value} {zs : List Int}

/-- The row of a number's bytes, the last k of them written. -/
def rowL (n size k : Nat) : List Int := List.replicate (size - k) 0 ++ beL n k

theorem rowL_length {n size k : Nat} (h : k ≤ size) : (rowL n size k).length = size := by
  simp [rowL, beL_length]; omega

theorem n01_gen {size : Nat} (hs : size ≤ 8) (g1 : e.get 1 = some (in64 size)) : WCode (fun k => call tbl ov k) (.seq n_0 n_1) e s fun x e' s' => x = .normal ∧ e'.get 0 = e.get 0 ∧ e'.get 1 = e.get 1 ∧ e'.get 5 = some (.slice (some ⟨s.next, 0, none⟩) size size) ∧
    s'.next = s.next + 1 ∧ s'.heap.get s.next = some (.cells ((List.replicate size 0).map (.int .u8)) 5 1 false) ∧ Kept [] s s' := by
  have x1 := fun g nx => ev_mkSlice (g := g) (nx := nx) (e := 5) (b := 1) (sz := 1) (len := size) (zs := [.int .u8 0]) (by simp [tooBig]; omega) rfl
  have hrep : (List.replicate size [Value.int .u8 0]).flatten = (List.replicate size 0).map (.int .u8) := by
    clear x1 hs g1
    induction size with
    | zero => rfl
    | succ n ih => simp [List.replicate_succ, ih]
  simp only [n_0, n_1, code36, params, wc_skip, wc_region, wc_draw, wc_seq, wc_cond, wc_block, wc_exit, wc_ret, next_normal, next_exit, next_ret, inBlock_normal, inBlock_ret, inBlock_exit, sq_apply, nrm_apply, drawnK_apply, boolV_bool, ccond_true, ccond_false, wo_nil, wo_cons, wo_guard, wop, bindP_some, cont_some, cont_none, guardV_bool, guardV_undef, gcont_true, gcont_false, gcont_false', ret_apply, aggK_apply, putK_apply, resK_apply, boolK_apply, ccont_apply, wd_nil, wd_cons, dvals_apply, dcont_some, dcont_none, AOp.vals, rd_tmp, rd_const, rd_func, get_cons, mapList, mapOpt, Option.bind_some, Option.map_some, Nat.reduceEqDiff, if_true, if_false, reduceIte, reduceCtorEq, wv_mov, wv_pick, wv_alloc, wv_box, wv_build, wv_load, wv_loadn, wv_store, wv_nilCheck, wv_bin, wv_eq, wv_un, wv_convInt, wv_convSame, wv_fieldAddr, wv_field, wv_fieldn, wv_extract, wv_lenSlice, wv_lenString, wv_mkMap, wv_call, callee_func, wv_indexAddr, wv_lookup, wv_mapUpdate, wv_mapEntry, wv_entryStore, wv_delete, wv_append, wv_slice, wv_mkSlice, wv_buildSlice, wv_index, wv_copy, wv_lenMap, Abs.cellAt, Abs.rowAt, Abs.storeAt, Heap.get_put, List.getElem?_cons_zero, List.getElem?_cons_succ, Nat.zero_add, Nat.reduceAdd, idx, and_self, Int.toNat_natCast, cellsAt, ne_eq, not_true_eq_false, not_false_eq_true, cellList, Value.cells, List.length_cons, List.length_nil, List.all_cons, List.all_nil, isCell, Bool.and_self, storeL, List.set_cons_zero, List.set_cons_succ, footOf, true_and, and_true, Nat.reduceLeDiff, Nat.le_refl, Nat.reduceMul, Nat.reduceLT, List.nil_append, List.cons_append, List.length_set, ends_normal, ends_ret, endK_apply, resV_tmp, tupleV, eqV, Bool.not_true, Bool.not_false, BEq.rfl, Bool.true_beq, Bool.false_beq, beq_true, beq_false, Nat.sub_self, List.range'_zero, decide_true, decide_false, List.not_mem_nil, false_implies, implies_true, Bool.true_and, Bool.and_true, drawn, pairOk, disj, quietAt, Bool.bne_false, Bool.bne_true, Bool.false_eq_true, applyUpd, Int.reduceEq, Int.reduceNeg, bin_add, bin_sub, bin_mul, bin_lss, bin_leq, bin_gtr, bin_geq, bin_eql, bin_neq, un_not, wv_cap, wv_appendMake, wv_clear, wv_toString, wv_toBytes, wv_sameB, wv_mkIface, wv_minmax, g1, x1, hrep]
  refine ⟨Nat.le_succ _, fun id hid _ => ?_⟩
  have : ¬ id = s.next := by omega
  simp only [Heap.get_put, this, if_false]

theorem n2i_gen {id size : Nat} (g5 : e.get 5 = some (.slice (some ⟨id, 0, none⟩) size size)) : WCode (fun k => call tbl ov k) n2i e s fun x e' s' => x = .normal ∧ (∀ j, j < 6 → e'.get j = e.get j) ∧ e'.get 10 = some (in64 size) ∧ e'.get 11 = some (in64 0) ∧ s' = s := by
  simp only [n2i, n_2, code36, params, wc_skip, wc_region, wc_draw, wc_seq, wc_cond, wc_block, wc_exit, wc_ret, next_normal, next_exit, next_ret, inBlock_normal, inBlock_ret, inBlock_exit, sq_apply, nrm_apply, drawnK_apply, boolV_bool, ccond_true, ccond_false, wo_nil, wo_cons, wo_guard, wop, bindP_some, cont_some, cont_none, guardV_bool, guardV_undef, gcont_true, gcont_false, gcont_false', ret_apply, aggK_apply, putK_apply, resK_apply, boolK_apply, ccont_apply, wd_nil, wd_cons, dvals_apply, dcont_some, dcont_none, AOp.vals, rd_tmp, rd_const, rd_func, get_cons, mapList, mapOpt, Option.bind_some, Option.map_some, Nat.reduceEqDiff, if_true, if_false, reduceIte, reduceCtorEq, wv_mov, wv_pick, wv_alloc, wv_box, wv_build, wv_load, wv_loadn, wv_store, wv_nilCheck, wv_bin, wv_eq, wv_un, wv_convInt, wv_convSame, wv_fieldAddr, wv_field, wv_fieldn, wv_extract, wv_lenSlice, wv_lenString, wv_mkMap, wv_call, callee_func, wv_indexAddr, wv_lookup, wv_mapUpdate, wv_mapEntry, wv_entryStore, wv_delete, wv_append, wv_slice, wv_mkSlice, wv_buildSlice, wv_index, wv_copy, wv_lenMap, Abs.cellAt, Abs.rowAt, Abs.storeAt, Heap.get_put, List.getElem?_cons_zero, List.getElem?_cons_succ, Nat.zero_add, Nat.reduceAdd, idx, and_self, Int.toNat_natCast, cellsAt, ne_eq, not_true_eq_false, not_false_eq_true, cellList, Value.cells, List.length_cons, List.length_nil, List.all_cons, List.all_nil, isCell, Bool.and_self, storeL, List.set_cons_zero, List.set_cons_succ, footOf, true_and, and_true, Nat.reduceLeDiff, Nat.le_refl, Nat.reduceMul, Nat.reduceLT, List.nil_append, List.cons_append, List.length_set, ends_normal, ends_ret, endK_apply, resV_tmp, tupleV, eqV, Bool.not_true, Bool.not_false, BEq.rfl, Bool.true_beq, Bool.false_beq, beq_true, beq_false, Nat.sub_self, List.range'_zero, decide_true, decide_false, List.not_mem_nil, false_implies, implies_true, Bool.true_and, Bool.and_true, drawn, pairOk, disj, quietAt, Bool.bne_false, Bool.bne_true, Bool.false_eq_true, applyUpd, Int.reduceEq, Int.reduceNeg, bin_add, bin_sub, bin_mul, bin_lss, bin_leq, bin_gtr, bin_geq, bin_eql, bin_neq, un_not, wv_cap, wv_appendMake, wv_clear, wv_toString, wv_toBytes, wv_sameB, wv_mkIface, wv_minmax, g5]
  intro j hj
  simp (disch := omega) only [get_cons, if_neg]

theorem n2h_gen {i n : Nat} (g10 : e.get 10 = some (in64 n)) (g11 : e.get 11 = some (in64 i)) : WCode (fun k => call tbl ov k) n2h e s fun x e' s' => x = .normal ∧ (∀ j, j < 12 → e'.get j = e.get j) ∧ e'.get 12 = some (.bool (decide (i < n))) ∧ s' = s := by
  have d : decide ((i : Int) < (n : Int)) = decide (i < n) := by simp
  simp only [n2h, n_2, code36, params, wc_skip, wc_region, wc_draw, wc_seq, wc_cond, wc_block, wc_exit, wc_ret, next_normal, next_exit, next_ret, inBlock_normal, inBlock_ret, inBlock_exit, sq_apply, nrm_apply, drawnK_apply, boolV_bool, ccond_true, ccond_false, wo_nil, wo_cons, wo_guard, wop, bindP_some, cont_some, cont_none, guardV_bool, guardV_undef, gcont_true, gcont_false, gcont_false', ret_apply, aggK_apply, putK_apply, resK_apply, boolK_apply, ccont_apply, wd_nil, wd_cons, dvals_apply, dcont_some, dcont_none, AOp.vals, rd_tmp, rd_const, rd_func, get_cons, mapList, mapOpt, Option.bind_some, Option.map_some, Nat.reduceEqDiff, if_true, if_false, reduceIte, reduceCtorEq, wv_mov, wv_pick, wv_alloc, wv_box, wv_build, wv_load, wv_loadn, wv_store, wv_nilCheck, wv_bin, wv_eq, wv_un, wv_convInt, wv_convSame, wv_fieldAddr, wv_field, wv_fieldn, wv_extract, wv_lenSlice, wv_lenString, wv_mkMap, wv_call, callee_func, wv_indexAddr, wv_lookup, wv_mapUpdate, wv_mapEntry, wv_entryStore, wv_delete, wv_append, wv_slice, wv_mkSlice, wv_buildSlice, wv_index, wv_copy, wv_lenMap, Abs.cellAt, Abs.rowAt, Abs.storeAt, Heap.get_put, List.getElem?_cons_zero, List.getElem?_cons_succ, Nat.zero_add, Nat.reduceAdd, idx, and_self, Int.toNat_natCast, cellsAt, ne_eq, not_true_eq_false, not_false_eq_true, cellList, Value.cells, List.length_cons, List.length_nil, List.all_cons, List.all_nil, isCell, Bool.and_self, storeL, List.set_cons_zero, List.set_cons_succ, footOf, true_and, and_true, Nat.reduceLeDiff, Nat.le_refl, Nat.reduceMul, Nat.reduceLT, List.nil_append, List.cons_append, List.length_set, ends_normal, ends_ret, endK_apply, resV_tmp, tupleV, eqV, Bool.not_true, Bool.not_false, BEq.rfl, Bool.true_beq, Bool.false_beq, beq_true, beq_false, Nat.sub_self, List.range'_zero, decide_true, decide_false, List.not_mem_nil, false_implies, implies_true, Bool.true_and, Bool.and_true, drawn, pairOk, disj, quietAt, Bool.bne_false, Bool.bne_true, Bool.false_eq_true, applyUpd, Int.reduceEq, Int.reduceNeg, bin_add, bin_sub, bin_mul, bin_lss, bin_leq, bin_gtr, bin_geq, bin_eql, bin_neq, un_not, wv_cap, wv_appendMake, wv_clear, wv_toString, wv_toBytes, wv_sameB, wv_mkIface, wv_minmax, g10, g11, d]
  intro j hj
  simp (disch := omega) only [get_cons, if_neg]

theorem n2b_gen {id n size k : Nat} (hs : size ≤ 8) (hk : k < size) (hg : s.heap.get id = some (.cells ((rowL n size k).map (.int .u8)) 5 1 false))
    (g0 : e.get 0 = some (.int .u64 n)) (g1 : e.get 1 = some (in64 size)) (g5 : e.get 5 = some (.slice (some ⟨id, 0, none⟩) size size)) (g11 : e.get 11 = some (in64 k)) :
    WCode (fun k => call tbl ov k) n2b e s fun x e' s' => x = .normal ∧ (∀ j, j < 6 → e'.get j = e.get j) ∧ e'.get 10 = e.get 10 ∧ e'.get 11 = e.get 11 ∧ s' = ⟨s.heap.put id (some (.cells ((rowL n size (k + 1)).map (.int .u8)) 5 1 false)), s.next⟩ := by
  have w1 : IntKind.i64.wrap ((size : Int) - 1) = ((size - 1 : Nat) : Int) := by rw [wrap64 (by omega) (by omega)]; omega
  have w2 : IntKind.i64.wrap (((size - 1 : Nat) : Int) - (k : Int)) = ((size - 1 - k : Nat) : Int) := by rw [wrap64 (by omega) (by omega)]; omega
  have w3 : IntKind.i64.wrap (8 * (k : Int)) = ((8 * k : Nat) : Int) := by rw [wrap64 (by omega) (by omega)]; omega
  have d2 : (0 : Int) ≤ ((size - 1 - k : Nat) : Int) := by omega
  have d3 : ((size - 1 - k : Nat) : Int) < (size : Nat) := by omega
  have hsh := shr_u64 (n := n) (k := k) (by omega)
  have hln := rowL_length (n := n) (size := size) (k := k) (by omega)
  have d4 : size - 1 - k + 1 ≤ ((rowL n size k).map (Value.int .u8)).length := by rw [List.length_map, hln]; omega
  have hset : ((rowL n size k).map (Value.int .u8)).set (size - 1 - k) (.int .u8 ((n / 256 ^ k % 256 : Nat) : Int)) = (rowL n size (k + 1)).map (.int .u8) := by
    rw [← List.map_set]
    congr 1
    unfold rowL
    rw [show size - k = (size - 1 - k) + 1 by omega, set_rep, show size - (k + 1) = size - 1 - k by omega]
    rfl
  simp only [n2b, n_2, code36, params, wc_skip, wc_region, wc_draw, wc_seq, wc_cond, wc_block, wc_exit, wc_ret, next_normal, next_exit, next_ret, inBlock_normal, inBlock_ret, inBlock_exit, sq_apply, nrm_apply, drawnK_apply, boolV_bool, ccond_true, ccond_false, wo_nil, wo_cons, wo_guard, wop, bindP_some, cont_some, cont_none, guardV_bool, guardV_undef, gcont_true, gcont_false, gcont_false', ret_apply, aggK_apply, putK_apply, resK_apply, boolK_apply, ccont_apply, wd_nil, wd_cons, dvals_apply, dcont_some, dcont_none, AOp.vals, rd_tmp, rd_const, rd_func, get_cons, mapList, mapOpt, Option.bind_some, Option.map_some, Nat.reduceEqDiff, if_true, if_false, reduceIte, reduceCtorEq, wv_mov, wv_pick, wv_alloc, wv_box, wv_build, wv_load, wv_loadn, wv_store, wv_nilCheck, wv_bin, wv_eq, wv_un, wv_convInt, wv_convSame, wv_fieldAddr, wv_field, wv_fieldn, wv_extract, wv_lenSlice, wv_lenString, wv_mkMap, wv_call, callee_func, wv_indexAddr, wv_lookup, wv_mapUpdate, wv_mapEntry, wv_entryStore, wv_delete, wv_append, wv_slice, wv_mkSlice, wv_buildSlice, wv_index, wv_copy, wv_lenMap, Abs.cellAt, Abs.rowAt, Abs.storeAt, Heap.get_put, List.getElem?_cons_zero, List.getElem?_cons_succ, Nat.zero_add, Nat.reduceAdd, idx, and_self, Int.toNat_natCast, cellsAt, ne_eq, not_true_eq_false, not_false_eq_true, cellList, Value.cells, List.length_cons, List.length_nil, List.all_cons, List.all_nil, isCell, Bool.and_self, storeL, List.set_cons_zero, List.set_cons_succ, footOf, true_and, and_true, Nat.reduceLeDiff, Nat.le_refl, Nat.reduceMul, Nat.reduceLT, List.nil_append, List.cons_append, List.length_set, ends_normal, ends_ret, endK_apply, resV_tmp, tupleV, eqV, Bool.not_true, Bool.not_false, BEq.rfl, Bool.true_beq, Bool.false_beq, beq_true, beq_false, Nat.sub_self, List.range'_zero, decide_true, decide_false, List.not_mem_nil, false_implies, implies_true, Bool.true_and, Bool.and_true, drawn, pairOk, disj, quietAt, Bool.bne_false, Bool.bne_true, Bool.false_eq_true, applyUpd, Int.reduceEq, Int.reduceNeg, bin_add, bin_sub, bin_mul, bin_lss, bin_leq, bin_gtr, bin_geq, bin_eql, bin_neq, un_not, wv_cap, wv_appendMake, wv_clear, wv_toString, wv_toBytes, wv_sameB, wv_mkIface, wv_minmax, g0, g1, g5, g11, w1, w2, w3, d2, d3, d4, bin_shr_u64, hsh, hg, Nat.mul_one, hset]
  intro j hj
  have : ¬ j = 6 := by omega
  simp (disch := omega) only [get_cons, if_neg]

theorem n2n_gen {i : Nat} (hi : i < 2 ^ 62) (g11 : e.get 11 = some (in64 i)) : WCode (fun k => call tbl ov k) n2n e s fun x e' s' => x = .normal ∧ (∀ j, j < 11 → e'.get j = e.get j) ∧ e'.get 11 = some (in64 (i + 1 : Nat)) ∧ s' = s := by
  have w : IntKind.i64.wrap ((i : Int) + 1) = ((i + 1 : Nat) : Int) := by rw [wrap64 (by omega) (by omega)]; omega
  simp only [n2n, n_2, code36, params, wc_skip, wc_region, wc_draw, wc_seq, wc_cond, wc_block, wc_exit, wc_ret, next_normal, next_exit, next_ret, inBlock_normal, inBlock_ret, inBlock_exit, sq_apply, nrm_apply, drawnK_apply, boolV_bool, ccond_true, ccond_false, wo_nil, wo_cons, wo_guard, wop, bindP_some, cont_some, cont_none, guardV_bool, guardV_undef, gcont_true, gcont_false, gcont_false', ret_apply, aggK_apply, putK_apply, resK_apply, boolK_apply, ccont_apply, wd_nil, wd_cons, dvals_apply, dcont_some, dcont_none, AOp.vals, rd_tmp, rd_const, rd_func, get_cons, mapList, mapOpt, Option.bind_some, Option.map_some, Nat.reduceEqDiff, if_true, if_false, reduceIte, reduceCtorEq, wv_mov, wv_pick, wv_alloc, wv_box, wv_build, wv_load, wv_loadn, wv_store, wv_nilCheck, wv_bin, wv_eq, wv_un, wv_convInt, wv_convSame, wv_fieldAddr, wv_field, wv_fieldn, wv_extract, wv_lenSlice, wv_lenString, wv_mkMap, wv_call, callee_func, wv_indexAddr, wv_lookup, wv_mapUpdate, wv_mapEntry, wv_entryStore, wv_delete, wv_append, wv_slice, wv_mkSlice, wv_buildSlice, wv_index, wv_copy, wv_lenMap, Abs.cellAt, Abs.rowAt, Abs.storeAt, Heap.get_put, List.getElem?_cons_zero, List.getElem?_cons_succ, Nat.zero_add, Nat.reduceAdd, idx, and_self, Int.toNat_natCast, cellsAt, ne_eq, not_true_eq_false, not_false_eq_true, cellList, Value.cells, List.length_cons, List.length_nil, List.all_cons, List.all_nil, isCell, Bool.and_self, storeL, List.set_cons_zero, List.set_cons_succ, footOf, true_and, and_true, Nat.reduceLeDiff, Nat.le_refl, Nat.reduceMul, Nat.reduceLT, List.nil_append, List.cons_append, List.length_set, ends_normal, ends_ret, endK_apply, resV_tmp, tupleV, eqV, Bool.not_true, Bool.not_false, BEq.rfl, Bool.true_beq, Bool.false_beq, beq_true, beq_false, Nat.sub_self, List.range'_zero, decide_true, decide_false, List.not_mem_nil, false_implies, implies_true, Bool.true_and, Bool.and_true, drawn, pairOk, disj, quietAt, Bool.bne_false, Bool.bne_true, Bool.false_eq_true, applyUpd, Int.reduceEq, Int.reduceNeg, bin_add, bin_sub, bin_mul, bin_lss, bin_leq, bin_gtr, bin_geq, bin_eql, bin_neq, un_not, wv_cap, wv_appendMake, wv_clear, wv_toString, wv_toBytes, wv_sameB, wv_mkIface, wv_minmax, g11, w]
  intro j hj
  simp (disch := omega) only [get_cons, if_neg]

theorem number_spec (h36 : tbl 36 = some fun36) {n size : Nat} (hs : size ≤ 8) : WCall (fun k => call tbl ov k) 36 [.int .u64 n, in64 size] s fun v s' => ∃ S, BytesO 5 s' v (beL n size) S ∧ Kept [] s s' ∧ ∀ x ∈ S, s.next ≤ x := by
  refine WCall.of h36 rfl ?_
  simp only [fun36, code36_eq, params]
  rw [wc_assoc]
  refine wc_then (n01_gen hs rfl) ?_
  rintro e1 s1 ⟨a0, a1, a5, hnx, hg, hk⟩
  have a0' : e1.get 0 = some (.int .u64 n) := a0
  have a1' : e1.get 1 = some (in64 size) := a1
  refine wc_then (R := fun e' s' => e'.get 5 = some (.slice (some ⟨s.next, 0, none⟩) size size) ∧ s'.next = s.next + 1 ∧ s'.heap.get s.next = some (.cells ((beL n size).map (.int .u8)) 5 1 false) ∧ Kept [] s s') ?_ ?_
  · rw [n_2_eq]
    refine wc_then (n2i_gen a5) ?_
    rintro e2 s2 ⟨k2, a10, a11, rfl⟩
    refine wc_range (fun m e' s' => ∃ k, m = size - k ∧ k ≤ size ∧ e'.get 0 = some (.int .u64 n) ∧ e'.get 1 = some (in64 size) ∧ e'.get 5 = some (.slice (some ⟨s.next, 0, none⟩) size size) ∧ e'.get 10 = some (in64 size) ∧ e'.get 11 = some (in64 (k : Nat)) ∧ s'.next = s.next + 1 ∧ s'.heap.get s.next = some (.cells ((rowL n size k).map (.int .u8)) 5 1 false) ∧ Kept [] s s') size ?_ ?_
    · exact ⟨0, rfl, by omega, (k2 0 (by omega)).trans a0', (k2 1 (by omega)).trans a1', (k2 5 (by omega)).trans a5, a10, a11, hnx, by simpa [rowL, beL] using hg, hk⟩
    · rintro m e3 s3 E ⟨k, rfl, hkk, c0, c1, c5, c10, c11, hnx3, hg3, hk3⟩ hE
      have d0 := (hE 0 (by simp)).trans c0
      have d1 := (hE 1 (by simp)).trans c1
      have d5 := (hE 5 (by simp)).trans c5
      have d10 := (hE 10 (by simp)).trans c10
      have d11 := (hE 11 (by simp)).trans c11
      refine WCode.mono ?_ (n2h_gen d10 d11)
      rintro y e4 s4 ⟨rfl, k4, a12, rfl⟩
      refine ⟨rfl, _, a12, fun hbb => ?_, fun hbb => ?_⟩
      · simp only [decide_eq_false_iff_not] at hbb
        have : k = size := by omega
        subst this
        refine ⟨rfl, (k4 5 (by omega)).trans d5, hnx3, ?_, hk3⟩
        rw [hg3]; simp [rowL]
      · simp only [decide_eq_true_eq] at hbb
        refine WCode.mono ?_ (n2b_gen hs hbb hg3 ((k4 0 (by omega)).trans d0) ((k4 1 (by omega)).trans d1) ((k4 5 (by omega)).trans d5) ((k4 11 (by omega)).trans d11))
        rintro y e5 s5 ⟨rfl, k5, b10, b11, rfl⟩
        refine .inl ⟨.inl rfl, ?_⟩
        refine WCode.mono ?_ (n2n_gen (i := k) (by omega) (b11.trans ((k4 11 (by omega)).trans d11)))
        rintro y e6 s6 ⟨rfl, k6, f11, rfl⟩
        refine ⟨rfl, size - (k + 1), by omega, k + 1, rfl, by omega, (k6 0 (by omega)).trans ((k5 0 (by omega)).trans ((k4 0 (by omega)).trans d0)), (k6 1 (by omega)).trans ((k5 1 (by omega)).trans ((k4 1 (by omega)).trans d1)), (k6 5 (by omega)).trans ((k5 5 (by omega)).trans ((k4 5 (by omega)).trans d5)), (k6 10 (by omega)).trans (b10.trans ((k4 10 (by omega)).trans d10)), f11, hnx3, ?_, ⟨hk3.1, fun id hid hn => ?_⟩⟩
        · simp only [Heap.get_put, if_true]
        · have : ¬ id = s.next := by omega
          simp only [Heap.get_put, this, if_false]
          exact hk3.2 id hid hn
  · rintro e2 s2 ⟨b5, hnx2, hg2, hk2⟩
    have hln := beL_length n size
    simp only [n_3, code36, params, wc_skip, wc_region, wc_draw, wc_seq, wc_cond, wc_block, wc_exit, wc_ret, next_normal, next_exit, next_ret, inBlock_normal, inBlock_ret, inBlock_exit, sq_apply, nrm_apply, drawnK_apply, boolV_bool, ccond_true, ccond_false, wo_nil, wo_cons, wo_guard, wop, bindP_some, cont_some, cont_none, guardV_bool, guardV_undef, gcont_true, gcont_false, gcont_false', ret_apply, aggK_apply, putK_apply, resK_apply, boolK_apply, ccont_apply, wd_nil, wd_cons, dvals_apply, dcont_some, dcont_none, AOp.vals, rd_tmp, rd_const, rd_func, get_cons, mapList, mapOpt, Option.bind_some, Option.map_some, Nat.reduceEqDiff, if_true, if_false, reduceIte, reduceCtorEq, wv_mov, wv_pick, wv_alloc, wv_box, wv_build, wv_load, wv_loadn, wv_store, wv_nilCheck, wv_bin, wv_eq, wv_un, wv_convInt, wv_convSame, wv_fieldAddr, wv_field, wv_fieldn, wv_extract, wv_lenSlice, wv_lenString, wv_mkMap, wv_call, callee_func, wv_indexAddr, wv_lookup, wv_mapUpdate, wv_mapEntry, wv_entryStore, wv_delete, wv_append, wv_slice, wv_mkSlice, wv_buildSlice, wv_index, wv_copy, wv_lenMap, Abs.cellAt, Abs.rowAt, Abs.storeAt, Heap.get_put, List.getElem?_cons_zero, List.getElem?_cons_succ, Nat.zero_add, Nat.reduceAdd, idx, and_self, Int.toNat_natCast, cellsAt, ne_eq, not_true_eq_false, not_false_eq_true, cellList, Value.cells, List.length_cons, List.length_nil, List.all_cons, List.all_nil, isCell, Bool.and_self, storeL, List.set_cons_zero, List.set_cons_succ, footOf, true_and, and_true, Nat.reduceLeDiff, Nat.le_refl, Nat.reduceMul, Nat.reduceLT, List.nil_append, List.cons_append, List.length_set, ends_normal, ends_ret, endK_apply, resV_tmp, tupleV, eqV, Bool.not_true, Bool.not_false, BEq.rfl, Bool.true_beq, Bool.false_beq, beq_true, beq_false, Nat.sub_self, List.range'_zero, decide_true, decide_false, List.not_mem_nil, false_implies, implies_true, Bool.true_and, Bool.and_true, drawn, pairOk, disj, quietAt, Bool.bne_false, Bool.bne_true, Bool.false_eq_true, applyUpd, Int.reduceEq, Int.reduceNeg, bin_add, bin_sub, bin_mul, bin_lss, bin_leq, bin_gtr, bin_geq, bin_eql, bin_neq, un_not, wv_cap, wv_appendMake, wv_clear, wv_toString, wv_toBytes, wv_sameB, wv_mkIface, wv_minmax, b5]
    refine ⟨[s.next], ⟨beL_range n size, .inr ⟨s.next, 0, size, _, by rw [hln], rfl, by omega, by omega, hg2, by simp [hln], by rw [hln, List.drop_zero, List.take_of_length_le (by simp [hln])]⟩⟩, hk2, by simp⟩

end
end Go.Proofs.Ytaigiehdnhehnaa
