/-
  Byte slices joined; a record's encoding.
-/
import Derived.Test.YtaigiehdnhehnaaR1Body2
set_option maxRecDepth 100000
set_option linter.unusedVariables false
set_option linter.unusedSimpArgs false
namespace Go.Proofs.Ytaigiehdnhehnaa
open Go Go.Abs

def q_0 : ACode := match code41 with | .seq x _ => x | _ => .skip
def q_1 : ACode := match code41 with | .seq _ (.seq (.seq x _) _) => x | _ => .skip
def q_2 : ACode := match code41 with | .seq _ (.seq _ (.seq (.seq x _) _)) => x | _ => .skip
def q_3 : ACode := match code41 with | .seq _ (.seq _ (.seq (.seq _ (.seq x _)) _)) => x | _ => .skip
def q_4 : ACode := match code41 with | .seq _ (.seq _ (.seq (.seq _ (.seq _ (.cond _ x _))) _)) => x | _ => .skip
def q_5 : ACode := match code41 with | .seq _ (.seq _ (.seq _ x)) => x | _ => .skip
def z_0 : ACode := match code35 with | .seq x _ => x | _ => .skip
def z_1 : ACode := match code35 with | .seq _ (.seq x _) => x | _ => .skip
def z_2 : ACode := match code35 with | .seq _ (.seq _ (.seq x _)) => x | _ => .skip
def z_3 : ACode := match code35 with | .seq _ (.seq _ (.seq _ (.seq x _))) => x | _ => .skip
def z_4 : ACode := match code35 with | .seq _ (.seq _ (.seq _ (.seq _ (.seq x _)))) => x | _ => .skip
def z_5 : ACode := match code35 with | .seq _ (.seq _ (.seq _ (.seq _ (.seq _ x)))) => x | _ => .skip
def z2i : ACode := match z_2 with | .seq x _ => x | _ => .skip
def z2h : ACode := match z_2 with | .seq _ (.block _ (.loop _ (.seq x _))) => x | _ => .skip
def z2b : ACode := match z_2 with | .seq _ (.block _ (.loop _ (.seq _ (.seq _ (.seq (.block _ x) _))))) => x | _ => .skip
def z2n : ACode := match z_2 with | .seq _ (.block _ (.loop _ (.seq _ (.seq _ (.seq _ x))))) => x | _ => .skip
def z2ba : ACode := match z2b with | .seq x _ => x | _ => .skip
def z2bb : ACode := match z2b with | .seq _ (.seq x _) => x | _ => .skip
def z2bc : ACode := match z2b with | .seq _ (.seq _ (.seq x _)) => x | _ => .skip
def z4i : ACode := match z_4 with | .seq x _ => x | _ => .skip
def z4h : ACode := match z_4 with | .seq _ (.block _ (.loop _ (.seq x _))) => x | _ => .skip
def z4b : ACode := match z_4 with | .seq _ (.block _ (.loop _ (.seq _ (.seq _ (.seq (.block _ x) _))))) => x | _ => .skip
def z4n : ACode := match z_4 with | .seq _ (.block _ (.loop _ (.seq _ (.seq _ (.seq _ x))))) => x | _ => .skip
def q_1p : ACode := match code41 with | .seq _ (.seq (.seq _ (.cond _ x _)) _) => x | _ => .skip
def z_2p : ACode := match z2b with | .seq _ (.seq _ (.seq _ (.cond _ x _))) => x | _ => .skip
theorem code41_eq : code41 = .seq q_0 (.seq (.seq q_1 (.cond (.tmp 6) q_1p .skip)) (.seq (.seq q_2 (.seq q_3 (.cond (.tmp 16) q_4 .skip))) q_5)) := rfl
theorem code35_eq : code35 = .seq z_0 (.seq z_1 (.seq z_2 (.seq z_3 (.seq z_4 z_5)))) := rfl
theorem z_2_eq : z_2 = .seq z2i (.block 0 (.loop [0, 3, 9, 10, 11] (.seq z2h (.seq (.cond (.tmp 12) .skip (.exit 0)) (.seq (.block 1 (.seq z2ba (.seq z2bb (.seq z2bc (.cond (.tmp 20) z_2p .skip))))) z2n))))) := rfl
theorem z_4_eq : z_4 = .seq z4i (.block 2 (.loop [6, 25, 26, 27] (.seq z4h (.seq (.cond (.tmp 28) .skip (.exit 2)) (.seq (.block 3 z4b) z4n))))) := rfl

section
variable {tbl : FuncId → Option AFun} {ov : CallSem} {s s1 : St} {e : Env} {v : Value} {zs : List Int} {r : FRec} {p q : Nat}

theorem grow_spec (h41 : tbl 41 = some fun41) {n : Nat} (hn : 0 < n) (hn1 : n < 2 ^ 30) : WCall (fun k => call tbl ov k) 41 [.slice none 0 0, in64 n] s fun v s' => Grown s s' v [] := by
  refine WCall.of h41 rfl ?_
  simp only [fun41, code41_eq, params]
  have d1 : decide ((n : Int) < 0) = false := decide_eq_false (by omega)
  have d2 : decide ((n : Int) > 0) = true := decide_eq_true (by omega)
  have w0 : IntKind.i64.wrap ((0 : Nat) - (0 : Nat) : Int) = 0 := by rw [wrap64 (by omega) (by omega)]; omega
  have w1 : IntKind.i64.wrap ((n : Int) - 0) = n := by rw [wrap64 (by omega) (by omega)]; omega
  have h1 : WCode (fun k => call tbl ov k) (.seq q_0 (.seq q_1 (.cond (.tmp 6) q_1p .skip))) [(0, .slice none 0 0), (0 + 1, in64 n)] s fun x e' s' => x = .normal ∧ e'.get 0 = some (.slice none 0 0) ∧ e'.get 1 = some (in64 n) ∧ s' = s := by
    simp only [q_0, q_1, code41, params, wc_skip, wc_region, wc_draw, wc_seq, wc_cond, wc_block, wc_exit, wc_ret, next_normal, next_exit, next_ret, inBlock_normal, inBlock_ret, inBlock_exit, sq_apply, nrm_apply, drawnK_apply, boolV_bool, ccond_true, ccond_false, wo_nil, wo_cons, wo_guard, wop, bindP_some, cont_some, cont_none, guardV_bool, guardV_undef, gcont_true, gcont_false, gcont_false', ret_apply, aggK_apply, putK_apply, resK_apply, boolK_apply, ccont_apply, wd_nil, wd_cons, dvals_apply, dcont_some, dcont_none, AOp.vals, rd_tmp, rd_const, rd_func, get_cons, mapList, mapOpt, Option.bind_some, Option.map_some, Nat.reduceEqDiff, if_true, if_false, reduceIte, reduceCtorEq, wv_mov, wv_pick, wv_alloc, wv_box, wv_build, wv_load, wv_loadn, wv_store, wv_nilCheck, wv_bin, wv_eq, wv_un, wv_convInt, wv_convSame, wv_fieldAddr, wv_field, wv_fieldn, wv_extract, wv_lenSlice, wv_lenString, wv_mkMap, wv_call, callee_func, wv_indexAddr, wv_lookup, wv_mapUpdate, wv_mapEntry, wv_entryStore, wv_delete, wv_append, wv_slice, wv_mkSlice, wv_buildSlice, wv_index, wv_copy, wv_lenMap, Abs.cellAt, Abs.rowAt, Abs.storeAt, Heap.get_put, List.getElem?_cons_zero, List.getElem?_cons_succ, Nat.zero_add, Nat.reduceAdd, idx, and_self, Int.toNat_natCast, cellsAt, ne_eq, not_true_eq_false, not_false_eq_true, cellList, Value.cells, List.length_cons, List.length_nil, List.all_cons, List.all_nil, isCell, Bool.and_self, storeL, List.set_cons_zero, List.set_cons_succ, footOf, true_and, and_true, Nat.reduceLeDiff, Nat.le_refl, Nat.reduceMul, Nat.reduceLT, List.nil_append, List.cons_append, List.length_set, ends_normal, ends_ret, endK_apply, resV_tmp, tupleV, eqV, Bool.not_true, Bool.not_false, BEq.rfl, Bool.true_beq, Bool.false_beq, beq_true, beq_false, Nat.sub_self, List.range'_zero, decide_true, decide_false, List.not_mem_nil, false_implies, implies_true, Bool.true_and, Bool.and_true, drawn, pairOk, disj, quietAt, Bool.bne_false, Bool.bne_true, Bool.false_eq_true, applyUpd, Int.reduceEq, Int.reduceNeg, bin_add, bin_sub, bin_mul, bin_lss, bin_leq, bin_gtr, bin_geq, bin_eql, bin_neq, un_not, wv_cap, wv_appendMake, wv_clear, wv_toString, wv_toBytes, wv_sameB, wv_mkIface, wv_minmax, d1]
  have hc : ∀ g nx, evP g nx (.cap (.slice none 0 0)) = some ⟨.int .i64 ((0 : Nat) : Int), [], nx⟩ := fun g nx => rfl
  have h2 : ∀ e, e.get 0 = some (.slice none 0 0) → e.get 1 = some (in64 n) → WCode (fun k => call tbl ov k) (.seq q_2 q_3) e s fun x e' s' => x = .normal ∧ e'.get 0 = some (.slice none 0 0) ∧ e'.get 1 = some (in64 n) ∧ e'.get 16 = some (.bool true) ∧ s' = s := by
    intro e g0 g1
    simp only [q_2, q_3, code41, params, wc_skip, wc_region, wc_draw, wc_seq, wc_cond, wc_block, wc_exit, wc_ret, next_normal, next_exit, next_ret, inBlock_normal, inBlock_ret, inBlock_exit, sq_apply, nrm_apply, drawnK_apply, boolV_bool, ccond_true, ccond_false, wo_nil, wo_cons, wo_guard, wop, bindP_some, cont_some, cont_none, guardV_bool, guardV_undef, gcont_true, gcont_false, gcont_false', ret_apply, aggK_apply, putK_apply, resK_apply, boolK_apply, ccont_apply, wd_nil, wd_cons, dvals_apply, dcont_some, dcont_none, AOp.vals, rd_tmp, rd_const, rd_func, get_cons, mapList, mapOpt, Option.bind_some, Option.map_some, Nat.reduceEqDiff, if_true, if_false, reduceIte, reduceCtorEq, wv_mov, wv_pick, wv_alloc, wv_box, wv_build, wv_load, wv_loadn, wv_store, wv_nilCheck, wv_bin, wv_eq, wv_un, wv_convInt, wv_convSame, wv_fieldAddr, wv_field, wv_fieldn, wv_extract, wv_lenSlice, wv_lenString, wv_mkMap, wv_call, callee_func, wv_indexAddr, wv_lookup, wv_mapUpdate, wv_mapEntry, wv_entryStore, wv_delete, wv_append, wv_slice, wv_mkSlice, wv_buildSlice, wv_index, wv_copy, wv_lenMap, Abs.cellAt, Abs.rowAt, Abs.storeAt, Heap.get_put, List.getElem?_cons_zero, List.getElem?_cons_succ, Nat.zero_add, Nat.reduceAdd, idx, and_self, Int.toNat_natCast, cellsAt, ne_eq, not_true_eq_false, not_false_eq_true, cellList, Value.cells, List.length_cons, List.length_nil, List.all_cons, List.all_nil, isCell, Bool.and_self, storeL, List.set_cons_zero, List.set_cons_succ, footOf, true_and, and_true, Nat.reduceLeDiff, Nat.le_refl, Nat.reduceMul, Nat.reduceLT, List.nil_append, List.cons_append, List.length_set, ends_normal, ends_ret, endK_apply, resV_tmp, tupleV, eqV, Bool.not_true, Bool.not_false, BEq.rfl, Bool.true_beq, Bool.false_beq, beq_true, beq_false, Nat.sub_self, List.range'_zero, decide_true, decide_false, List.not_mem_nil, false_implies, implies_true, Bool.true_and, Bool.and_true, drawn, pairOk, disj, quietAt, Bool.bne_false, Bool.bne_true, Bool.false_eq_true, applyUpd, Int.reduceEq, Int.reduceNeg, bin_add, bin_sub, bin_mul, bin_lss, bin_leq, bin_gtr, bin_geq, bin_eql, bin_neq, un_not, wv_cap, wv_appendMake, wv_clear, wv_toString, wv_toBytes, wv_sameB, wv_mkIface, wv_minmax, g0, g1, hc, w0, w1, d2]
  have hs : ∀ g nx, evP g nx (.slice (.slice 1) (.slice none 0 0) none (some (.int .i64 ((0 : Nat) : Int))) none) = some ⟨.slice none 0 0, [], nx⟩ := fun g nx => by simp [evP, boundsV, boundV]
  have hm : ∀ g nx, evP g nx (.appendMake 5 1 1 [.int .u8 0] (.slice none 0 0) (.int .i64 (n : Int))) = some ⟨.slice (some ⟨nx, 0, none⟩) n n, [(nx, some (.cells (List.replicate n [Value.int .u8 0]).flatten 5 1 false))], nx + 1⟩ := fun g nx => by
    have h3 : (0 : Int) < n := by omega
    have h4 : tooBig n 1 = false := by simp [tooBig]; omega
    simp [evP, hn, h4]
  have hln : ((List.replicate n [Value.int .u8 0]).flatten).length = n := by simp
  have hs2 := fun g nx (h : g s.next = some (.cells (List.replicate n [Value.int .u8 0]).flatten 5 1 false)) => ev_sliceH (g := g) (nx := nx) (o := 0) (len := n) (cap := n) (hi := 0) (k' := .i64) (sz := 1) h (.inr rfl) (by omega)
  have h3 : ∀ e, e.get 0 = some (.slice none 0 0) → e.get 1 = some (in64 n) → WCode (fun k => call tbl ov k) (.seq q_4 q_5) e s fun x e' s' => x = .ret ∧ e'.get 4 = some (.slice (some ⟨s.next, 0, none⟩) 0 n) ∧ s' = ⟨s.heap.put s.next (some (.cells (List.replicate n [Value.int .u8 0]).flatten 5 1 false)), s.next + 1⟩ := by
    intro e g0 g1
    simp only [q_4, q_5, code41, params, wc_skip, wc_region, wc_draw, wc_seq, wc_cond, wc_block, wc_exit, wc_ret, next_normal, next_exit, next_ret, inBlock_normal, inBlock_ret, inBlock_exit, sq_apply, nrm_apply, drawnK_apply, boolV_bool, ccond_true, ccond_false, wo_nil, wo_cons, wo_guard, wop, bindP_some, cont_some, cont_none, guardV_bool, guardV_undef, gcont_true, gcont_false, gcont_false', ret_apply, aggK_apply, putK_apply, resK_apply, boolK_apply, ccont_apply, wd_nil, wd_cons, dvals_apply, dcont_some, dcont_none, AOp.vals, rd_tmp, rd_const, rd_func, get_cons, mapList, mapOpt, Option.bind_some, Option.map_some, Nat.reduceEqDiff, if_true, if_false, reduceIte, reduceCtorEq, wv_mov, wv_pick, wv_alloc, wv_box, wv_build, wv_load, wv_loadn, wv_store, wv_nilCheck, wv_bin, wv_eq, wv_un, wv_convInt, wv_convSame, wv_fieldAddr, wv_field, wv_fieldn, wv_extract, wv_lenSlice, wv_lenString, wv_mkMap, wv_call, callee_func, wv_indexAddr, wv_lookup, wv_mapUpdate, wv_mapEntry, wv_entryStore, wv_delete, wv_append, wv_slice, wv_mkSlice, wv_buildSlice, wv_index, wv_copy, wv_lenMap, Abs.cellAt, Abs.rowAt, Abs.storeAt, Heap.get_put, List.getElem?_cons_zero, List.getElem?_cons_succ, Nat.zero_add, Nat.reduceAdd, idx, and_self, Int.toNat_natCast, cellsAt, ne_eq, not_true_eq_false, not_false_eq_true, cellList, Value.cells, List.length_cons, List.length_nil, List.all_cons, List.all_nil, isCell, Bool.and_self, storeL, List.set_cons_zero, List.set_cons_succ, footOf, true_and, and_true, Nat.reduceLeDiff, Nat.le_refl, Nat.reduceMul, Nat.reduceLT, List.nil_append, List.cons_append, List.length_set, ends_normal, ends_ret, endK_apply, resV_tmp, tupleV, eqV, Bool.not_true, Bool.not_false, BEq.rfl, Bool.true_beq, Bool.false_beq, beq_true, beq_false, Nat.sub_self, List.range'_zero, decide_true, decide_false, List.not_mem_nil, false_implies, implies_true, Bool.true_and, Bool.and_true, drawn, pairOk, disj, quietAt, Bool.bne_false, Bool.bne_true, Bool.false_eq_true, applyUpd, Int.reduceEq, Int.reduceNeg, bin_add, bin_sub, bin_mul, bin_lss, bin_leq, bin_gtr, bin_geq, bin_eql, bin_neq, un_not, wv_cap, wv_appendMake, wv_clear, wv_toString, wv_toBytes, wv_sameB, wv_mkIface, wv_minmax, g0, g1, hc, hs, hm, hs2]
  rw [wc_assoc]
  refine wc_then h1 ?_
  rintro e1 s1 ⟨a0, a1, rfl⟩
  rw [wc_regroup]
  refine wc_then (h2 e1 a0 a1) ?_
  rintro e2 s2 ⟨b0, b1, b16, rfl⟩
  rw [wc_seq, wc_cond, rd_tmp, b16, boolV_bool, bindP_some, ccond_true, ← wc_seq]
  refine WCode.mono ?_ (h3 e2 b0 b1)
  rintro x e3 s3 ⟨rfl, g4, rfl⟩
  rw [ends_ret]
  simp only [mapList, resV_tmp, g4, bindP_some, Option.bind_some, Option.map_some, endK_apply, tupleV]
  refine ⟨[s2.next], ⟨by simp, .inr ⟨s2.next, 0, n, _, rfl, rfl, by simp, Nat.lt_succ_self _, ?_, by rw [hln]; omega, by simp⟩⟩, ⟨Nat.le_succ _, fun id hid _ => ?_⟩, by simp⟩
  · simp only [Heap.get_put, if_true]
  · have : ¬ id = s2.next := by omega
    simp only [Heap.get_put, this, if_false]

/-! ### joined -/
/-- Slices of bytes in a row. -/
structure Rows (s : St) (a : Nat) (vs : List Value) (zss : List (List Int)) : Prop where
  lt : a < s.next
  get : ∃ t, s.heap.get a = some (.cells vs t 1 false)
  len : zss.length = vs.length
  each : ∀ i, i < vs.length → BytesV s (vs.getD i undefV) (zss.getD i [])

theorem Rows.kept {s s' : St} {a : Nat} {vs : List Value} {zss : List (List Int)} (h : Rows s a vs zss) (hk : Kept [] s s') : Rows s' a vs zss :=
  ⟨Nat.lt_of_lt_of_le h.lt hk.1, by obtain ⟨t, ht⟩ := h.get; exact ⟨t, by rw [hk.2 a h.lt (by simp)]; exact ht⟩, h.len, fun i hi => (h.each i hi).kept hk⟩

def upTo (zss : List (List Int)) (i : Nat) : List Int := (zss.take i).flatten

theorem upTo_succ {zss : List (List Int)} {i : Nat} (hi : i < zss.length) : upTo zss (i + 1) = upTo zss i ++ zss.getD i [] := by
  unfold upTo
  rw [List.take_add_one, List.getElem?_eq_getElem hi, List.flatten_append]
  simp [List.getD_eq_getElem?_getD, hi]

theorem upTo_le (zss : List (List Int)) (i : Nat) : (upTo zss i).length ≤ zss.flatten.length := by
  unfold upTo
  conv => rhs; rw [← List.take_append_drop i zss]
  rw [List.flatten_append, List.length_append]; omega

theorem upTo_all (zss : List (List Int)) : upTo zss zss.length = zss.flatten := by
  unfold upTo; rw [List.take_length]

section
variable {a : Nat} {vs : List Value} {zss : List (List Int)}

theorem getD_some {i : Nat} (hi : i < vs.length) : vs[i]? = some (vs.getD i undefV) := by
  rw [List.getD_eq_getElem?_getD, List.getElem?_eq_getElem hi, Option.getD_some]

theorem z2h_gen {i n : Nat} (g10 : e.get 10 = some (in64 n)) (g11 : e.get 11 = some (in64 i)) : WCode (fun k => call tbl ov k) z2h e s fun x e' s' => x = .normal ∧ (∀ j, j < 12 → e'.get j = e.get j) ∧ e'.get 12 = some (.bool (decide (i < n))) ∧ s' = s := by
  have d : decide ((i : Int) < (n : Int)) = decide (i < n) := by simp
  simp only [z2h, z_2, code35, params, wc_skip, wc_region, wc_draw, wc_seq, wc_cond, wc_block, wc_exit, wc_ret, next_normal, next_exit, next_ret, inBlock_normal, inBlock_ret, inBlock_exit, sq_apply, nrm_apply, drawnK_apply, boolV_bool, ccond_true, ccond_false, wo_nil, wo_cons, wo_guard, wop, bindP_some, cont_some, cont_none, guardV_bool, guardV_undef, gcont_true, gcont_false, gcont_false', ret_apply, aggK_apply, putK_apply, resK_apply, boolK_apply, ccont_apply, wd_nil, wd_cons, dvals_apply, dcont_some, dcont_none, AOp.vals, rd_tmp, rd_const, rd_func, get_cons, mapList, mapOpt, Option.bind_some, Option.map_some, Nat.reduceEqDiff, if_true, if_false, reduceIte, reduceCtorEq, wv_mov, wv_pick, wv_alloc, wv_box, wv_build, wv_load, wv_loadn, wv_store, wv_nilCheck, wv_bin, wv_eq, wv_un, wv_convInt, wv_convSame, wv_fieldAddr, wv_field, wv_fieldn, wv_extract, wv_lenSlice, wv_lenString, wv_mkMap, wv_call, callee_func, wv_indexAddr, wv_lookup, wv_mapUpdate, wv_mapEntry, wv_entryStore, wv_delete, wv_append, wv_slice, wv_mkSlice, wv_buildSlice, wv_index, wv_copy, wv_lenMap, Abs.cellAt, Abs.rowAt, Abs.storeAt, Heap.get_put, List.getElem?_cons_zero, List.getElem?_cons_succ, Nat.zero_add, Nat.reduceAdd, idx, and_self, Int.toNat_natCast, cellsAt, ne_eq, not_true_eq_false, not_false_eq_true, cellList, Value.cells, List.length_cons, List.length_nil, List.all_cons, List.all_nil, isCell, Bool.and_self, storeL, List.set_cons_zero, List.set_cons_succ, footOf, true_and, and_true, Nat.reduceLeDiff, Nat.le_refl, Nat.reduceMul, Nat.reduceLT, List.nil_append, List.cons_append, List.length_set, ends_normal, ends_ret, endK_apply, resV_tmp, tupleV, eqV, Bool.not_true, Bool.not_false, BEq.rfl, Bool.true_beq, Bool.false_beq, beq_true, beq_false, Nat.sub_self, List.range'_zero, decide_true, decide_false, List.not_mem_nil, false_implies, implies_true, Bool.true_and, Bool.and_true, drawn, pairOk, disj, quietAt, Bool.bne_false, Bool.bne_true, Bool.false_eq_true, applyUpd, Int.reduceEq, Int.reduceNeg, bin_add, bin_sub, bin_mul, bin_lss, bin_leq, bin_gtr, bin_geq, bin_eql, bin_neq, un_not, wv_cap, wv_appendMake, wv_clear, wv_toString, wv_toBytes, wv_sameB, wv_mkIface, wv_minmax, g10, g11, d]
  intro j hj
  simp (disch := omega) only [get_cons, if_neg]

theorem z2b_gen (hR : Rows s a vs zss) {i : Nat} (hi : i < vs.length) {m : Nat} (hm : m + (zss.getD i []).length < 2 ^ 40) (g3 : e.get 3 = some (in64 m)) (g9 : e.get 9 = some (.slice (some ⟨a, 0, none⟩) vs.length vs.length)) (g11 : e.get 11 = some (in64 i)) :
    WCode (fun k => call tbl ov k) (.seq z2ba (.seq z2bb z2bc)) e s fun x e' s' => x = .normal ∧ e'.get 0 = e.get 0 ∧ e'.get 9 = e.get 9 ∧ e'.get 10 = e.get 10 ∧ e'.get 11 = e.get 11 ∧ e'.get 3 = some (in64 (m + (zss.getD i []).length : Nat)) ∧ e'.get 20 = some (.bool false) ∧ s' = s := by
  obtain ⟨t, hg⟩ := hR.get
  obtain ⟨ad, cap, hv⟩ := (hR.each i hi).len
  have hgi := getD_some hi
  rw [hv] at hgi
  have d2 : (0 : Int) ≤ i := by omega
  have d3 : (i : Int) < (vs.length : Nat) := by omega
  have w : IntKind.i64.wrap ((m : Int) + ((zss.getD i []).length : Nat)) = ((m + (zss.getD i []).length : Nat) : Int) := by rw [wrap64 (by omega) (by omega)]; omega
  have d4 : decide (((m + (zss.getD i []).length : Nat) : Int) < 0) = false := decide_eq_false (by omega)
  simp only [z2ba, z2bb, z2bc, z2b, z_2, code35, params, wc_skip, wc_region, wc_draw, wc_seq, wc_cond, wc_block, wc_exit, wc_ret, next_normal, next_exit, next_ret, inBlock_normal, inBlock_ret, inBlock_exit, sq_apply, nrm_apply, drawnK_apply, boolV_bool, ccond_true, ccond_false, wo_nil, wo_cons, wo_guard, wop, bindP_some, cont_some, cont_none, guardV_bool, guardV_undef, gcont_true, gcont_false, gcont_false', ret_apply, aggK_apply, putK_apply, resK_apply, boolK_apply, ccont_apply, wd_nil, wd_cons, dvals_apply, dcont_some, dcont_none, AOp.vals, rd_tmp, rd_const, rd_func, get_cons, mapList, mapOpt, Option.bind_some, Option.map_some, Nat.reduceEqDiff, if_true, if_false, reduceIte, reduceCtorEq, wv_mov, wv_pick, wv_alloc, wv_box, wv_build, wv_load, wv_loadn, wv_store, wv_nilCheck, wv_bin, wv_eq, wv_un, wv_convInt, wv_convSame, wv_fieldAddr, wv_field, wv_fieldn, wv_extract, wv_lenSlice, wv_lenString, wv_mkMap, wv_call, callee_func, wv_indexAddr, wv_lookup, wv_mapUpdate, wv_mapEntry, wv_entryStore, wv_delete, wv_append, wv_slice, wv_mkSlice, wv_buildSlice, wv_index, wv_copy, wv_lenMap, Abs.cellAt, Abs.rowAt, Abs.storeAt, Heap.get_put, List.getElem?_cons_zero, List.getElem?_cons_succ, Nat.zero_add, Nat.reduceAdd, idx, and_self, Int.toNat_natCast, cellsAt, ne_eq, not_true_eq_false, not_false_eq_true, cellList, Value.cells, List.length_cons, List.length_nil, List.all_cons, List.all_nil, isCell, Bool.and_self, storeL, List.set_cons_zero, List.set_cons_succ, footOf, true_and, and_true, Nat.reduceLeDiff, Nat.le_refl, Nat.reduceMul, Nat.reduceLT, List.nil_append, List.cons_append, List.length_set, ends_normal, ends_ret, endK_apply, resV_tmp, tupleV, eqV, Bool.not_true, Bool.not_false, BEq.rfl, Bool.true_beq, Bool.false_beq, beq_true, beq_false, Nat.sub_self, List.range'_zero, decide_true, decide_false, List.not_mem_nil, false_implies, implies_true, Bool.true_and, Bool.and_true, drawn, pairOk, disj, quietAt, Bool.bne_false, Bool.bne_true, Bool.false_eq_true, applyUpd, Int.reduceEq, Int.reduceNeg, bin_add, bin_sub, bin_mul, bin_lss, bin_leq, bin_gtr, bin_geq, bin_eql, bin_neq, un_not, wv_cap, wv_appendMake, wv_clear, wv_toString, wv_toBytes, wv_sameB, wv_mkIface, wv_minmax, g3, g9, g11, hg, hgi, d2, d3, Nat.mul_one, w, d4]

theorem z2n_gen {i : Nat} (hi : i < 2 ^ 62) (g11 : e.get 11 = some (in64 i)) : WCode (fun k => call tbl ov k) z2n e s fun x e' s' => x = .normal ∧ (∀ j, j < 11 → e'.get j = e.get j) ∧ e'.get 11 = some (in64 (i + 1 : Nat)) ∧ s' = s := by
  have w : IntKind.i64.wrap ((i : Int) + 1) = ((i + 1 : Nat) : Int) := by rw [wrap64 (by omega) (by omega)]; omega
  simp only [z2n, z_2, code35, params, wc_skip, wc_region, wc_draw, wc_seq, wc_cond, wc_block, wc_exit, wc_ret, next_normal, next_exit, next_ret, inBlock_normal, inBlock_ret, inBlock_exit, sq_apply, nrm_apply, drawnK_apply, boolV_bool, ccond_true, ccond_false, wo_nil, wo_cons, wo_guard, wop, bindP_some, cont_some, cont_none, guardV_bool, guardV_undef, gcont_true, gcont_false, gcont_false', ret_apply, aggK_apply, putK_apply, resK_apply, boolK_apply, ccont_apply, wd_nil, wd_cons, dvals_apply, dcont_some, dcont_none, AOp.vals, rd_tmp, rd_const, rd_func, get_cons, mapList, mapOpt, Option.bind_some, Option.map_some, Nat.reduceEqDiff, if_true, if_false, reduceIte, reduceCtorEq, wv_mov, wv_pick, wv_alloc, wv_box, wv_build, wv_load, wv_loadn, wv_store, wv_nilCheck, wv_bin, wv_eq, wv_un, wv_convInt, wv_convSame, wv_fieldAddr, wv_field, wv_fieldn, wv_extract, wv_lenSlice, wv_lenString, wv_mkMap, wv_call, callee_func, wv_indexAddr, wv_lookup, wv_mapUpdate, wv_mapEntry, wv_entryStore, wv_delete, wv_append, wv_slice, wv_mkSlice, wv_buildSlice, wv_index, wv_copy, wv_lenMap, Abs.cellAt, Abs.rowAt, Abs.storeAt, Heap.get_put, List.getElem?_cons_zero, List.getElem?_cons_succ, Nat.zero_add, Nat.reduceAdd, idx, and_self, Int.toNat_natCast, cellsAt, ne_eq, not_true_eq_false, not_false_eq_true, cellList, Value.cells, List.length_cons, List.length_nil, List.all_cons, List.all_nil, isCell, Bool.and_self, storeL, List.set_cons_zero, List.set_cons_succ, footOf, true_and, and_true, Nat.reduceLeDiff, Nat.le_refl, Nat.reduceMul, Nat.reduceLT, List.nil_append, List.cons_append, List.length_set, ends_normal, ends_ret, endK_apply, resV_tmp, tupleV, eqV, Bool.not_true, Bool.not_false, BEq.rfl, Bool.true_beq, Bool.false_beq, beq_true, beq_false, Nat.sub_self, List.range'_zero, decide_true, decide_false, List.not_mem_nil, false_implies, implies_true, Bool.true_and, Bool.and_true, drawn, pairOk, disj, quietAt, Bool.bne_false, Bool.bne_true, Bool.false_eq_true, applyUpd, Int.reduceEq, Int.reduceNeg, bin_add, bin_sub, bin_mul, bin_lss, bin_leq, bin_gtr, bin_geq, bin_eql, bin_neq, un_not, wv_cap, wv_appendMake, wv_clear, wv_toString, wv_toBytes, wv_sameB, wv_mkIface, wv_minmax, g11, w]
  intro j hj
  simp (disch := omega) only [get_cons, if_neg]

theorem z_2_gen (hR : Rows s a vs zss) (hlen : zss.flatten.length < 2 ^ 30) (hn : vs.length < 2 ^ 30) (g0 : e.get 0 = some (.slice (some ⟨a, 0, none⟩) vs.length vs.length)) (g3 : e.get 3 = some (in64 0)) :
    WCode (fun k => call tbl ov k) z_2 e s fun x e' s' => x = .normal ∧ e'.get 0 = some (.slice (some ⟨a, 0, none⟩) vs.length vs.length) ∧ e'.get 3 = some (in64 zss.flatten.length) ∧ s' = s := by
  rw [z_2_eq]
  have h0 : WCode (fun k => call tbl ov k) z2i e s fun x e' s' => x = .normal ∧ (∀ j, j < 4 → e'.get j = e.get j) ∧ e'.get 9 = some (.slice (some ⟨a, 0, none⟩) vs.length vs.length) ∧ e'.get 10 = some (in64 vs.length) ∧ e'.get 11 = some (in64 0) ∧ s' = s := by
    simp only [z2i, z_2, code35, params, wc_skip, wc_region, wc_draw, wc_seq, wc_cond, wc_block, wc_exit, wc_ret, next_normal, next_exit, next_ret, inBlock_normal, inBlock_ret, inBlock_exit, sq_apply, nrm_apply, drawnK_apply, boolV_bool, ccond_true, ccond_false, wo_nil, wo_cons, wo_guard, wop, bindP_some, cont_some, cont_none, guardV_bool, guardV_undef, gcont_true, gcont_false, gcont_false', ret_apply, aggK_apply, putK_apply, resK_apply, boolK_apply, ccont_apply, wd_nil, wd_cons, dvals_apply, dcont_some, dcont_none, AOp.vals, rd_tmp, rd_const, rd_func, get_cons, mapList, mapOpt, Option.bind_some, Option.map_some, Nat.reduceEqDiff, if_true, if_false, reduceIte, reduceCtorEq, wv_mov, wv_pick, wv_alloc, wv_box, wv_build, wv_load, wv_loadn, wv_store, wv_nilCheck, wv_bin, wv_eq, wv_un, wv_convInt, wv_convSame, wv_fieldAddr, wv_field, wv_fieldn, wv_extract, wv_lenSlice, wv_lenString, wv_mkMap, wv_call, callee_func, wv_indexAddr, wv_lookup, wv_mapUpdate, wv_mapEntry, wv_entryStore, wv_delete, wv_append, wv_slice, wv_mkSlice, wv_buildSlice, wv_index, wv_copy, wv_lenMap, Abs.cellAt, Abs.rowAt, Abs.storeAt, Heap.get_put, List.getElem?_cons_zero, List.getElem?_cons_succ, Nat.zero_add, Nat.reduceAdd, idx, and_self, Int.toNat_natCast, cellsAt, ne_eq, not_true_eq_false, not_false_eq_true, cellList, Value.cells, List.length_cons, List.length_nil, List.all_cons, List.all_nil, isCell, Bool.and_self, storeL, List.set_cons_zero, List.set_cons_succ, footOf, true_and, and_true, Nat.reduceLeDiff, Nat.le_refl, Nat.reduceMul, Nat.reduceLT, List.nil_append, List.cons_append, List.length_set, ends_normal, ends_ret, endK_apply, resV_tmp, tupleV, eqV, Bool.not_true, Bool.not_false, BEq.rfl, Bool.true_beq, Bool.false_beq, beq_true, beq_false, Nat.sub_self, List.range'_zero, decide_true, decide_false, List.not_mem_nil, false_implies, implies_true, Bool.true_and, Bool.and_true, drawn, pairOk, disj, quietAt, Bool.bne_false, Bool.bne_true, Bool.false_eq_true, applyUpd, Int.reduceEq, Int.reduceNeg, bin_add, bin_sub, bin_mul, bin_lss, bin_leq, bin_gtr, bin_geq, bin_eql, bin_neq, un_not, wv_cap, wv_appendMake, wv_clear, wv_toString, wv_toBytes, wv_sameB, wv_mkIface, wv_minmax, g0]
    intro j hj
    simp (disch := omega) only [get_cons, if_neg]
  refine wc_then h0 ?_
  rintro e1 s1 ⟨k1, a9, a10, a11, rfl⟩
  refine wc_range (fun m e' s' => ∃ i, m = vs.length - i ∧ i ≤ vs.length ∧ e'.get 0 = some (.slice (some ⟨a, 0, none⟩) vs.length vs.length) ∧ e'.get 3 = some (in64 (upTo zss i).length) ∧ e'.get 9 = some (.slice (some ⟨a, 0, none⟩) vs.length vs.length) ∧ e'.get 10 = some (in64 vs.length) ∧ e'.get 11 = some (in64 (i : Nat)) ∧ s' = s1) vs.length ?_ ?_
  · exact ⟨0, rfl, by omega, (k1 0 (by omega)).trans g0, (k1 3 (by omega)).trans g3, a9, a10, a11, rfl⟩
  · rintro m e3 s3 E ⟨i, rfl, hi, c0, c3, c9, c10, c11, rfl⟩ hE
    have d0 := (hE 0 (by simp)).trans c0
    have d3 := (hE 3 (by simp)).trans c3
    have d9 := (hE 9 (by simp)).trans c9
    have d10 := (hE 10 (by simp)).trans c10
    have d11 := (hE 11 (by simp)).trans c11
    refine WCode.mono ?_ (z2h_gen d10 d11)
    rintro y e4 s4 ⟨rfl, k4, a12, rfl⟩
    refine ⟨rfl, _, a12, fun hbb => ?_, fun hbb => ?_⟩
    · simp only [decide_eq_false_iff_not] at hbb
      have : i = vs.length := by omega
      subst this
      refine ⟨rfl, (k4 0 (by omega)).trans d0, (k4 3 (by omega)).trans (d3.trans ?_), rfl⟩
      rw [← hR.len, upTo_all]
    · simp only [decide_eq_true_eq] at hbb
      have hsu := upTo_succ (zss := zss) (i := i) (by rw [hR.len]; exact hbb)
      have hle := upTo_le zss (i + 1)
      rw [hsu, List.length_append] at hle
      have h2 := z2b_gen (tbl := tbl) (ov := ov) hR hbb (m := (upTo zss i).length) (by omega) ((k4 3 (by omega)).trans d3) ((k4 9 (by omega)).trans d9) ((k4 11 (by omega)).trans d11)
      rw [wc_assoc] at h2
      rw [wc_assoc, wc_assoc]
      refine wc_then h2 ?_
      rintro e5 s5 ⟨f0, f9, f10, f11, f3, f20, rfl⟩
      rw [wc_cond, rd_tmp, f20, boolV_bool, bindP_some, ccond_false, wc_skip]
      refine .inl ⟨.inl rfl, ?_⟩
      refine WCode.mono ?_ (z2n_gen (i := i) (by omega) (f11.trans ((k4 11 (by omega)).trans d11)))
      rintro y e6 s6 ⟨rfl, k6, i11, rfl⟩
      refine ⟨rfl, vs.length - (i + 1), by omega, i + 1, rfl, by omega, (k6 0 (by omega)).trans (f0.trans ((k4 0 (by omega)).trans d0)), ?_, (k6 9 (by omega)).trans (f9.trans ((k4 9 (by omega)).trans d9)), (k6 10 (by omega)).trans (f10.trans ((k4 10 (by omega)).trans d10)), i11, rfl⟩
      rw [k6 3 (by omega), f3, hsu, List.length_append]

theorem z4h_gen {i n : Nat} (g26 : e.get 26 = some (in64 n)) (g27 : e.get 27 = some (in64 i)) : WCode (fun k => call tbl ov k) z4h e s fun x e' s' => x = .normal ∧ (∀ j, j < 28 → e'.get j = e.get j) ∧ e'.get 28 = some (.bool (decide (i < n))) ∧ s' = s := by
  have d : decide ((i : Int) < (n : Int)) = decide (i < n) := by simp
  simp only [z4h, z_4, code35, params, wc_skip, wc_region, wc_draw, wc_seq, wc_cond, wc_block, wc_exit, wc_ret, next_normal, next_exit, next_ret, inBlock_normal, inBlock_ret, inBlock_exit, sq_apply, nrm_apply, drawnK_apply, boolV_bool, ccond_true, ccond_false, wo_nil, wo_cons, wo_guard, wop, bindP_some, cont_some, cont_none, guardV_bool, guardV_undef, gcont_true, gcont_false, gcont_false', ret_apply, aggK_apply, putK_apply, resK_apply, boolK_apply, ccont_apply, wd_nil, wd_cons, dvals_apply, dcont_some, dcont_none, AOp.vals, rd_tmp, rd_const, rd_func, get_cons, mapList, mapOpt, Option.bind_some, Option.map_some, Nat.reduceEqDiff, if_true, if_false, reduceIte, reduceCtorEq, wv_mov, wv_pick, wv_alloc, wv_box, wv_build, wv_load, wv_loadn, wv_store, wv_nilCheck, wv_bin, wv_eq, wv_un, wv_convInt, wv_convSame, wv_fieldAddr, wv_field, wv_fieldn, wv_extract, wv_lenSlice, wv_lenString, wv_mkMap, wv_call, callee_func, wv_indexAddr, wv_lookup, wv_mapUpdate, wv_mapEntry, wv_entryStore, wv_delete, wv_append, wv_slice, wv_mkSlice, wv_buildSlice, wv_index, wv_copy, wv_lenMap, Abs.cellAt, Abs.rowAt, Abs.storeAt, Heap.get_put, List.getElem?_cons_zero, List.getElem?_cons_succ, Nat.zero_add, Nat.reduceAdd, idx, and_self, Int.toNat_natCast, cellsAt, ne_eq, not_true_eq_false, not_false_eq_true, cellList, Value.cells, List.length_cons, List.length_nil, List.all_cons, List.all_nil, isCell, Bool.and_self, storeL, List.set_cons_zero, List.set_cons_succ, footOf, true_and, and_true, Nat.reduceLeDiff, Nat.le_refl, Nat.reduceMul, Nat.reduceLT, List.nil_append, List.cons_append, List.length_set, ends_normal, ends_ret, endK_apply, resV_tmp, tupleV, eqV, Bool.not_true, Bool.not_false, BEq.rfl, Bool.true_beq, Bool.false_beq, beq_true, beq_false, Nat.sub_self, List.range'_zero, decide_true, decide_false, List.not_mem_nil, false_implies, implies_true, Bool.true_and, Bool.and_true, drawn, pairOk, disj, quietAt, Bool.bne_false, Bool.bne_true, Bool.false_eq_true, applyUpd, Int.reduceEq, Int.reduceNeg, bin_add, bin_sub, bin_mul, bin_lss, bin_leq, bin_gtr, bin_geq, bin_eql, bin_neq, un_not, wv_cap, wv_appendMake, wv_clear, wv_toString, wv_toBytes, wv_sameB, wv_mkIface, wv_minmax, g26, g27, d]
  intro j hj
  simp (disch := omega) only [get_cons, if_neg]

theorem z4b_gen (hR : Rows s a vs zss) (hg : Grown s1 s v zs) {i : Nat} (hi : i < vs.length) (hm : zs.length + (zss.getD i []).length < 2 ^ 40) (g6 : e.get 6 = some v) (g25 : e.get 25 = some (.slice (some ⟨a, 0, none⟩) vs.length vs.length)) (g27 : e.get 27 = some (in64 i)) :
    WCode (fun k => call tbl ov k) z4b e s fun x e' s' => x = .normal ∧ e'.get 25 = e.get 25 ∧ e'.get 26 = e.get 26 ∧ e'.get 27 = e.get 27 ∧ ∃ v', e'.get 6 = some v' ∧ Grown s1 s' v' (zs ++ zss.getD i []) := by
  obtain ⟨t, hgt⟩ := hR.get
  have hgi := getD_some hi
  have d2 : (0 : Int) ≤ i := by omega
  have d3 : (i : Int) < (vs.length : Nat) := by omega
  obtain ⟨val, upd, nx, he, hg2⟩ := hg.append (.inl (hR.each i hi)) hm
  simp only [z4b, z_4, code35, params, wc_skip, wc_region, wc_draw, wc_seq, wc_cond, wc_block, wc_exit, wc_ret, next_normal, next_exit, next_ret, inBlock_normal, inBlock_ret, inBlock_exit, sq_apply, nrm_apply, drawnK_apply, boolV_bool, ccond_true, ccond_false, wo_nil, wo_cons, wo_guard, wop, bindP_some, cont_some, cont_none, guardV_bool, guardV_undef, gcont_true, gcont_false, gcont_false', ret_apply, aggK_apply, putK_apply, resK_apply, boolK_apply, ccont_apply, wd_nil, wd_cons, dvals_apply, dcont_some, dcont_none, AOp.vals, rd_tmp, rd_const, rd_func, get_cons, mapList, mapOpt, Option.bind_some, Option.map_some, Nat.reduceEqDiff, if_true, if_false, reduceIte, reduceCtorEq, wv_mov, wv_pick, wv_alloc, wv_box, wv_build, wv_load, wv_loadn, wv_store, wv_nilCheck, wv_bin, wv_eq, wv_un, wv_convInt, wv_convSame, wv_fieldAddr, wv_field, wv_fieldn, wv_extract, wv_lenSlice, wv_lenString, wv_mkMap, wv_call, callee_func, wv_indexAddr, wv_lookup, wv_mapUpdate, wv_mapEntry, wv_entryStore, wv_delete, wv_append, wv_slice, wv_mkSlice, wv_buildSlice, wv_index, wv_copy, wv_lenMap, Abs.cellAt, Abs.rowAt, Abs.storeAt, Heap.get_put, List.getElem?_cons_zero, List.getElem?_cons_succ, Nat.zero_add, Nat.reduceAdd, idx, and_self, Int.toNat_natCast, cellsAt, ne_eq, not_true_eq_false, not_false_eq_true, cellList, Value.cells, List.length_cons, List.length_nil, List.all_cons, List.all_nil, isCell, Bool.and_self, storeL, List.set_cons_zero, List.set_cons_succ, footOf, true_and, and_true, Nat.reduceLeDiff, Nat.le_refl, Nat.reduceMul, Nat.reduceLT, List.nil_append, List.cons_append, List.length_set, ends_normal, ends_ret, endK_apply, resV_tmp, tupleV, eqV, Bool.not_true, Bool.not_false, BEq.rfl, Bool.true_beq, Bool.false_beq, beq_true, beq_false, Nat.sub_self, List.range'_zero, decide_true, decide_false, List.not_mem_nil, false_implies, implies_true, Bool.true_and, Bool.and_true, drawn, pairOk, disj, quietAt, Bool.bne_false, Bool.bne_true, Bool.false_eq_true, applyUpd, Int.reduceEq, Int.reduceNeg, bin_add, bin_sub, bin_mul, bin_lss, bin_leq, bin_gtr, bin_geq, bin_eql, bin_neq, un_not, wv_cap, wv_appendMake, wv_clear, wv_toString, wv_toBytes, wv_sameB, wv_mkIface, wv_minmax, g6, g25, g27, hgt, hgi, d2, d3, Nat.mul_one, he]
  exact ⟨_, rfl, hg2⟩

theorem z4n_gen {i : Nat} (hi : i < 2 ^ 62) (g27 : e.get 27 = some (in64 i)) : WCode (fun k => call tbl ov k) z4n e s fun x e' s' => x = .normal ∧ (∀ j, j < 27 → e'.get j = e.get j) ∧ e'.get 27 = some (in64 (i + 1 : Nat)) ∧ s' = s := by
  have w : IntKind.i64.wrap ((i : Int) + 1) = ((i + 1 : Nat) : Int) := by rw [wrap64 (by omega) (by omega)]; omega
  simp only [z4n, z_4, code35, params, wc_skip, wc_region, wc_draw, wc_seq, wc_cond, wc_block, wc_exit, wc_ret, next_normal, next_exit, next_ret, inBlock_normal, inBlock_ret, inBlock_exit, sq_apply, nrm_apply, drawnK_apply, boolV_bool, ccond_true, ccond_false, wo_nil, wo_cons, wo_guard, wop, bindP_some, cont_some, cont_none, guardV_bool, guardV_undef, gcont_true, gcont_false, gcont_false', ret_apply, aggK_apply, putK_apply, resK_apply, boolK_apply, ccont_apply, wd_nil, wd_cons, dvals_apply, dcont_some, dcont_none, AOp.vals, rd_tmp, rd_const, rd_func, get_cons, mapList, mapOpt, Option.bind_some, Option.map_some, Nat.reduceEqDiff, if_true, if_false, reduceIte, reduceCtorEq, wv_mov, wv_pick, wv_alloc, wv_box, wv_build, wv_load, wv_loadn, wv_store, wv_nilCheck, wv_bin, wv_eq, wv_un, wv_convInt, wv_convSame, wv_fieldAddr, wv_field, wv_fieldn, wv_extract, wv_lenSlice, wv_lenString, wv_mkMap, wv_call, callee_func, wv_indexAddr, wv_lookup, wv_mapUpdate, wv_mapEntry, wv_entryStore, wv_delete, wv_append, wv_slice, wv_mkSlice, wv_buildSlice, wv_index, wv_copy, wv_lenMap, Abs.cellAt, Abs.rowAt, Abs.storeAt, Heap.get_put, List.getElem?_cons_zero, List.getElem?_cons_succ, Nat.zero_add, Nat.reduceAdd, idx, and_self, Int.toNat_natCast, cellsAt, ne_eq, not_true_eq_false, not_false_eq_true, cellList, Value.cells, List.length_cons, List.length_nil, List.all_cons, List.all_nil, isCell, Bool.and_self, storeL, List.set_cons_zero, List.set_cons_succ, footOf, true_and, and_true, Nat.reduceLeDiff, Nat.le_refl, Nat.reduceMul, Nat.reduceLT, List.nil_append, List.cons_append, List.length_set, ends_normal, ends_ret, endK_apply, resV_tmp, tupleV, eqV, Bool.not_true, Bool.not_false, BEq.rfl, Bool.true_beq, Bool.false_beq, beq_true, beq_false, Nat.sub_self, List.range'_zero, decide_true, decide_false, List.not_mem_nil, false_implies, implies_true, Bool.true_and, Bool.and_true, drawn, pairOk, disj, quietAt, Bool.bne_false, Bool.bne_true, Bool.false_eq_true, applyUpd, Int.reduceEq, Int.reduceNeg, bin_add, bin_sub, bin_mul, bin_lss, bin_leq, bin_gtr, bin_geq, bin_eql, bin_neq, un_not, wv_cap, wv_appendMake, wv_clear, wv_toString, wv_toBytes, wv_sameB, wv_mkIface, wv_minmax, g27, w]
  intro j hj
  simp (disch := omega) only [get_cons, if_neg]

theorem concat_spec (h35 : tbl 35 = some fun35) (h41 : tbl 41 = some fun41) (hR : Rows s a vs zss) (h0 : 0 < zss.flatten.length) (hlen : zss.flatten.length < 2 ^ 30) (hn : vs.length < 2 ^ 30) :
    WCall (fun k => call tbl ov k) 35 [.slice (some ⟨a, 0, none⟩) vs.length vs.length] s fun v s' => Grown s s' v zss.flatten := by
  refine WCall.of h35 rfl ?_
  simp only [fun35, code35_eq, params]
  have hA : WCode (fun k => call tbl ov k) (.seq z_0 z_1) [(0, .slice (some ⟨a, 0, none⟩) vs.length vs.length)] s fun x e' s' => x = .normal ∧ e'.get 0 = some (.slice (some ⟨a, 0, none⟩) vs.length vs.length) ∧ e'.get 3 = some (in64 0) ∧ s' = s := by
    simp only [z_0, z_1, code35, params, wc_skip, wc_region, wc_draw, wc_seq, wc_cond, wc_block, wc_exit, wc_ret, next_normal, next_exit, next_ret, inBlock_normal, inBlock_ret, inBlock_exit, sq_apply, nrm_apply, drawnK_apply, boolV_bool, ccond_true, ccond_false, wo_nil, wo_cons, wo_guard, wop, bindP_some, cont_some, cont_none, guardV_bool, guardV_undef, gcont_true, gcont_false, gcont_false', ret_apply, aggK_apply, putK_apply, resK_apply, boolK_apply, ccont_apply, wd_nil, wd_cons, dvals_apply, dcont_some, dcont_none, AOp.vals, rd_tmp, rd_const, rd_func, get_cons, mapList, mapOpt, Option.bind_some, Option.map_some, Nat.reduceEqDiff, if_true, if_false, reduceIte, reduceCtorEq, wv_mov, wv_pick, wv_alloc, wv_box, wv_build, wv_load, wv_loadn, wv_store, wv_nilCheck, wv_bin, wv_eq, wv_un, wv_convInt, wv_convSame, wv_fieldAddr, wv_field, wv_fieldn, wv_extract, wv_lenSlice, wv_lenString, wv_mkMap, wv_call, callee_func, wv_indexAddr, wv_lookup, wv_mapUpdate, wv_mapEntry, wv_entryStore, wv_delete, wv_append, wv_slice, wv_mkSlice, wv_buildSlice, wv_index, wv_copy, wv_lenMap, Abs.cellAt, Abs.rowAt, Abs.storeAt, Heap.get_put, List.getElem?_cons_zero, List.getElem?_cons_succ, Nat.zero_add, Nat.reduceAdd, idx, and_self, Int.toNat_natCast, cellsAt, ne_eq, not_true_eq_false, not_false_eq_true, cellList, Value.cells, List.length_cons, List.length_nil, List.all_cons, List.all_nil, isCell, Bool.and_self, storeL, List.set_cons_zero, List.set_cons_succ, footOf, true_and, and_true, Nat.reduceLeDiff, Nat.le_refl, Nat.reduceMul, Nat.reduceLT, List.nil_append, List.cons_append, List.length_set, ends_normal, ends_ret, endK_apply, resV_tmp, tupleV, eqV, Bool.not_true, Bool.not_false, BEq.rfl, Bool.true_beq, Bool.false_beq, beq_true, beq_false, Nat.sub_self, List.range'_zero, decide_true, decide_false, List.not_mem_nil, false_implies, implies_true, Bool.true_and, Bool.and_true, drawn, pairOk, disj, quietAt, Bool.bne_false, Bool.bne_true, Bool.false_eq_true, applyUpd, Int.reduceEq, Int.reduceNeg, bin_add, bin_sub, bin_mul, bin_lss, bin_leq, bin_gtr, bin_geq, bin_eql, bin_neq, un_not, wv_cap, wv_appendMake, wv_clear, wv_toString, wv_toBytes, wv_sameB, wv_mkIface, wv_minmax]
  rw [wc_assoc]
  refine wc_then hA ?_
  rintro e1 s1 ⟨a0, a3, rfl⟩
  refine wc_then (z_2_gen hR hlen hn a0 a3) ?_
  rintro e2 s2 ⟨b0, b3, rfl⟩
  refine wc_then (R := fun e' s' => e'.get 0 = some (.slice (some ⟨a, 0, none⟩) vs.length vs.length) ∧ ∃ v, e'.get 6 = some v ∧ Grown s2 s' v []) ?_ ?_
  · simp only [z_3, code35, params, wc_skip, wc_region, wc_draw, wc_seq, wc_cond, wc_block, wc_exit, wc_ret, next_normal, next_exit, next_ret, inBlock_normal, inBlock_ret, inBlock_exit, sq_apply, nrm_apply, drawnK_apply, boolV_bool, ccond_true, ccond_false, wo_nil, wo_cons, wo_guard, wop, bindP_some, cont_some, cont_none, guardV_bool, guardV_undef, gcont_true, gcont_false, gcont_false', ret_apply, aggK_apply, putK_apply, resK_apply, boolK_apply, ccont_apply, wd_nil, wd_cons, dvals_apply, dcont_some, dcont_none, AOp.vals, rd_tmp, rd_const, rd_func, get_cons, mapList, mapOpt, Option.bind_some, Option.map_some, Nat.reduceEqDiff, if_true, if_false, reduceIte, reduceCtorEq, wv_mov, wv_pick, wv_alloc, wv_box, wv_build, wv_load, wv_loadn, wv_store, wv_nilCheck, wv_bin, wv_eq, wv_un, wv_convInt, wv_convSame, wv_fieldAddr, wv_field, wv_fieldn, wv_extract, wv_lenSlice, wv_lenString, wv_mkMap, wv_call, callee_func, wv_indexAddr, wv_lookup, wv_mapUpdate, wv_mapEntry, wv_entryStore, wv_delete, wv_append, wv_slice, wv_mkSlice, wv_buildSlice, wv_index, wv_copy, wv_lenMap, Abs.cellAt, Abs.rowAt, Abs.storeAt, Heap.get_put, List.getElem?_cons_zero, List.getElem?_cons_succ, Nat.zero_add, Nat.reduceAdd, idx, and_self, Int.toNat_natCast, cellsAt, ne_eq, not_true_eq_false, not_false_eq_true, cellList, Value.cells, List.length_cons, List.length_nil, List.all_cons, List.all_nil, isCell, Bool.and_self, storeL, List.set_cons_zero, List.set_cons_succ, footOf, true_and, and_true, Nat.reduceLeDiff, Nat.le_refl, Nat.reduceMul, Nat.reduceLT, List.nil_append, List.cons_append, List.length_set, ends_normal, ends_ret, endK_apply, resV_tmp, tupleV, eqV, Bool.not_true, Bool.not_false, BEq.rfl, Bool.true_beq, Bool.false_beq, beq_true, beq_false, Nat.sub_self, List.range'_zero, decide_true, decide_false, List.not_mem_nil, false_implies, implies_true, Bool.true_and, Bool.and_true, drawn, pairOk, disj, quietAt, Bool.bne_false, Bool.bne_true, Bool.false_eq_true, applyUpd, Int.reduceEq, Int.reduceNeg, bin_add, bin_sub, bin_mul, bin_lss, bin_leq, bin_gtr, bin_geq, bin_eql, bin_neq, un_not, wv_cap, wv_appendMake, wv_clear, wv_toString, wv_toBytes, wv_sameB, wv_mkIface, wv_minmax, b3]
    refine WCall.mono (grow_spec h41 h0 hlen) ?_
    intro v s3 hg
    simp only [params, wc_skip, wc_region, wc_draw, wc_seq, wc_cond, wc_block, wc_exit, wc_ret, next_normal, next_exit, next_ret, inBlock_normal, inBlock_ret, inBlock_exit, sq_apply, nrm_apply, drawnK_apply, boolV_bool, ccond_true, ccond_false, wo_nil, wo_cons, wo_guard, wop, bindP_some, cont_some, cont_none, guardV_bool, guardV_undef, gcont_true, gcont_false, gcont_false', ret_apply, aggK_apply, putK_apply, resK_apply, boolK_apply, ccont_apply, wd_nil, wd_cons, dvals_apply, dcont_some, dcont_none, AOp.vals, rd_tmp, rd_const, rd_func, get_cons, mapList, mapOpt, Option.bind_some, Option.map_some, Nat.reduceEqDiff, if_true, if_false, reduceIte, reduceCtorEq, wv_mov, wv_pick, wv_alloc, wv_box, wv_build, wv_load, wv_loadn, wv_store, wv_nilCheck, wv_bin, wv_eq, wv_un, wv_convInt, wv_convSame, wv_fieldAddr, wv_field, wv_fieldn, wv_extract, wv_lenSlice, wv_lenString, wv_mkMap, wv_call, callee_func, wv_indexAddr, wv_lookup, wv_mapUpdate, wv_mapEntry, wv_entryStore, wv_delete, wv_append, wv_slice, wv_mkSlice, wv_buildSlice, wv_index, wv_copy, wv_lenMap, Abs.cellAt, Abs.rowAt, Abs.storeAt, Heap.get_put, List.getElem?_cons_zero, List.getElem?_cons_succ, Nat.zero_add, Nat.reduceAdd, idx, and_self, Int.toNat_natCast, cellsAt, ne_eq, not_true_eq_false, not_false_eq_true, cellList, Value.cells, List.length_cons, List.length_nil, List.all_cons, List.all_nil, isCell, Bool.and_self, storeL, List.set_cons_zero, List.set_cons_succ, footOf, true_and, and_true, Nat.reduceLeDiff, Nat.le_refl, Nat.reduceMul, Nat.reduceLT, List.nil_append, List.cons_append, List.length_set, ends_normal, ends_ret, endK_apply, resV_tmp, tupleV, eqV, Bool.not_true, Bool.not_false, BEq.rfl, Bool.true_beq, Bool.false_beq, beq_true, beq_false, Nat.sub_self, List.range'_zero, decide_true, decide_false, List.not_mem_nil, false_implies, implies_true, Bool.true_and, Bool.and_true, drawn, pairOk, disj, quietAt, Bool.bne_false, Bool.bne_true, Bool.false_eq_true, applyUpd, Int.reduceEq, Int.reduceNeg, bin_add, bin_sub, bin_mul, bin_lss, bin_leq, bin_gtr, bin_geq, bin_eql, bin_neq, un_not, wv_cap, wv_appendMake, wv_clear, wv_toString, wv_toBytes, wv_sameB, wv_mkIface, wv_minmax, b0]
    exact ⟨v, rfl, hg⟩
  rintro e3 s3 ⟨c0, v3, c6, hg3⟩
  refine wc_then (R := fun e' s' => ∃ v, e'.get 6 = some v ∧ Grown s2 s' v zss.flatten) ?_ ?_
  · rw [z_4_eq]
    have h0 : WCode (fun k => call tbl ov k) z4i e3 s3 fun x e' s' => x = .normal ∧ e'.get 6 = e3.get 6 ∧ e'.get 25 = some (.slice (some ⟨a, 0, none⟩) vs.length vs.length) ∧ e'.get 26 = some (in64 vs.length) ∧ e'.get 27 = some (in64 0) ∧ s' = s3 := by
      simp only [z4i, z_4, code35, params, wc_skip, wc_region, wc_draw, wc_seq, wc_cond, wc_block, wc_exit, wc_ret, next_normal, next_exit, next_ret, inBlock_normal, inBlock_ret, inBlock_exit, sq_apply, nrm_apply, drawnK_apply, boolV_bool, ccond_true, ccond_false, wo_nil, wo_cons, wo_guard, wop, bindP_some, cont_some, cont_none, guardV_bool, guardV_undef, gcont_true, gcont_false, gcont_false', ret_apply, aggK_apply, putK_apply, resK_apply, boolK_apply, ccont_apply, wd_nil, wd_cons, dvals_apply, dcont_some, dcont_none, AOp.vals, rd_tmp, rd_const, rd_func, get_cons, mapList, mapOpt, Option.bind_some, Option.map_some, Nat.reduceEqDiff, if_true, if_false, reduceIte, reduceCtorEq, wv_mov, wv_pick, wv_alloc, wv_box, wv_build, wv_load, wv_loadn, wv_store, wv_nilCheck, wv_bin, wv_eq, wv_un, wv_convInt, wv_convSame, wv_fieldAddr, wv_field, wv_fieldn, wv_extract, wv_lenSlice, wv_lenString, wv_mkMap, wv_call, callee_func, wv_indexAddr, wv_lookup, wv_mapUpdate, wv_mapEntry, wv_entryStore, wv_delete, wv_append, wv_slice, wv_mkSlice, wv_buildSlice, wv_index, wv_copy, wv_lenMap, Abs.cellAt, Abs.rowAt, Abs.storeAt, Heap.get_put, List.getElem?_cons_zero, List.getElem?_cons_succ, Nat.zero_add, Nat.reduceAdd, idx, and_self, Int.toNat_natCast, cellsAt, ne_eq, not_true_eq_false, not_false_eq_true, cellList, Value.cells, List.length_cons, List.length_nil, List.all_cons, List.all_nil, isCell, Bool.and_self, storeL, List.set_cons_zero, List.set_cons_succ, footOf, true_and, and_true, Nat.reduceLeDiff, Nat.le_refl, Nat.reduceMul, Nat.reduceLT, List.nil_append, List.cons_append, List.length_set, ends_normal, ends_ret, endK_apply, resV_tmp, tupleV, eqV, Bool.not_true, Bool.not_false, BEq.rfl, Bool.true_beq, Bool.false_beq, beq_true, beq_false, Nat.sub_self, List.range'_zero, decide_true, decide_false, List.not_mem_nil, false_implies, implies_true, Bool.true_and, Bool.and_true, drawn, pairOk, disj, quietAt, Bool.bne_false, Bool.bne_true, Bool.false_eq_true, applyUpd, Int.reduceEq, Int.reduceNeg, bin_add, bin_sub, bin_mul, bin_lss, bin_leq, bin_gtr, bin_geq, bin_eql, bin_neq, un_not, wv_cap, wv_appendMake, wv_clear, wv_toString, wv_toBytes, wv_sameB, wv_mkIface, wv_minmax, c0]
    refine wc_then h0 ?_
    rintro e4 s4 ⟨d6, d25, d26, d27, rfl⟩
    refine wc_range (fun m e' s' => ∃ i v, m = vs.length - i ∧ i ≤ vs.length ∧ e'.get 6 = some v ∧ e'.get 25 = some (.slice (some ⟨a, 0, none⟩) vs.length vs.length) ∧ e'.get 26 = some (in64 vs.length) ∧ e'.get 27 = some (in64 (i : Nat)) ∧ Grown s2 s' v (upTo zss i)) vs.length ?_ ?_
    · exact ⟨0, v3, rfl, by omega, d6.trans c6, d25, d26, d27, hg3⟩
    · rintro m e5 s5 E ⟨i, v, rfl, hi, f6, f25, f26, f27, hg⟩ hE
      have i6 := (hE 6 (by simp)).trans f6
      have i25 := (hE 25 (by simp)).trans f25
      have i26 := (hE 26 (by simp)).trans f26
      have i27 := (hE 27 (by simp)).trans f27
      refine WCode.mono ?_ (z4h_gen i26 i27)
      rintro y e6 s6 ⟨rfl, k6, a28, rfl⟩
      refine ⟨rfl, _, a28, fun hbb => ?_, fun hbb => ?_⟩
      · simp only [decide_eq_false_iff_not] at hbb
        have : i = vs.length := by omega
        subst this
        refine ⟨rfl, v, (k6 6 (by omega)).trans i6, ?_⟩
        rw [← upTo_all, hR.len]; exact hg
      · simp only [decide_eq_true_eq] at hbb
        have hsu := upTo_succ (zss := zss) (i := i) (by rw [hR.len]; exact hbb)
        have hle := upTo_le zss (i + 1)
        rw [hsu, List.length_append] at hle
        have hRk : Rows s6 a vs zss := by
          obtain ⟨S, _, hk, _⟩ := hg
          exact hR.kept hk
        refine WCode.mono ?_ (z4b_gen hRk hg hbb (by omega) ((k6 6 (by omega)).trans i6) ((k6 25 (by omega)).trans i25) ((k6 27 (by omega)).trans i27))
        rintro y e7 s7 ⟨rfl, j25, j26, j27, v', j6, hg7⟩
        refine .inl ⟨.inl rfl, ?_⟩
        refine WCode.mono ?_ (z4n_gen (i := i) (by omega) (j27.trans ((k6 27 (by omega)).trans i27)))
        rintro y e8 s8 ⟨rfl, k8, l27, rfl⟩
        exact ⟨rfl, vs.length - (i + 1), by omega, i + 1, v', rfl, by omega, (k8 6 (by omega)).trans j6, (k8 25 (by omega)).trans (j25.trans ((k6 25 (by omega)).trans i25)), (k8 26 (by omega)).trans (j26.trans ((k6 26 (by omega)).trans i26)), l27, by rw [hsu]; exact hg7⟩
  rintro e4 s4 ⟨v4, d6, hg4⟩
  simp only [z_5, code35, params, wc_skip, wc_region, wc_draw, wc_seq, wc_cond, wc_block, wc_exit, wc_ret, next_normal, next_exit, next_ret, inBlock_normal, inBlock_ret, inBlock_exit, sq_apply, nrm_apply, drawnK_apply, boolV_bool, ccond_true, ccond_false, wo_nil, wo_cons, wo_guard, wop, bindP_some, cont_some, cont_none, guardV_bool, guardV_undef, gcont_true, gcont_false, gcont_false', ret_apply, aggK_apply, putK_apply, resK_apply, boolK_apply, ccont_apply, wd_nil, wd_cons, dvals_apply, dcont_some, dcont_none, AOp.vals, rd_tmp, rd_const, rd_func, get_cons, mapList, mapOpt, Option.bind_some, Option.map_some, Nat.reduceEqDiff, if_true, if_false, reduceIte, reduceCtorEq, wv_mov, wv_pick, wv_alloc, wv_box, wv_build, wv_load, wv_loadn, wv_store, wv_nilCheck, wv_bin, wv_eq, wv_un, wv_convInt, wv_convSame, wv_fieldAddr, wv_field, wv_fieldn, wv_extract, wv_lenSlice, wv_lenString, wv_mkMap, wv_call, callee_func, wv_indexAddr, wv_lookup, wv_mapUpdate, wv_mapEntry, wv_entryStore, wv_delete, wv_append, wv_slice, wv_mkSlice, wv_buildSlice, wv_index, wv_copy, wv_lenMap, Abs.cellAt, Abs.rowAt, Abs.storeAt, Heap.get_put, List.getElem?_cons_zero, List.getElem?_cons_succ, Nat.zero_add, Nat.reduceAdd, idx, and_self, Int.toNat_natCast, cellsAt, ne_eq, not_true_eq_false, not_false_eq_true, cellList, Value.cells, List.length_cons, List.length_nil, List.all_cons, List.all_nil, isCell, Bool.and_self, storeL, List.set_cons_zero, List.set_cons_succ, footOf, true_and, and_true, Nat.reduceLeDiff, Nat.le_refl, Nat.reduceMul, Nat.reduceLT, List.nil_append, List.cons_append, List.length_set, ends_normal, ends_ret, endK_apply, resV_tmp, tupleV, eqV, Bool.not_true, Bool.not_false, BEq.rfl, Bool.true_beq, Bool.false_beq, beq_true, beq_false, Nat.sub_self, List.range'_zero, decide_true, decide_false, List.not_mem_nil, false_implies, implies_true, Bool.true_and, Bool.and_true, drawn, pairOk, disj, quietAt, Bool.bne_false, Bool.bne_true, Bool.false_eq_true, applyUpd, Int.reduceEq, Int.reduceNeg, bin_add, bin_sub, bin_mul, bin_lss, bin_leq, bin_gtr, bin_geq, bin_eql, bin_neq, un_not, wv_cap, wv_appendMake, wv_clear, wv_toString, wv_toBytes, wv_sameB, wv_mkIface, wv_minmax, d6]
  exact hg4

end
end
end Go.Proofs.Ytaigiehdnhehnaa
