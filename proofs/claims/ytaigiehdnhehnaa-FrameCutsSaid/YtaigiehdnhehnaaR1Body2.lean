/-
  A record's body.
-/
import Derived.Test.YtaigiehdnhehnaaR1Body
set_option maxRecDepth 100000
set_option linter.unusedVariables false
set_option linter.unusedSimpArgs false
namespace Go.Proofs.Ytaigiehdnhehnaa
open Go Go.Abs

def bodyL (r : FRec) : List Int := ((((([r.kind, r.prio] ++ beL r.id.toNat 8) ++ beL r.till.toNat 8) ++ beL r.host.size 2) ++ strL r.host) ++ strL r.path)

theorem bodyL_length (r : FRec) : (bodyL r).length = 20 + r.host.size + r.path.size := by
  simp [bodyL, beL_length, strL_length]; omega

/-- Bytes in a block of one's own that is newer than s1. -/
def Grown (s1 s : St) (v : Value) (zs : List Int) : Prop := ∃ S, BytesO 5 s v zs S ∧ Kept [] s1 s ∧ ∀ x ∈ S, s1.next ≤ x

theorem Grown.toV {s1 s : St} {v : Value} {zs : List Int} (h : Grown s1 s v zs) : BytesV s v zs := by
  obtain ⟨S, h1, _⟩ := h; exact h1.toV

theorem Grown.kept {s1 s s' : St} {v : Value} {zs : List Int} (h : Grown s1 s v zs) (hk : Kept [] s s') : Grown s1 s' v zs := by
  obtain ⟨S, h1, h2, h3⟩ := h
  exact ⟨S, h1.kept hk (fun _ _ => by simp), h2.trans hk, h3⟩

theorem Grown.append {s1 s : St} {v y : Value} {zs ys : List Int} (h : Grown s1 s v zs) (hy : SrcV s y ys) (hbig : zs.length + ys.length < 2 ^ 40) :
    ∃ val upd nx, evP s.heap.get s.next (.append 5 1 1 v y) = some ⟨val, upd, nx⟩ ∧ Grown s1 ⟨applyUpd s.heap upd, nx⟩ val (zs ++ ys) := by
  obtain ⟨S, h1, h2, h3⟩ := h
  obtain ⟨res, S', he, ho, hk, hS, _⟩ := h1.append hy hbig
  refine ⟨res.val, res.upd, res.next, he, S', ho, h2.comp hk (fun x hx => .inr (h3 x hx)), fun x hx => ?_⟩
  rcases hS x hx with h | h
  · exact h3 x h
  · have := h2.1; omega

theorem Grown.get {s1 s : St} {v : Value} {zs : List Int} (h : Grown s1 s v zs) {q : Nat} (hq : q < s1.next) : s.heap.get q = s1.heap.get q := by
  obtain ⟨S, h1, h2, h3⟩ := h
  exact h2.2 q hq (by simp)

theorem wrap_u64 {n : Int} (h : 0 ≤ n ∧ n < 18446744073709551616) : IntKind.u64.wrap n = n := by
  have : IntKind.u64.wrap n = n % 18446744073709551616 := by simp [IntKind.wrap, IntKind.signed, IntKind.bits]
  rw [this]; omega

theorem wrap_u8 {n : Int} (h : 0 ≤ n ∧ n ≤ 255) : IntKind.u8.wrap n = n := by
  have : IntKind.u8.wrap n = n % 256 := by simp [IntKind.wrap, IntKind.signed, IntKind.bits]
  rw [this]; omega

/-- A record's numbers are those of a machine. -/
structure FRec.Wide (r : FRec) : Prop where
  id : -9223372036854775808 ≤ r.id ∧ r.id ≤ 9223372036854775807
  till : -9223372036854775808 ≤ r.till ∧ r.till ≤ 9223372036854775807
  kind : -9223372036854775808 ≤ r.kind ∧ r.kind ≤ 9223372036854775807
  prio : -9223372036854775808 ≤ r.prio ∧ r.prio ≤ 9223372036854775807

theorem FRec.of_sound {r : FRec} (h : r.sound = true) : r.host.size ≤ 256 ∧ r.path.size ≤ 768 ∧ 0 ≤ r.id ∧ 0 ≤ r.till ∧ 1 ≤ r.kind ∧ r.kind ≤ 3 ∧ 0 ≤ r.prio ∧ r.prio ≤ 7 := by
  simp only [FRec.sound, FRec.small, Bool.and_eq_true, decide_eq_true_eq] at h
  omega

section
variable {tbl : FuncId → Option AFun} {ov : CallSem} {s s1 : St} {e : Env} {v : Value} {zs : List Int} {r : FRec} {p q : Nat}

theorem y_2_gen (hr : r.sound = true) (hp : s.heap.get p = some (.cells r.cells 50 0 false)) (hq : s.heap.get q = some (.cells r.req 48 0 false)) (g1 : e.get 1 = some (.pointer (some ⟨p, 0, none⟩))) (g3 : e.get 3 = some (.pointer (some ⟨q, 0, none⟩))) :
    WCode (fun k => call tbl ov k) y_2 e s fun x e' s' => x = .normal ∧ e'.get 3 = e.get 3 ∧ ∃ v, e'.get 4 = some v ∧ Grown s s' v [r.kind, r.prio] := by
  have c0 : r.cells[0]? = some (in64 r.kind) := rfl
  have c3 : r.req[3]? = some (in64 r.prio) := rfl
  obtain ⟨_, _, _, _, h1, h2, h3, h4⟩ := r.of_sound hr
  have w1 := wrap_u8 (n := r.kind) (by omega)
  have w2 := wrap_u8 (n := r.prio) (by omega)
  simp only [y_2, code34, params, wc_skip, wc_region, wc_draw, wc_seq, wc_cond, wc_block, wc_exit, wc_ret, next_normal, next_exit, next_ret, inBlock_normal, inBlock_ret, inBlock_exit, sq_apply, nrm_apply, drawnK_apply, boolV_bool, ccond_true, ccond_false, wo_nil, wo_cons, wo_guard, wop, bindP_some, cont_some, cont_none, guardV_bool, guardV_undef, gcont_true, gcont_false, gcont_false', ret_apply, aggK_apply, putK_apply, resK_apply, boolK_apply, ccont_apply, wd_nil, wd_cons, dvals_apply, dcont_some, dcont_none, AOp.vals, rd_tmp, rd_const, rd_func, get_cons, mapList, mapOpt, Option.bind_some, Option.map_some, Nat.reduceEqDiff, if_true, if_false, reduceIte, reduceCtorEq, wv_mov, wv_pick, wv_alloc, wv_box, wv_build, wv_load, wv_loadn, wv_store, wv_nilCheck, wv_bin, wv_eq, wv_un, wv_convInt, wv_convSame, wv_fieldAddr, wv_field, wv_fieldn, wv_extract, wv_lenSlice, wv_lenString, wv_mkMap, wv_call, callee_func, wv_indexAddr, wv_lookup, wv_mapUpdate, wv_mapEntry, wv_entryStore, wv_delete, wv_append, wv_slice, wv_mkSlice, wv_buildSlice, wv_index, wv_copy, wv_lenMap, Abs.cellAt, Abs.rowAt, Abs.storeAt, Heap.get_put, List.getElem?_cons_zero, List.getElem?_cons_succ, Nat.zero_add, Nat.reduceAdd, idx, and_self, Int.toNat_natCast, cellsAt, ne_eq, not_true_eq_false, not_false_eq_true, cellList, Value.cells, List.length_cons, List.length_nil, List.all_cons, List.all_nil, isCell, Bool.and_self, storeL, List.set_cons_zero, List.set_cons_succ, footOf, true_and, and_true, Nat.reduceLeDiff, Nat.le_refl, Nat.reduceMul, Nat.reduceLT, List.nil_append, List.cons_append, List.length_set, ends_normal, ends_ret, endK_apply, resV_tmp, tupleV, eqV, Bool.not_true, Bool.not_false, BEq.rfl, Bool.true_beq, Bool.false_beq, beq_true, beq_false, Nat.sub_self, List.range'_zero, decide_true, decide_false, List.not_mem_nil, false_implies, implies_true, Bool.true_and, Bool.and_true, drawn, pairOk, disj, quietAt, Bool.bne_false, Bool.bne_true, Bool.false_eq_true, applyUpd, Int.reduceEq, Int.reduceNeg, bin_add, bin_sub, bin_mul, bin_lss, bin_leq, bin_gtr, bin_geq, bin_eql, bin_neq, un_not, wv_cap, wv_appendMake, wv_clear, wv_toString, wv_toBytes, wv_sameB, wv_mkIface, wv_minmax, g1, g3, hp, hq, c0, c3, w1, w2, ev_buildSlice, fillL, mapParts]
  refine ⟨_, rfl, [s.next], ⟨fun z hz => ?_, .inr ⟨s.next, 0, 2, [.int .u8 r.kind, .int .u8 r.prio], rfl, rfl, Nat.le_refl _, Nat.lt_succ_self _, ?_, Nat.le_refl _, rfl⟩⟩, ⟨Nat.le_succ _, fun id hid _ => ?_⟩, by simp⟩
  · simp only [List.mem_cons, List.not_mem_nil, or_false] at hz
    rcases hz with rfl | rfl <;> omega
  · simp only [applyUpd, Heap.get_put, if_true]
  · have : ¬ id = s.next := by omega
    simp only [applyUpd, Heap.get_put, this, if_false]

theorem y_3_gen (h36 : tbl 36 = some fun36) (hr : r.sound = true) (hw : r.Wide) (hg : Grown s1 s v zs) (hzl : zs.length < 2 ^ 30) (hq : s1.heap.get q = some (.cells r.req 48 0 false)) (hq1 : q < s1.next) (g3 : e.get 3 = some (.pointer (some ⟨q, 0, none⟩))) (g4 : e.get 4 = some v) :
    WCode (fun k => call tbl ov k) y_3 e s fun x e' s' => x = .normal ∧ e'.get 3 = e.get 3 ∧ ∃ v, e'.get 4 = some v ∧ Grown s1 s' v (zs ++ beL r.id.toNat 8) := by
  have c0 : r.req[0]? = some (in64 r.id) := rfl
  obtain ⟨_, _, h1, _⟩ := r.of_sound hr
  have hid := hw.id
  have w1 := wrap_u64 (n := r.id) (by omega)
  have w2 : r.id = (r.id.toNat : Int) := by omega
  have hq' := (hg.get hq1).trans hq
  simp only [y_3, code34, params, wc_skip, wc_region, wc_draw, wc_seq, wc_cond, wc_block, wc_exit, wc_ret, next_normal, next_exit, next_ret, inBlock_normal, inBlock_ret, inBlock_exit, sq_apply, nrm_apply, drawnK_apply, boolV_bool, ccond_true, ccond_false, wo_nil, wo_cons, wo_guard, wop, bindP_some, cont_some, cont_none, guardV_bool, guardV_undef, gcont_true, gcont_false, gcont_false', ret_apply, aggK_apply, putK_apply, resK_apply, boolK_apply, ccont_apply, wd_nil, wd_cons, dvals_apply, dcont_some, dcont_none, AOp.vals, rd_tmp, rd_const, rd_func, get_cons, mapList, mapOpt, Option.bind_some, Option.map_some, Nat.reduceEqDiff, if_true, if_false, reduceIte, reduceCtorEq, wv_mov, wv_pick, wv_alloc, wv_box, wv_build, wv_load, wv_loadn, wv_store, wv_nilCheck, wv_bin, wv_eq, wv_un, wv_convInt, wv_convSame, wv_fieldAddr, wv_field, wv_fieldn, wv_extract, wv_lenSlice, wv_lenString, wv_mkMap, wv_call, callee_func, wv_indexAddr, wv_lookup, wv_mapUpdate, wv_mapEntry, wv_entryStore, wv_delete, wv_append, wv_slice, wv_mkSlice, wv_buildSlice, wv_index, wv_copy, wv_lenMap, Abs.cellAt, Abs.rowAt, Abs.storeAt, Heap.get_put, List.getElem?_cons_zero, List.getElem?_cons_succ, Nat.zero_add, Nat.reduceAdd, idx, and_self, Int.toNat_natCast, cellsAt, ne_eq, not_true_eq_false, not_false_eq_true, cellList, Value.cells, List.length_cons, List.length_nil, List.all_cons, List.all_nil, isCell, Bool.and_self, storeL, List.set_cons_zero, List.set_cons_succ, footOf, true_and, and_true, Nat.reduceLeDiff, Nat.le_refl, Nat.reduceMul, Nat.reduceLT, List.nil_append, List.cons_append, List.length_set, ends_normal, ends_ret, endK_apply, resV_tmp, tupleV, eqV, Bool.not_true, Bool.not_false, BEq.rfl, Bool.true_beq, Bool.false_beq, beq_true, beq_false, Nat.sub_self, List.range'_zero, decide_true, decide_false, List.not_mem_nil, false_implies, implies_true, Bool.true_and, Bool.and_true, drawn, pairOk, disj, quietAt, Bool.bne_false, Bool.bne_true, Bool.false_eq_true, applyUpd, Int.reduceEq, Int.reduceNeg, bin_add, bin_sub, bin_mul, bin_lss, bin_leq, bin_gtr, bin_geq, bin_eql, bin_neq, un_not, wv_cap, wv_appendMake, wv_clear, wv_toString, wv_toBytes, wv_sameB, wv_mkIface, wv_minmax, g3, g4, hq', c0, w1]
  rw [w2]
  refine WCall.mono (number_spec h36 (n := r.id.toNat) (size := 8) (by omega)) ?_
  rintro w s2 ⟨S, ho, hk, hS⟩
  obtain ⟨val, upd, nx, he, hg2⟩ := (hg.kept hk).append (.inl ho.toV) (by rw [beL_length]; omega)
  simp only [params, wc_skip, wc_region, wc_draw, wc_seq, wc_cond, wc_block, wc_exit, wc_ret, next_normal, next_exit, next_ret, inBlock_normal, inBlock_ret, inBlock_exit, sq_apply, nrm_apply, drawnK_apply, boolV_bool, ccond_true, ccond_false, wo_nil, wo_cons, wo_guard, wop, bindP_some, cont_some, cont_none, guardV_bool, guardV_undef, gcont_true, gcont_false, gcont_false', ret_apply, aggK_apply, putK_apply, resK_apply, boolK_apply, ccont_apply, wd_nil, wd_cons, dvals_apply, dcont_some, dcont_none, AOp.vals, rd_tmp, rd_const, rd_func, get_cons, mapList, mapOpt, Option.bind_some, Option.map_some, Nat.reduceEqDiff, if_true, if_false, reduceIte, reduceCtorEq, wv_mov, wv_pick, wv_alloc, wv_box, wv_build, wv_load, wv_loadn, wv_store, wv_nilCheck, wv_bin, wv_eq, wv_un, wv_convInt, wv_convSame, wv_fieldAddr, wv_field, wv_fieldn, wv_extract, wv_lenSlice, wv_lenString, wv_mkMap, wv_call, callee_func, wv_indexAddr, wv_lookup, wv_mapUpdate, wv_mapEntry, wv_entryStore, wv_delete, wv_append, wv_slice, wv_mkSlice, wv_buildSlice, wv_index, wv_copy, wv_lenMap, Abs.cellAt, Abs.rowAt, Abs.storeAt, Heap.get_put, List.getElem?_cons_zero, List.getElem?_cons_succ, Nat.zero_add, Nat.reduceAdd, idx, and_self, Int.toNat_natCast, cellsAt, ne_eq, not_true_eq_false, not_false_eq_true, cellList, Value.cells, List.length_cons, List.length_nil, List.all_cons, List.all_nil, isCell, Bool.and_self, storeL, List.set_cons_zero, List.set_cons_succ, footOf, true_and, and_true, Nat.reduceLeDiff, Nat.le_refl, Nat.reduceMul, Nat.reduceLT, List.nil_append, List.cons_append, List.length_set, ends_normal, ends_ret, endK_apply, resV_tmp, tupleV, eqV, Bool.not_true, Bool.not_false, BEq.rfl, Bool.true_beq, Bool.false_beq, beq_true, beq_false, Nat.sub_self, List.range'_zero, decide_true, decide_false, List.not_mem_nil, false_implies, implies_true, Bool.true_and, Bool.and_true, drawn, pairOk, disj, quietAt, Bool.bne_false, Bool.bne_true, Bool.false_eq_true, applyUpd, Int.reduceEq, Int.reduceNeg, bin_add, bin_sub, bin_mul, bin_lss, bin_leq, bin_gtr, bin_geq, bin_eql, bin_neq, un_not, wv_cap, wv_appendMake, wv_clear, wv_toString, wv_toBytes, wv_sameB, wv_mkIface, wv_minmax, g3, g4, he]
  exact ⟨_, rfl, hg2⟩

theorem y_4_gen (h36 : tbl 36 = some fun36) (hr : r.sound = true) (hw : r.Wide) (hg : Grown s1 s v zs) (hzl : zs.length < 2 ^ 30) (hq : s1.heap.get q = some (.cells r.req 48 0 false)) (hq1 : q < s1.next) (g3 : e.get 3 = some (.pointer (some ⟨q, 0, none⟩))) (g4 : e.get 4 = some v) :
    WCode (fun k => call tbl ov k) y_4 e s fun x e' s' => x = .normal ∧ e'.get 3 = e.get 3 ∧ ∃ v, e'.get 4 = some v ∧ Grown s1 s' v (zs ++ beL r.till.toNat 8) := by
  have c0 : r.req[4]? = some (in64 r.till) := rfl
  obtain ⟨_, _, _, h1, _⟩ := r.of_sound hr
  have hid := hw.till
  have w1 := wrap_u64 (n := r.till) (by omega)
  have w2 : r.till = (r.till.toNat : Int) := by omega
  have hq' := (hg.get hq1).trans hq
  simp only [y_4, code34, params, wc_skip, wc_region, wc_draw, wc_seq, wc_cond, wc_block, wc_exit, wc_ret, next_normal, next_exit, next_ret, inBlock_normal, inBlock_ret, inBlock_exit, sq_apply, nrm_apply, drawnK_apply, boolV_bool, ccond_true, ccond_false, wo_nil, wo_cons, wo_guard, wop, bindP_some, cont_some, cont_none, guardV_bool, guardV_undef, gcont_true, gcont_false, gcont_false', ret_apply, aggK_apply, putK_apply, resK_apply, boolK_apply, ccont_apply, wd_nil, wd_cons, dvals_apply, dcont_some, dcont_none, AOp.vals, rd_tmp, rd_const, rd_func, get_cons, mapList, mapOpt, Option.bind_some, Option.map_some, Nat.reduceEqDiff, if_true, if_false, reduceIte, reduceCtorEq, wv_mov, wv_pick, wv_alloc, wv_box, wv_build, wv_load, wv_loadn, wv_store, wv_nilCheck, wv_bin, wv_eq, wv_un, wv_convInt, wv_convSame, wv_fieldAddr, wv_field, wv_fieldn, wv_extract, wv_lenSlice, wv_lenString, wv_mkMap, wv_call, callee_func, wv_indexAddr, wv_lookup, wv_mapUpdate, wv_mapEntry, wv_entryStore, wv_delete, wv_append, wv_slice, wv_mkSlice, wv_buildSlice, wv_index, wv_copy, wv_lenMap, Abs.cellAt, Abs.rowAt, Abs.storeAt, Heap.get_put, List.getElem?_cons_zero, List.getElem?_cons_succ, Nat.zero_add, Nat.reduceAdd, idx, and_self, Int.toNat_natCast, cellsAt, ne_eq, not_true_eq_false, not_false_eq_true, cellList, Value.cells, List.length_cons, List.length_nil, List.all_cons, List.all_nil, isCell, Bool.and_self, storeL, List.set_cons_zero, List.set_cons_succ, footOf, true_and, and_true, Nat.reduceLeDiff, Nat.le_refl, Nat.reduceMul, Nat.reduceLT, List.nil_append, List.cons_append, List.length_set, ends_normal, ends_ret, endK_apply, resV_tmp, tupleV, eqV, Bool.not_true, Bool.not_false, BEq.rfl, Bool.true_beq, Bool.false_beq, beq_true, beq_false, Nat.sub_self, List.range'_zero, decide_true, decide_false, List.not_mem_nil, false_implies, implies_true, Bool.true_and, Bool.and_true, drawn, pairOk, disj, quietAt, Bool.bne_false, Bool.bne_true, Bool.false_eq_true, applyUpd, Int.reduceEq, Int.reduceNeg, bin_add, bin_sub, bin_mul, bin_lss, bin_leq, bin_gtr, bin_geq, bin_eql, bin_neq, un_not, wv_cap, wv_appendMake, wv_clear, wv_toString, wv_toBytes, wv_sameB, wv_mkIface, wv_minmax, g3, g4, hq', c0, w1]
  rw [w2]
  refine WCall.mono (number_spec h36 (n := r.till.toNat) (size := 8) (by omega)) ?_
  rintro w s2 ⟨S, ho, hk, hS⟩
  obtain ⟨val, upd, nx, he, hg2⟩ := (hg.kept hk).append (.inl ho.toV) (by rw [beL_length]; omega)
  simp only [params, wc_skip, wc_region, wc_draw, wc_seq, wc_cond, wc_block, wc_exit, wc_ret, next_normal, next_exit, next_ret, inBlock_normal, inBlock_ret, inBlock_exit, sq_apply, nrm_apply, drawnK_apply, boolV_bool, ccond_true, ccond_false, wo_nil, wo_cons, wo_guard, wop, bindP_some, cont_some, cont_none, guardV_bool, guardV_undef, gcont_true, gcont_false, gcont_false', ret_apply, aggK_apply, putK_apply, resK_apply, boolK_apply, ccont_apply, wd_nil, wd_cons, dvals_apply, dcont_some, dcont_none, AOp.vals, rd_tmp, rd_const, rd_func, get_cons, mapList, mapOpt, Option.bind_some, Option.map_some, Nat.reduceEqDiff, if_true, if_false, reduceIte, reduceCtorEq, wv_mov, wv_pick, wv_alloc, wv_box, wv_build, wv_load, wv_loadn, wv_store, wv_nilCheck, wv_bin, wv_eq, wv_un, wv_convInt, wv_convSame, wv_fieldAddr, wv_field, wv_fieldn, wv_extract, wv_lenSlice, wv_lenString, wv_mkMap, wv_call, callee_func, wv_indexAddr, wv_lookup, wv_mapUpdate, wv_mapEntry, wv_entryStore, wv_delete, wv_append, wv_slice, wv_mkSlice, wv_buildSlice, wv_index, wv_copy, wv_lenMap, Abs.cellAt, Abs.rowAt, Abs.storeAt, Heap.get_put, List.getElem?_cons_zero, List.getElem?_cons_succ, Nat.zero_add, Nat.reduceAdd, idx, and_self, Int.toNat_natCast, cellsAt, ne_eq, not_true_eq_false, not_false_eq_true, cellList, Value.cells, List.length_cons, List.length_nil, List.all_cons, List.all_nil, isCell, Bool.and_self, storeL, List.set_cons_zero, List.set_cons_succ, footOf, true_and, and_true, Nat.reduceLeDiff, Nat.le_refl, Nat.reduceMul, Nat.reduceLT, List.nil_append, List.cons_append, List.length_set, ends_normal, ends_ret, endK_apply, resV_tmp, tupleV, eqV, Bool.not_true, Bool.not_false, BEq.rfl, Bool.true_beq, Bool.false_beq, beq_true, beq_false, Nat.sub_self, List.range'_zero, decide_true, decide_false, List.not_mem_nil, false_implies, implies_true, Bool.true_and, Bool.and_true, drawn, pairOk, disj, quietAt, Bool.bne_false, Bool.bne_true, Bool.false_eq_true, applyUpd, Int.reduceEq, Int.reduceNeg, bin_add, bin_sub, bin_mul, bin_lss, bin_leq, bin_gtr, bin_geq, bin_eql, bin_neq, un_not, wv_cap, wv_appendMake, wv_clear, wv_toString, wv_toBytes, wv_sameB, wv_mkIface, wv_minmax, g3, g4, he]
  exact ⟨_, rfl, hg2⟩

theorem y_5_gen (h36 : tbl 36 = some fun36) (hr : r.sound = true) (hg : Grown s1 s v zs) (hzl : zs.length < 2 ^ 30) (hq : s1.heap.get q = some (.cells r.req 48 0 false)) (hq1 : q < s1.next) (g3 : e.get 3 = some (.pointer (some ⟨q, 0, none⟩))) (g4 : e.get 4 = some v) :
    WCode (fun k => call tbl ov k) y_5 e s fun x e' s' => x = .normal ∧ e'.get 3 = e.get 3 ∧ ∃ v, e'.get 4 = some v ∧ Grown s1 s' v (zs ++ beL r.host.size 2) := by
  have c1 : r.req[1]? = some (.string r.host) := rfl
  obtain ⟨h1, _⟩ := r.of_sound hr
  have w1 := wrap_u64 (n := (r.host.size : Int)) (by omega)
  have hq' := (hg.get hq1).trans hq
  simp only [y_5, code34, params, wc_skip, wc_region, wc_draw, wc_seq, wc_cond, wc_block, wc_exit, wc_ret, next_normal, next_exit, next_ret, inBlock_normal, inBlock_ret, inBlock_exit, sq_apply, nrm_apply, drawnK_apply, boolV_bool, ccond_true, ccond_false, wo_nil, wo_cons, wo_guard, wop, bindP_some, cont_some, cont_none, guardV_bool, guardV_undef, gcont_true, gcont_false, gcont_false', ret_apply, aggK_apply, putK_apply, resK_apply, boolK_apply, ccont_apply, wd_nil, wd_cons, dvals_apply, dcont_some, dcont_none, AOp.vals, rd_tmp, rd_const, rd_func, get_cons, mapList, mapOpt, Option.bind_some, Option.map_some, Nat.reduceEqDiff, if_true, if_false, reduceIte, reduceCtorEq, wv_mov, wv_pick, wv_alloc, wv_box, wv_build, wv_load, wv_loadn, wv_store, wv_nilCheck, wv_bin, wv_eq, wv_un, wv_convInt, wv_convSame, wv_fieldAddr, wv_field, wv_fieldn, wv_extract, wv_lenSlice, wv_lenString, wv_mkMap, wv_call, callee_func, wv_indexAddr, wv_lookup, wv_mapUpdate, wv_mapEntry, wv_entryStore, wv_delete, wv_append, wv_slice, wv_mkSlice, wv_buildSlice, wv_index, wv_copy, wv_lenMap, Abs.cellAt, Abs.rowAt, Abs.storeAt, Heap.get_put, List.getElem?_cons_zero, List.getElem?_cons_succ, Nat.zero_add, Nat.reduceAdd, idx, and_self, Int.toNat_natCast, cellsAt, ne_eq, not_true_eq_false, not_false_eq_true, cellList, Value.cells, List.length_cons, List.length_nil, List.all_cons, List.all_nil, isCell, Bool.and_self, storeL, List.set_cons_zero, List.set_cons_succ, footOf, true_and, and_true, Nat.reduceLeDiff, Nat.le_refl, Nat.reduceMul, Nat.reduceLT, List.nil_append, List.cons_append, List.length_set, ends_normal, ends_ret, endK_apply, resV_tmp, tupleV, eqV, Bool.not_true, Bool.not_false, BEq.rfl, Bool.true_beq, Bool.false_beq, beq_true, beq_false, Nat.sub_self, List.range'_zero, decide_true, decide_false, List.not_mem_nil, false_implies, implies_true, Bool.true_and, Bool.and_true, drawn, pairOk, disj, quietAt, Bool.bne_false, Bool.bne_true, Bool.false_eq_true, applyUpd, Int.reduceEq, Int.reduceNeg, bin_add, bin_sub, bin_mul, bin_lss, bin_leq, bin_gtr, bin_geq, bin_eql, bin_neq, un_not, wv_cap, wv_appendMake, wv_clear, wv_toString, wv_toBytes, wv_sameB, wv_mkIface, wv_minmax, g3, g4, hq', c1, w1]
  refine WCall.mono (number_spec h36 (n := r.host.size) (size := 2) (by omega)) ?_
  rintro w s2 ⟨S, ho, hk, hS⟩
  obtain ⟨val, upd, nx, he, hg2⟩ := (hg.kept hk).append (.inl ho.toV) (by rw [beL_length]; omega)
  simp only [params, wc_skip, wc_region, wc_draw, wc_seq, wc_cond, wc_block, wc_exit, wc_ret, next_normal, next_exit, next_ret, inBlock_normal, inBlock_ret, inBlock_exit, sq_apply, nrm_apply, drawnK_apply, boolV_bool, ccond_true, ccond_false, wo_nil, wo_cons, wo_guard, wop, bindP_some, cont_some, cont_none, guardV_bool, guardV_undef, gcont_true, gcont_false, gcont_false', ret_apply, aggK_apply, putK_apply, resK_apply, boolK_apply, ccont_apply, wd_nil, wd_cons, dvals_apply, dcont_some, dcont_none, AOp.vals, rd_tmp, rd_const, rd_func, get_cons, mapList, mapOpt, Option.bind_some, Option.map_some, Nat.reduceEqDiff, if_true, if_false, reduceIte, reduceCtorEq, wv_mov, wv_pick, wv_alloc, wv_box, wv_build, wv_load, wv_loadn, wv_store, wv_nilCheck, wv_bin, wv_eq, wv_un, wv_convInt, wv_convSame, wv_fieldAddr, wv_field, wv_fieldn, wv_extract, wv_lenSlice, wv_lenString, wv_mkMap, wv_call, callee_func, wv_indexAddr, wv_lookup, wv_mapUpdate, wv_mapEntry, wv_entryStore, wv_delete, wv_append, wv_slice, wv_mkSlice, wv_buildSlice, wv_index, wv_copy, wv_lenMap, Abs.cellAt, Abs.rowAt, Abs.storeAt, Heap.get_put, List.getElem?_cons_zero, List.getElem?_cons_succ, Nat.zero_add, Nat.reduceAdd, idx, and_self, Int.toNat_natCast, cellsAt, ne_eq, not_true_eq_false, not_false_eq_true, cellList, Value.cells, List.length_cons, List.length_nil, List.all_cons, List.all_nil, isCell, Bool.and_self, storeL, List.set_cons_zero, List.set_cons_succ, footOf, true_and, and_true, Nat.reduceLeDiff, Nat.le_refl, Nat.reduceMul, Nat.reduceLT, List.nil_append, List.cons_append, List.length_set, ends_normal, ends_ret, endK_apply, resV_tmp, tupleV, eqV, Bool.not_true, Bool.not_false, BEq.rfl, Bool.true_beq, Bool.false_beq, beq_true, beq_false, Nat.sub_self, List.range'_zero, decide_true, decide_false, List.not_mem_nil, false_implies, implies_true, Bool.true_and, Bool.and_true, drawn, pairOk, disj, quietAt, Bool.bne_false, Bool.bne_true, Bool.false_eq_true, applyUpd, Int.reduceEq, Int.reduceNeg, bin_add, bin_sub, bin_mul, bin_lss, bin_leq, bin_gtr, bin_geq, bin_eql, bin_neq, un_not, wv_cap, wv_appendMake, wv_clear, wv_toString, wv_toBytes, wv_sameB, wv_mkIface, wv_minmax, g3, g4, he]
  exact ⟨_, rfl, hg2⟩

theorem y_67_gen (hr : r.sound = true) (hg : Grown s1 s v zs) (h0 : 0 < zs.length) (hzl : zs.length < 2 ^ 30) (hq : s1.heap.get q = some (.cells r.req 48 0 false)) (hq1 : q < s1.next) (g3 : e.get 3 = some (.pointer (some ⟨q, 0, none⟩))) (g4 : e.get 4 = some v) :
    WCode (fun k => call tbl ov k) (.seq y_6 y_7) e s fun x e' s' => x = .ret ∧ ∃ v, e'.get 2 = some v ∧ Grown s1 s' v ((zs ++ strL r.host) ++ strL r.path) := by
  have c1 : r.req[1]? = some (.string r.host) := rfl
  have c2 : r.req[2]? = some (.string r.path) := rfl
  obtain ⟨h1, h2, _⟩ := r.of_sound hr
  have hq' := (hg.get hq1).trans hq
  obtain ⟨val, upd, nx, he, hg2⟩ := hg.append (y := .string r.host) (.inr ⟨_, rfl, rfl⟩) (by rw [strL_length]; omega)
  obtain ⟨val2, upd2, nx2, he2, hg3⟩ := hg2.append (y := .string r.path) (.inr ⟨_, rfl, rfl⟩) (by rw [List.length_append, strL_length, strL_length]; omega)
  have hq2 : (applyUpd s.heap upd).get q = some (.cells r.req 48 0 false) := (hg2.get hq1).trans hq
  obtain ⟨S, ⟨_, ⟨rfl, rfl, rfl⟩ | ⟨id, o, cap, c, rfl, rfl, _⟩⟩, _, hS⟩ := hg
  · simp at h0
  have hne : ¬ id = q := by have := hS id (by simp); omega
  simp only [y_6, y_7, code34, params, wc_skip, wc_region, wc_draw, wc_seq, wc_cond, wc_block, wc_exit, wc_ret, next_normal, next_exit, next_ret, inBlock_normal, inBlock_ret, inBlock_exit, sq_apply, nrm_apply, drawnK_apply, boolV_bool, ccond_true, ccond_false, wo_nil, wo_cons, wo_guard, wop, bindP_some, cont_some, cont_none, guardV_bool, guardV_undef, gcont_true, gcont_false, gcont_false', ret_apply, aggK_apply, putK_apply, resK_apply, boolK_apply, ccont_apply, wd_nil, wd_cons, dvals_apply, dcont_some, dcont_none, AOp.vals, rd_tmp, rd_const, rd_func, get_cons, mapList, mapOpt, Option.bind_some, Option.map_some, Nat.reduceEqDiff, if_true, if_false, reduceIte, reduceCtorEq, wv_mov, wv_pick, wv_alloc, wv_box, wv_build, wv_load, wv_loadn, wv_store, wv_nilCheck, wv_bin, wv_eq, wv_un, wv_convInt, wv_convSame, wv_fieldAddr, wv_field, wv_fieldn, wv_extract, wv_lenSlice, wv_lenString, wv_mkMap, wv_call, callee_func, wv_indexAddr, wv_lookup, wv_mapUpdate, wv_mapEntry, wv_entryStore, wv_delete, wv_append, wv_slice, wv_mkSlice, wv_buildSlice, wv_index, wv_copy, wv_lenMap, Abs.cellAt, Abs.rowAt, Abs.storeAt, Heap.get_put, List.getElem?_cons_zero, List.getElem?_cons_succ, Nat.zero_add, Nat.reduceAdd, idx, and_self, Int.toNat_natCast, cellsAt, ne_eq, not_true_eq_false, not_false_eq_true, cellList, Value.cells, List.length_cons, List.length_nil, List.all_cons, List.all_nil, isCell, Bool.and_self, storeL, List.set_cons_zero, List.set_cons_succ, footOf, true_and, and_true, Nat.reduceLeDiff, Nat.le_refl, Nat.reduceMul, Nat.reduceLT, List.nil_append, List.cons_append, List.length_set, ends_normal, ends_ret, endK_apply, resV_tmp, tupleV, eqV, Bool.not_true, Bool.not_false, BEq.rfl, Bool.true_beq, Bool.false_beq, beq_true, beq_false, Nat.sub_self, List.range'_zero, decide_true, decide_false, List.not_mem_nil, false_implies, implies_true, Bool.true_and, Bool.and_true, drawn, pairOk, disj, quietAt, Bool.bne_false, Bool.bne_true, Bool.false_eq_true, applyUpd, Int.reduceEq, Int.reduceNeg, bin_add, bin_sub, bin_mul, bin_lss, bin_leq, bin_gtr, bin_geq, bin_eql, bin_neq, un_not, wv_cap, wv_appendMake, wv_clear, wv_toString, wv_toBytes, wv_sameB, wv_mkIface, wv_minmax, g3, g4, hq', c1, c2, he, he2, hq2]
  simp only [params, wc_skip, wc_region, wc_draw, wc_seq, wc_cond, wc_block, wc_exit, wc_ret, next_normal, next_exit, next_ret, inBlock_normal, inBlock_ret, inBlock_exit, sq_apply, nrm_apply, drawnK_apply, boolV_bool, ccond_true, ccond_false, wo_nil, wo_cons, wo_guard, wop, bindP_some, cont_some, cont_none, guardV_bool, guardV_undef, gcont_true, gcont_false, gcont_false', ret_apply, aggK_apply, putK_apply, resK_apply, boolK_apply, ccont_apply, wd_nil, wd_cons, dvals_apply, dcont_some, dcont_none, AOp.vals, rd_tmp, rd_const, rd_func, get_cons, mapList, mapOpt, Option.bind_some, Option.map_some, Nat.reduceEqDiff, if_true, if_false, reduceIte, reduceCtorEq, wv_mov, wv_pick, wv_alloc, wv_box, wv_build, wv_load, wv_loadn, wv_store, wv_nilCheck, wv_bin, wv_eq, wv_un, wv_convInt, wv_convSame, wv_fieldAddr, wv_field, wv_fieldn, wv_extract, wv_lenSlice, wv_lenString, wv_mkMap, wv_call, callee_func, wv_indexAddr, wv_lookup, wv_mapUpdate, wv_mapEntry, wv_entryStore, wv_delete, wv_append, wv_slice, wv_mkSlice, wv_buildSlice, wv_index, wv_copy, wv_lenMap, Abs.cellAt, Abs.rowAt, Abs.storeAt, Heap.get_put, List.getElem?_cons_zero, List.getElem?_cons_succ, Nat.zero_add, Nat.reduceAdd, idx, and_self, Int.toNat_natCast, cellsAt, ne_eq, not_true_eq_false, not_false_eq_true, cellList, Value.cells, List.length_cons, List.length_nil, List.all_cons, List.all_nil, isCell, Bool.and_self, storeL, List.set_cons_zero, List.set_cons_succ, footOf, true_and, and_true, Nat.reduceLeDiff, Nat.le_refl, Nat.reduceMul, Nat.reduceLT, List.nil_append, List.cons_append, List.length_set, ends_normal, ends_ret, endK_apply, resV_tmp, tupleV, eqV, Bool.not_true, Bool.not_false, BEq.rfl, Bool.true_beq, Bool.false_beq, beq_true, beq_false, Nat.sub_self, List.range'_zero, decide_true, decide_false, List.not_mem_nil, false_implies, implies_true, Bool.true_and, Bool.and_true, drawn, pairOk, disj, quietAt, Bool.bne_false, Bool.bne_true, Bool.false_eq_true, applyUpd, Int.reduceEq, Int.reduceNeg, bin_add, bin_sub, bin_mul, bin_lss, bin_leq, bin_gtr, bin_geq, bin_eql, bin_neq, un_not, wv_cap, wv_appendMake, wv_clear, wv_toString, wv_toBytes, wv_sameB, wv_mkIface, wv_minmax, hne, List.all_nil, List.all_cons]
  exact ⟨_, rfl, hg3⟩

theorem body_spec (h34 : tbl 34 = some fun34) (h36 : tbl 36 = some fun36) (hr : r.sound = true) (hw : r.Wide) : WCall (fun k => call tbl ov k) 34 [r.val] s fun v s' => ∃ s1, Kept [] s s1 ∧ Grown s1 s' v (bodyL r) := by
  refine WCall.of h34 rfl ?_
  simp only [fun34, code34_eq, params]
  obtain ⟨h1, h2, _⟩ := r.of_sound hr
  rw [wc_assoc]
  refine wc_then (y_01 rfl) ?_
  rintro e1 s1 ⟨p, q, ⟨a1, a3, hp, hq, hp1, hq1⟩, hk⟩
  refine wc_then (y_2_gen hr hp hq a1 a3) ?_
  rintro e2 s2 ⟨b3, v2, b4, hg2⟩
  refine wc_then (y_3_gen h36 hr hw hg2 (by simp) hq hq1 (b3.trans a3) b4) ?_
  rintro e3 s3 ⟨c3, v3, c4, hg3⟩
  refine wc_then (y_4_gen h36 hr hw hg3 (by simp [beL_length]) hq hq1 (c3.trans (b3.trans a3)) c4) ?_
  rintro e4 s4 ⟨d3, v4, d4, hg4⟩
  refine wc_then (y_5_gen h36 hr hg4 (by simp [beL_length]) hq hq1 (d3.trans (c3.trans (b3.trans a3))) d4) ?_
  rintro e5 s5 ⟨f3, v5, f4, hg5⟩
  refine WCode.mono ?_ (y_67_gen hr hg5 (by simp) (by simp [beL_length]) hq hq1 (f3.trans (d3.trans (c3.trans (b3.trans a3)))) f4)
  rintro x e6 s6 ⟨rfl, v6, g2, hg6⟩
  rw [ends_ret]
  simp only [mapList, resV_tmp, g2, bindP_some, Option.bind_some, Option.map_some, endK_apply, tupleV]
  exact ⟨s1, hk, hg6⟩

end
end Go.Proofs.Ytaigiehdnhehnaa
