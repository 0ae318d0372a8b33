/-
  HeapSorts: for every slice of numbers the law comes to true.
-/
import Derived.Test.YtaigiehdnhehnaaR1Heap7
set_option maxRecDepth 100000
set_option linter.unusedVariables false
set_option linter.unusedSimpArgs false
namespace Go.Proofs.Ytaigiehdnhehnaa
open Go Go.Abs

/-- A slice of numbers as a law's argument: its block is read alone. -/
def KeysAt (s : St) (av : Value) (zs : List Int) (len : Nat) : Prop :=
  len ≤ zs.length ∧ ((av = .slice none 0 0 ∧ len = 0) ∨ ∃ a cap T, av = .slice (some ⟨a, 0, none⟩) len cap ∧ a < s.next ∧ s.heap.get a = some (.cells (zs.map (.int .i64)) T 1 true))

theorem KeysAt.chg {s0 s : St} {av : Value} {zs : List Int} {len : Nat} (h : KeysAt s0 av zs len) (hc : Chg [] s0 s) : KeysAt s av zs len := by
  obtain ⟨hl, h | ⟨a, cap, T, rfl, ha, hg⟩⟩ := h
  · exact ⟨hl, .inl h⟩
  · exact ⟨hl, .inr ⟨a, cap, T, rfl, Nat.lt_of_lt_of_le ha hc.1, by rw [hc.2 a ha (by simp)]; exact hg⟩⟩

theorem KeysAt.sl {s : St} {av : Value} {zs : List Int} {len : Nat} (h : KeysAt s av zs len) : ∃ a cap, av = .slice a len cap := by
  obtain ⟨hl, ⟨rfl, rfl⟩ | ⟨a, cap, T, rfl, ha, hg⟩⟩ := h
  · exact ⟨_, _, rfl⟩
  · exact ⟨_, _, rfl⟩

theorem KeysAt.row {s : St} {av : Value} {zs : List Int} {len : Nat} (h : KeysAt s av zs len) (h0 : 0 < len) : ∃ a cap T, av = .slice (some ⟨a, 0, none⟩) len cap ∧ a < s.next ∧ s.heap.get a = some (.cells (zs.map (.int .i64)) T 1 true) := by
  obtain ⟨hl, ⟨rfl, rfl⟩ | ⟨a, cap, T, rfl, ha, hg⟩⟩ := h
  · simp at h0
  · exact ⟨_, _, _, rfl, ha, hg⟩

theorem keys_get {zs : List Int} {i : Nat} (hi : i < zs.length) : (zs.map (Value.int .i64))[i]? = some (.int .i64 (zs.getD i 0)) := by
  simp [List.getElem?_map, List.getD_eq_getElem?_getD, hi]

/-- The heap's functions stand in the table. -/
structure HeapTbl (tbl : FuncId → Option AFun) : Prop where
  h13 : tbl 13 = some fun13
  h14 : tbl 14 = some fun14
  h15 : tbl 15 = some fun15
  h16 : tbl 16 = some fun16
  h18 : tbl 18 = some fun18
  h20 : tbl 20 = some fun20
  h22 : tbl 22 = some fun22
  h30 : tbl 30 = some fun30
  h31 : tbl 31 = some fun31
  h32 : tbl 32 = some fun32
  h40 : tbl 40 = some fun40

def a3_0 : ACode := match code3 with | .seq x _ => x | _ => .skip
def a3_1 : ACode := match code3 with | .seq _ (.seq x _) => x | _ => .skip
def a3_2 : ACode := match code3 with | .seq _ (.seq _ (.seq x _)) => x | _ => .skip
def a3_3 : ACode := match code3 with | .seq _ (.seq _ (.seq _ (.seq x _))) => x | _ => .skip
def a3_4 : ACode := match code3 with | .seq _ (.seq _ (.seq _ (.seq _ (.seq x _)))) => x | _ => .skip
def a3_5 : ACode := match code3 with | .seq _ (.seq _ (.seq _ (.seq _ (.seq _ (.seq x _))))) => x | _ => .skip
def a3_6 : ACode := match code3 with | .seq _ (.seq _ (.seq _ (.seq _ (.seq _ (.seq _ (.seq x _)))))) => x | _ => .skip
def a3_7 : ACode := match code3 with | .seq _ (.seq _ (.seq _ (.seq _ (.seq _ (.seq _ (.seq _ (.seq x _))))))) => x | _ => .skip
def a3_8 : ACode := match code3 with | .seq _ (.seq _ (.seq _ (.seq _ (.seq _ (.seq _ (.seq _ (.seq _ (.seq x _)))))))) => x | _ => .skip
def a3_9 : ACode := match code3 with | .seq _ (.seq _ (.seq _ (.seq _ (.seq _ (.seq _ (.seq _ (.seq _ (.seq _ (.seq x _))))))))) => x | _ => .skip
def a3_10 : ACode := match code3 with | .seq _ (.seq _ (.seq _ (.seq _ (.seq _ (.seq _ (.seq _ (.seq _ (.seq _ (.seq _ x))))))))) => x | _ => .skip
def i4 : ACode := match a3_4 with | .seq x _ => x | _ => .skip
def h4 : ACode := match a3_4 with | .seq _ (.block _ (.loop _ (.seq (.seq x _) _))) => x | _ => .skip
def b4 : ACode := match a3_4 with | .seq _ (.block _ (.loop _ (.seq _ (.seq (.block _ x) _)))) => x | _ => .skip
def n4 : ACode := match a3_4 with | .seq _ (.block _ (.loop _ (.seq _ (.seq _ x)))) => x | _ => .skip
def i7 : ACode := match a3_7 with | .seq x _ => x | _ => .skip
def h7 : ACode := match a3_7 with | .seq _ (.block _ (.loop _ (.seq (.seq x _) _))) => x | _ => .skip
def b7a : ACode := match a3_7 with | .seq _ (.block _ (.loop _ (.seq _ (.seq (.block _ (.seq x _)) _)))) => x | _ => .skip
def b7b : ACode := match a3_7 with | .seq _ (.block _ (.loop _ (.seq _ (.seq (.block _ (.seq _ (.seq (.seq x _) _))) _)))) => x | _ => .skip
def b7c : ACode := match a3_7 with | .seq _ (.block _ (.loop _ (.seq _ (.seq (.block _ (.seq _ (.seq _ x))) _)))) => x | _ => .skip
def n7 : ACode := match a3_7 with | .seq _ (.block _ (.loop _ (.seq _ (.seq _ x)))) => x | _ => .skip
theorem code3_eq : code3 = .seq a3_0 (.seq a3_1 (.seq a3_2 (.seq a3_3 (.seq a3_4 (.seq a3_5 (.seq a3_6 (.seq a3_7 (.seq a3_8 (.seq a3_9 a3_10))))))))) := rfl
theorem a3_4_eq : a3_4 = .seq i4 (.block 0 (.loop [0, 3, 4, 5] (.seq (.seq h4 (.cond (.tmp 23) .skip (.exit 0))) (.seq (.block 1 b4) n4)))) := rfl
theorem a3_7_eq : a3_7 = .seq i7 (.block 2 (.loop [0, 3, 4, 6, 7, 8, 9] (.seq (.seq h7 (.cond (.tmp 37) .skip (.exit 2))) (.seq (.block 3 (.seq b7a (.seq (.seq b7b (.cond (.tmp 95) (.seq (.region [⟨some 2, .mov (.const (.bool false)), none⟩] none) .ret) .skip)) b7c))) n7)))) := rfl

section
variable {tbl : FuncId → Option AFun} {ov : CallSem} {s s0 : St} {p : Nat} {e : Env} {Q : AExit → Env → St → Prop} {av : Value} {zs : List Int} {len : Nat}

theorem a3_start (T : HeapTbl tbl) (hk : KeysAt s av zs len) {n : Nat} (hn : n = if len > 100 then 100 else len) (g0 : e.get 0 = some av) {rest : ACode}
    (hq : ∀ (e' : Env) (s' : St) (p : Nat) (S : List Nat), e'.get 0 = some av → e'.get 3 = some (.pointer (some ⟨p, 0, none⟩)) → e'.get 4 = some (ik n) → HP s' p S [] 0 → Chg [] s s' → (∀ x ∈ S, s.next ≤ x) → WCode (fun k => call tbl ov k) rest e' s' Q) :
    WCode (fun k => call tbl ov k) (.seq a3_0 (.seq a3_1 (.seq a3_2 (.seq a3_3 rest)))) e s Q := by
  obtain ⟨a, cap, rfl⟩ := hk.sl
  have h1 : WCode (fun k => call tbl ov k) (.seq a3_0 a3_1) e s fun x e' s' => x = .normal ∧ e'.get 0 = e.get 0 ∧ ∃ p S, e'.get 3 = some (.pointer (some ⟨p, 0, none⟩)) ∧ HP s' p S [] 0 ∧ Chg [] s s' ∧ ∀ x ∈ S, s.next ≤ x := by
    simp only [a3_0, a3_1, code3, params, wc_skip, wc_region, wc_draw, wc_seq, wc_cond, wc_block, wc_exit, wc_ret, next_normal, next_exit, next_ret, inBlock_normal, inBlock_ret, inBlock_exit, sq_apply, nrm_apply, drawnK_apply, boolV_bool, ccond_true, ccond_false, wo_nil, wo_cons, wo_guard, wop, bindP_some, cont_some, cont_none, guardV_bool, guardV_undef, gcont_true, gcont_false, gcont_false', ret_apply, aggK_apply, putK_apply, resK_apply, boolK_apply, ccont_apply, wd_nil, wd_cons, dvals_apply, dcont_some, dcont_none, AOp.vals, rd_tmp, rd_const, rd_func, get_cons, mapList, mapOpt, Option.bind_some, Option.map_some, Nat.reduceEqDiff, if_true, if_false, reduceIte, reduceCtorEq, wv_mov, wv_pick, wv_alloc, wv_box, wv_build, wv_load, wv_loadn, wv_store, wv_nilCheck, wv_bin, wv_eq, wv_un, wv_convInt, wv_convSame, wv_fieldAddr, wv_field, wv_fieldn, wv_extract, wv_lenSlice, wv_lenString, wv_mkMap, wv_call, callee_func, wv_indexAddr, wv_lookup, wv_mapUpdate, wv_mapEntry, wv_entryStore, wv_delete, wv_append, wv_slice, wv_mkSlice, wv_buildSlice, wv_index, wv_copy, wv_lenMap, Abs.cellAt, Abs.rowAt, Abs.storeAt, Heap.get_put, List.getElem?_cons_zero, List.getElem?_cons_succ, Nat.zero_add, Nat.reduceAdd, idx, and_self, Int.toNat_natCast, cellsAt, ne_eq, not_true_eq_false, not_false_eq_true, cellList, Value.cells, List.length_cons, List.length_nil, List.all_cons, List.all_nil, isCell, Bool.and_self, storeL, List.set_cons_zero, List.set_cons_succ, footOf, true_and, and_true, Nat.reduceLeDiff, Nat.le_refl, Nat.reduceMul, Nat.reduceLT, List.nil_append, List.cons_append, List.length_set, ends_normal, ends_ret, endK_apply, resV_tmp, tupleV, binV, unV, eqV, Bool.not_true, Bool.not_false, BEq.rfl, Bool.true_beq, Bool.false_beq, beq_true, beq_false, Nat.sub_self, List.range'_zero, decide_true, decide_false, List.not_mem_nil, false_implies, implies_true, Bool.true_and, Bool.and_true, drawn, pairOk, disj, quietAt, Bool.bne_false, Bool.bne_true, Bool.false_eq_true, applyUpd, Int.reduceEq, Int.reduceNeg]
    refine WCall.mono (new_spec T.h13 s) ?_
    rintro v s1 ⟨p, S, rfl, hh, hc, hS⟩
    simp only [params, wc_skip, wc_region, wc_draw, wc_seq, wc_cond, wc_block, wc_exit, wc_ret, next_normal, next_exit, next_ret, inBlock_normal, inBlock_ret, inBlock_exit, sq_apply, nrm_apply, drawnK_apply, boolV_bool, ccond_true, ccond_false, wo_nil, wo_cons, wo_guard, wop, bindP_some, cont_some, cont_none, guardV_bool, guardV_undef, gcont_true, gcont_false, gcont_false', ret_apply, aggK_apply, putK_apply, resK_apply, boolK_apply, ccont_apply, wd_nil, wd_cons, dvals_apply, dcont_some, dcont_none, AOp.vals, rd_tmp, rd_const, rd_func, get_cons, mapList, mapOpt, Option.bind_some, Option.map_some, Nat.reduceEqDiff, if_true, if_false, reduceIte, reduceCtorEq, wv_mov, wv_pick, wv_alloc, wv_box, wv_build, wv_load, wv_loadn, wv_store, wv_nilCheck, wv_bin, wv_eq, wv_un, wv_convInt, wv_convSame, wv_fieldAddr, wv_field, wv_fieldn, wv_extract, wv_lenSlice, wv_lenString, wv_mkMap, wv_call, callee_func, wv_indexAddr, wv_lookup, wv_mapUpdate, wv_mapEntry, wv_entryStore, wv_delete, wv_append, wv_slice, wv_mkSlice, wv_buildSlice, wv_index, wv_copy, wv_lenMap, Abs.cellAt, Abs.rowAt, Abs.storeAt, Heap.get_put, List.getElem?_cons_zero, List.getElem?_cons_succ, Nat.zero_add, Nat.reduceAdd, idx, and_self, Int.toNat_natCast, cellsAt, ne_eq, not_true_eq_false, not_false_eq_true, cellList, Value.cells, List.length_cons, List.length_nil, List.all_cons, List.all_nil, isCell, Bool.and_self, storeL, List.set_cons_zero, List.set_cons_succ, footOf, true_and, and_true, Nat.reduceLeDiff, Nat.le_refl, Nat.reduceMul, Nat.reduceLT, List.nil_append, List.cons_append, List.length_set, ends_normal, ends_ret, endK_apply, resV_tmp, tupleV, binV, unV, eqV, Bool.not_true, Bool.not_false, BEq.rfl, Bool.true_beq, Bool.false_beq, beq_true, beq_false, Nat.sub_self, List.range'_zero, decide_true, decide_false, List.not_mem_nil, false_implies, implies_true, Bool.true_and, Bool.and_true, drawn, pairOk, disj, quietAt, Bool.bne_false, Bool.bne_true, Bool.false_eq_true, applyUpd, Int.reduceEq, Int.reduceNeg]
    exact ⟨p, S, rfl, hh, hc, hS⟩
  have h2 : ∀ e s, e.get 0 = some (.slice a len cap) → WCode (fun k => call tbl ov k) (.seq a3_2 a3_3) e s fun x e' s' => x = .normal ∧ e'.get 0 = e.get 0 ∧ e'.get 3 = e.get 3 ∧ e'.get 4 = some (ik n) ∧ s' = s := by
    intro e s g0
    by_cases hb : len > 100
    · rw [if_pos hb] at hn
      subst hn
      have d : decide ((len : Int) > 100) = true := decide_eq_true (by omega)
      simp only [a3_2, a3_3, code3, params, wc_skip, wc_region, wc_draw, wc_seq, wc_cond, wc_block, wc_exit, wc_ret, next_normal, next_exit, next_ret, inBlock_normal, inBlock_ret, inBlock_exit, sq_apply, nrm_apply, drawnK_apply, boolV_bool, ccond_true, ccond_false, wo_nil, wo_cons, wo_guard, wop, bindP_some, cont_some, cont_none, guardV_bool, guardV_undef, gcont_true, gcont_false, gcont_false', ret_apply, aggK_apply, putK_apply, resK_apply, boolK_apply, ccont_apply, wd_nil, wd_cons, dvals_apply, dcont_some, dcont_none, AOp.vals, rd_tmp, rd_const, rd_func, get_cons, mapList, mapOpt, Option.bind_some, Option.map_some, Nat.reduceEqDiff, if_true, if_false, reduceIte, reduceCtorEq, wv_mov, wv_pick, wv_alloc, wv_box, wv_build, wv_load, wv_loadn, wv_store, wv_nilCheck, wv_bin, wv_eq, wv_un, wv_convInt, wv_convSame, wv_fieldAddr, wv_field, wv_fieldn, wv_extract, wv_lenSlice, wv_lenString, wv_mkMap, wv_call, callee_func, wv_indexAddr, wv_lookup, wv_mapUpdate, wv_mapEntry, wv_entryStore, wv_delete, wv_append, wv_slice, wv_mkSlice, wv_buildSlice, wv_index, wv_copy, wv_lenMap, Abs.cellAt, Abs.rowAt, Abs.storeAt, Heap.get_put, List.getElem?_cons_zero, List.getElem?_cons_succ, Nat.zero_add, Nat.reduceAdd, idx, and_self, Int.toNat_natCast, cellsAt, ne_eq, not_true_eq_false, not_false_eq_true, cellList, Value.cells, List.length_cons, List.length_nil, List.all_cons, List.all_nil, isCell, Bool.and_self, storeL, List.set_cons_zero, List.set_cons_succ, footOf, true_and, and_true, Nat.reduceLeDiff, Nat.le_refl, Nat.reduceMul, Nat.reduceLT, List.nil_append, List.cons_append, List.length_set, ends_normal, ends_ret, endK_apply, resV_tmp, tupleV, binV, unV, eqV, Bool.not_true, Bool.not_false, BEq.rfl, Bool.true_beq, Bool.false_beq, beq_true, beq_false, Nat.sub_self, List.range'_zero, decide_true, decide_false, List.not_mem_nil, false_implies, implies_true, Bool.true_and, Bool.and_true, drawn, pairOk, disj, quietAt, Bool.bne_false, Bool.bne_true, Bool.false_eq_true, applyUpd, Int.reduceEq, Int.reduceNeg, g0, d]
      rfl
    · rw [if_neg hb] at hn
      subst hn
      have d : decide ((n : Int) > 100) = false := decide_eq_false (by omega)
      simp only [a3_2, a3_3, code3, params, wc_skip, wc_region, wc_draw, wc_seq, wc_cond, wc_block, wc_exit, wc_ret, next_normal, next_exit, next_ret, inBlock_normal, inBlock_ret, inBlock_exit, sq_apply, nrm_apply, drawnK_apply, boolV_bool, ccond_true, ccond_false, wo_nil, wo_cons, wo_guard, wop, bindP_some, cont_some, cont_none, guardV_bool, guardV_undef, gcont_true, gcont_false, gcont_false', ret_apply, aggK_apply, putK_apply, resK_apply, boolK_apply, ccont_apply, wd_nil, wd_cons, dvals_apply, dcont_some, dcont_none, AOp.vals, rd_tmp, rd_const, rd_func, get_cons, mapList, mapOpt, Option.bind_some, Option.map_some, Nat.reduceEqDiff, if_true, if_false, reduceIte, reduceCtorEq, wv_mov, wv_pick, wv_alloc, wv_box, wv_build, wv_load, wv_loadn, wv_store, wv_nilCheck, wv_bin, wv_eq, wv_un, wv_convInt, wv_convSame, wv_fieldAddr, wv_field, wv_fieldn, wv_extract, wv_lenSlice, wv_lenString, wv_mkMap, wv_call, callee_func, wv_indexAddr, wv_lookup, wv_mapUpdate, wv_mapEntry, wv_entryStore, wv_delete, wv_append, wv_slice, wv_mkSlice, wv_buildSlice, wv_index, wv_copy, wv_lenMap, Abs.cellAt, Abs.rowAt, Abs.storeAt, Heap.get_put, List.getElem?_cons_zero, List.getElem?_cons_succ, Nat.zero_add, Nat.reduceAdd, idx, and_self, Int.toNat_natCast, cellsAt, ne_eq, not_true_eq_false, not_false_eq_true, cellList, Value.cells, List.length_cons, List.length_nil, List.all_cons, List.all_nil, isCell, Bool.and_self, storeL, List.set_cons_zero, List.set_cons_succ, footOf, true_and, and_true, Nat.reduceLeDiff, Nat.le_refl, Nat.reduceMul, Nat.reduceLT, List.nil_append, List.cons_append, List.length_set, ends_normal, ends_ret, endK_apply, resV_tmp, tupleV, binV, unV, eqV, Bool.not_true, Bool.not_false, BEq.rfl, Bool.true_beq, Bool.false_beq, beq_true, beq_false, Nat.sub_self, List.range'_zero, decide_true, decide_false, List.not_mem_nil, false_implies, implies_true, Bool.true_and, Bool.and_true, drawn, pairOk, disj, quietAt, Bool.bne_false, Bool.bne_true, Bool.false_eq_true, applyUpd, Int.reduceEq, Int.reduceNeg, g0, d]
  rw [wc_assoc]
  refine wc_then h1 ?_
  rintro e1 s1 ⟨a0, p, S, a3, hh, hc, hS⟩
  rw [wc_assoc]
  refine wc_then (h2 e1 s1 (a0.trans g0)) ?_
  rintro e2 s2 ⟨b0, b3, b4, rfl⟩
  exact hq e2 s2 p S (b0.trans (a0.trans g0)) (b3.trans a3) b4 hh hc hS

theorem i4_gen : WCode (fun k => call tbl ov k) i4 e s fun x e' s' => x = .normal ∧ e'.get 0 = e.get 0 ∧ e'.get 3 = e.get 3 ∧ e'.get 4 = e.get 4 ∧ e'.get 5 = some (ik 0) ∧ s' = s := by
  simp only [i4, a3_4, code3, params, wc_skip, wc_region, wc_draw, wc_seq, wc_cond, wc_block, wc_exit, wc_ret, next_normal, next_exit, next_ret, inBlock_normal, inBlock_ret, inBlock_exit, sq_apply, nrm_apply, drawnK_apply, boolV_bool, ccond_true, ccond_false, wo_nil, wo_cons, wo_guard, wop, bindP_some, cont_some, cont_none, guardV_bool, guardV_undef, gcont_true, gcont_false, gcont_false', ret_apply, aggK_apply, putK_apply, resK_apply, boolK_apply, ccont_apply, wd_nil, wd_cons, dvals_apply, dcont_some, dcont_none, AOp.vals, rd_tmp, rd_const, rd_func, get_cons, mapList, mapOpt, Option.bind_some, Option.map_some, Nat.reduceEqDiff, if_true, if_false, reduceIte, reduceCtorEq, wv_mov, wv_pick, wv_alloc, wv_box, wv_build, wv_load, wv_loadn, wv_store, wv_nilCheck, wv_bin, wv_eq, wv_un, wv_convInt, wv_convSame, wv_fieldAddr, wv_field, wv_fieldn, wv_extract, wv_lenSlice, wv_lenString, wv_mkMap, wv_call, callee_func, wv_indexAddr, wv_lookup, wv_mapUpdate, wv_mapEntry, wv_entryStore, wv_delete, wv_append, wv_slice, wv_mkSlice, wv_buildSlice, wv_index, wv_copy, wv_lenMap, Abs.cellAt, Abs.rowAt, Abs.storeAt, Heap.get_put, List.getElem?_cons_zero, List.getElem?_cons_succ, Nat.zero_add, Nat.reduceAdd, idx, and_self, Int.toNat_natCast, cellsAt, ne_eq, not_true_eq_false, not_false_eq_true, cellList, Value.cells, List.length_cons, List.length_nil, List.all_cons, List.all_nil, isCell, Bool.and_self, storeL, List.set_cons_zero, List.set_cons_succ, footOf, true_and, and_true, Nat.reduceLeDiff, Nat.le_refl, Nat.reduceMul, Nat.reduceLT, List.nil_append, List.cons_append, List.length_set, ends_normal, ends_ret, endK_apply, resV_tmp, tupleV, binV, unV, eqV, Bool.not_true, Bool.not_false, BEq.rfl, Bool.true_beq, Bool.false_beq, beq_true, beq_false, Nat.sub_self, List.range'_zero, decide_true, decide_false, List.not_mem_nil, false_implies, implies_true, Bool.true_and, Bool.and_true, drawn, pairOk, disj, quietAt, Bool.bne_false, Bool.bne_true, Bool.false_eq_true, applyUpd, Int.reduceEq, Int.reduceNeg]

theorem h4_gen {i n : Nat} (g4 : e.get 4 = some (ik n)) (g5 : e.get 5 = some (ik i)) {b : Bool} (hb : decide (i < n) = b) : WCode (fun k => call tbl ov k) h4 e s fun x e' s' => x = .normal ∧ ((∀ j, j < 16 → e'.get j = e.get j) ∧ e'.get 23 = some (.bool b)) ∧ s' = s := by
  have d : decide ((i : Int) < (n : Int)) = b := by rw [← hb]; simp
  simp only [h4, a3_4, code3, params, wc_skip, wc_region, wc_draw, wc_seq, wc_cond, wc_block, wc_exit, wc_ret, next_normal, next_exit, next_ret, inBlock_normal, inBlock_ret, inBlock_exit, sq_apply, nrm_apply, drawnK_apply, boolV_bool, ccond_true, ccond_false, wo_nil, wo_cons, wo_guard, wop, bindP_some, cont_some, cont_none, guardV_bool, guardV_undef, gcont_true, gcont_false, gcont_false', ret_apply, aggK_apply, putK_apply, resK_apply, boolK_apply, ccont_apply, wd_nil, wd_cons, dvals_apply, dcont_some, dcont_none, AOp.vals, rd_tmp, rd_const, rd_func, get_cons, mapList, mapOpt, Option.bind_some, Option.map_some, Nat.reduceEqDiff, if_true, if_false, reduceIte, reduceCtorEq, wv_mov, wv_pick, wv_alloc, wv_box, wv_build, wv_load, wv_loadn, wv_store, wv_nilCheck, wv_bin, wv_eq, wv_un, wv_convInt, wv_convSame, wv_fieldAddr, wv_field, wv_fieldn, wv_extract, wv_lenSlice, wv_lenString, wv_mkMap, wv_call, callee_func, wv_indexAddr, wv_lookup, wv_mapUpdate, wv_mapEntry, wv_entryStore, wv_delete, wv_append, wv_slice, wv_mkSlice, wv_buildSlice, wv_index, wv_copy, wv_lenMap, Abs.cellAt, Abs.rowAt, Abs.storeAt, Heap.get_put, List.getElem?_cons_zero, List.getElem?_cons_succ, Nat.zero_add, Nat.reduceAdd, idx, and_self, Int.toNat_natCast, cellsAt, ne_eq, not_true_eq_false, not_false_eq_true, cellList, Value.cells, List.length_cons, List.length_nil, List.all_cons, List.all_nil, isCell, Bool.and_self, storeL, List.set_cons_zero, List.set_cons_succ, footOf, true_and, and_true, Nat.reduceLeDiff, Nat.le_refl, Nat.reduceMul, Nat.reduceLT, List.nil_append, List.cons_append, List.length_set, ends_normal, ends_ret, endK_apply, resV_tmp, tupleV, binV, unV, eqV, Bool.not_true, Bool.not_false, BEq.rfl, Bool.true_beq, Bool.false_beq, beq_true, beq_false, Nat.sub_self, List.range'_zero, decide_true, decide_false, List.not_mem_nil, false_implies, implies_true, Bool.true_and, Bool.and_true, drawn, pairOk, disj, quietAt, Bool.bne_false, Bool.bne_true, Bool.false_eq_true, applyUpd, Int.reduceEq, Int.reduceNeg, g4, g5, d]
  intro j hj
  simp (disch := omega) only [get_cons, if_neg]

theorem b4_gen (T : HeapTbl tbl) (hk : KeysAt s av zs len) {S : List Nat} {L : List Node} {wk : Int} (h : HP s p S L wk) (ho : Ord L) (hL : L.length < 2 ^ 30) {i : Nat} (hi : i < len)
    (g0 : e.get 0 = some av) (g3 : e.get 3 = some (.pointer (some ⟨p, 0, none⟩))) (g5 : e.get 5 = some (ik i)) :
    WCode (fun k => call tbl ov k) b4 e s fun x e' s' => x = .normal ∧ (∀ j, j < 16 → e'.get j = e.get j) ∧ ∃ S' L' c, HP s' p S' L' (addW c wk) ∧ Chg S s s' ∧ (∀ x ∈ S', x ∈ S ∨ s.next ≤ x) ∧ SetTo L i (zs.getD i 0) L' c := by
  obtain ⟨a, cap, t, rfl, ha, hg⟩ := hk.row (by omega)
  have hz := hk.1
  have d2 : (0 : Int) ≤ i := by omega
  have d3 : (i : Int) < (len : Nat) := by omega
  have hgt := keys_get (zs := zs) (i := i) (by omega)
  simp only [b4, a3_4, code3, params, wc_skip, wc_region, wc_draw, wc_seq, wc_cond, wc_block, wc_exit, wc_ret, next_normal, next_exit, next_ret, inBlock_normal, inBlock_ret, inBlock_exit, sq_apply, nrm_apply, drawnK_apply, boolV_bool, ccond_true, ccond_false, wo_nil, wo_cons, wo_guard, wop, bindP_some, cont_some, cont_none, guardV_bool, guardV_undef, gcont_true, gcont_false, gcont_false', ret_apply, aggK_apply, putK_apply, resK_apply, boolK_apply, ccont_apply, wd_nil, wd_cons, dvals_apply, dcont_some, dcont_none, AOp.vals, rd_tmp, rd_const, rd_func, get_cons, mapList, mapOpt, Option.bind_some, Option.map_some, Nat.reduceEqDiff, if_true, if_false, reduceIte, reduceCtorEq, wv_mov, wv_pick, wv_alloc, wv_box, wv_build, wv_load, wv_loadn, wv_store, wv_nilCheck, wv_bin, wv_eq, wv_un, wv_convInt, wv_convSame, wv_fieldAddr, wv_field, wv_fieldn, wv_extract, wv_lenSlice, wv_lenString, wv_mkMap, wv_call, callee_func, wv_indexAddr, wv_lookup, wv_mapUpdate, wv_mapEntry, wv_entryStore, wv_delete, wv_append, wv_slice, wv_mkSlice, wv_buildSlice, wv_index, wv_copy, wv_lenMap, Abs.cellAt, Abs.rowAt, Abs.storeAt, Heap.get_put, List.getElem?_cons_zero, List.getElem?_cons_succ, Nat.zero_add, Nat.reduceAdd, idx, and_self, Int.toNat_natCast, cellsAt, ne_eq, not_true_eq_false, not_false_eq_true, cellList, Value.cells, List.length_cons, List.length_nil, List.all_cons, List.all_nil, isCell, Bool.and_self, storeL, List.set_cons_zero, List.set_cons_succ, footOf, true_and, and_true, Nat.reduceLeDiff, Nat.le_refl, Nat.reduceMul, Nat.reduceLT, List.nil_append, List.cons_append, List.length_set, ends_normal, ends_ret, endK_apply, resV_tmp, tupleV, binV, unV, eqV, Bool.not_true, Bool.not_false, BEq.rfl, Bool.true_beq, Bool.false_beq, beq_true, beq_false, Nat.sub_self, List.range'_zero, decide_true, decide_false, List.not_mem_nil, false_implies, implies_true, Bool.true_and, Bool.and_true, drawn, pairOk, disj, quietAt, Bool.bne_false, Bool.bne_true, Bool.false_eq_true, applyUpd, Int.reduceEq, Int.reduceNeg, g0, g3, g5, d2, d3, Nat.mul_one, hg, hgt]
  refine WCall.mono (set_spec T.h14 T.h30 T.h31 T.h32 T.h40 h ho hL _ _) ?_
  rintro v s1 ⟨S', L', c, hh, hc, hS, hset⟩
  simp only [params, wc_skip, wc_region, wc_draw, wc_seq, wc_cond, wc_block, wc_exit, wc_ret, next_normal, next_exit, next_ret, inBlock_normal, inBlock_ret, inBlock_exit, sq_apply, nrm_apply, drawnK_apply, boolV_bool, ccond_true, ccond_false, wo_nil, wo_cons, wo_guard, wop, bindP_some, cont_some, cont_none, guardV_bool, guardV_undef, gcont_true, gcont_false, gcont_false', ret_apply, aggK_apply, putK_apply, resK_apply, boolK_apply, ccont_apply, wd_nil, wd_cons, dvals_apply, dcont_some, dcont_none, AOp.vals, rd_tmp, rd_const, rd_func, get_cons, mapList, mapOpt, Option.bind_some, Option.map_some, Nat.reduceEqDiff, if_true, if_false, reduceIte, reduceCtorEq, wv_mov, wv_pick, wv_alloc, wv_box, wv_build, wv_load, wv_loadn, wv_store, wv_nilCheck, wv_bin, wv_eq, wv_un, wv_convInt, wv_convSame, wv_fieldAddr, wv_field, wv_fieldn, wv_extract, wv_lenSlice, wv_lenString, wv_mkMap, wv_call, callee_func, wv_indexAddr, wv_lookup, wv_mapUpdate, wv_mapEntry, wv_entryStore, wv_delete, wv_append, wv_slice, wv_mkSlice, wv_buildSlice, wv_index, wv_copy, wv_lenMap, Abs.cellAt, Abs.rowAt, Abs.storeAt, Heap.get_put, List.getElem?_cons_zero, List.getElem?_cons_succ, Nat.zero_add, Nat.reduceAdd, idx, and_self, Int.toNat_natCast, cellsAt, ne_eq, not_true_eq_false, not_false_eq_true, cellList, Value.cells, List.length_cons, List.length_nil, List.all_cons, List.all_nil, isCell, Bool.and_self, storeL, List.set_cons_zero, List.set_cons_succ, footOf, true_and, and_true, Nat.reduceLeDiff, Nat.le_refl, Nat.reduceMul, Nat.reduceLT, List.nil_append, List.cons_append, List.length_set, ends_normal, ends_ret, endK_apply, resV_tmp, tupleV, binV, unV, eqV, Bool.not_true, Bool.not_false, BEq.rfl, Bool.true_beq, Bool.false_beq, beq_true, beq_false, Nat.sub_self, List.range'_zero, decide_true, decide_false, List.not_mem_nil, false_implies, implies_true, Bool.true_and, Bool.and_true, drawn, pairOk, disj, quietAt, Bool.bne_false, Bool.bne_true, Bool.false_eq_true, applyUpd, Int.reduceEq, Int.reduceNeg]
  refine ⟨fun j hj => ?_, S', L', c, hh, hc, hS, hset⟩
  simp (disch := omega) only [get_cons, if_neg]

theorem n4_gen {i : Nat} (hi : i < 2 ^ 60) (g5 : e.get 5 = some (ik i)) : WCode (fun k => call tbl ov k) n4 e s fun x e' s' => x = .normal ∧ e'.get 0 = e.get 0 ∧ e'.get 3 = e.get 3 ∧ e'.get 4 = e.get 4 ∧ e'.get 5 = some (ik (i + 1 : Nat)) ∧ s' = s := by
  have w : IntKind.i64.wrap ((i : Int) + 1) = ((i + 1 : Nat) : Int) := by rw [wrap_in (by omega) (by omega)]; omega
  simp only [n4, a3_4, code3, params, wc_skip, wc_region, wc_draw, wc_seq, wc_cond, wc_block, wc_exit, wc_ret, next_normal, next_exit, next_ret, inBlock_normal, inBlock_ret, inBlock_exit, sq_apply, nrm_apply, drawnK_apply, boolV_bool, ccond_true, ccond_false, wo_nil, wo_cons, wo_guard, wop, bindP_some, cont_some, cont_none, guardV_bool, guardV_undef, gcont_true, gcont_false, gcont_false', ret_apply, aggK_apply, putK_apply, resK_apply, boolK_apply, ccont_apply, wd_nil, wd_cons, dvals_apply, dcont_some, dcont_none, AOp.vals, rd_tmp, rd_const, rd_func, get_cons, mapList, mapOpt, Option.bind_some, Option.map_some, Nat.reduceEqDiff, if_true, if_false, reduceIte, reduceCtorEq, wv_mov, wv_pick, wv_alloc, wv_box, wv_build, wv_load, wv_loadn, wv_store, wv_nilCheck, wv_bin, wv_eq, wv_un, wv_convInt, wv_convSame, wv_fieldAddr, wv_field, wv_fieldn, wv_extract, wv_lenSlice, wv_lenString, wv_mkMap, wv_call, callee_func, wv_indexAddr, wv_lookup, wv_mapUpdate, wv_mapEntry, wv_entryStore, wv_delete, wv_append, wv_slice, wv_mkSlice, wv_buildSlice, wv_index, wv_copy, wv_lenMap, Abs.cellAt, Abs.rowAt, Abs.storeAt, Heap.get_put, List.getElem?_cons_zero, List.getElem?_cons_succ, Nat.zero_add, Nat.reduceAdd, idx, and_self, Int.toNat_natCast, cellsAt, ne_eq, not_true_eq_false, not_false_eq_true, cellList, Value.cells, List.length_cons, List.length_nil, List.all_cons, List.all_nil, isCell, Bool.and_self, storeL, List.set_cons_zero, List.set_cons_succ, footOf, true_and, and_true, Nat.reduceLeDiff, Nat.le_refl, Nat.reduceMul, Nat.reduceLT, List.nil_append, List.cons_append, List.length_set, ends_normal, ends_ret, endK_apply, resV_tmp, tupleV, binV, unV, eqV, Bool.not_true, Bool.not_false, BEq.rfl, Bool.true_beq, Bool.false_beq, beq_true, beq_false, Nat.sub_self, List.range'_zero, decide_true, decide_false, List.not_mem_nil, false_implies, implies_true, Bool.true_and, Bool.and_true, drawn, pairOk, disj, quietAt, Bool.bne_false, Bool.bne_true, Bool.false_eq_true, applyUpd, Int.reduceEq, Int.reduceNeg, g5, w]

/-- The row after the first numbers have been set. -/
def First (zs : List Int) (i : Nat) (L : List Node) : Prop := L.length = i ∧ ∀ n, n ∈ L ↔ ∃ j : Nat, j < i ∧ n = ((j : Int), zs.getD j 0)

theorem First.step {i : Nat} {L L' : List Node} {c : Nat} (h : First zs i L) (hs : SetTo L i (zs.getD i 0) L' c) : First zs (i + 1) L' := by
  have hno : ∀ k, ¬ ((i : Int), k) ∈ L := by
    intro k hk
    obtain ⟨j, hj, he⟩ := (h.2 _).1 hk
    simp only [Prod.mk.injEq] at he
    omega
  refine ⟨by rw [hs.new hno, h.1], fun n => ?_⟩
  rw [hs.mem, h.2]
  constructor
  · rintro (rfl | ⟨⟨j, hj, rfl⟩, _⟩)
    · exact ⟨i, by omega, rfl⟩
    · exact ⟨j, by omega, rfl⟩
  · rintro ⟨j, hj, rfl⟩
    by_cases h1 : j = i
    · subst h1; exact .inl rfl
    · refine .inr ⟨⟨j, by omega, rfl⟩, ?_⟩
      simp only [ne_eq]; omega

theorem a3_4_gen (T : HeapTbl tbl) (hk : KeysAt s0 av zs len) {n : Nat} (hn : n ≤ len) (hn1 : n ≤ 100) {S : List Nat} {wk : Int} (h : HP s p S [] wk) (hc : Chg [] s0 s) (hS : ∀ x ∈ S, s0.next ≤ x)
    (g0 : e.get 0 = some av) (g3 : e.get 3 = some (.pointer (some ⟨p, 0, none⟩))) (g4 : e.get 4 = some (ik n)) :
    WCode (fun k => call tbl ov k) a3_4 e s fun x e' s' => x = .normal ∧ e'.get 0 = some av ∧ e'.get 3 = some (.pointer (some ⟨p, 0, none⟩)) ∧ e'.get 4 = some (ik n) ∧ ∃ S' L wk', HP s' p S' L wk' ∧ Ord L ∧ First zs n L ∧ Chg [] s0 s' ∧ ∀ x ∈ S', s0.next ≤ x := by
  rw [a3_4_eq]
  refine wc_then i4_gen ?_
  rintro e1 s1 ⟨a0, a3, a4, a5, rfl⟩
  rw [wc_block]
  refine wc_loop (fun k e s => ∃ i L wk S, k = n - i ∧ i ≤ n ∧ e.get 0 = some av ∧ e.get 3 = some (.pointer (some ⟨p, 0, none⟩)) ∧ e.get 4 = some (ik n) ∧ e.get 5 = some (ik (i : Nat)) ∧ HP s p S L wk ∧ Ord L ∧ First zs i L ∧ Chg [] s0 s ∧ ∀ x ∈ S, s0.next ≤ x) n ?_ ?_
  · exact ⟨0, [], wk, S, rfl, by omega, a0.trans g0, a3.trans g3, a4.trans g4, a5, h, fun c hc0 hcl => by simp at hcl, ⟨rfl, fun n => by simp⟩, hc, hS⟩
  · rintro k e2 s2 ⟨i, L, wk2, S2, rfl, hi, b0, b3, b4, b5, hh, ho, hf, hc2, hS2⟩
    have c0 := (restrict_live (e := e2) (live := [0, 3, 4, 5]) (j := 0) (by simp)).trans b0
    have c3 := (restrict_live (e := e2) (live := [0, 3, 4, 5]) (j := 3) (by simp)).trans b3
    have c4 := (restrict_live (e := e2) (live := [0, 3, 4, 5]) (j := 4) (by simp)).trans b4
    have c5 := (restrict_live (e := e2) (live := [0, 3, 4, 5]) (j := 5) (by simp)).trans b5
    generalize restrict [0, 3, 4, 5] e2 = E at *
    by_cases hlt : i < n
    · rw [← wc_assoc]
      refine wc_then (h4_gen c4 c5 (decide_eq_true hlt)) ?_
      rintro e3 s3 ⟨⟨k3, k23⟩, rfl⟩
      rw [wc_seq, wc_cond, rd_tmp, k23, boolV_bool, bindP_some, ccond_true, wc_skip, next_normal, sq_apply]
      refine wc_then (R := fun e' s' => (∀ j, j < 16 → e'.get j = e3.get j) ∧ ∃ S' L' c, HP s' p S' L' (addW c wk2) ∧ Chg S2 s3 s' ∧ (∀ x ∈ S', x ∈ S2 ∨ s3.next ≤ x) ∧ SetTo L i (zs.getD i 0) L' c) ?_ ?_
      · rw [wc_block]
        refine WCode.mono ?_ (b4_gen T (hk.chg hc2) hh ho (by rw [hf.1]; omega) (i := i) (by omega) ((k3 0 (by omega)).trans c0) ((k3 3 (by omega)).trans c3) ((k3 5 (by omega)).trans c5))
        rintro x e' s' ⟨rfl, r⟩
        exact ⟨rfl, r⟩
      rintro e4 s4 ⟨k4, S', L', c, hh4, hc4, hS4, hset⟩
      refine WCode.mono ?_ (n4_gen (i := i) (by omega) ((k4 5 (by omega)).trans ((k3 5 (by omega)).trans c5)))
      rintro x e5 s5 ⟨rfl, m0, m3, m4, m5, rfl⟩
      refine ⟨n - (i + 1), by omega, i + 1, L', _, S', rfl, by omega, m0.trans ((k4 0 (by omega)).trans ((k3 0 (by omega)).trans c0)), m3.trans ((k4 3 (by omega)).trans ((k3 3 (by omega)).trans c3)), m4.trans ((k4 4 (by omega)).trans ((k3 4 (by omega)).trans c4)), m5, hh4, hset.ord, hf.step hset, hc2.comp (T := S2) hc4 (fun x hx => .inr (hS2 x hx)), fun x hx => ?_⟩
      rcases hS4 x hx with h1 | h1
      · exact hS2 x h1
      · have := hc2.1; omega
    · rw [← wc_assoc]
      refine wc_then (h4_gen c4 c5 (decide_eq_false hlt)) ?_
      rintro e3 s3 ⟨⟨k3, k23⟩, rfl⟩
      have : i = n := by omega
      subst this
      rw [wc_seq, wc_cond, rd_tmp, k23, boolV_bool, bindP_some, ccond_false, wc_exit, next_exit, next_exit, inBlock_exit, if_pos rfl]
      exact ⟨rfl, (k3 0 (by omega)).trans c0, (k3 3 (by omega)).trans c3, (k3 4 (by omega)).trans c4, S2, L, wk2, hh, ho, hf, hc2, hS2⟩

end
end Go.Proofs.Ytaigiehdnhehnaa
