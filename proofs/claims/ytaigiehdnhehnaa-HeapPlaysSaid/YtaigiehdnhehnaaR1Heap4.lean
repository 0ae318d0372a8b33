/-
  The heap: a new one; and setting a key.
-/
import Derived.Test.YtaigiehdnhehnaaR1Heap3
import Derived.Test.YtaigiehdnhehnaaA26
set_option maxRecDepth 100000
set_option linter.unusedVariables false
set_option linter.unusedSimpArgs false
namespace Go.Proofs.Ytaigiehdnhehnaa
open Go Go.Abs

/-- A heap with the nodes L, in the blocks S. -/
def HP (s : St) (p : Nat) (S : List Nat) (L : List Node) (wk : Int) : Prop :=
  ∃ m, (∃ q es, S = [p, m, q] ∧ Rep s p m q L es wk ∧ At L es) ∨
    (S = [p, m] ∧ L = [] ∧ p ≠ m ∧ p < s.next ∧ m < s.next ∧ (∃ t, s.heap.get p = some (.cells [.slice none 0 0, .map (some m), .int .i64 wk] t 0 false)) ∧ s.heap.get m = some (.map [] 0))

theorem HP.lt {s : St} {p : Nat} {S : List Nat} {L : List Node} {wk : Int} (h : HP s p S L wk) : ∀ x ∈ S, x < s.next := by
  obtain ⟨m, ⟨q, es, rfl, hr, _⟩ | ⟨rfl, _, _, h1, h2, _⟩⟩ := h
  · have := hr.lp; have := hr.lm; have := hr.lq
    simp; omega
  · simp; omega

theorem HP.frame {s s' : St} {p : Nat} {S T : List Nat} {L : List Node} {wk : Int} (h : HP s p S L wk) (hc : Chg T s s') (hd : ∀ x ∈ S, x ∉ T) : HP s' p S L wk := by
  have hn := hc.1
  obtain ⟨m, ⟨q, es, rfl, ⟨pm, pq, mq, lp, lm, lq, hp, hm⟩, hat⟩ | ⟨rfl, rfl, pm, lp, lm, hp, hm⟩⟩ := h
  · refine ⟨m, .inl ⟨q, es, rfl, ⟨pm, pq, mq, by omega, by omega, by omega, ?_, ?_⟩, hat⟩⟩
    · rw [hc.2 p lp (hd p (by simp)), hc.2 q lq (hd q (by simp))]; exact hp
    · rw [hc.2 m lm (hd m (by simp))]; exact hm
  · refine ⟨m, .inr ⟨rfl, rfl, pm, by omega, by omega, ?_, ?_⟩⟩
    · rw [hc.2 p lp (hd p (by simp))]; exact hp
    · rw [hc.2 m lm (hd m (by simp))]; exact hm

theorem Chg.sub' {S T : List Nat} {s s1 s2 : St} (h : Chg T s1 s2) (hT : ∀ x ∈ T, x ∈ S ∨ s.next ≤ x) (hn : s.next ≤ s1.next) : ∀ id, id < s.next → id ∉ S → s2.heap.get id = s1.heap.get id :=
  fun id hid hns => h.2 id (Nat.lt_of_lt_of_le hid hn) fun hm => by
    rcases hT id hm with h1 | h1
    · exact hns h1
    · omega

theorem Chg.comp {S T : List Nat} {s s1 s2 : St} (h1 : Chg S s s1) (h2 : Chg T s1 s2) (hT : ∀ x ∈ T, x ∈ S ∨ s.next ≤ x) : Chg S s s2 :=
  ⟨Nat.le_trans h1.1 h2.1, fun id hid hn => (h2.sub' hT h1.1 id hid hn).trans (h1.2 id hid hn)⟩

theorem new_spec {tbl : FuncId → Option AFun} {ov : CallSem} (h13 : tbl 13 = some fun13) (s : St) :
    WCall (fun k => call tbl ov k) 13 [] s fun v s' => ∃ p S, v = .pointer (some ⟨p, 0, none⟩) ∧ HP s' p S [] 0 ∧ Chg [] s s' ∧ ∀ x ∈ S, s.next ≤ x := by
  refine WCall.of h13 rfl ?_
  simp only [fun13, code13, params, wc_skip, wc_region, wc_draw, wc_seq, wc_cond, wc_block, wc_exit, wc_ret, next_normal, next_exit, next_ret, inBlock_normal, inBlock_ret, inBlock_exit, sq_apply, nrm_apply, drawnK_apply, boolV_bool, ccond_true, ccond_false, wo_nil, wo_cons, wo_guard, wop, bindP_some, cont_some, cont_none, guardV_bool, guardV_undef, gcont_true, gcont_false, gcont_false', ret_apply, aggK_apply, putK_apply, resK_apply, boolK_apply, ccont_apply, wd_nil, wd_cons, dvals_apply, dcont_some, dcont_none, AOp.vals, rd_tmp, rd_const, rd_func, get_cons, mapList, mapOpt, Option.bind_some, Option.map_some, Nat.reduceEqDiff, if_true, if_false, reduceIte, reduceCtorEq, wv_mov, wv_pick, wv_alloc, wv_box, wv_build, wv_load, wv_loadn, wv_store, wv_nilCheck, wv_bin, wv_eq, wv_un, wv_convInt, wv_convSame, wv_fieldAddr, wv_field, wv_fieldn, wv_extract, wv_lenSlice, wv_lenString, wv_mkMap, wv_call, callee_func, wv_indexAddr, wv_lookup, wv_mapUpdate, wv_mapEntry, wv_entryStore, wv_delete, wv_append, wv_slice, wv_mkSlice, wv_buildSlice, wv_index, wv_copy, wv_lenMap, Abs.cellAt, Abs.rowAt, Abs.storeAt, Heap.get_put, List.getElem?_cons_zero, List.getElem?_cons_succ, Nat.zero_add, Nat.reduceAdd, idx, and_self, Int.toNat_natCast, cellsAt, ne_eq, not_true_eq_false, not_false_eq_true, cellList, Value.cells, List.length_cons, List.length_nil, List.all_cons, List.all_nil, isCell, Bool.and_self, storeL, List.set_cons_zero, List.set_cons_succ, footOf, true_and, and_true, Nat.reduceLeDiff, Nat.le_refl, Nat.reduceMul, Nat.reduceLT, List.nil_append, List.cons_append, List.length_set, ends_normal, ends_ret, endK_apply, resV_tmp, tupleV, binV, unV, eqV, Bool.not_true, Bool.not_false, BEq.rfl, Bool.true_beq, Bool.false_beq, beq_true, beq_false, Nat.sub_self, List.range'_zero, decide_true, decide_false, List.not_mem_nil, false_implies, implies_true, Bool.true_and, Bool.and_true, drawn, pairOk, disj, quietAt, Bool.bne_false, Bool.bne_true, Bool.false_eq_true, applyUpd, Int.reduceEq, Int.reduceNeg, ev_buildSlice, fillL, mapParts, List.drop_succ_cons, List.drop_zero, List.take_succ_cons, List.take_zero, List.size_toArray, List.toList_toArray]
  refine ⟨s.next + 1, [s.next + 1, s.next], rfl, ⟨s.next, .inr ⟨rfl, rfl, by omega, by show s.next + 1 < s.next + 1 + 1; omega, by show s.next < s.next + 1 + 1; omega, ⟨71, ?_⟩, ?_⟩⟩, ⟨by show s.next ≤ s.next + 1 + 1; omega, fun id hid hn => ?_⟩, by simp⟩
  · simp only [applyUpd, Heap.get_put, if_true]
  · have : ¬ s.next = s.next + 1 := by omega
    simp only [applyUpd, Heap.get_put, if_true, this, if_false]
  · have h1 : ¬ id = s.next + 1 := by omega
    have h2 : ¬ id = s.next := by omega
    simp only [applyUpd, Heap.get_put, h1, h2, if_false]

def mid14 : ACode := match code14 with | .seq _ (.seq _ (.seq a _)) => a | _ => .skip
def tail14 : ACode := match code14 with | .seq _ (.seq _ (.seq _ a)) => a | _ => .skip
def head14 : ACode := match code14 with | .seq a _ => a | _ => .skip
def look14 : ACode := match code14 with | .seq _ (.seq a _) => a | _ => .skip
theorem code14_eq : code14 = .seq head14 (.seq look14 (.seq mid14 tail14)) := rfl

theorem mid14_there {tbl : FuncId → Option AFun} {ov : CallSem} {s : St} {e : Env} (g7 : e.get 7 = some (.bool true)) {Q : AExit → Env → St → Prop}
    (hq : ∀ e' : Env, (∀ i, i < 19 → e'.get i = e.get i) → Q .normal e' s) : WCode (fun k => call tbl ov k) mid14 e s Q := by
  simp only [mid14, code14, params, wc_skip, wc_region, wc_draw, wc_seq, wc_cond, wc_block, wc_exit, wc_ret, next_normal, next_exit, next_ret, inBlock_normal, inBlock_ret, inBlock_exit, sq_apply, nrm_apply, drawnK_apply, boolV_bool, ccond_true, ccond_false, wo_nil, wo_cons, wo_guard, wop, bindP_some, cont_some, cont_none, guardV_bool, guardV_undef, gcont_true, gcont_false, gcont_false', ret_apply, aggK_apply, putK_apply, resK_apply, boolK_apply, ccont_apply, wd_nil, wd_cons, dvals_apply, dcont_some, dcont_none, AOp.vals, rd_tmp, rd_const, rd_func, get_cons, mapList, mapOpt, Option.bind_some, Option.map_some, Nat.reduceEqDiff, if_true, if_false, reduceIte, reduceCtorEq, wv_mov, wv_pick, wv_alloc, wv_box, wv_build, wv_load, wv_loadn, wv_store, wv_nilCheck, wv_bin, wv_eq, wv_un, wv_convInt, wv_convSame, wv_fieldAddr, wv_field, wv_fieldn, wv_extract, wv_lenSlice, wv_lenString, wv_mkMap, wv_call, callee_func, wv_indexAddr, wv_lookup, wv_mapUpdate, wv_mapEntry, wv_entryStore, wv_delete, wv_append, wv_slice, wv_mkSlice, wv_buildSlice, wv_index, wv_copy, wv_lenMap, Abs.cellAt, Abs.rowAt, Abs.storeAt, Heap.get_put, List.getElem?_cons_zero, List.getElem?_cons_succ, Nat.zero_add, Nat.reduceAdd, idx, and_self, Int.toNat_natCast, cellsAt, ne_eq, not_true_eq_false, not_false_eq_true, cellList, Value.cells, List.length_cons, List.length_nil, List.all_cons, List.all_nil, isCell, Bool.and_self, storeL, List.set_cons_zero, List.set_cons_succ, footOf, true_and, and_true, Nat.reduceLeDiff, Nat.le_refl, Nat.reduceMul, Nat.reduceLT, List.nil_append, List.cons_append, List.length_set, ends_normal, ends_ret, endK_apply, resV_tmp, tupleV, binV, unV, eqV, Bool.not_true, Bool.not_false, BEq.rfl, Bool.true_beq, Bool.false_beq, beq_true, beq_false, Nat.sub_self, List.range'_zero, decide_true, decide_false, List.not_mem_nil, false_implies, implies_true, Bool.true_and, Bool.and_true, drawn, pairOk, disj, quietAt, Bool.bne_false, Bool.bne_true, Bool.false_eq_true, applyUpd, Int.reduceEq, Int.reduceNeg, g7]
  refine hq _ fun i hi => ?_
  have h1 : ¬ i = 20 := by omega
  have h2 : ¬ i = 19 := by omega
  simp only [get_cons, h1, h2, if_false]

def mid14a : ACode := match mid14 with | .seq a _ => a | _ => .skip
def mid14b : ACode := match mid14 with | .seq _ (.cond _ (.seq a _) _) => a | _ => .skip
def mid14c : ACode := match mid14 with | .seq _ (.cond _ (.seq _ (.seq a _)) _) => a | _ => .skip
def mid14d : ACode := match mid14 with | .seq _ (.cond _ (.seq _ (.seq _ a)) _) => a | _ => .skip
theorem mid14_eq : mid14 = .seq mid14a (.cond (.tmp 20) (.seq mid14b (.seq mid14c mid14d)) .skip) := rfl

theorem mid14c_gen {tbl : FuncId → Option AFun} {ov : CallSem} {s : St} {p m : Nat} {a : Option Addr} {len cap t : Nat} {wk id key : Int} {a' : Option Addr} {len' cap' nx' : Nat} {upd : List (Nat × Option AObj)}
    (lp : p < s.next)
    (hp : s.heap.get p = some (.cells [.slice a len cap, .map (some m), .int .i64 wk] t 0 false))
    (happ : evP (Heap.get (s.heap.put s.next (some (.cells [ik id, ik key] 73 2 false)))) (s.next + 1) (.append 73 2 16 (.slice a len cap) (.slice (some ⟨s.next, 0, none⟩) 1 1)) = some ⟨.slice a' len' cap', upd, nx'⟩)
    (hrp : (applyUpd (s.heap.put s.next (some (.cells [ik id, ik key] 73 2 false))) upd).get p = some (.cells [.slice a len cap, .map (some m), .int .i64 wk] t 0 false))
    {e : Env} (g0 : e.get 0 = some (.pointer (some ⟨p, 0, none⟩))) (g1 : e.get 1 = some (ik id)) (g2 : e.get 2 = some (ik key)) {Q : AExit → Env → St → Prop}
    (hq : ∀ e' : Env, (∀ i, i < 19 → e'.get i = e.get i) → Q .normal e' ⟨(applyUpd (s.heap.put s.next (some (.cells [ik id, ik key] 73 2 false))) upd).put p (some (.cells [.slice a' len' cap', .map (some m), .int .i64 wk] t 0 false)), nx'⟩) :
    WCode (fun k => call tbl ov k) mid14c e s Q := by
  have e1 : ¬ p = s.next := by omega
  simp only [mid14c, mid14, code14, params, wc_skip, wc_region, wc_draw, wc_seq, wc_cond, wc_block, wc_exit, wc_ret, next_normal, next_exit, next_ret, inBlock_normal, inBlock_ret, inBlock_exit, sq_apply, nrm_apply, drawnK_apply, boolV_bool, ccond_true, ccond_false, wo_nil, wo_cons, wo_guard, wop, bindP_some, cont_some, cont_none, guardV_bool, guardV_undef, gcont_true, gcont_false, gcont_false', ret_apply, aggK_apply, putK_apply, resK_apply, boolK_apply, ccont_apply, wd_nil, wd_cons, dvals_apply, dcont_some, dcont_none, AOp.vals, rd_tmp, rd_const, rd_func, get_cons, mapList, mapOpt, Option.bind_some, Option.map_some, Nat.reduceEqDiff, if_true, if_false, reduceIte, reduceCtorEq, wv_mov, wv_pick, wv_alloc, wv_box, wv_build, wv_load, wv_loadn, wv_store, wv_nilCheck, wv_bin, wv_eq, wv_un, wv_convInt, wv_convSame, wv_fieldAddr, wv_field, wv_fieldn, wv_extract, wv_lenSlice, wv_lenString, wv_mkMap, wv_call, callee_func, wv_indexAddr, wv_lookup, wv_mapUpdate, wv_mapEntry, wv_entryStore, wv_delete, wv_append, wv_slice, wv_mkSlice, wv_buildSlice, wv_index, wv_copy, wv_lenMap, Abs.cellAt, Abs.rowAt, Abs.storeAt, Heap.get_put, List.getElem?_cons_zero, List.getElem?_cons_succ, Nat.zero_add, Nat.reduceAdd, idx, and_self, Int.toNat_natCast, cellsAt, ne_eq, not_true_eq_false, not_false_eq_true, cellList, Value.cells, List.length_cons, List.length_nil, List.all_cons, List.all_nil, isCell, Bool.and_self, storeL, List.set_cons_zero, List.set_cons_succ, footOf, true_and, and_true, Nat.reduceLeDiff, Nat.le_refl, Nat.reduceMul, Nat.reduceLT, List.nil_append, List.cons_append, List.length_set, ends_normal, ends_ret, endK_apply, resV_tmp, tupleV, binV, unV, eqV, Bool.not_true, Bool.not_false, BEq.rfl, Bool.true_beq, Bool.false_beq, beq_true, beq_false, Nat.sub_self, List.range'_zero, decide_true, decide_false, List.not_mem_nil, false_implies, implies_true, Bool.true_and, Bool.and_true, drawn, pairOk, disj, quietAt, Bool.bne_false, Bool.bne_true, Bool.false_eq_true, applyUpd, Int.reduceEq, Int.reduceNeg, g0, g1, g2, hp, e1, ev_buildSlice, fillL, mapParts, List.drop_succ_cons, List.drop_zero, List.take_succ_cons, List.take_zero, List.size_toArray, List.toList_toArray, happ, hrp]
  refine hq _ fun i hi => ?_
  have h1 : ∀ j, 19 ≤ j → ¬ i = j := fun j hj => by omega
  simp only [get_cons, h1 26 (by omega), h1 27 (by omega), h1 28 (by omega), h1 29 (by omega), h1 30 (by omega), h1 31 (by omega), h1 32 (by omega), h1 33 (by omega), h1 34 (by omega), h1 35 (by omega), h1 36 (by omega), h1 37 (by omega), if_false]

theorem mid14a_gen {tbl : FuncId → Option AFun} {ov : CallSem} {s : St} {e : Env} {b : Bool} (g7 : e.get 7 = some (.bool b)) {Q : AExit → Env → St → Prop}
    (hq : ∀ e' : Env, (∀ i, i < 19 → e'.get i = e.get i) → e'.get 20 = some (.bool (!b)) → Q .normal e' s) : WCode (fun k => call tbl ov k) mid14a e s Q := by
  simp only [mid14a, mid14, code14, params, wc_skip, wc_region, wc_draw, wc_seq, wc_cond, wc_block, wc_exit, wc_ret, next_normal, next_exit, next_ret, inBlock_normal, inBlock_ret, inBlock_exit, sq_apply, nrm_apply, drawnK_apply, boolV_bool, ccond_true, ccond_false, wo_nil, wo_cons, wo_guard, wop, bindP_some, cont_some, cont_none, guardV_bool, guardV_undef, gcont_true, gcont_false, gcont_false', ret_apply, aggK_apply, putK_apply, resK_apply, boolK_apply, ccont_apply, wd_nil, wd_cons, dvals_apply, dcont_some, dcont_none, AOp.vals, rd_tmp, rd_const, rd_func, get_cons, mapList, mapOpt, Option.bind_some, Option.map_some, Nat.reduceEqDiff, if_true, if_false, reduceIte, reduceCtorEq, wv_mov, wv_pick, wv_alloc, wv_box, wv_build, wv_load, wv_loadn, wv_store, wv_nilCheck, wv_bin, wv_eq, wv_un, wv_convInt, wv_convSame, wv_fieldAddr, wv_field, wv_fieldn, wv_extract, wv_lenSlice, wv_lenString, wv_mkMap, wv_call, callee_func, wv_indexAddr, wv_lookup, wv_mapUpdate, wv_mapEntry, wv_entryStore, wv_delete, wv_append, wv_slice, wv_mkSlice, wv_buildSlice, wv_index, wv_copy, wv_lenMap, Abs.cellAt, Abs.rowAt, Abs.storeAt, Heap.get_put, List.getElem?_cons_zero, List.getElem?_cons_succ, Nat.zero_add, Nat.reduceAdd, idx, and_self, Int.toNat_natCast, cellsAt, ne_eq, not_true_eq_false, not_false_eq_true, cellList, Value.cells, List.length_cons, List.length_nil, List.all_cons, List.all_nil, isCell, Bool.and_self, storeL, List.set_cons_zero, List.set_cons_succ, footOf, true_and, and_true, Nat.reduceLeDiff, Nat.le_refl, Nat.reduceMul, Nat.reduceLT, List.nil_append, List.cons_append, List.length_set, ends_normal, ends_ret, endK_apply, resV_tmp, tupleV, binV, unV, eqV, Bool.not_true, Bool.not_false, BEq.rfl, Bool.true_beq, Bool.false_beq, beq_true, beq_false, Nat.sub_self, List.range'_zero, decide_true, decide_false, List.not_mem_nil, false_implies, implies_true, Bool.true_and, Bool.and_true, drawn, pairOk, disj, quietAt, Bool.bne_false, Bool.bne_true, Bool.false_eq_true, applyUpd, Int.reduceEq, Int.reduceNeg, g7]
  refine hq _ (fun i hi => ?_) rfl
  have h1 : ∀ j, 19 ≤ j → ¬ i = j := fun j hj => by omega
  simp only [get_cons, h1 19 (by omega), h1 20 (by omega), if_false]

theorem mid14b_gen {tbl : FuncId → Option AFun} {ov : CallSem} {s : St} {p m : Nat} {a : Option Addr} {len cap t : Nat} {wk : Int} {e : Env} (g0 : e.get 0 = some (.pointer (some ⟨p, 0, none⟩)))
    (hp : s.heap.get p = some (.cells [.slice a len cap, .map (some m), .int .i64 wk] t 0 false)) {Q : AExit → Env → St → Prop}
    (hq : ∀ e' : Env, e'.get 0 = e.get 0 → e'.get 1 = e.get 1 → e'.get 2 = e.get 2 → e'.get 6 = some (ik len) → Q .normal e' s) : WCode (fun k => call tbl ov k) mid14b e s Q := by
  simp only [mid14b, mid14, code14, params, wc_skip, wc_region, wc_draw, wc_seq, wc_cond, wc_block, wc_exit, wc_ret, next_normal, next_exit, next_ret, inBlock_normal, inBlock_ret, inBlock_exit, sq_apply, nrm_apply, drawnK_apply, boolV_bool, ccond_true, ccond_false, wo_nil, wo_cons, wo_guard, wop, bindP_some, cont_some, cont_none, guardV_bool, guardV_undef, gcont_true, gcont_false, gcont_false', ret_apply, aggK_apply, putK_apply, resK_apply, boolK_apply, ccont_apply, wd_nil, wd_cons, dvals_apply, dcont_some, dcont_none, AOp.vals, rd_tmp, rd_const, rd_func, get_cons, mapList, mapOpt, Option.bind_some, Option.map_some, Nat.reduceEqDiff, if_true, if_false, reduceIte, reduceCtorEq, wv_mov, wv_pick, wv_alloc, wv_box, wv_build, wv_load, wv_loadn, wv_store, wv_nilCheck, wv_bin, wv_eq, wv_un, wv_convInt, wv_convSame, wv_fieldAddr, wv_field, wv_fieldn, wv_extract, wv_lenSlice, wv_lenString, wv_mkMap, wv_call, callee_func, wv_indexAddr, wv_lookup, wv_mapUpdate, wv_mapEntry, wv_entryStore, wv_delete, wv_append, wv_slice, wv_mkSlice, wv_buildSlice, wv_index, wv_copy, wv_lenMap, Abs.cellAt, Abs.rowAt, Abs.storeAt, Heap.get_put, List.getElem?_cons_zero, List.getElem?_cons_succ, Nat.zero_add, Nat.reduceAdd, idx, and_self, Int.toNat_natCast, cellsAt, ne_eq, not_true_eq_false, not_false_eq_true, cellList, Value.cells, List.length_cons, List.length_nil, List.all_cons, List.all_nil, isCell, Bool.and_self, storeL, List.set_cons_zero, List.set_cons_succ, footOf, true_and, and_true, Nat.reduceLeDiff, Nat.le_refl, Nat.reduceMul, Nat.reduceLT, List.nil_append, List.cons_append, List.length_set, ends_normal, ends_ret, endK_apply, resV_tmp, tupleV, binV, unV, eqV, Bool.not_true, Bool.not_false, BEq.rfl, Bool.true_beq, Bool.false_beq, beq_true, beq_false, Nat.sub_self, List.range'_zero, decide_true, decide_false, List.not_mem_nil, false_implies, implies_true, Bool.true_and, Bool.and_true, drawn, pairOk, disj, quietAt, Bool.bne_false, Bool.bne_true, Bool.false_eq_true, applyUpd, Int.reduceEq, Int.reduceNeg, g0, hp]
  refine hq _ ?_ ?_ ?_ ?_ <;> simp only [get_cons, Nat.reduceEqDiff, reduceIte, g0]

theorem mid14ab {tbl : FuncId → Option AFun} {ov : CallSem} {s : St} {p m : Nat} {a : Option Addr} {len cap t : Nat} {wk : Int} {e : Env} (g0 : e.get 0 = some (.pointer (some ⟨p, 0, none⟩))) (g7 : e.get 7 = some (.bool false))
    (hp : s.heap.get p = some (.cells [.slice a len cap, .map (some m), .int .i64 wk] t 0 false)) {Q : AExit → Env → St → Prop}
    (hq : ∀ e' : Env, e'.get 0 = e.get 0 → e'.get 1 = e.get 1 → e'.get 2 = e.get 2 → e'.get 6 = some (ik len) → WCode (fun k => call tbl ov k) mid14c e' s (next Q (sq (fun k => call tbl ov k) mid14d Q))) :
    WCode (fun k => call tbl ov k) mid14 e s Q := by
  rw [mid14_eq, wc_seq]
  refine mid14a_gen g7 fun e1 hb h20 => ?_
  rw [next_normal, sq_apply, wc_cond, rd_tmp, h20, boolV_bool, bindP_some, Bool.not_false, ccond_true, wc_seq]
  refine mid14b_gen ((hb 0 (by omega)).trans g0) hp fun e2 a0 a1 a2 a6 => ?_
  rw [next_normal, sq_apply, wc_seq]
  exact hq e2 (a0.trans (hb 0 (by omega))) (a1.trans (hb 1 (by omega))) (a2.trans (hb 2 (by omega))) a6

theorem mid14d_gen {tbl : FuncId → Option AFun} {ov : CallSem} {s : St} {p m : Nat} {v : Value} {len t : Nat} {wk id : Int} {es : List MapEntry} {clock : Nat}
    (hp : s.heap.get p = some (.cells [v, .map (some m), .int .i64 wk] t 0 false)) (hm : s.heap.get m = some (.map es clock)) (hmok : MOK IK es clock)
    {e : Env} (g0 : e.get 0 = some (.pointer (some ⟨p, 0, none⟩))) (g1 : e.get 1 = some (ik id)) (g6 : e.get 6 = some (ik len)) {Q : AExit → Env → St → Prop}
    (hq : ∀ e' : Env, (∀ i, i < 19 → e'.get i = e.get i) → Q .normal e' ⟨s.heap.put m (some (.map (mput es clock (ik id) (ik len)) (mclock es clock (ik id)))), s.next⟩) :
    WCode (fun k => call tbl ov k) mid14d e s Q := by
  have x1 := fun g nx (h : g m = some (.map es clock)) => ev_mapUpdate (g := g) (nx := nx) (v := ik len) (kind_int .i64) hmok h ⟨id, rfl⟩
  simp only [mid14d, mid14, code14, params, wc_skip, wc_region, wc_draw, wc_seq, wc_cond, wc_block, wc_exit, wc_ret, next_normal, next_exit, next_ret, inBlock_normal, inBlock_ret, inBlock_exit, sq_apply, nrm_apply, drawnK_apply, boolV_bool, ccond_true, ccond_false, wo_nil, wo_cons, wo_guard, wop, bindP_some, cont_some, cont_none, guardV_bool, guardV_undef, gcont_true, gcont_false, gcont_false', ret_apply, aggK_apply, putK_apply, resK_apply, boolK_apply, ccont_apply, wd_nil, wd_cons, dvals_apply, dcont_some, dcont_none, AOp.vals, rd_tmp, rd_const, rd_func, get_cons, mapList, mapOpt, Option.bind_some, Option.map_some, Nat.reduceEqDiff, if_true, if_false, reduceIte, reduceCtorEq, wv_mov, wv_pick, wv_alloc, wv_box, wv_build, wv_load, wv_loadn, wv_store, wv_nilCheck, wv_bin, wv_eq, wv_un, wv_convInt, wv_convSame, wv_fieldAddr, wv_field, wv_fieldn, wv_extract, wv_lenSlice, wv_lenString, wv_mkMap, wv_call, callee_func, wv_indexAddr, wv_lookup, wv_mapUpdate, wv_mapEntry, wv_entryStore, wv_delete, wv_append, wv_slice, wv_mkSlice, wv_buildSlice, wv_index, wv_copy, wv_lenMap, Abs.cellAt, Abs.rowAt, Abs.storeAt, Heap.get_put, List.getElem?_cons_zero, List.getElem?_cons_succ, Nat.zero_add, Nat.reduceAdd, idx, and_self, Int.toNat_natCast, cellsAt, ne_eq, not_true_eq_false, not_false_eq_true, cellList, Value.cells, List.length_cons, List.length_nil, List.all_cons, List.all_nil, isCell, Bool.and_self, storeL, List.set_cons_zero, List.set_cons_succ, footOf, true_and, and_true, Nat.reduceLeDiff, Nat.le_refl, Nat.reduceMul, Nat.reduceLT, List.nil_append, List.cons_append, List.length_set, ends_normal, ends_ret, endK_apply, resV_tmp, tupleV, binV, unV, eqV, Bool.not_true, Bool.not_false, BEq.rfl, Bool.true_beq, Bool.false_beq, beq_true, beq_false, Nat.sub_self, List.range'_zero, decide_true, decide_false, List.not_mem_nil, false_implies, implies_true, Bool.true_and, Bool.and_true, drawn, pairOk, disj, quietAt, Bool.bne_false, Bool.bne_true, Bool.false_eq_true, applyUpd, Int.reduceEq, Int.reduceNeg, g0, g1, g6, hp, hm, x1]
  refine hq _ fun i hi => ?_
  have h1 : ∀ j, 19 ≤ j → ¬ i = j := fun j hj => by omega
  simp only [get_cons, h1 38 (by omega), h1 39 (by omega), h1 40 (by omega), h1 41 (by omega), h1 42 (by omega), h1 43 (by omega), if_false]

theorem mid14_gen {tbl : FuncId → Option AFun} {ov : CallSem} {s : St} {p m : Nat} {a : Option Addr} {len cap t : Nat} {wk id key : Int} {es : List MapEntry} {clock : Nat} {a' : Option Addr} {len' cap' nx' : Nat} {upd : List (Nat × Option AObj)}
    (pm : p ≠ m) (lp : p < s.next) (lm : m < s.next)
    (hp : s.heap.get p = some (.cells [.slice a len cap, .map (some m), .int .i64 wk] t 0 false)) (hm : s.heap.get m = some (.map es clock)) (hmok : MOK IK es clock)
    (happ : evP (Heap.get (s.heap.put s.next (some (.cells [ik id, ik key] 73 2 false)))) (s.next + 1) (.append 73 2 16 (.slice a len cap) (.slice (some ⟨s.next, 0, none⟩) 1 1)) = some ⟨.slice a' len' cap', upd, nx'⟩)
    (hrp : (applyUpd (s.heap.put s.next (some (.cells [ik id, ik key] 73 2 false))) upd).get p = some (.cells [.slice a len cap, .map (some m), .int .i64 wk] t 0 false))
    (hrm : (applyUpd (s.heap.put s.next (some (.cells [ik id, ik key] 73 2 false))) upd).get m = some (.map es clock))
    {e : Env} (g0 : e.get 0 = some (.pointer (some ⟨p, 0, none⟩))) (g1 : e.get 1 = some (ik id)) (g2 : e.get 2 = some (ik key)) (g7 : e.get 7 = some (.bool false)) :
    WCode (fun k => call tbl ov k) mid14 e s fun x e' s' =>
      x = .normal ∧ e'.get 0 = e.get 0 ∧ e'.get 1 = e.get 1 ∧ e'.get 2 = e.get 2 ∧ e'.get 6 = some (ik len) ∧ s'.next = nx' ∧
      ∀ i, s'.heap.get i = if i = m then some (.map (mput es clock (ik id) (ik len)) (mclock es clock (ik id))) else if i = p then some (.cells [.slice a' len' cap', .map (some m), .int .i64 wk] t 0 false)
        else (applyUpd (s.heap.put s.next (some (.cells [ik id, ik key] 73 2 false))) upd).get i := by
  have e3 : ¬ m = p := fun h => pm h.symm
  refine mid14ab g0 g7 hp fun e1 a0 a1 a2 a6 => ?_
  refine mid14c_gen lp hp happ hrp (a0.trans g0) (a1.trans g1) (a2.trans g2) fun e2 hb => ?_
  rw [next_normal, sq_apply]
  refine mid14d_gen (m := m) (v := .slice a' len' cap') (t := t) (wk := wk) ?_ ?_ hmok ((hb 0 (by omega)).trans (a0.trans g0)) ((hb 1 (by omega)).trans (a1.trans g1)) ((hb 6 (by omega)).trans a6) fun e3 hc => ?_
  · simp only [Heap.get_put, if_true]
  · simp only [Heap.get_put, e3, if_false]; exact hrm
  refine ⟨rfl, ?_, ?_, ?_, ?_, rfl, fun i => ?_⟩
  · rw [hc 0 (by omega), hb 0 (by omega), a0]
  · rw [hc 1 (by omega), hb 1 (by omega), a1]
  · rw [hc 2 (by omega), hb 2 (by omega), a2]
  · rw [hc 6 (by omega), hb 6 (by omega), a6]
  · simp only [Heap.get_put]

theorem flat_append (L M : List Node) : flat (L ++ M) = flat L ++ flat M := by
  induction L with
  | nil => rfl
  | cons n L ih => simp only [List.cons_append, flat, ih]

theorem push_At {L : List Node} {es : List MapEntry} {clock : Nat} (h : At L es) (hm : MOK IK es clock) {id : Int} (hno : ∀ i, i < L.length → (L.getD i (0, 0)).1 ≠ id) (key : Int) :
    At (L ++ [(id, key)]) (mput es clock (ik id) (ik L.length)) := by
  have K1 := kind_int .i64
  have hl : ∀ i, i < L.length → (L ++ [(id, key)]).getD i (0, 0) = L.getD i (0, 0) := fun i hi => by
    simp only [List.getD_eq_getElem?_getD, List.getElem?_append_left hi]
  have he : (L ++ [(id, key)]).getD L.length (0, 0) = (id, key) := by simp [List.getD_eq_getElem?_getD]
  constructor
  · intro i hi
    simp only [List.length_append, List.length_cons, List.length_nil] at hi
    by_cases h1 : i < L.length
    · rw [hl i h1, mget_mput K1 hm ⟨_, rfl⟩ ⟨_, rfl⟩, if_neg (fun e => hno i h1 (by simpa using e))]
      exact h.at_ i h1
    · have : i = L.length := by omega
      subst this
      rw [he, mget_mput K1 hm ⟨_, rfl⟩ ⟨_, rfl⟩, if_pos rfl]
  · intro id' hid
    have h1 := hid L.length (by simp)
    rw [he] at h1
    rw [mget_mput K1 hm ⟨_, rfl⟩ ⟨_, rfl⟩, if_neg (fun e => h1 (by simpa using e.symm))]
    refine h.none id' fun i hi => ?_
    have := hid i (by simp; omega)
    rwa [hl i hi] at this

theorem flat_push (L : List Node) (r : List Value) (n : Node) (hr : 2 ≤ r.length) : storeL (flat L ++ r) (L.length * 2) [ik n.1, ik n.2] = flat (L ++ [n]) ++ r.drop 2 := by
  obtain ⟨a, b, r, rfl⟩ : ∃ a b r', r = a :: b :: r' := by
    match r, hr with
    | a :: b :: r', _ => exact ⟨a, b, r', rfl⟩
  have h1 := flat_length L
  simp only [storeL, flat_append, flat, List.drop_succ_cons, List.drop_zero]
  rw [List.set_append_right _ _ (by omega), List.set_append_right _ _ (by omega)]
  have h2 : L.length * 2 - (flat L).length = 0 := by omega
  have h3 : L.length * 2 + 1 - (flat L).length = 1 := by omega
  rw [h2, h3]
  simp

theorem flat_key : ∀ (L : List Node) (r : List Value) (i : Nat) (key : Int), i < L.length → (flat L ++ r).set (i * 2 + 1) (.int .i64 key) = flat (L.set i ((L.getD i (0, 0)).1, key)) ++ r := by
  intro L
  induction L with
  | nil => intro r i a h; simp at h
  | cons n L ih =>
    intro r i key h
    cases i with
    | zero => simp [flat]
    | succ i =>
      have : (i + 1) * 2 = i * 2 + 2 := by omega
      simp only [flat, this]
      simpa [flat] using ih r i key (by simpa using h)

theorem At.key {L : List Node} {es : List MapEntry} (h : At L es) (i : Nat) (key : Int) : At (L.set i ((L.getD i (0, 0)).1, key)) es := by
  have hg : ∀ j, j < L.length → ((L.set i ((L.getD i (0, 0)).1, key)).getD j (0, 0)).1 = (L.getD j (0, 0)).1 := by
    intro j hj
    simp only [List.getD_eq_getElem?_getD, List.getElem?_set]
    by_cases h1 : i = j
    · subst h1; simp [hj]
    · simp [h1]
  constructor
  · intro j hj
    rw [List.length_set] at hj
    rw [hg j hj]; exact h.at_ j hj
  · intro id hid
    refine h.none id fun j hj => ?_
    have := hid j (by rw [List.length_set]; exact hj)
    rwa [hg j hj] at this

/-- A new node stands at the end of the row. -/
theorem mid14_push {tbl : FuncId → Option AFun} {ov : CallSem} {s : St} {p : Nat} {S : List Nat} {L : List Node} {wk id key : Int} (h : HP s p S L wk) (hL : L.length < 2 ^ 40) (hno : ∀ i, i < L.length → (L.getD i (0, 0)).1 ≠ id)
    {e : Env} (g0 : e.get 0 = some (.pointer (some ⟨p, 0, none⟩))) (g1 : e.get 1 = some (ik id)) (g2 : e.get 2 = some (ik key)) (g7 : e.get 7 = some (.bool false)) :
    WCode (fun k => call tbl ov k) mid14 e s fun x e' s' =>
      x = .normal ∧ e'.get 0 = e.get 0 ∧ e'.get 1 = e.get 1 ∧ e'.get 2 = e.get 2 ∧ e'.get 6 = some (ik L.length) ∧
      ∃ S', HP s' p S' (L ++ [(id, key)]) wk ∧ Chg S s s' ∧ ∀ x ∈ S', x ∈ S ∨ s.next ≤ x := by
  have hly : lenV (.slice (some ⟨s.next, 0, none⟩) 1 1) = some 1 := rfl
  have hfy : firstL (Heap.get (s.heap.put s.next (some (.cells [ik id, ik key] 73 2 false)))) 2 1 (.slice (some ⟨s.next, 0, none⟩) 1 1) = some [ik id, ik key] := by
    simp [firstL, cellsAt, Heap.get_put]
  obtain ⟨m, ⟨q, es, rfl, hrep, hat⟩ | ⟨rfl, rfl, pm, lp, lm, ⟨t, hp⟩, hm⟩⟩ := h
  · obtain ⟨pm, pq, mq, lp, lm, lq, ⟨t, cap, hp, hcap, c, r, hq, hlen, rfl⟩, clock, hm, hmok⟩ := hrep
    have hfl := flat_length L
    have n1 : ¬ q = s.next := by omega
    have n2 : ¬ p = s.next := by omega
    have n3 : ¬ m = s.next := by omega
    have n4 : ¬ p = s.next + 1 := by omega
    have n5 : ¬ m = s.next + 1 := by omega
    have hq' : Heap.get (s.heap.put s.next (some (.cells [ik id, ik key] 73 2 false))) q = some (.cells (flat L ++ r) 73 2 false) := by rw [Heap.get_put, if_neg n1]; exact hq
    by_cases hcp : L.length + 1 ≤ cap
    · have hlr : 2 ≤ r.length := by rw [List.length_append] at hlen; omega
      have happ := ev_append_in (nx := s.next + 1) (e := 73) (b := 16) hly hfy rfl rfl hq' (o := 0) hcp (by omega)
      refine WCode.mono ?_ (mid14_gen pm lp lm hp hm hmok happ ?_ ?_ g0 g1 g2 g7)
      · rintro x e' s' ⟨rfl, a0, a1, a2, a6, hnx, hh⟩
        refine ⟨rfl, a0, a1, a2, a6, [p, m, q], ⟨m, .inl ⟨q, _, rfl, ⟨pm, pq, mq, by omega, by omega, by omega, ⟨t, cap, ?_, by simpa using hcp, 73, r.drop 2, ?_, ?_, rfl⟩, _, ?_, hmok.mput (kind_int .i64) ⟨_, rfl⟩ _⟩, push_At hat hmok hno key⟩⟩, ⟨by omega, fun i hi hn => ?_⟩, fun x hx => .inl hx⟩
        · rw [hh, if_neg pm, if_pos rfl]; simp only [List.length_append, List.length_cons, List.length_nil, Nat.zero_add]
        · rw [hh, if_neg mq.symm, if_neg pq.symm]
          simp only [applyUpd, Heap.get_put, if_true, Nat.zero_add]
          rw [flat_push L r (id, key) hlr]
        · rw [hlen]; simp only [List.length_append, flat_append, flat, List.length_drop, List.length_cons, List.length_nil]; omega
        · rw [hh, if_pos rfl]
        · simp only [List.mem_cons, List.not_mem_nil, or_false, not_or] at hn
          rw [hh, if_neg hn.2.1, if_neg hn.1]
          simp only [applyUpd, Heap.get_put, hn.2.2, if_false]
          rw [if_neg (by omega)]
      · simp only [applyUpd, Heap.get_put, pq, n2, if_false]; exact hp
      · simp only [applyUpd, Heap.get_put, mq, n3, if_false]; exact hm
    · have hbig : tooBig (L.length + 1) 16 = false := by
        simp [tooBig]; omega
      have happ := ev_append_grow (nx := s.next + 1) (e := 73) (b := 16) hly hfy rfl rfl hq' (o := 0) hcp (by omega) (.inr rfl) hbig
      have htk : ((flat L ++ r).drop 0).take (L.length * 2) = flat L := by
        rw [List.drop_zero, List.take_append_of_le_length (by omega), List.take_of_length_le (by omega)]
      rw [htk] at happ
      have q1 : ¬ q = s.next + 1 := by omega
      refine WCode.mono ?_ (mid14_gen pm lp lm hp hm hmok happ ?_ ?_ g0 g1 g2 g7)
      · rintro x e' s' ⟨rfl, a0, a1, a2, a6, hnx, hh⟩
        refine ⟨rfl, a0, a1, a2, a6, [p, m, s.next + 1], ⟨m, .inl ⟨s.next + 1, _, rfl, ⟨pm, n4, n5, by omega, by omega, by omega, ⟨t, L.length + 1, ?_, by simp, 73, [], ?_, ?_, rfl⟩, _, ?_, hmok.mput (kind_int .i64) ⟨_, rfl⟩ _⟩, push_At hat hmok hno key⟩⟩, ⟨by omega, fun i hi hn => ?_⟩, fun x hx => ?_⟩
        · rw [hh, if_neg pm, if_pos rfl]; simp only [List.length_append, List.length_cons, List.length_nil, Nat.zero_add]
        · rw [hh, if_neg (Ne.symm n5), if_neg (Ne.symm n4)]
          simp only [applyUpd, Bool.false_eq_true, if_false, Heap.get_put, if_true, Ne.symm q1]
          rw [flat_append]; simp [flat]
        · simp only [List.append_nil, flat_append, flat, List.length_append, List.length_cons, List.length_nil]; omega
        · rw [hh, if_pos rfl]
        · simp only [List.mem_cons, List.not_mem_nil, or_false, not_or] at hn
          rw [hh, if_neg hn.2.1, if_neg hn.1]
          have i1 : ¬ i = s.next + 1 := by omega
          have i2 : ¬ i = s.next := by omega
          simp only [applyUpd, Bool.false_eq_true, if_false, Heap.get_put, hn.2.2, i1, i2]
        · simp only [List.mem_cons, List.not_mem_nil, or_false] at hx ⊢
          rcases hx with rfl | rfl | rfl
          · exact .inl (.inl rfl)
          · exact .inl (.inr (.inl rfl))
          · exact .inr (by omega)
      · simp only [applyUpd, Bool.false_eq_true, if_false, Heap.get_put, pq, n2, n4]; exact hp
      · simp only [applyUpd, Bool.false_eq_true, if_false, Heap.get_put, mq, n3, n5]; exact hm
  · have happ := ev_append_nil (nx := s.next + 1) (e := 73) (b := 16) hly hfy rfl rfl (by omega) rfl
    have n2 : ¬ p = s.next := by omega
    have n3 : ¬ m = s.next := by omega
    have n4 : ¬ p = s.next + 1 := by omega
    have n5 : ¬ m = s.next + 1 := by omega
    have hmok : MOK IK [] 0 := ⟨by simp, by simp, by simp, by simp⟩
    have hat : At [] [] := ⟨fun i hi => by simp at hi, fun _ _ => rfl⟩
    refine WCode.mono ?_ (mid14_gen pm lp lm hp hm hmok happ ?_ ?_ g0 g1 g2 g7)
    · rintro x e' s' ⟨rfl, a0, a1, a2, a6, hnx, hh⟩
      refine ⟨rfl, a0, a1, a2, a6, [p, m, s.next + 1], ⟨m, .inl ⟨s.next + 1, _, rfl, ⟨pm, n4, n5, by omega, by omega, by omega, ⟨t, 1, ?_, by simp, 73, [], ?_, ?_, rfl⟩, _, ?_, hmok.mput (kind_int .i64) ⟨_, rfl⟩ _⟩, push_At hat hmok hno key⟩⟩, ⟨by omega, fun i hi hn => ?_⟩, fun x hx => ?_⟩
      · rw [hh, if_neg pm, if_pos rfl]; simp only [List.length_append, List.length_cons, List.length_nil, Nat.zero_add]
      · rw [hh, if_neg (Ne.symm n5), if_neg (Ne.symm n4)]
        simp only [applyUpd, Heap.get_put, if_true]
        simp [flat]
      · simp [flat]
      · rw [hh, if_pos rfl]; rfl
      · simp only [List.mem_cons, List.not_mem_nil, or_false, not_or] at hn
        have i1 : ¬ i = s.next + 1 := by omega
        have i2 : ¬ i = s.next := by omega
        rw [hh, if_neg hn.2, if_neg hn.1]
        simp only [applyUpd, Heap.get_put, i1, i2, if_false]
      · simp only [List.mem_cons, List.not_mem_nil, or_false] at hx ⊢
        rcases hx with rfl | rfl | rfl
        · exact .inl (.inl rfl)
        · exact .inl (.inr rfl)
        · exact .inr (by omega)
    · simp only [applyUpd, Heap.get_put, n2, n4, if_false]; exact hp
    · simp only [applyUpd, Heap.get_put, n3, n5, if_false]; exact hm

end Go.Proofs.Ytaigiehdnhehnaa
