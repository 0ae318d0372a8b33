/-
  The heap: setting a key.
-/
import Derived.Test.YtaigiehdnhehnaaR1Heap4
import Derived.Test.YtaigiehdnhehnaaR1Ord
set_option maxRecDepth 100000
set_option linter.unusedVariables false
set_option linter.unusedSimpArgs false
namespace Go.Proofs.Ytaigiehdnhehnaa
open Go Go.Abs

def tail14a : ACode := match tail14 with | .seq a _ => a | _ => .skip
def tail14b : ACode := match tail14 with | .seq _ (.seq a _) => a | _ => .skip
def tail14c : ACode := match tail14 with | .seq _ (.seq _ a) => a | _ => .skip
theorem tail14_eq : tail14 = .seq tail14a (.seq tail14b tail14c) := rfl

theorem tail14a_gen {tbl : FuncId → Option AFun} {ov : CallSem} {s : St} {p m q : Nat} {es : List MapEntry} {L : List Node} {wk key : Int} (hr : Rep s p m q L es wk) {i : Nat} (hi : i < L.length)
    {e : Env} (g0 : e.get 0 = some (.pointer (some ⟨p, 0, none⟩))) (g2 : e.get 2 = some (ik key)) (g6 : e.get 6 = some (ik i)) {Q : AExit → Env → St → Prop}
    (hq : ∀ (e' : Env) (s' : St), (∀ i, i < 19 → e'.get i = e.get i) → Rep s' p m q (L.set i ((L.getD i (0, 0)).1, key)) es wk → Chg [q] s s' → Q .normal e' s') : WCode (fun k => call tbl ov k) tail14a e s Q := by
  obtain ⟨pm, pq, mq, lp, lm, lq, ⟨t, cap, hp, hcap, c, r, hqq, hlen, hct⟩, clock, hm, hmok⟩ := hr
  have hfl := flat_length L
  have i1 : i * 2 + 1 + 1 ≤ (flat L ++ r).length := by rw [List.length_append]; omega
  have i2 : (0 : Int) ≤ i := by omega
  have i3 : (i : Int) < (L.length : Nat) := by omega
  have fk := flat_key L r i key hi
  have hset := flat_length (L.set i ((L.getD i (0, 0)).1, key))
  simp only [tail14a, tail14, code14, params, wc_skip, wc_region, wc_draw, wc_seq, wc_cond, wc_block, wc_exit, wc_ret, next_normal, next_exit, next_ret, inBlock_normal, inBlock_ret, inBlock_exit, sq_apply, nrm_apply, drawnK_apply, boolV_bool, ccond_true, ccond_false, wo_nil, wo_cons, wo_guard, wop, bindP_some, cont_some, cont_none, guardV_bool, guardV_undef, gcont_true, gcont_false, gcont_false', ret_apply, aggK_apply, putK_apply, resK_apply, boolK_apply, ccont_apply, wd_nil, wd_cons, dvals_apply, dcont_some, dcont_none, AOp.vals, rd_tmp, rd_const, rd_func, get_cons, mapList, mapOpt, Option.bind_some, Option.map_some, Nat.reduceEqDiff, if_true, if_false, reduceIte, reduceCtorEq, wv_mov, wv_pick, wv_alloc, wv_box, wv_build, wv_load, wv_loadn, wv_store, wv_nilCheck, wv_bin, wv_eq, wv_un, wv_convInt, wv_convSame, wv_fieldAddr, wv_field, wv_fieldn, wv_extract, wv_lenSlice, wv_lenString, wv_mkMap, wv_call, callee_func, wv_indexAddr, wv_lookup, wv_mapUpdate, wv_mapEntry, wv_entryStore, wv_delete, wv_append, wv_slice, wv_mkSlice, wv_buildSlice, wv_index, wv_copy, wv_lenMap, Abs.cellAt, Abs.rowAt, Abs.storeAt, Heap.get_put, List.getElem?_cons_zero, List.getElem?_cons_succ, Nat.zero_add, Nat.reduceAdd, idx, and_self, Int.toNat_natCast, cellsAt, ne_eq, not_true_eq_false, not_false_eq_true, cellList, Value.cells, List.length_cons, List.length_nil, List.all_cons, List.all_nil, isCell, Bool.and_self, storeL, List.set_cons_zero, List.set_cons_succ, footOf, true_and, and_true, Nat.reduceLeDiff, Nat.le_refl, Nat.reduceMul, Nat.reduceLT, List.nil_append, List.cons_append, List.length_set, ends_normal, ends_ret, endK_apply, resV_tmp, tupleV, binV, unV, eqV, Bool.not_true, Bool.not_false, BEq.rfl, Bool.true_beq, Bool.false_beq, beq_true, beq_false, Nat.sub_self, List.range'_zero, decide_true, decide_false, List.not_mem_nil, false_implies, implies_true, Bool.true_and, Bool.and_true, drawn, pairOk, disj, quietAt, Bool.bne_false, Bool.bne_true, Bool.false_eq_true, applyUpd, Int.reduceEq, Int.reduceNeg, g0, g2, g6, hp, hqq, i1, i2, i3, fk]
  refine hq _ _ (fun j hj => ?_) ⟨pm, pq, mq, lp, lm, lq, ⟨t, cap, ?_, by rw [List.length_set]; exact hcap, c, r, ?_, ?_, hct⟩, clock, ?_, hmok⟩ ⟨Nat.le_refl _, fun j hj hn => ?_⟩
  · have h1 : ∀ k, 19 ≤ k → ¬ j = k := fun k hk => by omega
    simp only [get_cons, h1 44 (by omega), h1 45 (by omega), h1 46 (by omega), h1 47 (by omega), h1 48 (by omega), h1 49 (by omega), h1 50 (by omega), h1 51 (by omega), if_false]
  · simp only [Heap.get_put, pq, if_false, List.length_set]; exact hp
  · simp only [Heap.get_put, if_true]
  · rw [hlen]; simp only [List.length_append, flat_length, List.length_set]
  · simp only [Heap.get_put, mq, if_false]; exact hm
  · simp only [List.mem_cons, List.not_mem_nil, or_false] at hn
    simp only [Heap.get_put, hn, if_false]

theorem tail14b_gen {tbl : FuncId → Option AFun} {ov : CallSem} (h30 : tbl 30 = some fun30) (h32 : tbl 32 = some fun32) (h40 : tbl 40 = some fun40) {s0 s : St} {p m q : Nat} {L : List Node} {wk : Int} (hr : HeapAt s0 s p m q L wk) {i : Nat} (hi : i < L.length) (hL : L.length < 2 ^ 40)
    {e : Env} (g0 : e.get 0 = some (.pointer (some ⟨p, 0, none⟩))) (g6 : e.get 6 = some (ik i)) {Q : AExit → Env → St → Prop}
    (hq : ∀ (e' : Env) (s' : St), (∀ i, i < 19 → e'.get i = e.get i) → HeapAt s0 s' p m q (upL i L i).1 (addW (upL i L i).2 wk) → Q .normal e' s') : WCode (fun k => call tbl ov k) tail14b e s Q := by
  simp only [tail14b, tail14, code14, params, wc_skip, wc_region, wc_draw, wc_seq, wc_cond, wc_block, wc_exit, wc_ret, next_normal, next_exit, next_ret, inBlock_normal, inBlock_ret, inBlock_exit, sq_apply, nrm_apply, drawnK_apply, boolV_bool, ccond_true, ccond_false, wo_nil, wo_cons, wo_guard, wop, bindP_some, cont_some, cont_none, guardV_bool, guardV_undef, gcont_true, gcont_false, gcont_false', ret_apply, aggK_apply, putK_apply, resK_apply, boolK_apply, ccont_apply, wd_nil, wd_cons, dvals_apply, dcont_some, dcont_none, AOp.vals, rd_tmp, rd_const, rd_func, get_cons, mapList, mapOpt, Option.bind_some, Option.map_some, Nat.reduceEqDiff, if_true, if_false, reduceIte, reduceCtorEq, wv_mov, wv_pick, wv_alloc, wv_box, wv_build, wv_load, wv_loadn, wv_store, wv_nilCheck, wv_bin, wv_eq, wv_un, wv_convInt, wv_convSame, wv_fieldAddr, wv_field, wv_fieldn, wv_extract, wv_lenSlice, wv_lenString, wv_mkMap, wv_call, callee_func, wv_indexAddr, wv_lookup, wv_mapUpdate, wv_mapEntry, wv_entryStore, wv_delete, wv_append, wv_slice, wv_mkSlice, wv_buildSlice, wv_index, wv_copy, wv_lenMap, Abs.cellAt, Abs.rowAt, Abs.storeAt, Heap.get_put, List.getElem?_cons_zero, List.getElem?_cons_succ, Nat.zero_add, Nat.reduceAdd, idx, and_self, Int.toNat_natCast, cellsAt, ne_eq, not_true_eq_false, not_false_eq_true, cellList, Value.cells, List.length_cons, List.length_nil, List.all_cons, List.all_nil, isCell, Bool.and_self, storeL, List.set_cons_zero, List.set_cons_succ, footOf, true_and, and_true, Nat.reduceLeDiff, Nat.le_refl, Nat.reduceMul, Nat.reduceLT, List.nil_append, List.cons_append, List.length_set, ends_normal, ends_ret, endK_apply, resV_tmp, tupleV, binV, unV, eqV, Bool.not_true, Bool.not_false, BEq.rfl, Bool.true_beq, Bool.false_beq, beq_true, beq_false, Nat.sub_self, List.range'_zero, decide_true, decide_false, List.not_mem_nil, false_implies, implies_true, Bool.true_and, Bool.and_true, drawn, pairOk, disj, quietAt, Bool.bne_false, Bool.bne_true, Bool.false_eq_true, applyUpd, Int.reduceEq, Int.reduceNeg, g0, g6]
  refine WCall.mono (up_spec h30 h32 h40 hr hi hL) ?_
  intro v s1 h1
  simp only [params, wc_skip, wc_region, wc_draw, wc_seq, wc_cond, wc_block, wc_exit, wc_ret, next_normal, next_exit, next_ret, inBlock_normal, inBlock_ret, inBlock_exit, sq_apply, nrm_apply, drawnK_apply, boolV_bool, ccond_true, ccond_false, wo_nil, wo_cons, wo_guard, wop, bindP_some, cont_some, cont_none, guardV_bool, guardV_undef, gcont_true, gcont_false, gcont_false', ret_apply, aggK_apply, putK_apply, resK_apply, boolK_apply, ccont_apply, wd_nil, wd_cons, dvals_apply, dcont_some, dcont_none, AOp.vals, rd_tmp, rd_const, rd_func, get_cons, mapList, mapOpt, Option.bind_some, Option.map_some, Nat.reduceEqDiff, if_true, if_false, reduceIte, reduceCtorEq, wv_mov, wv_pick, wv_alloc, wv_box, wv_build, wv_load, wv_loadn, wv_store, wv_nilCheck, wv_bin, wv_eq, wv_un, wv_convInt, wv_convSame, wv_fieldAddr, wv_field, wv_fieldn, wv_extract, wv_lenSlice, wv_lenString, wv_mkMap, wv_call, callee_func, wv_indexAddr, wv_lookup, wv_mapUpdate, wv_mapEntry, wv_entryStore, wv_delete, wv_append, wv_slice, wv_mkSlice, wv_buildSlice, wv_index, wv_copy, wv_lenMap, Abs.cellAt, Abs.rowAt, Abs.storeAt, Heap.get_put, List.getElem?_cons_zero, List.getElem?_cons_succ, Nat.zero_add, Nat.reduceAdd, idx, and_self, Int.toNat_natCast, cellsAt, ne_eq, not_true_eq_false, not_false_eq_true, cellList, Value.cells, List.length_cons, List.length_nil, List.all_cons, List.all_nil, isCell, Bool.and_self, storeL, List.set_cons_zero, List.set_cons_succ, footOf, true_and, and_true, Nat.reduceLeDiff, Nat.le_refl, Nat.reduceMul, Nat.reduceLT, List.nil_append, List.cons_append, List.length_set, ends_normal, ends_ret, endK_apply, resV_tmp, tupleV, binV, unV, eqV, Bool.not_true, Bool.not_false, BEq.rfl, Bool.true_beq, Bool.false_beq, beq_true, beq_false, Nat.sub_self, List.range'_zero, decide_true, decide_false, List.not_mem_nil, false_implies, implies_true, Bool.true_and, Bool.and_true, drawn, pairOk, disj, quietAt, Bool.bne_false, Bool.bne_true, Bool.false_eq_true, applyUpd, Int.reduceEq, Int.reduceNeg]
  refine hq _ _ (fun j hj => ?_) h1
  have h1 : ∀ k, 19 ≤ k → ¬ j = k := fun k hk => by omega
  simp only [get_cons, h1 52 (by omega), h1 53 (by omega), h1 54 (by omega), if_false]

theorem tail14c_gen {tbl : FuncId → Option AFun} {ov : CallSem} (h31 : tbl 31 = some fun31) (h32 : tbl 32 = some fun32) (h40 : tbl 40 = some fun40) {s0 s : St} {p m q : Nat} {L : List Node} {wk id : Int} (hr : HeapAt s0 s p m q L wk) {j : Nat} (hj : j < L.length) (hid : (L.getD j (0, 0)).1 = id) (hL : L.length < 2 ^ 40)
    {e : Env} (g0 : e.get 0 = some (.pointer (some ⟨p, 0, none⟩))) (g1 : e.get 1 = some (ik id)) {Q : AExit → Env → St → Prop}
    (hq : ∀ (e' : Env) (s' : St), HeapAt s0 s' p m q (downL L.length L j).1 (addW (downL L.length L j).2 wk) → Q .normal e' s') : WCode (fun k => call tbl ov k) tail14c e s Q := by
  have hr0 := hr
  obtain ⟨es, ⟨pm, pq, mq, lp, lm, lq, ⟨t, cap, hp, hcap, c, r, hqq, hlen, hct⟩, clock, hm, hmok⟩, hat, hchg⟩ := hr
  have gj := hat.at_ j hj
  rw [hid] at gj
  have x1 := fun g nx (h : g m = some (.map es clock)) => ev_lookup (g := g) (nx := nx) (z := .int .i64 0) (kind_int .i64) hmok h ⟨id, rfl⟩ false
  simp only [tail14c, tail14, code14, params, wc_skip, wc_region, wc_draw, wc_seq, wc_cond, wc_block, wc_exit, wc_ret, next_normal, next_exit, next_ret, inBlock_normal, inBlock_ret, inBlock_exit, sq_apply, nrm_apply, drawnK_apply, boolV_bool, ccond_true, ccond_false, wo_nil, wo_cons, wo_guard, wop, bindP_some, cont_some, cont_none, guardV_bool, guardV_undef, gcont_true, gcont_false, gcont_false', ret_apply, aggK_apply, putK_apply, resK_apply, boolK_apply, ccont_apply, wd_nil, wd_cons, dvals_apply, dcont_some, dcont_none, AOp.vals, rd_tmp, rd_const, rd_func, get_cons, mapList, mapOpt, Option.bind_some, Option.map_some, Nat.reduceEqDiff, if_true, if_false, reduceIte, reduceCtorEq, wv_mov, wv_pick, wv_alloc, wv_box, wv_build, wv_load, wv_loadn, wv_store, wv_nilCheck, wv_bin, wv_eq, wv_un, wv_convInt, wv_convSame, wv_fieldAddr, wv_field, wv_fieldn, wv_extract, wv_lenSlice, wv_lenString, wv_mkMap, wv_call, callee_func, wv_indexAddr, wv_lookup, wv_mapUpdate, wv_mapEntry, wv_entryStore, wv_delete, wv_append, wv_slice, wv_mkSlice, wv_buildSlice, wv_index, wv_copy, wv_lenMap, Abs.cellAt, Abs.rowAt, Abs.storeAt, Heap.get_put, List.getElem?_cons_zero, List.getElem?_cons_succ, Nat.zero_add, Nat.reduceAdd, idx, and_self, Int.toNat_natCast, cellsAt, ne_eq, not_true_eq_false, not_false_eq_true, cellList, Value.cells, List.length_cons, List.length_nil, List.all_cons, List.all_nil, isCell, Bool.and_self, storeL, List.set_cons_zero, List.set_cons_succ, footOf, true_and, and_true, Nat.reduceLeDiff, Nat.le_refl, Nat.reduceMul, Nat.reduceLT, List.nil_append, List.cons_append, List.length_set, ends_normal, ends_ret, endK_apply, resV_tmp, tupleV, binV, unV, eqV, Bool.not_true, Bool.not_false, BEq.rfl, Bool.true_beq, Bool.false_beq, beq_true, beq_false, Nat.sub_self, List.range'_zero, decide_true, decide_false, List.not_mem_nil, false_implies, implies_true, Bool.true_and, Bool.and_true, drawn, pairOk, disj, quietAt, Bool.bne_false, Bool.bne_true, Bool.false_eq_true, applyUpd, Int.reduceEq, Int.reduceNeg, g0, g1, hp, hm, x1, gj, lookV]
  refine WCall.mono (down_spec h31 h32 h40 hr0 hj hL) ?_
  intro v s1 h1
  simp only [params, wc_skip, wc_region, wc_draw, wc_seq, wc_cond, wc_block, wc_exit, wc_ret, next_normal, next_exit, next_ret, inBlock_normal, inBlock_ret, inBlock_exit, sq_apply, nrm_apply, drawnK_apply, boolV_bool, ccond_true, ccond_false, wo_nil, wo_cons, wo_guard, wop, bindP_some, cont_some, cont_none, guardV_bool, guardV_undef, gcont_true, gcont_false, gcont_false', ret_apply, aggK_apply, putK_apply, resK_apply, boolK_apply, ccont_apply, wd_nil, wd_cons, dvals_apply, dcont_some, dcont_none, AOp.vals, rd_tmp, rd_const, rd_func, get_cons, mapList, mapOpt, Option.bind_some, Option.map_some, Nat.reduceEqDiff, if_true, if_false, reduceIte, reduceCtorEq, wv_mov, wv_pick, wv_alloc, wv_box, wv_build, wv_load, wv_loadn, wv_store, wv_nilCheck, wv_bin, wv_eq, wv_un, wv_convInt, wv_convSame, wv_fieldAddr, wv_field, wv_fieldn, wv_extract, wv_lenSlice, wv_lenString, wv_mkMap, wv_call, callee_func, wv_indexAddr, wv_lookup, wv_mapUpdate, wv_mapEntry, wv_entryStore, wv_delete, wv_append, wv_slice, wv_mkSlice, wv_buildSlice, wv_index, wv_copy, wv_lenMap, Abs.cellAt, Abs.rowAt, Abs.storeAt, Heap.get_put, List.getElem?_cons_zero, List.getElem?_cons_succ, Nat.zero_add, Nat.reduceAdd, idx, and_self, Int.toNat_natCast, cellsAt, ne_eq, not_true_eq_false, not_false_eq_true, cellList, Value.cells, List.length_cons, List.length_nil, List.all_cons, List.all_nil, isCell, Bool.and_self, storeL, List.set_cons_zero, List.set_cons_succ, footOf, true_and, and_true, Nat.reduceLeDiff, Nat.le_refl, Nat.reduceMul, Nat.reduceLT, List.nil_append, List.cons_append, List.length_set, ends_normal, ends_ret, endK_apply, resV_tmp, tupleV, binV, unV, eqV, Bool.not_true, Bool.not_false, BEq.rfl, Bool.true_beq, Bool.false_beq, beq_true, beq_false, Nat.sub_self, List.range'_zero, decide_true, decide_false, List.not_mem_nil, false_implies, implies_true, Bool.true_and, Bool.and_true, drawn, pairOk, disj, quietAt, Bool.bne_false, Bool.bne_true, Bool.false_eq_true, applyUpd, Int.reduceEq, Int.reduceNeg]
  exact hq _ _ h1

/-- The key of one is written; it goes to its place. -/
theorem tail14_gen {tbl : FuncId → Option AFun} {ov : CallSem} (h30 : tbl 30 = some fun30) (h31 : tbl 31 = some fun31) (h32 : tbl 32 = some fun32) (h40 : tbl 40 = some fun40) {s : St} {p : Nat} {S : List Nat} {L : List Node} {wk id key : Int} (h : HP s p S L wk) {i : Nat} (hi : i < L.length) (hid : (nd L i).1 = id) (hL : L.length < 2 ^ 40)
    {e : Env} (g0 : e.get 0 = some (.pointer (some ⟨p, 0, none⟩))) (g1 : e.get 1 = some (ik id)) (g2 : e.get 2 = some (ik key)) (g6 : e.get 6 = some (ik i)) {Q : AExit → Env → St → Prop}
    (ho : W (L.set i (id, key)) i) (hq : ∀ (e' : Env) (s' : St) (j : Nat), HP s' p S (downL L.length (upL i (L.set i (id, key)) i).1 j).1 (addW ((downL L.length (upL i (L.set i (id, key)) i).1 j).2 + (upL i (L.set i (id, key)) i).2) wk) → Chg S s s' → j < L.length →
      nd (upL i (L.set i (id, key)) i).1 j = (id, key) → D (upL i (L.set i (id, key)) i).1 j → Q .normal e' s') : WCode (fun k => call tbl ov k) tail14 e s Q := by
  obtain ⟨m, ⟨q, es, rfl, hrep, hat⟩ | ⟨rfl, rfl, _⟩⟩ := h
  · rw [tail14_eq, wc_seq]
    refine tail14a_gen hrep hi g0 g2 g6 fun e1 s1 hb hr1 hc1 => ?_
    have hid' : (L.getD i (0, 0)).1 = id := hid
    rw [next_normal, sq_apply, wc_seq]
    have hl1 : (L.set i ((L.getD i (0, 0)).1, key)).length = L.length := List.length_set
    refine tail14b_gen h30 h32 h40 (s0 := s) ⟨es, hr1, hat.key i key, hc1.sub (by simp)⟩ (by rw [hl1]; exact hi) (by rw [hl1]; exact hL) ((hb 0 (by omega)).trans g0) ((hb 6 (by omega)).trans g6) fun e2 s2 hb2 hr2 => ?_
    rw [hid'] at hr2 hl1
    obtain ⟨j, hj, hnj, hd⟩ := upL_ord i (L.set i (id, key)) i (by rw [List.length_set]; exact hi) (Nat.le_refl _) ho
    have hn2 : nd (L.set i (id, key)) i = (id, key) := by
      simp [nd, List.getD_eq_getElem?_getD, hi]
    have hul := upL_length i (L.set i (id, key)) i
    rw [hn2] at hnj
    rw [next_normal, sq_apply]
    refine tail14c_gen h31 h32 h40 hr2 (j := j) (by omega) (id := id) (by show (nd _ j).1 = id; rw [hnj]) (by omega) (((hb2 0 (by omega)).trans (hb 0 (by omega))).trans g0) (((hb2 1 (by omega)).trans (hb 1 (by omega))).trans g1) fun e3 s3 hr3 => ?_
    have hln : (upL i (L.set i (id, key)) i).1.length = L.length := by omega
    rw [hln, addW_add] at hr3
    obtain ⟨es3, hr3, hat3, hc3⟩ := hr3
    exact hq e3 s3 j ⟨m, .inl ⟨q, es3, rfl, hr3, hat3⟩⟩ hc3 (by omega) hnj hd
  · simp at hi

theorem head14_gen {tbl : FuncId → Option AFun} {ov : CallSem} {s : St} {p : Nat} {e : Env} (g0 : e.get 0 = some (.pointer (some ⟨p, 0, none⟩))) {Q : AExit → Env → St → Prop}
    (hq : ∀ (e' : Env), (∀ i, i < 3 → e'.get i = e.get i) → Q .normal e' s) : WCode (fun k => call tbl ov k) head14 e s Q := by
  simp only [head14, code14, params, wc_skip, wc_region, wc_draw, wc_seq, wc_cond, wc_block, wc_exit, wc_ret, next_normal, next_exit, next_ret, inBlock_normal, inBlock_ret, inBlock_exit, sq_apply, nrm_apply, drawnK_apply, boolV_bool, ccond_true, ccond_false, wo_nil, wo_cons, wo_guard, wop, bindP_some, cont_some, cont_none, guardV_bool, guardV_undef, gcont_true, gcont_false, gcont_false', ret_apply, aggK_apply, putK_apply, resK_apply, boolK_apply, ccont_apply, wd_nil, wd_cons, dvals_apply, dcont_some, dcont_none, AOp.vals, rd_tmp, rd_const, rd_func, get_cons, mapList, mapOpt, Option.bind_some, Option.map_some, Nat.reduceEqDiff, if_true, if_false, reduceIte, reduceCtorEq, wv_mov, wv_pick, wv_alloc, wv_box, wv_build, wv_load, wv_loadn, wv_store, wv_nilCheck, wv_bin, wv_eq, wv_un, wv_convInt, wv_convSame, wv_fieldAddr, wv_field, wv_fieldn, wv_extract, wv_lenSlice, wv_lenString, wv_mkMap, wv_call, callee_func, wv_indexAddr, wv_lookup, wv_mapUpdate, wv_mapEntry, wv_entryStore, wv_delete, wv_append, wv_slice, wv_mkSlice, wv_buildSlice, wv_index, wv_copy, wv_lenMap, Abs.cellAt, Abs.rowAt, Abs.storeAt, Heap.get_put, List.getElem?_cons_zero, List.getElem?_cons_succ, Nat.zero_add, Nat.reduceAdd, idx, and_self, Int.toNat_natCast, cellsAt, ne_eq, not_true_eq_false, not_false_eq_true, cellList, Value.cells, List.length_cons, List.length_nil, List.all_cons, List.all_nil, isCell, Bool.and_self, storeL, List.set_cons_zero, List.set_cons_succ, footOf, true_and, and_true, Nat.reduceLeDiff, Nat.le_refl, Nat.reduceMul, Nat.reduceLT, List.nil_append, List.cons_append, List.length_set, ends_normal, ends_ret, endK_apply, resV_tmp, tupleV, binV, unV, eqV, Bool.not_true, Bool.not_false, BEq.rfl, Bool.true_beq, Bool.false_beq, beq_true, beq_false, Nat.sub_self, List.range'_zero, decide_true, decide_false, List.not_mem_nil, false_implies, implies_true, Bool.true_and, Bool.and_true, drawn, pairOk, disj, quietAt, Bool.bne_false, Bool.bne_true, Bool.false_eq_true, applyUpd, Int.reduceEq, Int.reduceNeg, g0, eqV, Option.isNone_none, Option.isNone_some]
  refine hq _ fun j hj => ?_
  have h1 : ∀ k, 3 ≤ k → ¬ j = k := fun k hk => by omega
  simp only [get_cons, h1 8 (by omega), h1 9 (by omega), if_false]

theorem look14_gen {tbl : FuncId → Option AFun} {ov : CallSem} {s : St} {p m : Nat} {sl : Value} {wk id : Int} {t : TypeId} {es : List MapEntry} {clock : Nat}
    (hp : s.heap.get p = some (.cells [sl, .map (some m), .int .i64 wk] t 0 false)) (hm : s.heap.get m = some (.map es clock)) (hmok : MOK IK es clock)
    {e : Env} (g0 : e.get 0 = some (.pointer (some ⟨p, 0, none⟩))) (g1 : e.get 1 = some (ik id)) {r : Option Value} (hr : mget es (ik id) = r) {Q : AExit → Env → St → Prop}
    (hq : ∀ (e' : Env), (∀ i, i < 3 → e'.get i = e.get i) → e'.get 6 = some (r.getD (ik 0)) → e'.get 7 = some (.bool r.isSome) → Q .normal e' s) : WCode (fun k => call tbl ov k) look14 e s Q := by
  have x1 := fun g nx (h : g m = some (.map es clock)) => ev_lookup (g := g) (nx := nx) (z := .int .i64 0) (kind_int .i64) hmok h ⟨id, rfl⟩ true
  have h3 : ∀ j k, j < 3 → 3 ≤ k → ¬ j = k := fun j k _ hk => by omega
  cases r with
  | none =>
    simp only [look14, code14, params, wc_skip, wc_region, wc_draw, wc_seq, wc_cond, wc_block, wc_exit, wc_ret, next_normal, next_exit, next_ret, inBlock_normal, inBlock_ret, inBlock_exit, sq_apply, nrm_apply, drawnK_apply, boolV_bool, ccond_true, ccond_false, wo_nil, wo_cons, wo_guard, wop, bindP_some, cont_some, cont_none, guardV_bool, guardV_undef, gcont_true, gcont_false, gcont_false', ret_apply, aggK_apply, putK_apply, resK_apply, boolK_apply, ccont_apply, wd_nil, wd_cons, dvals_apply, dcont_some, dcont_none, AOp.vals, rd_tmp, rd_const, rd_func, get_cons, mapList, mapOpt, Option.bind_some, Option.map_some, Nat.reduceEqDiff, if_true, if_false, reduceIte, reduceCtorEq, wv_mov, wv_pick, wv_alloc, wv_box, wv_build, wv_load, wv_loadn, wv_store, wv_nilCheck, wv_bin, wv_eq, wv_un, wv_convInt, wv_convSame, wv_fieldAddr, wv_field, wv_fieldn, wv_extract, wv_lenSlice, wv_lenString, wv_mkMap, wv_call, callee_func, wv_indexAddr, wv_lookup, wv_mapUpdate, wv_mapEntry, wv_entryStore, wv_delete, wv_append, wv_slice, wv_mkSlice, wv_buildSlice, wv_index, wv_copy, wv_lenMap, Abs.cellAt, Abs.rowAt, Abs.storeAt, Heap.get_put, List.getElem?_cons_zero, List.getElem?_cons_succ, Nat.zero_add, Nat.reduceAdd, idx, and_self, Int.toNat_natCast, cellsAt, ne_eq, not_true_eq_false, not_false_eq_true, cellList, Value.cells, List.length_cons, List.length_nil, List.all_cons, List.all_nil, isCell, Bool.and_self, storeL, List.set_cons_zero, List.set_cons_succ, footOf, true_and, and_true, Nat.reduceLeDiff, Nat.le_refl, Nat.reduceMul, Nat.reduceLT, List.nil_append, List.cons_append, List.length_set, ends_normal, ends_ret, endK_apply, resV_tmp, tupleV, binV, unV, eqV, Bool.not_true, Bool.not_false, BEq.rfl, Bool.true_beq, Bool.false_beq, beq_true, beq_false, Nat.sub_self, List.range'_zero, decide_true, decide_false, List.not_mem_nil, false_implies, implies_true, Bool.true_and, Bool.and_true, drawn, pairOk, disj, quietAt, Bool.bne_false, Bool.bne_true, Bool.false_eq_true, applyUpd, Int.reduceEq, Int.reduceNeg, g0, g1, hp, hm, x1, hr, lookV, Option.map_none]
    refine hq _ (fun j hj => ?_) rfl rfl
    have h1 : ∀ k, 3 ≤ k → ¬ j = k := fun k hk => by omega
    simp only [get_cons, h1 6 (by omega), h1 7 (by omega), h1 10 (by omega), h1 11 (by omega), h1 12 (by omega), h1 13 (by omega), h1 14 (by omega), h1 15 (by omega), h1 16 (by omega), h1 17 (by omega), h1 18 (by omega), if_false]
  | some v =>
    simp only [look14, code14, params, wc_skip, wc_region, wc_draw, wc_seq, wc_cond, wc_block, wc_exit, wc_ret, next_normal, next_exit, next_ret, inBlock_normal, inBlock_ret, inBlock_exit, sq_apply, nrm_apply, drawnK_apply, boolV_bool, ccond_true, ccond_false, wo_nil, wo_cons, wo_guard, wop, bindP_some, cont_some, cont_none, guardV_bool, guardV_undef, gcont_true, gcont_false, gcont_false', ret_apply, aggK_apply, putK_apply, resK_apply, boolK_apply, ccont_apply, wd_nil, wd_cons, dvals_apply, dcont_some, dcont_none, AOp.vals, rd_tmp, rd_const, rd_func, get_cons, mapList, mapOpt, Option.bind_some, Option.map_some, Nat.reduceEqDiff, if_true, if_false, reduceIte, reduceCtorEq, wv_mov, wv_pick, wv_alloc, wv_box, wv_build, wv_load, wv_loadn, wv_store, wv_nilCheck, wv_bin, wv_eq, wv_un, wv_convInt, wv_convSame, wv_fieldAddr, wv_field, wv_fieldn, wv_extract, wv_lenSlice, wv_lenString, wv_mkMap, wv_call, callee_func, wv_indexAddr, wv_lookup, wv_mapUpdate, wv_mapEntry, wv_entryStore, wv_delete, wv_append, wv_slice, wv_mkSlice, wv_buildSlice, wv_index, wv_copy, wv_lenMap, Abs.cellAt, Abs.rowAt, Abs.storeAt, Heap.get_put, List.getElem?_cons_zero, List.getElem?_cons_succ, Nat.zero_add, Nat.reduceAdd, idx, and_self, Int.toNat_natCast, cellsAt, ne_eq, not_true_eq_false, not_false_eq_true, cellList, Value.cells, List.length_cons, List.length_nil, List.all_cons, List.all_nil, isCell, Bool.and_self, storeL, List.set_cons_zero, List.set_cons_succ, footOf, true_and, and_true, Nat.reduceLeDiff, Nat.le_refl, Nat.reduceMul, Nat.reduceLT, List.nil_append, List.cons_append, List.length_set, ends_normal, ends_ret, endK_apply, resV_tmp, tupleV, binV, unV, eqV, Bool.not_true, Bool.not_false, BEq.rfl, Bool.true_beq, Bool.false_beq, beq_true, beq_false, Nat.sub_self, List.range'_zero, decide_true, decide_false, List.not_mem_nil, false_implies, implies_true, Bool.true_and, Bool.and_true, drawn, pairOk, disj, quietAt, Bool.bne_false, Bool.bne_true, Bool.false_eq_true, applyUpd, Int.reduceEq, Int.reduceNeg, g0, g1, hp, hm, x1, hr, lookV]
    refine hq _ (fun j hj => ?_) rfl rfl
    have h1 : ∀ k, 3 ≤ k → ¬ j = k := fun k hk => by omega
    simp only [get_cons, h1 6 (by omega), h1 7 (by omega), h1 10 (by omega), h1 11 (by omega), h1 12 (by omega), h1 13 (by omega), h1 14 (by omega), h1 15 (by omega), h1 16 (by omega), h1 17 (by omega), h1 18 (by omega), if_false]

/-- What a heap's two blocks hold, whatever its row. -/
theorem HP.open {s : St} {p : Nat} {S : List Nat} {L : List Node} {wk : Int} (h : HP s p S L wk) : ∃ m sl t es clock, s.heap.get p = some (.cells [sl, .map (some m), .int .i64 wk] t 0 false) ∧ s.heap.get m = some (.map es clock) ∧ MOK IK es clock ∧ At L es ∧ ∃ a cap, sl = .slice a L.length cap := by
  obtain ⟨m, ⟨q, es, rfl, ⟨pm, pq, mq, lp, lm, lq, ⟨t, cap, hp, hcap, c, r, hqq, hlen, hct⟩, clock, hm, hmok⟩, hat⟩ | ⟨rfl, rfl, pm, lp, lm, ⟨t, hp⟩, hm⟩⟩ := h
  · exact ⟨m, _, t, es, clock, hp, hm, hmok, hat, _, _, rfl⟩
  · exact ⟨m, _, t, [], 0, hp, hm, ⟨by simp, by simp, by simp, by simp⟩, ⟨fun i hi => by simp at hi, fun _ _ => rfl⟩, _, _, rfl⟩

theorem at_cases {L : List Node} {es : List MapEntry} (h : At L es) (id : Int) : (∃ i, i < L.length ∧ (nd L i).1 = id ∧ mget es (ik id) = some (ik i)) ∨ ((∀ i, i < L.length → (nd L i).1 ≠ id) ∧ mget es (ik id) = none) := by
  by_cases hx : ∃ i, i < L.length ∧ (nd L i).1 = id
  · obtain ⟨i, hi, he⟩ := hx
    have := h.at_ i hi
    exact .inl ⟨i, hi, he, by rw [← he]; exact this⟩
  · have hn : ∀ i, i < L.length → (nd L i).1 ≠ id := fun i hi he => hx ⟨i, hi, he⟩
    exact .inr ⟨hn, h.none id hn⟩

/-- The row that a key's setting leaves; c were compared. -/
structure SetTo (L : List Node) (id key : Int) (L' : List Node) (c : Nat) : Prop where
  ord : Ord L'
  mem : ∀ n, n ∈ L' ↔ n = (id, key) ∨ (n ∈ L ∧ n.1 ≠ id)
  old : (∃ k, (id, k) ∈ L) → L'.length = L.length
  new : (∀ k, ¬ (id, k) ∈ L) → L'.length = L.length + 1
  few : c ≤ 3 * bitsN L'.length

theorem set_mem {L : List Node} {es : List MapEntry} (h : At L es) {i : Nat} (hi : i < L.length) {id : Int} (hid : (nd L i).1 = id) (key : Int) (n : Node) : n ∈ L.set i (id, key) ↔ n = (id, key) ∨ (n ∈ L ∧ n.1 ≠ id) := by
  have hg : ∀ j, nd (L.set i (id, key)) j = if j = i then (id, key) else nd L j := by
    intro j
    simp only [nd, List.getD_eq_getElem?_getD, List.getElem?_set]
    by_cases h1 : j = i
    · subst h1; simp [hi]
    · rw [if_neg (fun e => h1 e.symm), if_neg h1]
  rw [mem_nd, mem_nd]
  constructor
  · rintro ⟨j, hj, rfl⟩
    rw [List.length_set] at hj
    rw [hg]
    split
    · exact .inl rfl
    · rename_i h1
      refine .inr ⟨⟨j, hj, rfl⟩, fun he => h1 (h.inj hj hi (he.trans hid.symm))⟩
  · rintro (rfl | ⟨⟨j, hj, rfl⟩, hne⟩)
    · exact ⟨i, by rw [List.length_set]; exact hi, by rw [hg, if_pos rfl]⟩
    · refine ⟨j, by rw [List.length_set]; exact hj, ?_⟩
      rw [hg, if_neg]
      rintro rfl
      exact hne hid

theorem set_spec {tbl : FuncId → Option AFun} {ov : CallSem} (h14 : tbl 14 = some fun14) (h30 : tbl 30 = some fun30) (h31 : tbl 31 = some fun31) (h32 : tbl 32 = some fun32) (h40 : tbl 40 = some fun40) {s : St} {p : Nat} {S : List Nat} {L : List Node} {wk : Int} (h : HP s p S L wk) (ho : Ord L) (hL : L.length < 2 ^ 30) (id key : Int) :
    WCall (fun k => call tbl ov k) 14 [.pointer (some ⟨p, 0, none⟩), ik id, ik key] s fun v s' =>
      ∃ S' L' c, HP s' p S' L' (addW c wk) ∧ Chg S s s' ∧ (∀ x ∈ S', x ∈ S ∨ s.next ≤ x) ∧ SetTo L id key L' c := by
  refine WCall.of h14 rfl ?_
  obtain ⟨m, sl, t, es, clock, hp, hm, hmok, hat, _⟩ := h.open
  simp only [fun14, code14_eq, params]
  rw [wc_seq]
  refine head14_gen rfl fun e1 he1 => ?_
  have a0 := he1 0 (by omega)
  have a1 := he1 1 (by omega)
  have a2 := he1 2 (by omega)
  rw [next_normal, sq_apply, wc_seq]
  rcases at_cases hat id with ⟨i, hi, hid, hg⟩ | ⟨hno, hg⟩
  · refine look14_gen hp hm hmok a0 a1 hg fun e2 he2 b6 b7 => ?_
    rw [next_normal, sq_apply, wc_seq]
    refine mid14_there b7 fun e3 he3 => ?_
    rw [next_normal, sq_apply]
    refine tail14_gen h30 h31 h32 h40 h hi hid (by omega) ((he3 0 (by omega)).trans ((he2 0 (by omega)).trans a0)) ((he3 1 (by omega)).trans ((he2 1 (by omega)).trans a1)) ((he3 2 (by omega)).trans ((he2 2 (by omega)).trans a2)) ((he3 6 (by omega)).trans b6) (ho.set hi _) fun e4 s4 j hh hc hj hn hd => ?_
    have hul := upL_length i (L.set i (id, key)) i
    have hdl := downL_length L.length (upL i (L.set i (id, key)) i).1 j
    rw [List.length_set] at hul
    refine ⟨S, _, _, hh, hc, fun x hx => .inl hx, downL_ord _ _ _ (by omega) (by omega) hd, fun n => ?_, fun _ => by omega, fun hx => absurd (mem_nd.2 ⟨i, hi, rfl⟩) (by rw [show nd L i = (id, (nd L i).2) by rw [← hid]]; exact hx _), ?_⟩
    · rw [downL_mem _ _ _ (by omega), upL_mem _ _ _ (by rw [List.length_set]; exact hi)]
      exact set_mem hat hi hid key n
    · rw [hdl, hul]
      exact few_le _ _ i j L.length (by rw [List.length_set]) hul hi
  · refine look14_gen hp hm hmok a0 a1 hg fun e2 he2 b6 b7 => ?_
    rw [next_normal, sq_apply, wc_seq]
    refine WCode.mono ?_ (mid14_push h (by omega) hno ((he2 0 (by omega)).trans a0) ((he2 1 (by omega)).trans a1) ((he2 2 (by omega)).trans a2) b7)
    rintro x e3 s3 ⟨rfl, c0, c1, c2, c6, S3, h3, hc3, hS3⟩
    rw [next_normal, sq_apply]
    have hlen : (L ++ [(id, key)]).length = L.length + 1 := by simp
    have hset : (L ++ [(id, key)]).set L.length (id, key) = L ++ [(id, key)] := by simp
    have hnd : nd (L ++ [(id, key)]) L.length = (id, key) := by simp [nd, List.getD_eq_getElem?_getD]
    refine tail14_gen h30 h31 h32 h40 h3 (i := L.length) (by omega) (by rw [hnd]) (by omega) (c0.trans ((he2 0 (by omega)).trans a0)) (c1.trans ((he2 1 (by omega)).trans a1)) (c2.trans ((he2 2 (by omega)).trans a2)) c6 (by rw [hset]; exact ho.push _) fun e4 s4 j hh hc hj hn hd => ?_
    rw [hset] at hh hd
    have hul := upL_length L.length (L ++ [(id, key)]) L.length
    have hdl := downL_length (L ++ [(id, key)]).length (upL L.length (L ++ [(id, key)]) L.length).1 j
    refine ⟨S3, _, _, hh, hc3.comp hc hS3, hS3, downL_ord _ _ _ (by omega) (by omega) hd, fun n => ?_, fun ⟨k, hk⟩ => ?_, fun _ => by omega, ?_⟩
    · rw [downL_mem _ _ _ (by omega), upL_mem _ _ _ (by omega)]
      simp only [List.mem_append, List.mem_singleton]
      constructor
      · rintro (h1 | h1)
        · refine .inr ⟨h1, ?_⟩
          obtain ⟨k, hk, rfl⟩ := mem_nd.1 h1
          exact hno k hk
        · exact .inl h1
      · rintro (h1 | ⟨h1, _⟩)
        · exact .inr h1
        · exact .inl h1
    · obtain ⟨k', hk', he⟩ := mem_nd.1 hk
      exact absurd (by rw [he]) (hno k' hk')
    · rw [hdl, hul]
      exact few_le _ _ L.length j _ rfl hul (by omega)

end Go.Proofs.Ytaigiehdnhehnaa
