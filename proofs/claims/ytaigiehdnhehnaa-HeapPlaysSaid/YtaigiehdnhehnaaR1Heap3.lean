/-
  The heap: down.
-/
import Derived.Test.YtaigiehdnhehnaaR1Heap2
set_option maxRecDepth 100000
set_option linter.unusedVariables false
set_option linter.unusedSimpArgs false
namespace Go.Proofs.Ytaigiehdnhehnaa
open Go Go.Abs

/-- One goes down: the row, and how many comparisons. -/
def downL : Nat → List Node → Nat → List Node × Nat
  | 0, L, _ => (L, 0)
  | f + 1, L, i =>
    if L.length ≤ 2 * i + 1 then (L, 0)
    else
      let k := if 2 * i + 2 < L.length ∧ lt (L.getD (2 * i + 2) (0, 0)) (L.getD (2 * i + 1) (0, 0)) = true then 2 * i + 2 else 2 * i + 1
      let c1 := if 2 * i + 2 < L.length then 1 else 0
      if lt (L.getD k (0, 0)) (L.getD i (0, 0)) = true then ((downL f (swapL L i k) k).1, (downL f (swapL L i k) k).2 + c1 + 1) else (L, c1 + 1)

theorem downL_stop {f : Nat} {L : List Node} {i : Nat} (h : L.length ≤ 2 * i + 1) : downL f L i = (L, 0) := by
  cases f with
  | zero => rfl
  | succ f => rw [downL, if_pos h]

theorem downL_step {f : Nat} {L : List Node} {i k c1 : Nat} (h : ¬ L.length ≤ 2 * i + 1) (hk : k = if 2 * i + 2 < L.length ∧ lt (L.getD (2 * i + 2) (0, 0)) (L.getD (2 * i + 1) (0, 0)) = true then 2 * i + 2 else 2 * i + 1)
    (hc : c1 = if 2 * i + 2 < L.length then 1 else 0) :
    downL (f + 1) L i = if lt (L.getD k (0, 0)) (L.getD i (0, 0)) = true then ((downL f (swapL L i k) k).1, (downL f (swapL L i k) k).2 + c1 + 1) else (L, c1 + 1) := by
  subst hk; subst hc
  rw [downL, if_neg h]

theorem downL_fuel : ∀ (f g : Nat) (L : List Node) (i : Nat), L.length - i ≤ f → L.length - i ≤ g → downL f L i = downL g L i := by
  intro f
  induction f with
  | zero =>
    intro g L i h1 h2
    rw [downL_stop (by omega), downL_stop (by omega)]
  | succ f ih =>
    intro g L i h1 h2
    by_cases hs : L.length ≤ 2 * i + 1
    · rw [downL_stop hs, downL_stop hs]
    · cases g with
      | zero => omega
      | succ g =>
        obtain ⟨k, hk⟩ : ∃ k, k = if 2 * i + 2 < L.length ∧ lt (L.getD (2 * i + 2) (0, 0)) (L.getD (2 * i + 1) (0, 0)) = true then 2 * i + 2 else 2 * i + 1 := ⟨_, rfl⟩
        have hgt : i < k := by rw [hk]; split <;> omega
        rw [downL_step (f := f) hs hk rfl, downL_step (f := g) hs hk rfl, ih g _ _ (by rw [swapL_length]; omega) (by rw [swapL_length]; omega)]

theorem downL_length : ∀ (f : Nat) (L : List Node) (i : Nat), (downL f L i).1.length = L.length := by
  intro f
  induction f with
  | zero => intro L i; rfl
  | succ f ih =>
    intro L i
    by_cases hs : L.length ≤ 2 * i + 1
    · rw [downL_stop hs]
    · obtain ⟨k, hk⟩ : ∃ k, k = if 2 * i + 2 < L.length ∧ lt (L.getD (2 * i + 2) (0, 0)) (L.getD (2 * i + 1) (0, 0)) = true then 2 * i + 2 else 2 * i + 1 := ⟨_, rfl⟩
      rw [downL_step hs hk rfl]
      split
      · simp only [ih, swapL_length]
      · rfl

def tail31 : ACode := .seq (
         .seq (
         .region [
           ⟨(some 32), .mov (.tmp 0), none⟩,
           ⟨(some 33), .mov (.tmp 4), none⟩,
           ⟨(some 34), .mov (.tmp 1), none⟩,
           ⟨(some 35), .call (.func 40) [(.tmp 32), (.tmp 33), (.tmp 34)], none⟩,
           ⟨(some 36), .un .not (.tmp 35), none⟩]
          none)
        (
         .cond (.tmp 36) (
          .ret)
         (
          .skip)))
       (
        .seq (
         .region [
           ⟨(some 37), .mov (.tmp 0), none⟩,
           ⟨(some 38), .mov (.tmp 1), none⟩,
           ⟨(some 39), .mov (.tmp 4), none⟩,
           ⟨(some 40), .call (.func 32) [(.tmp 37), (.tmp 38), (.tmp 39)], none⟩]
          none)
        (
         .region [
           ⟨(some 41), .mov (.tmp 4), none⟩,
           ⟨(some 1), .mov (.tmp 41), none⟩]
          none))

theorem tail31_spec {tbl : FuncId → Option AFun} {ov : CallSem} (h32 : tbl 32 = some fun32) (h40 : tbl 40 = some fun40) {s0 s : St} {p m q : Nat} {L : List Node} {wk : Int} (hr : HeapAt s0 s p m q L wk) {j k : Nat} (hj : j < L.length) (hk : k < L.length) {e : Env}
    (g0 : e.get 0 = some (.pointer (some ⟨p, 0, none⟩))) (g1 : e.get 1 = some (.int .i64 j)) (g4 : e.get 4 = some (.int .i64 k)) :
    WCode (fun k => call tbl ov k) tail31 e s fun x e' s' =>
      (x = .ret ∧ lt (L.getD k (0, 0)) (L.getD j (0, 0)) = false ∧ HeapAt s0 s' p m q L (IntKind.i64.wrap (wk + 1))) ∨
      (x = .normal ∧ lt (L.getD k (0, 0)) (L.getD j (0, 0)) = true ∧ e'.get 0 = some (.pointer (some ⟨p, 0, none⟩)) ∧ e'.get 1 = some (.int .i64 k) ∧ HeapAt s0 s' p m q (swapL L j k) (IntKind.i64.wrap (wk + 1))) := by
  obtain ⟨es, hrep, hat, hchg⟩ := hr
  simp only [tail31, params, wc_skip, wc_region, wc_draw, wc_seq, wc_cond, wc_block, wc_exit, wc_ret, next_normal, next_exit, next_ret, inBlock_normal, inBlock_ret, inBlock_exit, sq_apply, nrm_apply, drawnK_apply, boolV_bool, ccond_true, ccond_false, wo_nil, wo_cons, wo_guard, wop, bindP_some, cont_some, cont_none, guardV_bool, guardV_undef, gcont_true, gcont_false, gcont_false', ret_apply, aggK_apply, putK_apply, resK_apply, boolK_apply, ccont_apply, wd_nil, wd_cons, dvals_apply, dcont_some, dcont_none, AOp.vals, rd_tmp, rd_const, rd_func, get_cons, mapList, mapOpt, Option.bind_some, Option.map_some, Nat.reduceEqDiff, if_true, if_false, reduceIte, reduceCtorEq, wv_mov, wv_pick, wv_alloc, wv_box, wv_build, wv_load, wv_loadn, wv_store, wv_nilCheck, wv_bin, wv_eq, wv_un, wv_convInt, wv_convSame, wv_fieldAddr, wv_field, wv_fieldn, wv_extract, wv_lenSlice, wv_lenString, wv_mkMap, wv_call, callee_func, wv_indexAddr, wv_lookup, wv_mapUpdate, wv_mapEntry, wv_entryStore, wv_delete, wv_append, wv_slice, wv_mkSlice, wv_buildSlice, wv_index, wv_copy, wv_lenMap, Abs.cellAt, Abs.rowAt, Abs.storeAt, Heap.get_put, List.getElem?_cons_zero, List.getElem?_cons_succ, Nat.zero_add, Nat.reduceAdd, idx, and_self, Int.toNat_natCast, cellsAt, ne_eq, not_true_eq_false, not_false_eq_true, cellList, Value.cells, List.length_cons, List.length_nil, List.all_cons, List.all_nil, isCell, Bool.and_self, storeL, List.set_cons_zero, List.set_cons_succ, footOf, true_and, and_true, Nat.reduceLeDiff, Nat.le_refl, Nat.reduceMul, Nat.reduceLT, List.nil_append, List.cons_append, List.length_set, ends_normal, ends_ret, endK_apply, resV_tmp, tupleV, binV, unV, eqV, Bool.not_true, Bool.not_false, BEq.rfl, Bool.true_beq, Bool.false_beq, beq_true, beq_false, Nat.sub_self, List.range'_zero, decide_true, decide_false, List.not_mem_nil, false_implies, implies_true, Bool.true_and, Bool.and_true, drawn, pairOk, disj, quietAt, Bool.bne_false, Bool.bne_true, Bool.false_eq_true, applyUpd, Int.reduceEq, Int.reduceNeg, g0, g1, g4]
  refine WCall.mono (less_spec h40 hrep hk hj) ?_
  rintro v s1 ⟨rfl, hrep1, hchg1⟩
  have hch1 := hchg.trans (hchg1.sub (T := [p, m, q]) (by simp))
  cases hb : lt (L.getD k (0, 0)) (L.getD j (0, 0))
  · simp only [params, wc_skip, wc_region, wc_draw, wc_seq, wc_cond, wc_block, wc_exit, wc_ret, next_normal, next_exit, next_ret, inBlock_normal, inBlock_ret, inBlock_exit, sq_apply, nrm_apply, drawnK_apply, boolV_bool, ccond_true, ccond_false, wo_nil, wo_cons, wo_guard, wop, bindP_some, cont_some, cont_none, guardV_bool, guardV_undef, gcont_true, gcont_false, gcont_false', ret_apply, aggK_apply, putK_apply, resK_apply, boolK_apply, ccont_apply, wd_nil, wd_cons, dvals_apply, dcont_some, dcont_none, AOp.vals, rd_tmp, rd_const, rd_func, get_cons, mapList, mapOpt, Option.bind_some, Option.map_some, Nat.reduceEqDiff, if_true, if_false, reduceIte, reduceCtorEq, wv_mov, wv_pick, wv_alloc, wv_box, wv_build, wv_load, wv_loadn, wv_store, wv_nilCheck, wv_bin, wv_eq, wv_un, wv_convInt, wv_convSame, wv_fieldAddr, wv_field, wv_fieldn, wv_extract, wv_lenSlice, wv_lenString, wv_mkMap, wv_call, callee_func, wv_indexAddr, wv_lookup, wv_mapUpdate, wv_mapEntry, wv_entryStore, wv_delete, wv_append, wv_slice, wv_mkSlice, wv_buildSlice, wv_index, wv_copy, wv_lenMap, Abs.cellAt, Abs.rowAt, Abs.storeAt, Heap.get_put, List.getElem?_cons_zero, List.getElem?_cons_succ, Nat.zero_add, Nat.reduceAdd, idx, and_self, Int.toNat_natCast, cellsAt, ne_eq, not_true_eq_false, not_false_eq_true, cellList, Value.cells, List.length_cons, List.length_nil, List.all_cons, List.all_nil, isCell, Bool.and_self, storeL, List.set_cons_zero, List.set_cons_succ, footOf, true_and, and_true, Nat.reduceLeDiff, Nat.le_refl, Nat.reduceMul, Nat.reduceLT, List.nil_append, List.cons_append, List.length_set, ends_normal, ends_ret, endK_apply, resV_tmp, tupleV, binV, unV, eqV, Bool.not_true, Bool.not_false, BEq.rfl, Bool.true_beq, Bool.false_beq, beq_true, beq_false, Nat.sub_self, List.range'_zero, decide_true, decide_false, List.not_mem_nil, false_implies, implies_true, Bool.true_and, Bool.and_true, drawn, pairOk, disj, quietAt, Bool.bne_false, Bool.bne_true, Bool.false_eq_true, applyUpd, Int.reduceEq, Int.reduceNeg, g0, g1, g4]
    exact .inl ⟨es, hrep1, hat, hch1⟩
  · simp only [params, wc_skip, wc_region, wc_draw, wc_seq, wc_cond, wc_block, wc_exit, wc_ret, next_normal, next_exit, next_ret, inBlock_normal, inBlock_ret, inBlock_exit, sq_apply, nrm_apply, drawnK_apply, boolV_bool, ccond_true, ccond_false, wo_nil, wo_cons, wo_guard, wop, bindP_some, cont_some, cont_none, guardV_bool, guardV_undef, gcont_true, gcont_false, gcont_false', ret_apply, aggK_apply, putK_apply, resK_apply, boolK_apply, ccont_apply, wd_nil, wd_cons, dvals_apply, dcont_some, dcont_none, AOp.vals, rd_tmp, rd_const, rd_func, get_cons, mapList, mapOpt, Option.bind_some, Option.map_some, Nat.reduceEqDiff, if_true, if_false, reduceIte, reduceCtorEq, wv_mov, wv_pick, wv_alloc, wv_box, wv_build, wv_load, wv_loadn, wv_store, wv_nilCheck, wv_bin, wv_eq, wv_un, wv_convInt, wv_convSame, wv_fieldAddr, wv_field, wv_fieldn, wv_extract, wv_lenSlice, wv_lenString, wv_mkMap, wv_call, callee_func, wv_indexAddr, wv_lookup, wv_mapUpdate, wv_mapEntry, wv_entryStore, wv_delete, wv_append, wv_slice, wv_mkSlice, wv_buildSlice, wv_index, wv_copy, wv_lenMap, Abs.cellAt, Abs.rowAt, Abs.storeAt, Heap.get_put, List.getElem?_cons_zero, List.getElem?_cons_succ, Nat.zero_add, Nat.reduceAdd, idx, and_self, Int.toNat_natCast, cellsAt, ne_eq, not_true_eq_false, not_false_eq_true, cellList, Value.cells, List.length_cons, List.length_nil, List.all_cons, List.all_nil, isCell, Bool.and_self, storeL, List.set_cons_zero, List.set_cons_succ, footOf, true_and, and_true, Nat.reduceLeDiff, Nat.le_refl, Nat.reduceMul, Nat.reduceLT, List.nil_append, List.cons_append, List.length_set, ends_normal, ends_ret, endK_apply, resV_tmp, tupleV, binV, unV, eqV, Bool.not_true, Bool.not_false, BEq.rfl, Bool.true_beq, Bool.false_beq, beq_true, beq_false, Nat.sub_self, List.range'_zero, decide_true, decide_false, List.not_mem_nil, false_implies, implies_true, Bool.true_and, Bool.and_true, drawn, pairOk, disj, quietAt, Bool.bne_false, Bool.bne_true, Bool.false_eq_true, applyUpd, Int.reduceEq, Int.reduceNeg, g0, g1, g4]
    refine WCall.mono (swap_spec h32 hrep1 hj hk (hat.at_ _ hj) (hat.at_ _ hk)) ?_
    rintro v s2 ⟨hrep2, hchg2⟩
    obtain ⟨clock, _, hmok⟩ := hrep1.hm
    simp only [params, wc_skip, wc_region, wc_draw, wc_seq, wc_cond, wc_block, wc_exit, wc_ret, next_normal, next_exit, next_ret, inBlock_normal, inBlock_ret, inBlock_exit, sq_apply, nrm_apply, drawnK_apply, boolV_bool, ccond_true, ccond_false, wo_nil, wo_cons, wo_guard, wop, bindP_some, cont_some, cont_none, guardV_bool, guardV_undef, gcont_true, gcont_false, gcont_false', ret_apply, aggK_apply, putK_apply, resK_apply, boolK_apply, ccont_apply, wd_nil, wd_cons, dvals_apply, dcont_some, dcont_none, AOp.vals, rd_tmp, rd_const, rd_func, get_cons, mapList, mapOpt, Option.bind_some, Option.map_some, Nat.reduceEqDiff, if_true, if_false, reduceIte, reduceCtorEq, wv_mov, wv_pick, wv_alloc, wv_box, wv_build, wv_load, wv_loadn, wv_store, wv_nilCheck, wv_bin, wv_eq, wv_un, wv_convInt, wv_convSame, wv_fieldAddr, wv_field, wv_fieldn, wv_extract, wv_lenSlice, wv_lenString, wv_mkMap, wv_call, callee_func, wv_indexAddr, wv_lookup, wv_mapUpdate, wv_mapEntry, wv_entryStore, wv_delete, wv_append, wv_slice, wv_mkSlice, wv_buildSlice, wv_index, wv_copy, wv_lenMap, Abs.cellAt, Abs.rowAt, Abs.storeAt, Heap.get_put, List.getElem?_cons_zero, List.getElem?_cons_succ, Nat.zero_add, Nat.reduceAdd, idx, and_self, Int.toNat_natCast, cellsAt, ne_eq, not_true_eq_false, not_false_eq_true, cellList, Value.cells, List.length_cons, List.length_nil, List.all_cons, List.all_nil, isCell, Bool.and_self, storeL, List.set_cons_zero, List.set_cons_succ, footOf, true_and, and_true, Nat.reduceLeDiff, Nat.le_refl, Nat.reduceMul, Nat.reduceLT, List.nil_append, List.cons_append, List.length_set, ends_normal, ends_ret, endK_apply, resV_tmp, tupleV, binV, unV, eqV, Bool.not_true, Bool.not_false, BEq.rfl, Bool.true_beq, Bool.false_beq, beq_true, beq_false, Nat.sub_self, List.range'_zero, decide_true, decide_false, List.not_mem_nil, false_implies, implies_true, Bool.true_and, Bool.and_true, drawn, pairOk, disj, quietAt, Bool.bne_false, Bool.bne_true, Bool.false_eq_true, applyUpd, Int.reduceEq, Int.reduceNeg, g0, g1, g4]
    exact .inr ⟨_, hrep2, hat.swap hmok hj hk, hch1.trans (hchg2.sub (by simp))⟩

def a31 : ACode :=
     .region [
       ⟨(some 5), .mov (.tmp 1), none⟩,
       ⟨(some 6), .bin .mul (.const (.int .i64 2)) (.tmp 5), none⟩,
       ⟨(some 7), .bin .add (.tmp 6) (.const (.int .i64 1)), none⟩,
       ⟨(some 4), .mov (.tmp 7), none⟩]
      none
def b31 : ACode := .seq (
       .region [
         ⟨(some 8), .mov (.tmp 4), none⟩,
         ⟨(some 9), .mov (.tmp 0), none⟩,
         ⟨(some 10), .nilCheck (.tmp 9), none⟩,
         ⟨(some 11), .fieldAddr 0 (.tmp 10), none⟩,
         ⟨(some 12), .load none (.tmp 11), none⟩,
         ⟨(some 13), .len .slice (.tmp 12), none⟩,
         ⟨(some 14), .bin .geq (.tmp 8) (.tmp 13), none⟩]
        none)
      (
       .cond (.tmp 14) (
        .ret)
       (
        .skip))

def mid31 : ACode := .seq (
        .region [
          ⟨(some 15), .mov (.tmp 4), none⟩,
          ⟨(some 16), .bin .add (.tmp 15) (.const (.int .i64 1)), none⟩,
          ⟨(some 17), .mov (.tmp 0), none⟩,
          ⟨(some 18), .nilCheck (.tmp 17), none⟩,
          ⟨(some 19), .fieldAddr 0 (.tmp 18), none⟩,
          ⟨(some 20), .load none (.tmp 19), none⟩,
          ⟨(some 21), .len .slice (.tmp 20), none⟩,
          ⟨(some 22), .bin .lss (.tmp 16) (.tmp 21), none⟩,
          ⟨(some 23), .mov (.tmp 22), none⟩,
          ⟨(some 24), .mov (.tmp 0), (some (23, true))⟩,
          ⟨(some 25), .mov (.tmp 4), (some (23, true))⟩,
          ⟨(some 26), .bin .add (.tmp 25) (.const (.int .i64 1)), (some (23, true))⟩,
          ⟨(some 27), .mov (.tmp 4), (some (23, true))⟩,
          ⟨(some 28), .call (.func 40) [(.tmp 24), (.tmp 26), (.tmp 27)], (some (23, true))⟩,
          ⟨(some 29), .pick (.tmp 23) (.tmp 28) (.const (.bool false)), none⟩]
         none)
       (
        .cond (.tmp 29) (
         .region [
           ⟨(some 30), .mov (.tmp 4), none⟩,
           ⟨(some 31), .bin .add (.tmp 30) (.const (.int .i64 1)), none⟩,
           ⟨(some 4), .mov (.tmp 31), none⟩]
          none)
        (
         .skip))

def pickK (L : List Node) (j : Nat) : Nat := if 2 * j + 2 < L.length ∧ lt (L.getD (2 * j + 2) (0, 0)) (L.getD (2 * j + 1) (0, 0)) = true then 2 * j + 2 else 2 * j + 1
def pickC (L : List Node) (j : Nat) : Nat := if 2 * j + 2 < L.length then 1 else 0

theorem mid31_spec {tbl : FuncId → Option AFun} {ov : CallSem} (h40 : tbl 40 = some fun40) {s0 s : St} {p m q : Nat} {L : List Node} {wk : Int} (hr : HeapAt s0 s p m q L wk) (hL : L.length < 2 ^ 40) {j : Nat} (h1k : 2 * j + 1 < L.length) {e : Env}
    (g0 : e.get 0 = some (.pointer (some ⟨p, 0, none⟩))) (g1 : e.get 1 = some (.int .i64 j)) (g4 : e.get 4 = some (.int .i64 (2 * j + 1 : Nat))) :
    WCode (fun k => call tbl ov k) mid31 e s fun x e' s' =>
      x = .normal ∧ e'.get 0 = some (.pointer (some ⟨p, 0, none⟩)) ∧ e'.get 1 = some (.int .i64 j) ∧ e'.get 4 = some (.int .i64 (pickK L j : Nat)) ∧ HeapAt s0 s' p m q L (addW (pickC L j) wk) := by
  obtain ⟨es, hrep, hat, hchg⟩ := hr
  have hrep0 := hrep
  obtain ⟨pm, pq, mq, lp, lm, lq, ⟨t, cap, hp, hcap, cc, r, hq, hln, hct⟩, clock0, hm, hmok0⟩ := hrep
  have w3 : IntKind.i64.wrap (((2 * j + 1 : Nat) : Int) + 1) = ((2 * j + 2 : Nat) : Int) := by rw [wrap_in (by omega) (by omega)]; omega
  by_cases htwo : 2 * j + 2 < L.length
  · have d2 : decide (((2 * j + 2 : Nat) : Int) < (L.length : Nat)) = true := decide_eq_true (by omega)
    have hc : pickC L j = 1 := if_pos htwo
    simp only [mid31, params, wc_skip, wc_region, wc_draw, wc_seq, wc_cond, wc_block, wc_exit, wc_ret, next_normal, next_exit, next_ret, inBlock_normal, inBlock_ret, inBlock_exit, sq_apply, nrm_apply, drawnK_apply, boolV_bool, ccond_true, ccond_false, wo_nil, wo_cons, wo_guard, wop, bindP_some, cont_some, cont_none, guardV_bool, guardV_undef, gcont_true, gcont_false, gcont_false', ret_apply, aggK_apply, putK_apply, resK_apply, boolK_apply, ccont_apply, wd_nil, wd_cons, dvals_apply, dcont_some, dcont_none, AOp.vals, rd_tmp, rd_const, rd_func, get_cons, mapList, mapOpt, Option.bind_some, Option.map_some, Nat.reduceEqDiff, if_true, if_false, reduceIte, reduceCtorEq, wv_mov, wv_pick, wv_alloc, wv_box, wv_build, wv_load, wv_loadn, wv_store, wv_nilCheck, wv_bin, wv_eq, wv_un, wv_convInt, wv_convSame, wv_fieldAddr, wv_field, wv_fieldn, wv_extract, wv_lenSlice, wv_lenString, wv_mkMap, wv_call, callee_func, wv_indexAddr, wv_lookup, wv_mapUpdate, wv_mapEntry, wv_entryStore, wv_delete, wv_append, wv_slice, wv_mkSlice, wv_buildSlice, wv_index, wv_copy, wv_lenMap, Abs.cellAt, Abs.rowAt, Abs.storeAt, Heap.get_put, List.getElem?_cons_zero, List.getElem?_cons_succ, Nat.zero_add, Nat.reduceAdd, idx, and_self, Int.toNat_natCast, cellsAt, ne_eq, not_true_eq_false, not_false_eq_true, cellList, Value.cells, List.length_cons, List.length_nil, List.all_cons, List.all_nil, isCell, Bool.and_self, storeL, List.set_cons_zero, List.set_cons_succ, footOf, true_and, and_true, Nat.reduceLeDiff, Nat.le_refl, Nat.reduceMul, Nat.reduceLT, List.nil_append, List.cons_append, List.length_set, ends_normal, ends_ret, endK_apply, resV_tmp, tupleV, binV, unV, eqV, Bool.not_true, Bool.not_false, BEq.rfl, Bool.true_beq, Bool.false_beq, beq_true, beq_false, Nat.sub_self, List.range'_zero, decide_true, decide_false, List.not_mem_nil, false_implies, implies_true, Bool.true_and, Bool.and_true, drawn, pairOk, disj, quietAt, Bool.bne_false, Bool.bne_true, Bool.false_eq_true, applyUpd, Int.reduceEq, Int.reduceNeg, g0, g1, g4, w3, hp, d2]
    refine WCall.mono (less_spec h40 hrep0 htwo h1k) ?_
    rintro v s1 ⟨rfl, hrep1, hchg1⟩
    have hch1 := hchg.trans (hchg1.sub (T := [p, m, q]) (by simp))
    cases hb1 : lt (L.getD (2 * j + 2) (0, 0)) (L.getD (2 * j + 1) (0, 0))
    · have hk : pickK L j = 2 * j + 1 := if_neg (by rw [hb1]; simp)
      simp only [params, wc_skip, wc_region, wc_draw, wc_seq, wc_cond, wc_block, wc_exit, wc_ret, next_normal, next_exit, next_ret, inBlock_normal, inBlock_ret, inBlock_exit, sq_apply, nrm_apply, drawnK_apply, boolV_bool, ccond_true, ccond_false, wo_nil, wo_cons, wo_guard, wop, bindP_some, cont_some, cont_none, guardV_bool, guardV_undef, gcont_true, gcont_false, gcont_false', ret_apply, aggK_apply, putK_apply, resK_apply, boolK_apply, ccont_apply, wd_nil, wd_cons, dvals_apply, dcont_some, dcont_none, AOp.vals, rd_tmp, rd_const, rd_func, get_cons, mapList, mapOpt, Option.bind_some, Option.map_some, Nat.reduceEqDiff, if_true, if_false, reduceIte, reduceCtorEq, wv_mov, wv_pick, wv_alloc, wv_box, wv_build, wv_load, wv_loadn, wv_store, wv_nilCheck, wv_bin, wv_eq, wv_un, wv_convInt, wv_convSame, wv_fieldAddr, wv_field, wv_fieldn, wv_extract, wv_lenSlice, wv_lenString, wv_mkMap, wv_call, callee_func, wv_indexAddr, wv_lookup, wv_mapUpdate, wv_mapEntry, wv_entryStore, wv_delete, wv_append, wv_slice, wv_mkSlice, wv_buildSlice, wv_index, wv_copy, wv_lenMap, Abs.cellAt, Abs.rowAt, Abs.storeAt, Heap.get_put, List.getElem?_cons_zero, List.getElem?_cons_succ, Nat.zero_add, Nat.reduceAdd, idx, and_self, Int.toNat_natCast, cellsAt, ne_eq, not_true_eq_false, not_false_eq_true, cellList, Value.cells, List.length_cons, List.length_nil, List.all_cons, List.all_nil, isCell, Bool.and_self, storeL, List.set_cons_zero, List.set_cons_succ, footOf, true_and, and_true, Nat.reduceLeDiff, Nat.le_refl, Nat.reduceMul, Nat.reduceLT, List.nil_append, List.cons_append, List.length_set, ends_normal, ends_ret, endK_apply, resV_tmp, tupleV, binV, unV, eqV, Bool.not_true, Bool.not_false, BEq.rfl, Bool.true_beq, Bool.false_beq, beq_true, beq_false, Nat.sub_self, List.range'_zero, decide_true, decide_false, List.not_mem_nil, false_implies, implies_true, Bool.true_and, Bool.and_true, drawn, pairOk, disj, quietAt, Bool.bne_false, Bool.bne_true, Bool.false_eq_true, applyUpd, Int.reduceEq, Int.reduceNeg, g0, g1, g4, w3, hk, hc]
      exact ⟨es, hrep1, hat, hch1⟩
    · have hk : pickK L j = 2 * j + 2 := if_pos ⟨htwo, hb1⟩
      simp only [params, wc_skip, wc_region, wc_draw, wc_seq, wc_cond, wc_block, wc_exit, wc_ret, next_normal, next_exit, next_ret, inBlock_normal, inBlock_ret, inBlock_exit, sq_apply, nrm_apply, drawnK_apply, boolV_bool, ccond_true, ccond_false, wo_nil, wo_cons, wo_guard, wop, bindP_some, cont_some, cont_none, guardV_bool, guardV_undef, gcont_true, gcont_false, gcont_false', ret_apply, aggK_apply, putK_apply, resK_apply, boolK_apply, ccont_apply, wd_nil, wd_cons, dvals_apply, dcont_some, dcont_none, AOp.vals, rd_tmp, rd_const, rd_func, get_cons, mapList, mapOpt, Option.bind_some, Option.map_some, Nat.reduceEqDiff, if_true, if_false, reduceIte, reduceCtorEq, wv_mov, wv_pick, wv_alloc, wv_box, wv_build, wv_load, wv_loadn, wv_store, wv_nilCheck, wv_bin, wv_eq, wv_un, wv_convInt, wv_convSame, wv_fieldAddr, wv_field, wv_fieldn, wv_extract, wv_lenSlice, wv_lenString, wv_mkMap, wv_call, callee_func, wv_indexAddr, wv_lookup, wv_mapUpdate, wv_mapEntry, wv_entryStore, wv_delete, wv_append, wv_slice, wv_mkSlice, wv_buildSlice, wv_index, wv_copy, wv_lenMap, Abs.cellAt, Abs.rowAt, Abs.storeAt, Heap.get_put, List.getElem?_cons_zero, List.getElem?_cons_succ, Nat.zero_add, Nat.reduceAdd, idx, and_self, Int.toNat_natCast, cellsAt, ne_eq, not_true_eq_false, not_false_eq_true, cellList, Value.cells, List.length_cons, List.length_nil, List.all_cons, List.all_nil, isCell, Bool.and_self, storeL, List.set_cons_zero, List.set_cons_succ, footOf, true_and, and_true, Nat.reduceLeDiff, Nat.le_refl, Nat.reduceMul, Nat.reduceLT, List.nil_append, List.cons_append, List.length_set, ends_normal, ends_ret, endK_apply, resV_tmp, tupleV, binV, unV, eqV, Bool.not_true, Bool.not_false, BEq.rfl, Bool.true_beq, Bool.false_beq, beq_true, beq_false, Nat.sub_self, List.range'_zero, decide_true, decide_false, List.not_mem_nil, false_implies, implies_true, Bool.true_and, Bool.and_true, drawn, pairOk, disj, quietAt, Bool.bne_false, Bool.bne_true, Bool.false_eq_true, applyUpd, Int.reduceEq, Int.reduceNeg, g0, g1, g4, w3, hk, hc]
      exact ⟨es, hrep1, hat, hch1⟩
  · have d2 : decide (((2 * j + 2 : Nat) : Int) < (L.length : Nat)) = false := decide_eq_false (by omega)
    have hc : pickC L j = 0 := if_neg htwo
    have hk : pickK L j = 2 * j + 1 := if_neg (fun h => htwo h.1)
    simp only [mid31, params, wc_skip, wc_region, wc_draw, wc_seq, wc_cond, wc_block, wc_exit, wc_ret, next_normal, next_exit, next_ret, inBlock_normal, inBlock_ret, inBlock_exit, sq_apply, nrm_apply, drawnK_apply, boolV_bool, ccond_true, ccond_false, wo_nil, wo_cons, wo_guard, wop, bindP_some, cont_some, cont_none, guardV_bool, guardV_undef, gcont_true, gcont_false, gcont_false', ret_apply, aggK_apply, putK_apply, resK_apply, boolK_apply, ccont_apply, wd_nil, wd_cons, dvals_apply, dcont_some, dcont_none, AOp.vals, rd_tmp, rd_const, rd_func, get_cons, mapList, mapOpt, Option.bind_some, Option.map_some, Nat.reduceEqDiff, if_true, if_false, reduceIte, reduceCtorEq, wv_mov, wv_pick, wv_alloc, wv_box, wv_build, wv_load, wv_loadn, wv_store, wv_nilCheck, wv_bin, wv_eq, wv_un, wv_convInt, wv_convSame, wv_fieldAddr, wv_field, wv_fieldn, wv_extract, wv_lenSlice, wv_lenString, wv_mkMap, wv_call, callee_func, wv_indexAddr, wv_lookup, wv_mapUpdate, wv_mapEntry, wv_entryStore, wv_delete, wv_append, wv_slice, wv_mkSlice, wv_buildSlice, wv_index, wv_copy, wv_lenMap, Abs.cellAt, Abs.rowAt, Abs.storeAt, Heap.get_put, List.getElem?_cons_zero, List.getElem?_cons_succ, Nat.zero_add, Nat.reduceAdd, idx, and_self, Int.toNat_natCast, cellsAt, ne_eq, not_true_eq_false, not_false_eq_true, cellList, Value.cells, List.length_cons, List.length_nil, List.all_cons, List.all_nil, isCell, Bool.and_self, storeL, List.set_cons_zero, List.set_cons_succ, footOf, true_and, and_true, Nat.reduceLeDiff, Nat.le_refl, Nat.reduceMul, Nat.reduceLT, List.nil_append, List.cons_append, List.length_set, ends_normal, ends_ret, endK_apply, resV_tmp, tupleV, binV, unV, eqV, Bool.not_true, Bool.not_false, BEq.rfl, Bool.true_beq, Bool.false_beq, beq_true, beq_false, Nat.sub_self, List.range'_zero, decide_true, decide_false, List.not_mem_nil, false_implies, implies_true, Bool.true_and, Bool.and_true, drawn, pairOk, disj, quietAt, Bool.bne_false, Bool.bne_true, Bool.false_eq_true, applyUpd, Int.reduceEq, Int.reduceNeg, g0, g1, g4, w3, hp, d2, hk, hc]
    exact ⟨es, hrep0, hat, hchg⟩

def ab31 (rest : ACode) : ACode := .seq a31 (.seq b31 rest)

theorem ab31_spec {tbl : FuncId → Option AFun} {ov : CallSem} {s0 s : St} {p m q : Nat} {L : List Node} {wk : Int} (hr : HeapAt s0 s p m q L wk) (hL : L.length < 2 ^ 40) {j : Nat} (hj : j < L.length) {e : Env} {rest : ACode}
    (g0 : e.get 0 = some (.pointer (some ⟨p, 0, none⟩))) (g1 : e.get 1 = some (.int .i64 j)) {Q : AExit → Env → St → Prop}
    (hs : L.length ≤ 2 * j + 1 → ∀ e', Q .ret e' s)
    (hn : ¬ L.length ≤ 2 * j + 1 → ∀ e' : Env, e'.get 0 = some (.pointer (some ⟨p, 0, none⟩)) → e'.get 1 = some (.int .i64 j) → e'.get 4 = some (.int .i64 (2 * j + 1 : Nat)) → WCode (fun k => call tbl ov k) rest e' s Q) :
    WCode (fun k => call tbl ov k) (ab31 rest) e s Q := by
  have w1 : IntKind.i64.wrap (2 * (j : Int)) = ((2 * j : Nat) : Int) := by rw [wrap_in (by omega) (by omega)]; omega
  have w2 : IntKind.i64.wrap (((2 * j : Nat) : Int) + 1) = ((2 * j + 1 : Nat) : Int) := by rw [wrap_in (by omega) (by omega)]; omega
  obtain ⟨es, hrep, hat, hchg⟩ := hr
  obtain ⟨pm, pq, mq, lp, lm, lq, ⟨t, cap, hp, hcap, cc, r, hq, hln, hct⟩, clock0, hm, hmok0⟩ := hrep
  by_cases hlt : L.length ≤ 2 * j + 1
  · have d1 : decide (((2 * j + 1 : Nat) : Int) ≥ (L.length : Nat)) = true := decide_eq_true (by omega)
    simp only [ab31, a31, b31, params, wc_skip, wc_region, wc_draw, wc_seq, wc_cond, wc_block, wc_exit, wc_ret, next_normal, next_exit, next_ret, inBlock_normal, inBlock_ret, inBlock_exit, sq_apply, nrm_apply, drawnK_apply, boolV_bool, ccond_true, ccond_false, wo_nil, wo_cons, wo_guard, wop, bindP_some, cont_some, cont_none, guardV_bool, guardV_undef, gcont_true, gcont_false, gcont_false', ret_apply, aggK_apply, putK_apply, resK_apply, boolK_apply, ccont_apply, wd_nil, wd_cons, dvals_apply, dcont_some, dcont_none, AOp.vals, rd_tmp, rd_const, rd_func, get_cons, mapList, mapOpt, Option.bind_some, Option.map_some, Nat.reduceEqDiff, if_true, if_false, reduceIte, reduceCtorEq, wv_mov, wv_pick, wv_alloc, wv_box, wv_build, wv_load, wv_loadn, wv_store, wv_nilCheck, wv_bin, wv_eq, wv_un, wv_convInt, wv_convSame, wv_fieldAddr, wv_field, wv_fieldn, wv_extract, wv_lenSlice, wv_lenString, wv_mkMap, wv_call, callee_func, wv_indexAddr, wv_lookup, wv_mapUpdate, wv_mapEntry, wv_entryStore, wv_delete, wv_append, wv_slice, wv_mkSlice, wv_buildSlice, wv_index, wv_copy, wv_lenMap, Abs.cellAt, Abs.rowAt, Abs.storeAt, Heap.get_put, List.getElem?_cons_zero, List.getElem?_cons_succ, Nat.zero_add, Nat.reduceAdd, idx, and_self, Int.toNat_natCast, cellsAt, ne_eq, not_true_eq_false, not_false_eq_true, cellList, Value.cells, List.length_cons, List.length_nil, List.all_cons, List.all_nil, isCell, Bool.and_self, storeL, List.set_cons_zero, List.set_cons_succ, footOf, true_and, and_true, Nat.reduceLeDiff, Nat.le_refl, Nat.reduceMul, Nat.reduceLT, List.nil_append, List.cons_append, List.length_set, ends_normal, ends_ret, endK_apply, resV_tmp, tupleV, binV, unV, eqV, Bool.not_true, Bool.not_false, BEq.rfl, Bool.true_beq, Bool.false_beq, beq_true, beq_false, Nat.sub_self, List.range'_zero, decide_true, decide_false, List.not_mem_nil, false_implies, implies_true, Bool.true_and, Bool.and_true, drawn, pairOk, disj, quietAt, Bool.bne_false, Bool.bne_true, Bool.false_eq_true, applyUpd, Int.reduceEq, Int.reduceNeg, g0, g1, w1, w2, hp, d1]
    exact hs hlt _
  · have d1 : decide (((2 * j + 1 : Nat) : Int) ≥ (L.length : Nat)) = false := decide_eq_false (by omega)
    simp only [ab31, a31, b31, params, wc_skip, wc_region, wc_draw, wc_seq, wc_cond, wc_block, wc_exit, wc_ret, next_normal, next_exit, next_ret, inBlock_normal, inBlock_ret, inBlock_exit, sq_apply, nrm_apply, drawnK_apply, boolV_bool, ccond_true, ccond_false, wo_nil, wo_cons, wo_guard, wop, bindP_some, cont_some, cont_none, guardV_bool, guardV_undef, gcont_true, gcont_false, gcont_false', ret_apply, aggK_apply, putK_apply, resK_apply, boolK_apply, ccont_apply, wd_nil, wd_cons, dvals_apply, dcont_some, dcont_none, AOp.vals, rd_tmp, rd_const, rd_func, get_cons, mapList, mapOpt, Option.bind_some, Option.map_some, Nat.reduceEqDiff, if_true, if_false, reduceIte, reduceCtorEq, wv_mov, wv_pick, wv_alloc, wv_box, wv_build, wv_load, wv_loadn, wv_store, wv_nilCheck, wv_bin, wv_eq, wv_un, wv_convInt, wv_convSame, wv_fieldAddr, wv_field, wv_fieldn, wv_extract, wv_lenSlice, wv_lenString, wv_mkMap, wv_call, callee_func, wv_indexAddr, wv_lookup, wv_mapUpdate, wv_mapEntry, wv_entryStore, wv_delete, wv_append, wv_slice, wv_mkSlice, wv_buildSlice, wv_index, wv_copy, wv_lenMap, Abs.cellAt, Abs.rowAt, Abs.storeAt, Heap.get_put, List.getElem?_cons_zero, List.getElem?_cons_succ, Nat.zero_add, Nat.reduceAdd, idx, and_self, Int.toNat_natCast, cellsAt, ne_eq, not_true_eq_false, not_false_eq_true, cellList, Value.cells, List.length_cons, List.length_nil, List.all_cons, List.all_nil, isCell, Bool.and_self, storeL, List.set_cons_zero, List.set_cons_succ, footOf, true_and, and_true, Nat.reduceLeDiff, Nat.le_refl, Nat.reduceMul, Nat.reduceLT, List.nil_append, List.cons_append, List.length_set, ends_normal, ends_ret, endK_apply, resV_tmp, tupleV, binV, unV, eqV, Bool.not_true, Bool.not_false, BEq.rfl, Bool.true_beq, Bool.false_beq, beq_true, beq_false, Nat.sub_self, List.range'_zero, decide_true, decide_false, List.not_mem_nil, false_implies, implies_true, Bool.true_and, Bool.and_true, drawn, pairOk, disj, quietAt, Bool.bne_false, Bool.bne_true, Bool.false_eq_true, applyUpd, Int.reduceEq, Int.reduceNeg, g0, g1, w1, w2, hp, d1]
    refine hn hlt _ ?_ ?_ ?_ <;> simp only [get_cons, Nat.reduceEqDiff, reduceIte, g0, g1]

theorem code31_eq : code31 = .block 0 (.loop [0, 1] (.block 1 (ab31 (.seq mid31 tail31)))) := rfl

theorem down_spec {tbl : FuncId → Option AFun} {ov : CallSem} (h31 : tbl 31 = some fun31) (h32 : tbl 32 = some fun32) (h40 : tbl 40 = some fun40) {s0 s : St} {p m q : Nat} {L : List Node} {wk : Int} (hr : HeapAt s0 s p m q L wk) {i : Nat} (hi : i < L.length) (hL : L.length < 2 ^ 40) :
    WCall (fun k => call tbl ov k) 31 [.pointer (some ⟨p, 0, none⟩), .int .i64 i] s fun v s' =>
      HeapAt s0 s' p m q (downL L.length L i).1 (addW (downL L.length L i).2 wk) := by
  refine WCall.of h31 rfl ?_
  simp only [fun31, code31_eq, wc_block, params]
  refine wc_loop (fun n e s => ∃ j L' c, n = L.length - j ∧ e.get 0 = some (.pointer (some ⟨p, 0, none⟩)) ∧ e.get 1 = some (.int .i64 (j : Nat)) ∧ HeapAt s0 s p m q L' (addW c wk) ∧ j < L'.length ∧ L'.length = L.length ∧
    (downL L.length L i).1 = (downL L.length L' j).1 ∧ (downL L.length L i).2 = (downL L.length L' j).2 + c) (L.length - i) ?_ ?_
  · exact ⟨i, L, 0, rfl, rfl, rfl, hr, hi, rfl, rfl, rfl⟩
  · rintro n e s ⟨j, L', c, rfl, g0, g1, hr, hj, hlen, hu1, hu2⟩
    have hre : restrict [0, 1] e = [(0, .pointer (some ⟨p, 0, none⟩)), (1, .int .i64 (j : Nat))] := by simp [restrict, g0, g1]
    rw [hre]
    have g0' : Env.get [(0, .pointer (some ⟨p, 0, none⟩)), (1, Value.int .i64 (j : Nat))] 0 = some (.pointer (some ⟨p, 0, none⟩)) := rfl
    have g1' : Env.get [(0, .pointer (some ⟨p, 0, none⟩)), (1, Value.int .i64 (j : Nat))] 1 = some (.int .i64 (j : Nat)) := rfl
    obtain ⟨f, hf⟩ : ∃ f, L.length = f + 1 := ⟨L.length - 1, by omega⟩
    have w1 : IntKind.i64.wrap (2 * (j : Int)) = ((2 * j : Nat) : Int) := by rw [wrap_in (by omega) (by omega)]; omega
    have w2 : IntKind.i64.wrap (((2 * j : Nat) : Int) + 1) = ((2 * j + 1 : Nat) : Int) := by rw [wrap_in (by omega) (by omega)]; omega
    refine ab31_spec hr (by omega) hj g0' g1' ?_ ?_
    · intro hlt e'
      simp only [next_ret, inBlock_ret, ends_ret, mapList, bindP_some, endK_apply]
      rw [hu1, hu2, downL_stop hlt]
      simpa using hr
    intro hlt e' a0 a1 a4
    rw [wc_seq]
    refine WCode.mono ?_ (mid31_spec h40 hr (by omega) (by omega) a0 a1 a4)
    rintro x e1 s1 ⟨rfl, b0, b1, b4, hr1⟩
    have hkl : pickK L' j < L'.length := by unfold pickK; split <;> omega
    have hkj : j < pickK L' j := by unfold pickK; split <;> omega
    have hst := downL_step (f := f) (L := L') (i := j) (k := pickK L' j) (c1 := pickC L' j) hlt rfl rfl
    simp only [next_normal, sq_apply]
    refine WCode.mono ?_ (tail31_spec h32 h40 hr1 hj hkl b0 b1 b4)
    rintro x e2 s2 (⟨rfl, hb, hr2⟩ | ⟨rfl, hb, c0, c1, hr2⟩)
    · rw [hb] at hst
      simp only [params, wc_skip, wc_region, wc_draw, wc_seq, wc_cond, wc_block, wc_exit, wc_ret, next_normal, next_exit, next_ret, inBlock_normal, inBlock_ret, inBlock_exit, sq_apply, nrm_apply, drawnK_apply, boolV_bool, ccond_true, ccond_false, wo_nil, wo_cons, wo_guard, wop, bindP_some, cont_some, cont_none, guardV_bool, guardV_undef, gcont_true, gcont_false, gcont_false', ret_apply, aggK_apply, putK_apply, resK_apply, boolK_apply, ccont_apply, wd_nil, wd_cons, dvals_apply, dcont_some, dcont_none, AOp.vals, rd_tmp, rd_const, rd_func, get_cons, mapList, mapOpt, Option.bind_some, Option.map_some, Nat.reduceEqDiff, if_true, if_false, reduceIte, reduceCtorEq, wv_mov, wv_pick, wv_alloc, wv_box, wv_build, wv_load, wv_loadn, wv_store, wv_nilCheck, wv_bin, wv_eq, wv_un, wv_convInt, wv_convSame, wv_fieldAddr, wv_field, wv_fieldn, wv_extract, wv_lenSlice, wv_lenString, wv_mkMap, wv_call, callee_func, wv_indexAddr, wv_lookup, wv_mapUpdate, wv_mapEntry, wv_entryStore, wv_delete, wv_append, wv_slice, wv_mkSlice, wv_buildSlice, wv_index, wv_copy, wv_lenMap, Abs.cellAt, Abs.rowAt, Abs.storeAt, Heap.get_put, List.getElem?_cons_zero, List.getElem?_cons_succ, Nat.zero_add, Nat.reduceAdd, idx, and_self, Int.toNat_natCast, cellsAt, ne_eq, not_true_eq_false, not_false_eq_true, cellList, Value.cells, List.length_cons, List.length_nil, List.all_cons, List.all_nil, isCell, Bool.and_self, storeL, List.set_cons_zero, List.set_cons_succ, footOf, true_and, and_true, Nat.reduceLeDiff, Nat.le_refl, Nat.reduceMul, Nat.reduceLT, List.nil_append, List.cons_append, List.length_set, ends_normal, ends_ret, endK_apply, resV_tmp, tupleV, binV, unV, eqV, Bool.not_true, Bool.not_false, BEq.rfl, Bool.true_beq, Bool.false_beq, beq_true, beq_false, Nat.sub_self, List.range'_zero, decide_true, decide_false, List.not_mem_nil, false_implies, implies_true, Bool.true_and, Bool.and_true, drawn, pairOk, disj, quietAt, Bool.bne_false, Bool.bne_true, Bool.false_eq_true, applyUpd, Int.reduceEq, Int.reduceNeg]
      rw [hu1, hu2, hf, hst]
      simp only [Bool.false_eq_true, if_false]
      rw [show pickC L' j + 1 + c = (pickC L' j + c) + 1 by omega]
      simpa only [addW, addW_add] using hr2
    · rw [hb] at hst
      have hfu := downL_fuel f (f + 1) (swapL L' j (pickK L' j)) (pickK L' j) (by rw [swapL_length]; omega) (by rw [swapL_length]; omega)
      simp only [params, wc_skip, wc_region, wc_draw, wc_seq, wc_cond, wc_block, wc_exit, wc_ret, next_normal, next_exit, next_ret, inBlock_normal, inBlock_ret, inBlock_exit, sq_apply, nrm_apply, drawnK_apply, boolV_bool, ccond_true, ccond_false, wo_nil, wo_cons, wo_guard, wop, bindP_some, cont_some, cont_none, guardV_bool, guardV_undef, gcont_true, gcont_false, gcont_false', ret_apply, aggK_apply, putK_apply, resK_apply, boolK_apply, ccont_apply, wd_nil, wd_cons, dvals_apply, dcont_some, dcont_none, AOp.vals, rd_tmp, rd_const, rd_func, get_cons, mapList, mapOpt, Option.bind_some, Option.map_some, Nat.reduceEqDiff, if_true, if_false, reduceIte, reduceCtorEq, wv_mov, wv_pick, wv_alloc, wv_box, wv_build, wv_load, wv_loadn, wv_store, wv_nilCheck, wv_bin, wv_eq, wv_un, wv_convInt, wv_convSame, wv_fieldAddr, wv_field, wv_fieldn, wv_extract, wv_lenSlice, wv_lenString, wv_mkMap, wv_call, callee_func, wv_indexAddr, wv_lookup, wv_mapUpdate, wv_mapEntry, wv_entryStore, wv_delete, wv_append, wv_slice, wv_mkSlice, wv_buildSlice, wv_index, wv_copy, wv_lenMap, Abs.cellAt, Abs.rowAt, Abs.storeAt, Heap.get_put, List.getElem?_cons_zero, List.getElem?_cons_succ, Nat.zero_add, Nat.reduceAdd, idx, and_self, Int.toNat_natCast, cellsAt, ne_eq, not_true_eq_false, not_false_eq_true, cellList, Value.cells, List.length_cons, List.length_nil, List.all_cons, List.all_nil, isCell, Bool.and_self, storeL, List.set_cons_zero, List.set_cons_succ, footOf, true_and, and_true, Nat.reduceLeDiff, Nat.le_refl, Nat.reduceMul, Nat.reduceLT, List.nil_append, List.cons_append, List.length_set, ends_normal, ends_ret, endK_apply, resV_tmp, tupleV, binV, unV, eqV, Bool.not_true, Bool.not_false, BEq.rfl, Bool.true_beq, Bool.false_beq, beq_true, beq_false, Nat.sub_self, List.range'_zero, decide_true, decide_false, List.not_mem_nil, false_implies, implies_true, Bool.true_and, Bool.and_true, drawn, pairOk, disj, quietAt, Bool.bne_false, Bool.bne_true, Bool.false_eq_true, applyUpd, Int.reduceEq, Int.reduceNeg]
      refine ⟨L.length - pickK L' j, by omega, pickK L' j, swapL L' j (pickK L' j), (pickC L' j + c) + 1, rfl, c0, c1, by simpa only [addW, addW_add] using hr2, by rw [swapL_length]; omega, by rw [swapL_length]; exact hlen, ?_, ?_⟩
      · rw [hu1, hf, hst, ← hfu]; simp only [if_true]
      · rw [hu2, hf, hst, ← hfu]; simp only [if_true]; omega

end Go.Proofs.Ytaigiehdnhehnaa
