/-
  HeapSorts: the second loop's invariant, and the whole.
-/
import Derived.Test.YtaigiehdnhehnaaR1Sorts2
set_option maxRecDepth 100000
set_option linter.unusedVariables false
set_option linter.unusedSimpArgs false
namespace Go.Proofs.Ytaigiehdnhehnaa
open Go Go.Abs

/-- What is left of the first n numbers. -/
def Left (zs : List Int) (n : Nat) (bs : List Bool) (L : List Node) : Prop := ∀ m, m ∈ L ↔ ∃ j : Nat, j < n ∧ bs.getD j false = false ∧ m = ((j : Int), zs.getD j 0)

section
variable {tbl : FuncId → Option AFun} {ov : CallSem} {s s0 : St} {p : Nat} {e : Env} {Q : AExit → Env → St → Prop} {av : Value} {zs : List Int} {len : Nat}

theorem b7b4_gen (T : HeapTbl tbl) {S : List Nat} {L : List Node} {wk : Int} (h : HP s p S L wk) (ho : Ord L) (hL : L.length < 2 ^ 30) {id key : Int} (hin : (id, key) ∈ L)
    (g3 : e.get 3 = some (.pointer (some ⟨p, 0, none⟩))) (g10 : e.get 10 = some (ik id)) (g89 : e.get 89 = some (.bool false)) :
    WCode (fun k => call tbl ov k) b7b4 e s fun x e' s' => x = .normal ∧ (∀ j, j < 16 → e'.get j = e.get j) ∧ e'.get 95 = some (.bool false) ∧ ∃ L' c, HP s' p S L' (addW c wk) ∧ Chg S s s' ∧ DropTo L id L' c := by
  simp only [b7b4, b7b, a3_7, code3, opsOf, List.drop_succ_cons, List.drop_zero, List.take_succ_cons, List.take_zero, params, wc_skip, wc_region, wc_draw, wc_seq, wc_cond, wc_block, wc_exit, wc_ret, next_normal, next_exit, next_ret, inBlock_normal, inBlock_ret, inBlock_exit, sq_apply, nrm_apply, drawnK_apply, boolV_bool, ccond_true, ccond_false, wo_nil, wo_cons, wo_guard, wop, bindP_some, cont_some, cont_none, guardV_bool, guardV_undef, gcont_true, gcont_false, gcont_false', ret_apply, aggK_apply, putK_apply, resK_apply, boolK_apply, ccont_apply, wd_nil, wd_cons, dvals_apply, dcont_some, dcont_none, AOp.vals, rd_tmp, rd_const, rd_func, get_cons, mapList, mapOpt, Option.bind_some, Option.map_some, Nat.reduceEqDiff, if_true, if_false, reduceIte, reduceCtorEq, wv_mov, wv_pick, wv_alloc, wv_box, wv_build, wv_load, wv_loadn, wv_store, wv_nilCheck, wv_bin, wv_eq, wv_un, wv_convInt, wv_convSame, wv_fieldAddr, wv_field, wv_fieldn, wv_extract, wv_lenSlice, wv_lenString, wv_mkMap, wv_call, callee_func, wv_indexAddr, wv_lookup, wv_mapUpdate, wv_mapEntry, wv_entryStore, wv_delete, wv_append, wv_slice, wv_mkSlice, wv_buildSlice, wv_index, wv_copy, wv_lenMap, Abs.cellAt, Abs.rowAt, Abs.storeAt, Heap.get_put, List.getElem?_cons_zero, List.getElem?_cons_succ, Nat.zero_add, Nat.reduceAdd, idx, and_self, Int.toNat_natCast, cellsAt, ne_eq, not_true_eq_false, not_false_eq_true, cellList, Value.cells, List.length_cons, List.length_nil, List.all_cons, List.all_nil, isCell, Bool.and_self, storeL, List.set_cons_zero, List.set_cons_succ, footOf, true_and, and_true, Nat.reduceLeDiff, Nat.le_refl, Nat.reduceMul, Nat.reduceLT, List.nil_append, List.cons_append, List.length_set, ends_normal, ends_ret, endK_apply, resV_tmp, tupleV, binV, unV, eqV, Bool.not_true, Bool.not_false, BEq.rfl, Bool.true_beq, Bool.false_beq, beq_true, beq_false, Nat.sub_self, List.range'_zero, decide_true, decide_false, List.not_mem_nil, false_implies, implies_true, Bool.true_and, Bool.and_true, drawn, pairOk, disj, quietAt, Bool.bne_false, Bool.bne_true, Bool.false_eq_true, applyUpd, Int.reduceEq, Int.reduceNeg, g3, g10, g89]
  refine WCall.mono (drop_spec T.h16 T.h30 T.h31 T.h32 T.h40 h ho hL hin) ?_
  rintro v s1 ⟨rfl, L', c, hh, hc, hd⟩
  simp only [params, wc_skip, wc_region, wc_draw, wc_seq, wc_cond, wc_block, wc_exit, wc_ret, next_normal, next_exit, next_ret, inBlock_normal, inBlock_ret, inBlock_exit, sq_apply, nrm_apply, drawnK_apply, boolV_bool, ccond_true, ccond_false, wo_nil, wo_cons, wo_guard, wop, bindP_some, cont_some, cont_none, guardV_bool, guardV_undef, gcont_true, gcont_false, gcont_false', ret_apply, aggK_apply, putK_apply, resK_apply, boolK_apply, ccont_apply, wd_nil, wd_cons, dvals_apply, dcont_some, dcont_none, AOp.vals, rd_tmp, rd_const, rd_func, get_cons, mapList, mapOpt, Option.bind_some, Option.map_some, Nat.reduceEqDiff, if_true, if_false, reduceIte, reduceCtorEq, wv_mov, wv_pick, wv_alloc, wv_box, wv_build, wv_load, wv_loadn, wv_store, wv_nilCheck, wv_bin, wv_eq, wv_un, wv_convInt, wv_convSame, wv_fieldAddr, wv_field, wv_fieldn, wv_extract, wv_lenSlice, wv_lenString, wv_mkMap, wv_call, callee_func, wv_indexAddr, wv_lookup, wv_mapUpdate, wv_mapEntry, wv_entryStore, wv_delete, wv_append, wv_slice, wv_mkSlice, wv_buildSlice, wv_index, wv_copy, wv_lenMap, Abs.cellAt, Abs.rowAt, Abs.storeAt, Heap.get_put, List.getElem?_cons_zero, List.getElem?_cons_succ, Nat.zero_add, Nat.reduceAdd, idx, and_self, Int.toNat_natCast, cellsAt, ne_eq, not_true_eq_false, not_false_eq_true, cellList, Value.cells, List.length_cons, List.length_nil, List.all_cons, List.all_nil, isCell, Bool.and_self, storeL, List.set_cons_zero, List.set_cons_succ, footOf, true_and, and_true, Nat.reduceLeDiff, Nat.le_refl, Nat.reduceMul, Nat.reduceLT, List.nil_append, List.cons_append, List.length_set, ends_normal, ends_ret, endK_apply, resV_tmp, tupleV, binV, unV, eqV, Bool.not_true, Bool.not_false, BEq.rfl, Bool.true_beq, Bool.false_beq, beq_true, beq_false, Nat.sub_self, List.range'_zero, decide_true, decide_false, List.not_mem_nil, false_implies, implies_true, Bool.true_and, Bool.and_true, drawn, pairOk, disj, quietAt, Bool.bne_false, Bool.bne_true, Bool.false_eq_true, applyUpd, Int.reduceEq, Int.reduceNeg]
  refine ⟨fun j hj => ?_, L', c, hh, hc, hd⟩
  simp (disch := omega) only [get_cons, if_neg]

theorem b7c_gen {n j b : Nat} {bs : List Bool} (hs : SeenAt s b bs) (hbs : bs.length = n) (hj : j < n) {key : Int}
    (g6 : e.get 6 = some (.slice (some ⟨b, 0, none⟩) n n)) (g10 : e.get 10 = some (ik j)) (g11 : e.get 11 = some (ik key)) :
    WCode (fun k => call tbl ov k) b7c e s fun x e' s' => x = .normal ∧ (∀ i, i < 7 → e'.get i = e.get i) ∧ e'.get 9 = e.get 9 ∧ e'.get 7 = some (ik key) ∧ e'.get 8 = some (ik j) ∧ SeenAt s' b (bs.set j true) ∧ Chg [b] s s' := by
  obtain ⟨hb, t2, hs⟩ := hs
  have d3 : (0 : Int) ≤ j := by omega
  have d5 : (j : Int) < (n : Nat) := by omega
  have d6 : j + 1 ≤ (bs.map Value.bool).length := by rw [List.length_map]; omega
  simp only [b7c, a3_7, code3, params, wc_skip, wc_region, wc_draw, wc_seq, wc_cond, wc_block, wc_exit, wc_ret, next_normal, next_exit, next_ret, inBlock_normal, inBlock_ret, inBlock_exit, sq_apply, nrm_apply, drawnK_apply, boolV_bool, ccond_true, ccond_false, wo_nil, wo_cons, wo_guard, wop, bindP_some, cont_some, cont_none, guardV_bool, guardV_undef, gcont_true, gcont_false, gcont_false', ret_apply, aggK_apply, putK_apply, resK_apply, boolK_apply, ccont_apply, wd_nil, wd_cons, dvals_apply, dcont_some, dcont_none, AOp.vals, rd_tmp, rd_const, rd_func, get_cons, mapList, mapOpt, Option.bind_some, Option.map_some, Nat.reduceEqDiff, if_true, if_false, reduceIte, reduceCtorEq, wv_mov, wv_pick, wv_alloc, wv_box, wv_build, wv_load, wv_loadn, wv_store, wv_nilCheck, wv_bin, wv_eq, wv_un, wv_convInt, wv_convSame, wv_fieldAddr, wv_field, wv_fieldn, wv_extract, wv_lenSlice, wv_lenString, wv_mkMap, wv_call, callee_func, wv_indexAddr, wv_lookup, wv_mapUpdate, wv_mapEntry, wv_entryStore, wv_delete, wv_append, wv_slice, wv_mkSlice, wv_buildSlice, wv_index, wv_copy, wv_lenMap, Abs.cellAt, Abs.rowAt, Abs.storeAt, Heap.get_put, List.getElem?_cons_zero, List.getElem?_cons_succ, Nat.zero_add, Nat.reduceAdd, idx, and_self, Int.toNat_natCast, cellsAt, ne_eq, not_true_eq_false, not_false_eq_true, cellList, Value.cells, List.length_cons, List.length_nil, List.all_cons, List.all_nil, isCell, Bool.and_self, storeL, List.set_cons_zero, List.set_cons_succ, footOf, true_and, and_true, Nat.reduceLeDiff, Nat.le_refl, Nat.reduceMul, Nat.reduceLT, List.nil_append, List.cons_append, List.length_set, ends_normal, ends_ret, endK_apply, resV_tmp, tupleV, binV, unV, eqV, Bool.not_true, Bool.not_false, BEq.rfl, Bool.true_beq, Bool.false_beq, beq_true, beq_false, Nat.sub_self, List.range'_zero, decide_true, decide_false, List.not_mem_nil, false_implies, implies_true, Bool.true_and, Bool.and_true, drawn, pairOk, disj, quietAt, Bool.bne_false, Bool.bne_true, Bool.false_eq_true, applyUpd, Int.reduceEq, Int.reduceNeg, g6, g10, g11, d3, d5, d6, hs, Nat.mul_one]
  refine ⟨fun i hi => ?_, ⟨hb, t2, ?_⟩, ⟨Nat.le_refl _, fun i hi hn => ?_⟩⟩
  · simp (disch := omega) only [get_cons, if_neg]
  · simp only [Heap.get_put, if_true, List.map_set]
  · simp only [List.mem_cons, List.not_mem_nil, or_false] at hn
    simp only [Heap.get_put, hn, if_false]

theorem n7_gen {i : Nat} (hi : i < 2 ^ 60) (g9 : e.get 9 = some (ik i)) : WCode (fun k => call tbl ov k) n7 e s fun x e' s' => x = .normal ∧ (∀ i, i < 9 → e'.get i = e.get i) ∧ e'.get 9 = some (ik (i + 1 : Nat)) ∧ s' = s := by
  have w : IntKind.i64.wrap ((i : Int) + 1) = ((i + 1 : Nat) : Int) := by rw [wrap_in (by omega) (by omega)]; omega
  simp only [n7, a3_7, code3, params, wc_skip, wc_region, wc_draw, wc_seq, wc_cond, wc_block, wc_exit, wc_ret, next_normal, next_exit, next_ret, inBlock_normal, inBlock_ret, inBlock_exit, sq_apply, nrm_apply, drawnK_apply, boolV_bool, ccond_true, ccond_false, wo_nil, wo_cons, wo_guard, wop, bindP_some, cont_some, cont_none, guardV_bool, guardV_undef, gcont_true, gcont_false, gcont_false', ret_apply, aggK_apply, putK_apply, resK_apply, boolK_apply, ccont_apply, wd_nil, wd_cons, dvals_apply, dcont_some, dcont_none, AOp.vals, rd_tmp, rd_const, rd_func, get_cons, mapList, mapOpt, Option.bind_some, Option.map_some, Nat.reduceEqDiff, if_true, if_false, reduceIte, reduceCtorEq, wv_mov, wv_pick, wv_alloc, wv_box, wv_build, wv_load, wv_loadn, wv_store, wv_nilCheck, wv_bin, wv_eq, wv_un, wv_convInt, wv_convSame, wv_fieldAddr, wv_field, wv_fieldn, wv_extract, wv_lenSlice, wv_lenString, wv_mkMap, wv_call, callee_func, wv_indexAddr, wv_lookup, wv_mapUpdate, wv_mapEntry, wv_entryStore, wv_delete, wv_append, wv_slice, wv_mkSlice, wv_buildSlice, wv_index, wv_copy, wv_lenMap, Abs.cellAt, Abs.rowAt, Abs.storeAt, Heap.get_put, List.getElem?_cons_zero, List.getElem?_cons_succ, Nat.zero_add, Nat.reduceAdd, idx, and_self, Int.toNat_natCast, cellsAt, ne_eq, not_true_eq_false, not_false_eq_true, cellList, Value.cells, List.length_cons, List.length_nil, List.all_cons, List.all_nil, isCell, Bool.and_self, storeL, List.set_cons_zero, List.set_cons_succ, footOf, true_and, and_true, Nat.reduceLeDiff, Nat.le_refl, Nat.reduceMul, Nat.reduceLT, List.nil_append, List.cons_append, List.length_set, ends_normal, ends_ret, endK_apply, resV_tmp, tupleV, binV, unV, eqV, Bool.not_true, Bool.not_false, BEq.rfl, Bool.true_beq, Bool.false_beq, beq_true, beq_false, Nat.sub_self, List.range'_zero, decide_true, decide_false, List.not_mem_nil, false_implies, implies_true, Bool.true_and, Bool.and_true, drawn, pairOk, disj, quietAt, Bool.bne_false, Bool.bne_true, Bool.false_eq_true, applyUpd, Int.reduceEq, Int.reduceNeg, g9, w]
  intro i hi
  simp (disch := omega) only [get_cons, if_neg]

theorem Left.step {n j : Nat} {bs : List Bool} {L L' : List Node} {c : Nat} (h : Left zs n bs L) (hbs : bs.length = n) (hj : j < n) (hd : DropTo L j L' c) : Left zs n (bs.set j true) L' := by
  intro m
  rw [hd.mem, h]
  have hg : ∀ k, (bs.set j true).getD k false = if k = j then true else bs.getD k false := by
    intro k
    simp only [List.getD_eq_getElem?_getD, List.getElem?_set]
    by_cases h1 : k = j
    · subst h1; simp [hbs, hj]
    · rw [if_neg (fun e => h1 e.symm), if_neg h1]
  constructor
  · rintro ⟨⟨k, hk, hb, rfl⟩, hne⟩
    have h1 : k ≠ j := fun e => hne (by rw [e])
    exact ⟨k, hk, by rw [hg, if_neg h1]; exact hb, rfl⟩
  · rintro ⟨k, hk, hb, rfl⟩
    rw [hg] at hb
    by_cases h1 : k = j
    · rw [if_pos h1] at hb; cases hb
    · rw [if_neg h1] at hb
      exact ⟨⟨k, hk, hb, rfl⟩, by simp only [ne_eq]; omega⟩

theorem a3_7_gen (T : HeapTbl tbl) (hk : KeysAt s0 av zs len) {n b : Nat} (hn : n ≤ len) (hn1 : n ≤ 100) {S : List Nat} {L : List Node} {wk : Int} (h : HP s p S L wk) (ho : Ord L) (hf : First zs n L) (hc : Chg [] s0 s) (hS : ∀ x ∈ S, s0.next ≤ x) (hb : s0.next ≤ b) (hbS : b ∉ S) (hs : SeenAt s b (List.replicate n false))
    (g0 : e.get 0 = some av) (g3 : e.get 3 = some (.pointer (some ⟨p, 0, none⟩))) (g4 : e.get 4 = some (ik n)) (g6 : e.get 6 = some (.slice (some ⟨b, 0, none⟩) n n)) (g7 : e.get 7 = some (ik 0)) (g8 : e.get 8 = some (ik (-1))) :
    WCode (fun k => call tbl ov k) a3_7 e s fun x e' s' => x = .normal ∧ e'.get 3 = some (.pointer (some ⟨p, 0, none⟩)) ∧ ∃ wk', HP s' p S [] wk' := by
  rw [a3_7_eq]
  refine wc_then i7_gen ?_
  rintro e1 s1 ⟨k1, a9, rfl⟩
  rw [wc_block]
  refine wc_loop (fun k e s => ∃ (i : Nat) (L : List Node) (wk last was : Int) (bs : List Bool), k = n - i ∧ i ≤ n ∧ e.get 0 = some av ∧ e.get 3 = some (.pointer (some ⟨p, 0, none⟩)) ∧ e.get 4 = some (ik n) ∧ e.get 6 = some (.slice (some ⟨b, 0, none⟩) n n) ∧ e.get 7 = some (ik last) ∧ e.get 8 = some (ik was) ∧ e.get 9 = some (ik (i : Nat)) ∧
    HP s p S L wk ∧ Ord L ∧ L.length + i = n ∧ Left zs n bs L ∧ bs.length = n ∧ SeenAt s b bs ∧ Chg [] s0 s ∧ (0 < i → ∀ m ∈ L, le (was, last) m)) n ?_ ?_
  · refine ⟨0, L, wk, 0, -1, List.replicate n false, rfl, by omega, (k1 0 (by omega)).trans g0, (k1 3 (by omega)).trans g3, (k1 4 (by omega)).trans g4, (k1 6 (by omega)).trans g6, (k1 7 (by omega)).trans g7, (k1 8 (by omega)).trans g8, a9, h, ho, hf.1, fun m => ?_, by simp, hs, hc, fun h => absurd h (by omega)⟩
    rw [hf.2]
    constructor
    · rintro ⟨j, hj, rfl⟩
      exact ⟨j, hj, by simp [List.getD_eq_getElem?_getD, List.getElem?_replicate, hj], rfl⟩
    · rintro ⟨j, hj, _, rfl⟩
      exact ⟨j, hj, rfl⟩
  · rintro k e2 s2 ⟨i, L, wk2, last, was, bs, rfl, hi, b0, b3, b4, b6, b7, b8, b9, hh, ho, hlen, hleft, hbs, hseen, hc2, hle⟩
    have c0 := (restrict_live (e := e2) (live := [0, 3, 4, 6, 7, 8, 9]) (j := 0) (by simp)).trans b0
    have c3 := (restrict_live (e := e2) (live := [0, 3, 4, 6, 7, 8, 9]) (j := 3) (by simp)).trans b3
    have c4 := (restrict_live (e := e2) (live := [0, 3, 4, 6, 7, 8, 9]) (j := 4) (by simp)).trans b4
    have c6 := (restrict_live (e := e2) (live := [0, 3, 4, 6, 7, 8, 9]) (j := 6) (by simp)).trans b6
    have c7 := (restrict_live (e := e2) (live := [0, 3, 4, 6, 7, 8, 9]) (j := 7) (by simp)).trans b7
    have c8 := (restrict_live (e := e2) (live := [0, 3, 4, 6, 7, 8, 9]) (j := 8) (by simp)).trans b8
    have c9 := (restrict_live (e := e2) (live := [0, 3, 4, 6, 7, 8, 9]) (j := 9) (by simp)).trans b9
    generalize restrict [0, 3, 4, 6, 7, 8, 9] e2 = E at *
    by_cases hlt : i < n
    · rw [← wc_assoc]
      refine wc_then (h7_gen c4 c9 (decide_eq_true hlt)) ?_
      rintro e3 s3 ⟨⟨k3, k37⟩, rfl⟩
      rw [wc_seq, wc_cond, rd_tmp, k37, boolV_bool, bindP_some, ccond_true, wc_skip, next_normal, sq_apply]
      have hmin : nd L 0 ∈ L := mem_nd.2 ⟨0, by omega, rfl⟩
      obtain ⟨j, hj, hbj, hnd⟩ := (hleft _).1 hmin
      refine wc_then (R := fun e' s' => (∀ i, i < 7 → e'.get i = E.get i) ∧ e'.get 9 = E.get 9 ∧ e'.get 7 = some (ik (zs.getD j 0)) ∧ e'.get 8 = some (ik j) ∧ SeenAt s' b (bs.set j true) ∧ Chg [] s0 s' ∧ ∃ L' c, HP s' p S L' (addW c wk2) ∧ DropTo L j L' c) ?_ ?_
      · rw [wc_block, wc_seq]
        refine WCode.mono ?_ (b7a_gen T hh (by omega) ((k3 3 (by omega)).trans c3))
        rintro x e4 s4 ⟨rfl, k4, a10, a11, a12, rfl⟩
        rw [next_normal, sq_apply, wc_seq, wc_seq, b7b_eq, wc_cut _ _ 17]
        rw [hnd] at a10 a11
        have f : ∀ i, i < 10 → e4.get i = E.get i := fun i hi => (k4 i hi).trans (k3 i (by omega))
        refine WCode.mono ?_ (b7b1_gen (i := i) (hk.chg hc2) hseen hbs hn hj hbj ((f 0 (by omega)).trans c0) ((f 4 (by omega)).trans c4) ((f 6 (by omega)).trans c6) a10 a12)
        rintro x e5 s5 ⟨rfl, k5, a62, rfl⟩
        rw [next_normal, wc_cut _ _ 8]
        refine WCode.mono ?_ (b7b2_gen (hk.chg hc2) (j := j) (by omega) ((k5 0 (by omega)).trans ((f 0 (by omega)).trans c0)) ((k5 10 (by omega)).trans a10) ((k5 11 (by omega)).trans a11) a62)
        rintro x e6 s6 ⟨rfl, k6, a70, rfl⟩
        rw [next_normal, wc_cut _ _ 19]
        have f6 : ∀ i, i < 10 → e6.get i = E.get i := fun i hi => (k6 i (by omega)).trans ((k5 i (by omega)).trans (f i hi))
        have hle' : 0 < i → le (was, last) ((j : Int), zs.getD j 0) := fun h => by rw [← hnd]; exact hle h _ hmin
        refine WCode.mono ?_ (b7b3_gen (i := i) (j := j) (key := zs.getD j 0) (last := last) (was := was) rfl (fun h => ?_) rfl (fun h h3 => ?_) ((f6 7 (by omega)).trans c7) ((f6 8 (by omega)).trans c8) ((f6 9 (by omega)).trans c9) ((k6 10 (by omega)).trans ((k5 10 (by omega)).trans a10)) ((k6 11 (by omega)).trans ((k5 11 (by omega)).trans a11)) a70)
        · rintro x e7 s7 ⟨rfl, k7, a89, rfl⟩
          rw [next_normal]
          have f7 : ∀ i, i < 10 → e7.get i = E.get i := fun i hi => (k7 i (by omega)).trans (f6 i hi)
          have a10' := (k7 10 (by omega)).trans ((k6 10 (by omega)).trans ((k5 10 (by omega)).trans a10))
          have a11' := (k7 11 (by omega)).trans ((k6 11 (by omega)).trans ((k5 11 (by omega)).trans a11))
          refine WCode.mono ?_ (b7b4_gen T hh ho (by omega) (by rw [← hnd]; exact hmin) ((f7 3 (by omega)).trans c3) a10' a89)
          rintro x e8 s8 ⟨rfl, k8, a95, L', c, hh8, hc8, hd8⟩
          rw [next_normal, sq_apply, wc_cond, rd_tmp, a95, boolV_bool, bindP_some, ccond_false, wc_skip, next_normal, sq_apply]
          have hseen8 := hseen.chg hc8 hbS
          refine WCode.mono ?_ (b7c_gen hseen8 hbs hj ((k8 6 (by omega)).trans ((f7 6 (by omega)).trans c6)) ((k8 10 (by omega)).trans a10') ((k8 11 (by omega)).trans a11'))
          rintro x e9 s9 ⟨rfl, k9, a9', a7, a8, hseen9, hc9⟩
          rw [inBlock_normal]
          refine ⟨rfl, fun i hi => (k9 i hi).trans ((k8 i (by omega)).trans (f7 i (by omega))), a9'.trans ((k8 9 (by omega)).trans (f7 9 (by omega))), a7, a8, hseen9, (hc2.comp hc8 (fun x hx => .inr (hS x hx))).comp hc9 (fun x hx => .inr (by simp at hx; omega)), L', c, hh8.frame hc9 (fun x hx => ?_), hd8⟩
          simp only [List.mem_cons, List.not_mem_nil, or_false]
          rintro rfl
          exact hbS hx
        · have := hle' (by simpa using h)
          rw [le_iff] at this
          simp only [decide_eq_false_iff_not]
          simp only at this
          omega
        · have := hle' (by simpa using h)
          rw [le_iff] at this
          simp only [beq_iff_eq] at h3
          simp only [decide_eq_false_iff_not]
          simp only at this
          omega
      rintro e9 s9 ⟨k9, a9', a7, a8, hseen9, hc9, L', c, hh9, hd9⟩
      refine WCode.mono ?_ (n7_gen (i := i) (by omega) (a9'.trans c9))
      rintro x e10 s10 ⟨rfl, k10, a9'', rfl⟩
      refine ⟨n - (i + 1), by omega, i + 1, L', _, zs.getD j 0, j, bs.set j true, rfl, by omega, (k10 0 (by omega)).trans ((k9 0 (by omega)).trans c0), (k10 3 (by omega)).trans ((k9 3 (by omega)).trans c3), (k10 4 (by omega)).trans ((k9 4 (by omega)).trans c4), (k10 6 (by omega)).trans ((k9 6 (by omega)).trans c6), (k10 7 (by omega)).trans a7, (k10 8 (by omega)).trans a8, a9'', hh9, hd9.ord, by have := hd9.len; omega, hleft.step hbs hj hd9, by rw [List.length_set]; exact hbs, hseen9, hc9, fun _ m hm => ?_⟩
      rw [← hnd]
      exact ho.le_mem ((hd9.mem m).1 hm).1
    · rw [← wc_assoc]
      refine wc_then (h7_gen c4 c9 (decide_eq_false hlt)) ?_
      rintro e3 s3 ⟨⟨k3, k37⟩, rfl⟩
      have : L = [] := List.eq_nil_of_length_eq_zero (by omega)
      subst this
      rw [wc_seq, wc_cond, rd_tmp, k37, boolV_bool, bindP_some, ccond_false, wc_exit, next_exit, next_exit, inBlock_exit, if_pos rfl]
      exact ⟨rfl, (k3 3 (by omega)).trans c3, wk2, hh⟩

theorem a3_end (T : HeapTbl tbl) (h17 : tbl 17 = none) (hov : ∀ s, ov 17 [] s = some (.bool true, s)) {S : List Nat} {wk : Int} (h : HP s p S [] wk) (g3 : e.get 3 = some (.pointer (some ⟨p, 0, none⟩))) :
    WCode (fun k => call tbl ov k) (.seq a3_8 (.seq a3_9 a3_10)) e s fun x e' s' => x = .ret ∧ e'.get 2 = some (.bool true) := by
  have h1 : WCode (fun k => call tbl ov k) a3_8 e s fun x e' s' => x = .normal ∧ e'.get 3 = e.get 3 ∧ e'.get 15 = some (.bool false) ∧ s' = s := by
    simp only [a3_8, code3, params, wc_skip, wc_region, wc_draw, wc_seq, wc_cond, wc_block, wc_exit, wc_ret, next_normal, next_exit, next_ret, inBlock_normal, inBlock_ret, inBlock_exit, sq_apply, nrm_apply, drawnK_apply, boolV_bool, ccond_true, ccond_false, wo_nil, wo_cons, wo_guard, wop, bindP_some, cont_some, cont_none, guardV_bool, guardV_undef, gcont_true, gcont_false, gcont_false', ret_apply, aggK_apply, putK_apply, resK_apply, boolK_apply, ccont_apply, wd_nil, wd_cons, dvals_apply, dcont_some, dcont_none, AOp.vals, rd_tmp, rd_const, rd_func, get_cons, mapList, mapOpt, Option.bind_some, Option.map_some, Nat.reduceEqDiff, if_true, if_false, reduceIte, reduceCtorEq, wv_mov, wv_pick, wv_alloc, wv_box, wv_build, wv_load, wv_loadn, wv_store, wv_nilCheck, wv_bin, wv_eq, wv_un, wv_convInt, wv_convSame, wv_fieldAddr, wv_field, wv_fieldn, wv_extract, wv_lenSlice, wv_lenString, wv_mkMap, wv_call, callee_func, wv_indexAddr, wv_lookup, wv_mapUpdate, wv_mapEntry, wv_entryStore, wv_delete, wv_append, wv_slice, wv_mkSlice, wv_buildSlice, wv_index, wv_copy, wv_lenMap, Abs.cellAt, Abs.rowAt, Abs.storeAt, Heap.get_put, List.getElem?_cons_zero, List.getElem?_cons_succ, Nat.zero_add, Nat.reduceAdd, idx, and_self, Int.toNat_natCast, cellsAt, ne_eq, not_true_eq_false, not_false_eq_true, cellList, Value.cells, List.length_cons, List.length_nil, List.all_cons, List.all_nil, isCell, Bool.and_self, storeL, List.set_cons_zero, List.set_cons_succ, footOf, true_and, and_true, Nat.reduceLeDiff, Nat.le_refl, Nat.reduceMul, Nat.reduceLT, List.nil_append, List.cons_append, List.length_set, ends_normal, ends_ret, endK_apply, resV_tmp, tupleV, binV, unV, eqV, Bool.not_true, Bool.not_false, BEq.rfl, Bool.true_beq, Bool.false_beq, beq_true, beq_false, Nat.sub_self, List.range'_zero, decide_true, decide_false, List.not_mem_nil, false_implies, implies_true, Bool.true_and, Bool.and_true, drawn, pairOk, disj, quietAt, Bool.bne_false, Bool.bne_true, Bool.false_eq_true, applyUpd, Int.reduceEq, Int.reduceNeg, g3]
    refine WCall.mono (min_spec T.h15 h) ?_
    rintro v s1 ⟨rfl, rfl⟩
    simp only [minV, List.length_nil, if_true]
    simp only [params, wc_skip, wc_region, wc_draw, wc_seq, wc_cond, wc_block, wc_exit, wc_ret, next_normal, next_exit, next_ret, inBlock_normal, inBlock_ret, inBlock_exit, sq_apply, nrm_apply, drawnK_apply, boolV_bool, ccond_true, ccond_false, wo_nil, wo_cons, wo_guard, wop, bindP_some, cont_some, cont_none, guardV_bool, guardV_undef, gcont_true, gcont_false, gcont_false', ret_apply, aggK_apply, putK_apply, resK_apply, boolK_apply, ccont_apply, wd_nil, wd_cons, dvals_apply, dcont_some, dcont_none, AOp.vals, rd_tmp, rd_const, rd_func, get_cons, mapList, mapOpt, Option.bind_some, Option.map_some, Nat.reduceEqDiff, if_true, if_false, reduceIte, reduceCtorEq, wv_mov, wv_pick, wv_alloc, wv_box, wv_build, wv_load, wv_loadn, wv_store, wv_nilCheck, wv_bin, wv_eq, wv_un, wv_convInt, wv_convSame, wv_fieldAddr, wv_field, wv_fieldn, wv_extract, wv_lenSlice, wv_lenString, wv_mkMap, wv_call, callee_func, wv_indexAddr, wv_lookup, wv_mapUpdate, wv_mapEntry, wv_entryStore, wv_delete, wv_append, wv_slice, wv_mkSlice, wv_buildSlice, wv_index, wv_copy, wv_lenMap, Abs.cellAt, Abs.rowAt, Abs.storeAt, Heap.get_put, List.getElem?_cons_zero, List.getElem?_cons_succ, Nat.zero_add, Nat.reduceAdd, idx, and_self, Int.toNat_natCast, cellsAt, ne_eq, not_true_eq_false, not_false_eq_true, cellList, Value.cells, List.length_cons, List.length_nil, List.all_cons, List.all_nil, isCell, Bool.and_self, storeL, List.set_cons_zero, List.set_cons_succ, footOf, true_and, and_true, Nat.reduceLeDiff, Nat.le_refl, Nat.reduceMul, Nat.reduceLT, List.nil_append, List.cons_append, List.length_set, ends_normal, ends_ret, endK_apply, resV_tmp, tupleV, binV, unV, eqV, Bool.not_true, Bool.not_false, BEq.rfl, Bool.true_beq, Bool.false_beq, beq_true, beq_false, Nat.sub_self, List.range'_zero, decide_true, decide_false, List.not_mem_nil, false_implies, implies_true, Bool.true_and, Bool.and_true, drawn, pairOk, disj, quietAt, Bool.bne_false, Bool.bne_true, Bool.false_eq_true, applyUpd, Int.reduceEq, Int.reduceNeg, g3]
  refine wc_then h1 ?_
  rintro e1 s1 ⟨a3, a15, rfl⟩
  simp only [a3_9, a3_10, code3, params, wc_skip, wc_region, wc_draw, wc_seq, wc_cond, wc_block, wc_exit, wc_ret, next_normal, next_exit, next_ret, inBlock_normal, inBlock_ret, inBlock_exit, sq_apply, nrm_apply, drawnK_apply, boolV_bool, ccond_true, ccond_false, wo_nil, wo_cons, wo_guard, wop, bindP_some, cont_some, cont_none, guardV_bool, guardV_undef, gcont_true, gcont_false, gcont_false', ret_apply, aggK_apply, putK_apply, resK_apply, boolK_apply, ccont_apply, wd_nil, wd_cons, dvals_apply, dcont_some, dcont_none, AOp.vals, rd_tmp, rd_const, rd_func, get_cons, mapList, mapOpt, Option.bind_some, Option.map_some, Nat.reduceEqDiff, if_true, if_false, reduceIte, reduceCtorEq, wv_mov, wv_pick, wv_alloc, wv_box, wv_build, wv_load, wv_loadn, wv_store, wv_nilCheck, wv_bin, wv_eq, wv_un, wv_convInt, wv_convSame, wv_fieldAddr, wv_field, wv_fieldn, wv_extract, wv_lenSlice, wv_lenString, wv_mkMap, wv_call, callee_func, wv_indexAddr, wv_lookup, wv_mapUpdate, wv_mapEntry, wv_entryStore, wv_delete, wv_append, wv_slice, wv_mkSlice, wv_buildSlice, wv_index, wv_copy, wv_lenMap, Abs.cellAt, Abs.rowAt, Abs.storeAt, Heap.get_put, List.getElem?_cons_zero, List.getElem?_cons_succ, Nat.zero_add, Nat.reduceAdd, idx, and_self, Int.toNat_natCast, cellsAt, ne_eq, not_true_eq_false, not_false_eq_true, cellList, Value.cells, List.length_cons, List.length_nil, List.all_cons, List.all_nil, isCell, Bool.and_self, storeL, List.set_cons_zero, List.set_cons_succ, footOf, true_and, and_true, Nat.reduceLeDiff, Nat.le_refl, Nat.reduceMul, Nat.reduceLT, List.nil_append, List.cons_append, List.length_set, ends_normal, ends_ret, endK_apply, resV_tmp, tupleV, binV, unV, eqV, Bool.not_true, Bool.not_false, BEq.rfl, Bool.true_beq, Bool.false_beq, beq_true, beq_false, Nat.sub_self, List.range'_zero, decide_true, decide_false, List.not_mem_nil, false_implies, implies_true, Bool.true_and, Bool.and_true, drawn, pairOk, disj, quietAt, Bool.bne_false, Bool.bne_true, Bool.false_eq_true, applyUpd, Int.reduceEq, Int.reduceNeg, a3, a15, g3]
  refine WCall.ov h17 (hov _) ?_
  simp only [params, wc_skip, wc_region, wc_draw, wc_seq, wc_cond, wc_block, wc_exit, wc_ret, next_normal, next_exit, next_ret, inBlock_normal, inBlock_ret, inBlock_exit, sq_apply, nrm_apply, drawnK_apply, boolV_bool, ccond_true, ccond_false, wo_nil, wo_cons, wo_guard, wop, bindP_some, cont_some, cont_none, guardV_bool, guardV_undef, gcont_true, gcont_false, gcont_false', ret_apply, aggK_apply, putK_apply, resK_apply, boolK_apply, ccont_apply, wd_nil, wd_cons, dvals_apply, dcont_some, dcont_none, AOp.vals, rd_tmp, rd_const, rd_func, get_cons, mapList, mapOpt, Option.bind_some, Option.map_some, Nat.reduceEqDiff, if_true, if_false, reduceIte, reduceCtorEq, wv_mov, wv_pick, wv_alloc, wv_box, wv_build, wv_load, wv_loadn, wv_store, wv_nilCheck, wv_bin, wv_eq, wv_un, wv_convInt, wv_convSame, wv_fieldAddr, wv_field, wv_fieldn, wv_extract, wv_lenSlice, wv_lenString, wv_mkMap, wv_call, callee_func, wv_indexAddr, wv_lookup, wv_mapUpdate, wv_mapEntry, wv_entryStore, wv_delete, wv_append, wv_slice, wv_mkSlice, wv_buildSlice, wv_index, wv_copy, wv_lenMap, Abs.cellAt, Abs.rowAt, Abs.storeAt, Heap.get_put, List.getElem?_cons_zero, List.getElem?_cons_succ, Nat.zero_add, Nat.reduceAdd, idx, and_self, Int.toNat_natCast, cellsAt, ne_eq, not_true_eq_false, not_false_eq_true, cellList, Value.cells, List.length_cons, List.length_nil, List.all_cons, List.all_nil, isCell, Bool.and_self, storeL, List.set_cons_zero, List.set_cons_succ, footOf, true_and, and_true, Nat.reduceLeDiff, Nat.le_refl, Nat.reduceMul, Nat.reduceLT, List.nil_append, List.cons_append, List.length_set, ends_normal, ends_ret, endK_apply, resV_tmp, tupleV, binV, unV, eqV, Bool.not_true, Bool.not_false, BEq.rfl, Bool.true_beq, Bool.false_beq, beq_true, beq_false, Nat.sub_self, List.range'_zero, decide_true, decide_false, List.not_mem_nil, false_implies, implies_true, Bool.true_and, Bool.and_true, drawn, pairOk, disj, quietAt, Bool.bne_false, Bool.bne_true, Bool.false_eq_true, applyUpd, Int.reduceEq, Int.reduceNeg, a3, a15, g3]
  refine WCall.mono (len_spec T.h18 h) ?_
  rintro v s2 ⟨rfl, rfl⟩
  have d : (((0 : Nat) : Int) == 0) = true := rfl
  simp only [params, wc_skip, wc_region, wc_draw, wc_seq, wc_cond, wc_block, wc_exit, wc_ret, next_normal, next_exit, next_ret, inBlock_normal, inBlock_ret, inBlock_exit, sq_apply, nrm_apply, drawnK_apply, boolV_bool, ccond_true, ccond_false, wo_nil, wo_cons, wo_guard, wop, bindP_some, cont_some, cont_none, guardV_bool, guardV_undef, gcont_true, gcont_false, gcont_false', ret_apply, aggK_apply, putK_apply, resK_apply, boolK_apply, ccont_apply, wd_nil, wd_cons, dvals_apply, dcont_some, dcont_none, AOp.vals, rd_tmp, rd_const, rd_func, get_cons, mapList, mapOpt, Option.bind_some, Option.map_some, Nat.reduceEqDiff, if_true, if_false, reduceIte, reduceCtorEq, wv_mov, wv_pick, wv_alloc, wv_box, wv_build, wv_load, wv_loadn, wv_store, wv_nilCheck, wv_bin, wv_eq, wv_un, wv_convInt, wv_convSame, wv_fieldAddr, wv_field, wv_fieldn, wv_extract, wv_lenSlice, wv_lenString, wv_mkMap, wv_call, callee_func, wv_indexAddr, wv_lookup, wv_mapUpdate, wv_mapEntry, wv_entryStore, wv_delete, wv_append, wv_slice, wv_mkSlice, wv_buildSlice, wv_index, wv_copy, wv_lenMap, Abs.cellAt, Abs.rowAt, Abs.storeAt, Heap.get_put, List.getElem?_cons_zero, List.getElem?_cons_succ, Nat.zero_add, Nat.reduceAdd, idx, and_self, Int.toNat_natCast, cellsAt, ne_eq, not_true_eq_false, not_false_eq_true, cellList, Value.cells, List.length_cons, List.length_nil, List.all_cons, List.all_nil, isCell, Bool.and_self, storeL, List.set_cons_zero, List.set_cons_succ, footOf, true_and, and_true, Nat.reduceLeDiff, Nat.le_refl, Nat.reduceMul, Nat.reduceLT, List.nil_append, List.cons_append, List.length_set, ends_normal, ends_ret, endK_apply, resV_tmp, tupleV, binV, unV, eqV, Bool.not_true, Bool.not_false, BEq.rfl, Bool.true_beq, Bool.false_beq, beq_true, beq_false, Nat.sub_self, List.range'_zero, decide_true, decide_false, List.not_mem_nil, false_implies, implies_true, Bool.true_and, Bool.and_true, drawn, pairOk, disj, quietAt, Bool.bne_false, Bool.bne_true, Bool.false_eq_true, applyUpd, Int.reduceEq, Int.reduceNeg, a3, a15, g3, List.length_nil, d]

theorem law3 (T : HeapTbl tbl) (h3 : tbl 3 = some fun3) (h17 : tbl 17 = none) (hov : ∀ s, ov 17 [] s = some (.bool true, s)) (hk : KeysAt s0 av zs len) :
    WCall (fun k => call tbl ov k) 3 [av] s0 fun v _ => v = .bool true := by
  refine WCall.of h3 rfl ?_
  simp only [fun3, code3_eq, params]
  obtain ⟨n, hn⟩ : ∃ n, n = if len > 100 then 100 else len := ⟨_, rfl⟩
  have hn1 : n ≤ 100 := by rw [hn]; split <;> omega
  have hn2 : n ≤ len := by rw [hn]; split <;> omega
  refine a3_start T hk hn rfl fun e1 s1 p S a0 a3 a4 hh hc hS => ?_
  refine wc_then (a3_4_gen T hk hn2 hn1 hh hc hS a0 a3 a4) ?_
  rintro e2 s2 ⟨b0, b3, b4, S2, L, wk, hh2, ho, hf, hc2, hS2⟩
  rw [wc_assoc]
  refine wc_then (a3_56 hn1 b4) ?_
  rintro e3 s3 ⟨c0, c3, c4, c7, c8, b, c6, hseen, hc3, hb⟩
  have hbS : b ∉ S2 := fun hm => by have := hh2.lt b hm; omega
  refine wc_then (a3_7_gen T hk hn2 hn1 (hh2.frame hc3 (fun _ _ => by simp)) ho hf (hc2.trans hc3) hS2 (by have := hc2.1; omega) hbS hseen (c0.trans b0) (c3.trans b3) (c4.trans b4) c6 c7 c8) ?_
  rintro e4 s4 ⟨d3, wk4, hh4⟩
  refine WCode.mono ?_ (a3_end T h17 hov hh4 d3)
  rintro x e5 s5 ⟨rfl, g2⟩
  rw [ends_ret]
  simp only [mapList, resV_tmp, g2, bindP_some, Option.bind_some, Option.map_some, endK_apply, tupleV]

end
end Go.Proofs.Ytaigiehdnhehnaa
