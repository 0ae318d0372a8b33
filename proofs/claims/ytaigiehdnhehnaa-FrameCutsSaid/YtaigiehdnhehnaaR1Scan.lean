/-
  The records that bytes begin with.
-/
import Derived.Test.YtaigiehdnhehnaaR1Dec
import Derived.Test.YtaigiehdnhehnaaA33
set_option maxRecDepth 100000
set_option linter.unusedVariables false
set_option linter.unusedSimpArgs false
namespace Go.Proofs.Ytaigiehdnhehnaa
open Go Go.Abs

def lenAt (zs : List Int) (i : Nat) : Nat := valL ((zs.take (i + 2)).drop i)
def sumAt (zs : List Int) (i : Nat) : Nat := valL ((zs.take (i + 6)).drop (i + 2))
def partAt (zs : List Int) (i : Nat) : List Int := (zs.take (i + 6 + lenAt zs i)).drop (i + 6)

def stepL (zs : List Int) (i : Nat) : Option (FRec × Nat) :=
  if i + 6 ≤ zs.length ∧ i + 6 + lenAt zs i ≤ zs.length then
    match decL (partAt zs i) with
    | some r => if (sumL (partAt zs i)).toNat = sumAt zs i ∧ r.sound = true then some (r, i + 6 + lenAt zs i) else none
    | none => none
  else none

def scanL : Nat → List Int → Nat → List FRec × Nat
  | 0, _, i => ([], i)
  | f + 1, zs, i =>
    match stepL zs i with
    | none => ([], i)
    | some p => (p.1 :: (scanL f zs p.2).1, (scanL f zs p.2).2)

theorem stepL_bound {zs : List Int} {i : Nat} {p : FRec × Nat} (h : stepL zs i = some p) : p.2 = i + 6 + lenAt zs i ∧ p.2 ≤ zs.length ∧ i + 6 ≤ p.2 := by
  unfold stepL at h
  split at h
  · split at h
    · split at h
      · cases h; refine ⟨rfl, ?_, ?_⟩ <;> simp only <;> omega
      · cases h
    · cases h
  · cases h

theorem scanL_fuel : ∀ (f g : Nat) (zs : List Int) (i : Nat), zs.length ≤ i + f → zs.length ≤ i + g → scanL f zs i = scanL g zs i := by
  intro f
  induction f with
  | zero =>
    intro g zs i h1 h2
    cases g with
    | zero => rfl
    | succ g =>
      have : stepL zs i = none := by
        cases h : stepL zs i with
        | none => rfl
        | some p => have := stepL_bound h; omega
      simp only [scanL, this]
  | succ f ih =>
    intro g zs i h1 h2
    cases g with
    | zero =>
      have : stepL zs i = none := by
        cases h : stepL zs i with
        | none => rfl
        | some p => have := stepL_bound h; omega
      simp only [scanL, this]
    | succ g =>
      cases h : stepL zs i with
      | none => simp only [scanL, h]
      | some p =>
        have hb := stepL_bound h
        simp only [scanL, h, ih g zs p.2 (by omega) (by omega)]

def r_0 : ACode := match code26 with | .seq x _ => x | _ => .skip
def r_1 : ACode := match code26 with | .seq _ (.seq x _) => x | _ => .skip
def r_2 : ACode := match code26 with | .seq _ (.seq _ (.seq x _)) => x | _ => .skip
def r_3 : ACode := match code26 with | .seq _ (.seq _ (.seq _ (.seq x _))) => x | _ => .skip
def r_4 : ACode := match code26 with | .seq _ (.seq _ (.seq _ (.seq _ x))) => x | _ => .skip
def r3h : ACode := match r_3 with | .block _ (.loop _ (.seq (.seq x _) _)) => x | _ => .skip
def r3b : ACode := match r_3 with | .block _ (.loop _ (.seq _ (.block _ x))) => x | _ => .skip
def m_1 : ACode := match r3b with | .seq x _ => x | _ => .skip
def m_2 : ACode := match r3b with | .seq _ (.seq (.seq x _) _) => x | _ => .skip
def m_3 : ACode := match r3b with | .seq _ (.seq _ (.seq x _)) => x | _ => .skip
def m_4 : ACode := match r3b with | .seq _ (.seq _ (.seq _ (.seq x _))) => x | _ => .skip
def m_5 : ACode := match r3b with | .seq _ (.seq _ (.seq _ (.seq _ (.seq (.seq x _) _)))) => x | _ => .skip
def m_6 : ACode := match r3b with | .seq _ (.seq _ (.seq _ (.seq _ (.seq _ (.seq x _))))) => x | _ => .skip
def m_7 : ACode := match r3b with | .seq _ (.seq _ (.seq _ (.seq _ (.seq _ (.seq _ x))))) => x | _ => .skip
theorem code26_eq : code26 = .seq r_0 (.seq r_1 (.seq r_2 (.seq r_3 r_4))) := rfl
theorem r_3_eq : r_3 = .block 0 (.loop [0, 4, 5] (.seq (.seq r3h (.cond (.tmp 14) .skip (.exit 0))) (.block 1 (.seq m_1 (.seq (.seq m_2 (.cond (.tmp 28) (.exit 0) .skip)) (.seq m_3 (.seq m_4 (.seq (.seq m_5 (.cond (.tmp 56) (.exit 0) .skip)) (.seq m_6 m_7))))))))) := rfl
def m5ops : List AOper := opsOf m_5
theorem m_5_eq : m_5 = .region m5ops (some ⟨[], [1]⟩) := rfl

section
variable {tbl : FuncId → Option AFun} {ov : CallSem} {s s1 : St} {e : Env} {v w : Value} {zs : List Int} {p q i n : Nat}

theorem r3h_gen (hb : BytesV s v zs) (hz2 : zs.length < 2 ^ 40) (hi : i ≤ zs.length) (g0 : e.get 0 = some v) (g5 : e.get 5 = some (in64 i)) : WCode (fun k => call tbl ov k) r3h e s fun x e' s' => x = .normal ∧ (∀ j, j < 6 → e'.get j = e.get j) ∧ e'.get 14 = some (.bool (decide (i + 6 ≤ zs.length))) ∧ s' = s := by
  obtain ⟨ad, cap, rfl⟩ := hb.len
  have w1 : IntKind.i64.wrap ((zs.length : Int) - (i : Int)) = ((zs.length - i : Nat) : Int) := by rw [wrap64 (by omega) (by omega)]; omega
  have d : decide (((zs.length - i : Nat) : Int) ≥ 6) = decide (i + 6 ≤ zs.length) := by
    have : (((zs.length - i : Nat) : Int) ≥ 6) ↔ i + 6 ≤ zs.length := by omega
    simp only [this]
  simp only [r3h, r_3, code26, params, wc_skip, wc_region, wc_draw, wc_seq, wc_cond, wc_block, wc_exit, wc_ret, next_normal, next_exit, next_ret, inBlock_normal, inBlock_ret, inBlock_exit, sq_apply, nrm_apply, drawnK_apply, boolV_bool, ccond_true, ccond_false, wo_nil, wo_cons, wo_guard, wop, bindP_some, cont_some, cont_none, guardV_bool, guardV_undef, gcont_true, gcont_false, gcont_false', ret_apply, aggK_apply, putK_apply, resK_apply, boolK_apply, ccont_apply, wd_nil, wd_cons, dvals_apply, dcont_some, dcont_none, AOp.vals, rd_tmp, rd_const, rd_func, get_cons, mapList, mapOpt, Option.bind_some, Option.map_some, Nat.reduceEqDiff, if_true, if_false, reduceIte, reduceCtorEq, wv_mov, wv_pick, wv_alloc, wv_box, wv_build, wv_load, wv_loadn, wv_store, wv_nilCheck, wv_bin, wv_eq, wv_un, wv_convInt, wv_convSame, wv_fieldAddr, wv_field, wv_fieldn, wv_extract, wv_lenSlice, wv_lenString, wv_mkMap, wv_call, callee_func, wv_indexAddr, wv_lookup, wv_mapUpdate, wv_mapEntry, wv_entryStore, wv_delete, wv_append, wv_slice, wv_mkSlice, wv_buildSlice, wv_index, wv_copy, wv_lenMap, Abs.cellAt, Abs.rowAt, Abs.storeAt, Heap.get_put, List.getElem?_cons_zero, List.getElem?_cons_succ, Nat.zero_add, Nat.reduceAdd, idx, and_self, Int.toNat_natCast, cellsAt, ne_eq, not_true_eq_false, not_false_eq_true, cellList, Value.cells, List.length_cons, List.length_nil, List.all_cons, List.all_nil, isCell, Bool.and_self, storeL, List.set_cons_zero, List.set_cons_succ, footOf, true_and, and_true, Nat.reduceLeDiff, Nat.le_refl, Nat.reduceMul, Nat.reduceLT, List.nil_append, List.cons_append, List.length_set, ends_normal, ends_ret, endK_apply, resV_tmp, tupleV, eqV, Bool.not_true, Bool.not_false, BEq.rfl, Bool.true_beq, Bool.false_beq, beq_true, beq_false, Nat.sub_self, List.range'_zero, decide_true, decide_false, List.not_mem_nil, false_implies, implies_true, Bool.true_and, Bool.and_true, drawn, pairOk, disj, quietAt, Bool.bne_false, Bool.bne_true, Bool.false_eq_true, applyUpd, Int.reduceEq, Int.reduceNeg, bin_add, bin_sub, bin_mul, bin_lss, bin_leq, bin_gtr, bin_geq, bin_eql, bin_neq, un_not, wv_cap, wv_appendMake, wv_clear, wv_toString, wv_toBytes, wv_sameB, wv_mkIface, wv_minmax, g0, g5, w1, d]
  intro j hj
  simp (disch := omega) only [get_cons, if_neg]

theorem m_1_gen (h37 : tbl 37 = some fun37) (hb : BytesV s v zs) (hz2 : zs.length < 2 ^ 40) (hi : i + 6 ≤ zs.length) (g0 : e.get 0 = some v) (g5 : e.get 5 = some (in64 i)) : WCode (fun k => call tbl ov k) m_1 e s fun x e' s' => x = .normal ∧ (∀ j, j < 6 → e'.get j = e.get j) ∧ e'.get 6 = some (in64 (lenAt zs i)) ∧ s' = s := by
  obtain ⟨v', hb', he⟩ := hb.cut (m := i) (n := i + 2) (by omega) (by omega)
  have he := he .i64 .i64
  have hln : ((zs.take (i + 2)).drop i).length = 2 := by rw [List.length_drop, List.length_take]; omega
  have hlt := valL_lt hb'.1
  rw [hln] at hlt
  have w1 : IntKind.i64.wrap ((i : Int) + 2) = ((i + 2 : Nat) : Int) := by rw [wrap64 (by omega) (by omega)]; omega
  have w2 : IntKind.i64.wrap ((valL ((zs.take (i + 2)).drop i) : Nat) : Int) = (lenAt zs i : Nat) := wrap64 (by omega) (by omega)
  simp only [m_1, r3b, r_3, code26, params, wc_skip, wc_region, wc_draw, wc_seq, wc_cond, wc_block, wc_exit, wc_ret, next_normal, next_exit, next_ret, inBlock_normal, inBlock_ret, inBlock_exit, sq_apply, nrm_apply, drawnK_apply, boolV_bool, ccond_true, ccond_false, wo_nil, wo_cons, wo_guard, wop, bindP_some, cont_some, cont_none, guardV_bool, guardV_undef, gcont_true, gcont_false, gcont_false', ret_apply, aggK_apply, putK_apply, resK_apply, boolK_apply, ccont_apply, wd_nil, wd_cons, dvals_apply, dcont_some, dcont_none, AOp.vals, rd_tmp, rd_const, rd_func, get_cons, mapList, mapOpt, Option.bind_some, Option.map_some, Nat.reduceEqDiff, if_true, if_false, reduceIte, reduceCtorEq, wv_mov, wv_pick, wv_alloc, wv_box, wv_build, wv_load, wv_loadn, wv_store, wv_nilCheck, wv_bin, wv_eq, wv_un, wv_convInt, wv_convSame, wv_fieldAddr, wv_field, wv_fieldn, wv_extract, wv_lenSlice, wv_lenString, wv_mkMap, wv_call, callee_func, wv_indexAddr, wv_lookup, wv_mapUpdate, wv_mapEntry, wv_entryStore, wv_delete, wv_append, wv_slice, wv_mkSlice, wv_buildSlice, wv_index, wv_copy, wv_lenMap, Abs.cellAt, Abs.rowAt, Abs.storeAt, Heap.get_put, List.getElem?_cons_zero, List.getElem?_cons_succ, Nat.zero_add, Nat.reduceAdd, idx, and_self, Int.toNat_natCast, cellsAt, ne_eq, not_true_eq_false, not_false_eq_true, cellList, Value.cells, List.length_cons, List.length_nil, List.all_cons, List.all_nil, isCell, Bool.and_self, storeL, List.set_cons_zero, List.set_cons_succ, footOf, true_and, and_true, Nat.reduceLeDiff, Nat.le_refl, Nat.reduceMul, Nat.reduceLT, List.nil_append, List.cons_append, List.length_set, ends_normal, ends_ret, endK_apply, resV_tmp, tupleV, eqV, Bool.not_true, Bool.not_false, BEq.rfl, Bool.true_beq, Bool.false_beq, beq_true, beq_false, Nat.sub_self, List.range'_zero, decide_true, decide_false, List.not_mem_nil, false_implies, implies_true, Bool.true_and, Bool.and_true, drawn, pairOk, disj, quietAt, Bool.bne_false, Bool.bne_true, Bool.false_eq_true, applyUpd, Int.reduceEq, Int.reduceNeg, bin_add, bin_sub, bin_mul, bin_lss, bin_leq, bin_gtr, bin_geq, bin_eql, bin_neq, un_not, wv_cap, wv_appendMake, wv_clear, wv_toString, wv_toBytes, wv_sameB, wv_mkIface, wv_minmax, g0, g5, w1, he]
  refine WCall.mono (read_spec h37 hb' (by omega)) ?_
  rintro u s1 ⟨rfl, rfl⟩
  simp only [params, wc_skip, wc_region, wc_draw, wc_seq, wc_cond, wc_block, wc_exit, wc_ret, next_normal, next_exit, next_ret, inBlock_normal, inBlock_ret, inBlock_exit, sq_apply, nrm_apply, drawnK_apply, boolV_bool, ccond_true, ccond_false, wo_nil, wo_cons, wo_guard, wop, bindP_some, cont_some, cont_none, guardV_bool, guardV_undef, gcont_true, gcont_false, gcont_false', ret_apply, aggK_apply, putK_apply, resK_apply, boolK_apply, ccont_apply, wd_nil, wd_cons, dvals_apply, dcont_some, dcont_none, AOp.vals, rd_tmp, rd_const, rd_func, get_cons, mapList, mapOpt, Option.bind_some, Option.map_some, Nat.reduceEqDiff, if_true, if_false, reduceIte, reduceCtorEq, wv_mov, wv_pick, wv_alloc, wv_box, wv_build, wv_load, wv_loadn, wv_store, wv_nilCheck, wv_bin, wv_eq, wv_un, wv_convInt, wv_convSame, wv_fieldAddr, wv_field, wv_fieldn, wv_extract, wv_lenSlice, wv_lenString, wv_mkMap, wv_call, callee_func, wv_indexAddr, wv_lookup, wv_mapUpdate, wv_mapEntry, wv_entryStore, wv_delete, wv_append, wv_slice, wv_mkSlice, wv_buildSlice, wv_index, wv_copy, wv_lenMap, Abs.cellAt, Abs.rowAt, Abs.storeAt, Heap.get_put, List.getElem?_cons_zero, List.getElem?_cons_succ, Nat.zero_add, Nat.reduceAdd, idx, and_self, Int.toNat_natCast, cellsAt, ne_eq, not_true_eq_false, not_false_eq_true, cellList, Value.cells, List.length_cons, List.length_nil, List.all_cons, List.all_nil, isCell, Bool.and_self, storeL, List.set_cons_zero, List.set_cons_succ, footOf, true_and, and_true, Nat.reduceLeDiff, Nat.le_refl, Nat.reduceMul, Nat.reduceLT, List.nil_append, List.cons_append, List.length_set, ends_normal, ends_ret, endK_apply, resV_tmp, tupleV, eqV, Bool.not_true, Bool.not_false, BEq.rfl, Bool.true_beq, Bool.false_beq, beq_true, beq_false, Nat.sub_self, List.range'_zero, decide_true, decide_false, List.not_mem_nil, false_implies, implies_true, Bool.true_and, Bool.and_true, drawn, pairOk, disj, quietAt, Bool.bne_false, Bool.bne_true, Bool.false_eq_true, applyUpd, Int.reduceEq, Int.reduceNeg, bin_add, bin_sub, bin_mul, bin_lss, bin_leq, bin_gtr, bin_geq, bin_eql, bin_neq, un_not, wv_cap, wv_appendMake, wv_clear, wv_toString, wv_toBytes, wv_sameB, wv_mkIface, wv_minmax, g0, g5, w2]
  intro j hj
  simp (disch := omega) only [get_cons, if_neg]

theorem lenAt_lt (hz : ∀ z ∈ zs, 0 ≤ z ∧ z ≤ 255) (hi : i + 6 ≤ zs.length) : lenAt zs i < 65536 := by
  have hln : ((zs.take (i + 2)).drop i).length = 2 := by rw [List.length_drop, List.length_take]; omega
  have := valL_lt (zs := (zs.take (i + 2)).drop i) (fun z h => hz z (List.mem_of_mem_take (List.mem_of_mem_drop h)))
  rw [hln] at this
  exact this

theorem m_2_gen (hb : BytesV s v zs) (hz2 : zs.length < 2 ^ 40) (hi : i + 6 ≤ zs.length) (g0 : e.get 0 = some v) (g5 : e.get 5 = some (in64 i)) (g6 : e.get 6 = some (in64 n)) : WCode (fun k => call tbl ov k) m_2 e s fun x e' s' => x = .normal ∧ (∀ j, j < 7 → e'.get j = e.get j) ∧ e'.get 28 = some (.bool (decide (zs.length < i + 6 + n))) ∧ s' = s := by
  obtain ⟨ad, cap, rfl⟩ := hb.len
  have w1 : IntKind.i64.wrap ((zs.length : Int) - (i : Int)) = ((zs.length - i : Nat) : Int) := by rw [wrap64 (by omega) (by omega)]; omega
  have w2 : IntKind.i64.wrap (((zs.length - i : Nat) : Int) - 6) = ((zs.length - i - 6 : Nat) : Int) := by rw [wrap64 (by omega) (by omega)]; omega
  have d : decide ((n : Int) > ((zs.length - i - 6 : Nat) : Int)) = decide (zs.length < i + 6 + n) := by
    have : ((n : Int) > ((zs.length - i - 6 : Nat) : Int)) ↔ zs.length < i + 6 + n := by omega
    simp only [this]
  simp only [m_2, r3b, r_3, code26, params, wc_skip, wc_region, wc_draw, wc_seq, wc_cond, wc_block, wc_exit, wc_ret, next_normal, next_exit, next_ret, inBlock_normal, inBlock_ret, inBlock_exit, sq_apply, nrm_apply, drawnK_apply, boolV_bool, ccond_true, ccond_false, wo_nil, wo_cons, wo_guard, wop, bindP_some, cont_some, cont_none, guardV_bool, guardV_undef, gcont_true, gcont_false, gcont_false', ret_apply, aggK_apply, putK_apply, resK_apply, boolK_apply, ccont_apply, wd_nil, wd_cons, dvals_apply, dcont_some, dcont_none, AOp.vals, rd_tmp, rd_const, rd_func, get_cons, mapList, mapOpt, Option.bind_some, Option.map_some, Nat.reduceEqDiff, if_true, if_false, reduceIte, reduceCtorEq, wv_mov, wv_pick, wv_alloc, wv_box, wv_build, wv_load, wv_loadn, wv_store, wv_nilCheck, wv_bin, wv_eq, wv_un, wv_convInt, wv_convSame, wv_fieldAddr, wv_field, wv_fieldn, wv_extract, wv_lenSlice, wv_lenString, wv_mkMap, wv_call, callee_func, wv_indexAddr, wv_lookup, wv_mapUpdate, wv_mapEntry, wv_entryStore, wv_delete, wv_append, wv_slice, wv_mkSlice, wv_buildSlice, wv_index, wv_copy, wv_lenMap, Abs.cellAt, Abs.rowAt, Abs.storeAt, Heap.get_put, List.getElem?_cons_zero, List.getElem?_cons_succ, Nat.zero_add, Nat.reduceAdd, idx, and_self, Int.toNat_natCast, cellsAt, ne_eq, not_true_eq_false, not_false_eq_true, cellList, Value.cells, List.length_cons, List.length_nil, List.all_cons, List.all_nil, isCell, Bool.and_self, storeL, List.set_cons_zero, List.set_cons_succ, footOf, true_and, and_true, Nat.reduceLeDiff, Nat.le_refl, Nat.reduceMul, Nat.reduceLT, List.nil_append, List.cons_append, List.length_set, ends_normal, ends_ret, endK_apply, resV_tmp, tupleV, eqV, Bool.not_true, Bool.not_false, BEq.rfl, Bool.true_beq, Bool.false_beq, beq_true, beq_false, Nat.sub_self, List.range'_zero, decide_true, decide_false, List.not_mem_nil, false_implies, implies_true, Bool.true_and, Bool.and_true, drawn, pairOk, disj, quietAt, Bool.bne_false, Bool.bne_true, Bool.false_eq_true, applyUpd, Int.reduceEq, Int.reduceNeg, bin_add, bin_sub, bin_mul, bin_lss, bin_leq, bin_gtr, bin_geq, bin_eql, bin_neq, un_not, wv_cap, wv_appendMake, wv_clear, wv_toString, wv_toBytes, wv_sameB, wv_mkIface, wv_minmax, g0, g5, g6, w1, w2, d]
  intro j hj
  simp (disch := omega) only [get_cons, if_neg]

theorem m_3_gen (hb : BytesV s v zs) (hz2 : zs.length < 2 ^ 40) (hi : i + 6 + n ≤ zs.length) (g0 : e.get 0 = some v) (g5 : e.get 5 = some (in64 i)) (g6 : e.get 6 = some (in64 n)) : WCode (fun k => call tbl ov k) m_3 e s fun x e' s' => x = .normal ∧ (∀ j, j < 7 → e'.get j = e.get j) ∧ (∃ w, e'.get 7 = some w ∧ BytesV s w ((zs.take (i + 6 + n)).drop (i + 6))) ∧ s' = s := by
  obtain ⟨v', hb', he⟩ := hb.cut (m := i + 6) (n := i + 6 + n) (by omega) hi
  have he := he .i64 .i64
  have w1 : IntKind.i64.wrap ((i : Int) + 6) = ((i + 6 : Nat) : Int) := by rw [wrap64 (by omega) (by omega)]; omega
  have w2 : IntKind.i64.wrap (((i + 6 : Nat) : Int) + (n : Int)) = ((i + 6 + n : Nat) : Int) := by rw [wrap64 (by omega) (by omega)]; omega
  simp only [m_3, r3b, r_3, code26, params, wc_skip, wc_region, wc_draw, wc_seq, wc_cond, wc_block, wc_exit, wc_ret, next_normal, next_exit, next_ret, inBlock_normal, inBlock_ret, inBlock_exit, sq_apply, nrm_apply, drawnK_apply, boolV_bool, ccond_true, ccond_false, wo_nil, wo_cons, wo_guard, wop, bindP_some, cont_some, cont_none, guardV_bool, guardV_undef, gcont_true, gcont_false, gcont_false', ret_apply, aggK_apply, putK_apply, resK_apply, boolK_apply, ccont_apply, wd_nil, wd_cons, dvals_apply, dcont_some, dcont_none, AOp.vals, rd_tmp, rd_const, rd_func, get_cons, mapList, mapOpt, Option.bind_some, Option.map_some, Nat.reduceEqDiff, if_true, if_false, reduceIte, reduceCtorEq, wv_mov, wv_pick, wv_alloc, wv_box, wv_build, wv_load, wv_loadn, wv_store, wv_nilCheck, wv_bin, wv_eq, wv_un, wv_convInt, wv_convSame, wv_fieldAddr, wv_field, wv_fieldn, wv_extract, wv_lenSlice, wv_lenString, wv_mkMap, wv_call, callee_func, wv_indexAddr, wv_lookup, wv_mapUpdate, wv_mapEntry, wv_entryStore, wv_delete, wv_append, wv_slice, wv_mkSlice, wv_buildSlice, wv_index, wv_copy, wv_lenMap, Abs.cellAt, Abs.rowAt, Abs.storeAt, Heap.get_put, List.getElem?_cons_zero, List.getElem?_cons_succ, Nat.zero_add, Nat.reduceAdd, idx, and_self, Int.toNat_natCast, cellsAt, ne_eq, not_true_eq_false, not_false_eq_true, cellList, Value.cells, List.length_cons, List.length_nil, List.all_cons, List.all_nil, isCell, Bool.and_self, storeL, List.set_cons_zero, List.set_cons_succ, footOf, true_and, and_true, Nat.reduceLeDiff, Nat.le_refl, Nat.reduceMul, Nat.reduceLT, List.nil_append, List.cons_append, List.length_set, ends_normal, ends_ret, endK_apply, resV_tmp, tupleV, eqV, Bool.not_true, Bool.not_false, BEq.rfl, Bool.true_beq, Bool.false_beq, beq_true, beq_false, Nat.sub_self, List.range'_zero, decide_true, decide_false, List.not_mem_nil, false_implies, implies_true, Bool.true_and, Bool.and_true, drawn, pairOk, disj, quietAt, Bool.bne_false, Bool.bne_true, Bool.false_eq_true, applyUpd, Int.reduceEq, Int.reduceNeg, bin_add, bin_sub, bin_mul, bin_lss, bin_leq, bin_gtr, bin_geq, bin_eql, bin_neq, un_not, wv_cap, wv_appendMake, wv_clear, wv_toString, wv_toBytes, wv_sameB, wv_mkIface, wv_minmax, g0, g5, g6, w1, w2, he]
  refine ⟨fun j hj => ?_, v', rfl, hb'⟩
  simp (disch := omega) only [get_cons, if_neg]

theorem m_4_gen (h38 : tbl 38 = some fun38) (h37 : tbl 37 = some fun37) (h33 : tbl 33 = some fun33) (hb : BytesV s w zs) (hz2 : zs.length < 2 ^ 40) (g7 : e.get 7 = some w) : WCode (fun k => call tbl ov k) m_4 e s fun x e' s' => x = .normal ∧ (∀ j, j < 8 → e'.get j = e.get j) ∧ Kept [] s s' ∧ ∃ q c b, e'.get 8 = some (.pointer (some ⟨q, 0, none⟩)) ∧ e'.get 9 = some (.bool b) ∧ s.next ≤ q ∧ q < s'.next ∧ s'.heap.get q = some (.cells c 50 0 false) ∧ c.length = 6 ∧ c.all isCell = true ∧ ((decL zs = none ∧ b = false) ∨ ∃ r, decL zs = some r ∧ b = r.sound ∧ c = r.cells) := by
  simp only [m_4, r3b, r_3, code26, params, wc_skip, wc_region, wc_draw, wc_seq, wc_cond, wc_block, wc_exit, wc_ret, next_normal, next_exit, next_ret, inBlock_normal, inBlock_ret, inBlock_exit, sq_apply, nrm_apply, drawnK_apply, boolV_bool, ccond_true, ccond_false, wo_nil, wo_cons, wo_guard, wop, bindP_some, cont_some, cont_none, guardV_bool, guardV_undef, gcont_true, gcont_false, gcont_false', ret_apply, aggK_apply, putK_apply, resK_apply, boolK_apply, ccont_apply, wd_nil, wd_cons, dvals_apply, dcont_some, dcont_none, AOp.vals, rd_tmp, rd_const, rd_func, get_cons, mapList, mapOpt, Option.bind_some, Option.map_some, Nat.reduceEqDiff, if_true, if_false, reduceIte, reduceCtorEq, wv_mov, wv_pick, wv_alloc, wv_box, wv_build, wv_load, wv_loadn, wv_store, wv_nilCheck, wv_bin, wv_eq, wv_un, wv_convInt, wv_convSame, wv_fieldAddr, wv_field, wv_fieldn, wv_extract, wv_lenSlice, wv_lenString, wv_mkMap, wv_call, callee_func, wv_indexAddr, wv_lookup, wv_mapUpdate, wv_mapEntry, wv_entryStore, wv_delete, wv_append, wv_slice, wv_mkSlice, wv_buildSlice, wv_index, wv_copy, wv_lenMap, Abs.cellAt, Abs.rowAt, Abs.storeAt, Heap.get_put, List.getElem?_cons_zero, List.getElem?_cons_succ, Nat.zero_add, Nat.reduceAdd, idx, and_self, Int.toNat_natCast, cellsAt, ne_eq, not_true_eq_false, not_false_eq_true, cellList, Value.cells, List.length_cons, List.length_nil, List.all_cons, List.all_nil, isCell, Bool.and_self, storeL, List.set_cons_zero, List.set_cons_succ, footOf, true_and, and_true, Nat.reduceLeDiff, Nat.le_refl, Nat.reduceMul, Nat.reduceLT, List.nil_append, List.cons_append, List.length_set, ends_normal, ends_ret, endK_apply, resV_tmp, tupleV, eqV, Bool.not_true, Bool.not_false, BEq.rfl, Bool.true_beq, Bool.false_beq, beq_true, beq_false, Nat.sub_self, List.range'_zero, decide_true, decide_false, List.not_mem_nil, false_implies, implies_true, Bool.true_and, Bool.and_true, drawn, pairOk, disj, quietAt, Bool.bne_false, Bool.bne_true, Bool.false_eq_true, applyUpd, Int.reduceEq, Int.reduceNeg, bin_add, bin_sub, bin_mul, bin_lss, bin_leq, bin_gtr, bin_geq, bin_eql, bin_neq, un_not, wv_cap, wv_appendMake, wv_clear, wv_toString, wv_toBytes, wv_sameB, wv_mkIface, wv_minmax, g7]
  refine WCall.mono (decode_spec h38 h37 h33 hb hz2) ?_
  rintro u s1 ⟨hk, c, b, rfl, hc6, hall, hdec⟩
  have hst : storeL [in64 0, in64 0, .string ⟨#[]⟩, .string ⟨#[]⟩, in64 0, in64 0] 0 c = c := by
    match c, hc6 with
    | [_, _, _, _, _, _], _ => rfl
  simp only [params, wc_skip, wc_region, wc_draw, wc_seq, wc_cond, wc_block, wc_exit, wc_ret, next_normal, next_exit, next_ret, inBlock_normal, inBlock_ret, inBlock_exit, sq_apply, nrm_apply, drawnK_apply, boolV_bool, ccond_true, ccond_false, wo_nil, wo_cons, wo_guard, wop, bindP_some, cont_some, cont_none, guardV_bool, guardV_undef, gcont_true, gcont_false, gcont_false', ret_apply, aggK_apply, putK_apply, resK_apply, boolK_apply, ccont_apply, wd_nil, wd_cons, dvals_apply, dcont_some, dcont_none, AOp.vals, rd_tmp, rd_const, rd_func, get_cons, mapList, mapOpt, Option.bind_some, Option.map_some, Nat.reduceEqDiff, if_true, if_false, reduceIte, reduceCtorEq, wv_mov, wv_pick, wv_alloc, wv_box, wv_build, wv_load, wv_loadn, wv_store, wv_nilCheck, wv_bin, wv_eq, wv_un, wv_convInt, wv_convSame, wv_fieldAddr, wv_field, wv_fieldn, wv_extract, wv_lenSlice, wv_lenString, wv_mkMap, wv_call, callee_func, wv_indexAddr, wv_lookup, wv_mapUpdate, wv_mapEntry, wv_entryStore, wv_delete, wv_append, wv_slice, wv_mkSlice, wv_buildSlice, wv_index, wv_copy, wv_lenMap, Abs.cellAt, Abs.rowAt, Abs.storeAt, Heap.get_put, List.getElem?_cons_zero, List.getElem?_cons_succ, Nat.zero_add, Nat.reduceAdd, idx, and_self, Int.toNat_natCast, cellsAt, ne_eq, not_true_eq_false, not_false_eq_true, cellList, Value.cells, List.length_cons, List.length_nil, List.all_cons, List.all_nil, isCell, Bool.and_self, storeL, List.set_cons_zero, List.set_cons_succ, footOf, true_and, and_true, Nat.reduceLeDiff, Nat.le_refl, Nat.reduceMul, Nat.reduceLT, List.nil_append, List.cons_append, List.length_set, ends_normal, ends_ret, endK_apply, resV_tmp, tupleV, eqV, Bool.not_true, Bool.not_false, BEq.rfl, Bool.true_beq, Bool.false_beq, beq_true, beq_false, Nat.sub_self, List.range'_zero, decide_true, decide_false, List.not_mem_nil, false_implies, implies_true, Bool.true_and, Bool.and_true, drawn, pairOk, disj, quietAt, Bool.bne_false, Bool.bne_true, Bool.false_eq_true, applyUpd, Int.reduceEq, Int.reduceNeg, bin_add, bin_sub, bin_mul, bin_lss, bin_leq, bin_gtr, bin_geq, bin_eql, bin_neq, un_not, wv_cap, wv_appendMake, wv_clear, wv_toString, wv_toBytes, wv_sameB, wv_mkIface, wv_minmax, g7, List.toList_toArray, hc6, hall, hst]
  refine ⟨fun j hj => ?_, ⟨Nat.le_trans hk.1 (Nat.le_succ _), fun id hid _ => ?_⟩, s1.next, c, b, rfl, rfl, hk.1, Nat.lt_succ_self _, ?_, hc6, hall, hdec⟩
  · simp (disch := omega) only [get_cons, if_neg]
  · have : ¬ id = s1.next := by have := hk.1; omega
    simp only [Heap.get_put, this, if_false]
    exact hk.2 id hid (by simp)
  · simp only [Heap.get_put, if_true]

theorem m_5_gen (h28 : tbl 28 = some fun28) (h37 : tbl 37 = some fun37) (hb : BytesV s v zs) (hz2 : zs.length < 2 ^ 40) (hi : i + 6 ≤ zs.length) {part : List Int} (hw : BytesV s w part) (hp2 : part.length < 2 ^ 40) {b : Bool} (g0 : e.get 0 = some v) (g5 : e.get 5 = some (in64 i)) (g7 : e.get 7 = some w) (g9 : e.get 9 = some (.bool b)) :
    WCode (fun k => call tbl ov k) m_5 e s fun x e' s' => x = .normal ∧ (∀ j, j < 10 → e'.get j = e.get j) ∧ e'.get 56 = some (.bool (!(decide ((sumL part).toNat = sumAt zs i) && b))) ∧ s' = s := by
  obtain ⟨v', hb', he⟩ := hb.cut (m := i + 2) (n := i + 6) (by omega) (by omega)
  have he := he .i64 .i64
  have hln : ((zs.take (i + 6)).drop (i + 2)).length = 4 := by rw [List.length_drop, List.length_take]; omega
  have w1 : IntKind.i64.wrap ((i : Int) + 2) = ((i + 2 : Nat) : Int) := by rw [wrap64 (by omega) (by omega)]; omega
  have w2 : IntKind.i64.wrap ((i : Int) + 6) = ((i + 6 : Nat) : Int) := by rw [wrap64 (by omega) (by omega)]; omega
  have hlt := (sumL part).isLt
  have w3 := wrap_u64 (n := ((sumL part).toNat : Int)) (by omega)
  rw [m_5_eq]
  refine wc_quiet ?_
  simp only [m5ops, m_5, r3b, r_3, code26, opsOf, params, wc_skip, wc_region, wc_draw, wc_seq, wc_cond, wc_block, wc_exit, wc_ret, next_normal, next_exit, next_ret, inBlock_normal, inBlock_ret, inBlock_exit, sq_apply, nrm_apply, drawnK_apply, boolV_bool, ccond_true, ccond_false, wo_nil, wo_cons, wo_guard, wop, bindP_some, cont_some, cont_none, guardV_bool, guardV_undef, gcont_true, gcont_false, gcont_false', ret_apply, aggK_apply, putK_apply, resK_apply, boolK_apply, ccont_apply, wd_nil, wd_cons, dvals_apply, dcont_some, dcont_none, AOp.vals, rd_tmp, rd_const, rd_func, get_cons, mapList, mapOpt, Option.bind_some, Option.map_some, Nat.reduceEqDiff, if_true, if_false, reduceIte, reduceCtorEq, wv_mov, wv_pick, wv_alloc, wv_box, wv_build, wv_load, wv_loadn, wv_store, wv_nilCheck, wv_bin, wv_eq, wv_un, wv_convInt, wv_convSame, wv_fieldAddr, wv_field, wv_fieldn, wv_extract, wv_lenSlice, wv_lenString, wv_mkMap, wv_call, callee_func, wv_indexAddr, wv_lookup, wv_mapUpdate, wv_mapEntry, wv_entryStore, wv_delete, wv_append, wv_slice, wv_mkSlice, wv_buildSlice, wv_index, wv_copy, wv_lenMap, Abs.cellAt, Abs.rowAt, Abs.storeAt, Heap.get_put, List.getElem?_cons_zero, List.getElem?_cons_succ, Nat.zero_add, Nat.reduceAdd, idx, and_self, Int.toNat_natCast, cellsAt, ne_eq, not_true_eq_false, not_false_eq_true, cellList, Value.cells, List.length_cons, List.length_nil, List.all_cons, List.all_nil, isCell, Bool.and_self, storeL, List.set_cons_zero, List.set_cons_succ, footOf, true_and, and_true, Nat.reduceLeDiff, Nat.le_refl, Nat.reduceMul, Nat.reduceLT, List.nil_append, List.cons_append, List.length_set, ends_normal, ends_ret, endK_apply, resV_tmp, tupleV, eqV, Bool.not_true, Bool.not_false, BEq.rfl, Bool.true_beq, Bool.false_beq, beq_true, beq_false, Nat.sub_self, List.range'_zero, decide_true, decide_false, List.not_mem_nil, false_implies, implies_true, Bool.true_and, Bool.and_true, drawn, pairOk, disj, quietAt, Bool.bne_false, Bool.bne_true, Bool.false_eq_true, applyUpd, Int.reduceEq, Int.reduceNeg, bin_add, bin_sub, bin_mul, bin_lss, bin_leq, bin_gtr, bin_geq, bin_eql, bin_neq, un_not, wv_cap, wv_appendMake, wv_clear, wv_toString, wv_toBytes, wv_sameB, wv_mkIface, wv_minmax, qcont_some, qcont_none, wq_nil, wq_cons, wq_guard, qgcont_true, qgcont_false, List.mem_cons, List.not_mem_nil, or_false, false_or, or_self, g0, g5, g7, g9]
  refine WCall.mono (sum_spec h28 hw (by omega)) ?_
  rintro u s1 ⟨rfl, rfl⟩
  simp only [params, wc_skip, wc_region, wc_draw, wc_seq, wc_cond, wc_block, wc_exit, wc_ret, next_normal, next_exit, next_ret, inBlock_normal, inBlock_ret, inBlock_exit, sq_apply, nrm_apply, drawnK_apply, boolV_bool, ccond_true, ccond_false, wo_nil, wo_cons, wo_guard, wop, bindP_some, cont_some, cont_none, guardV_bool, guardV_undef, gcont_true, gcont_false, gcont_false', ret_apply, aggK_apply, putK_apply, resK_apply, boolK_apply, ccont_apply, wd_nil, wd_cons, dvals_apply, dcont_some, dcont_none, AOp.vals, rd_tmp, rd_const, rd_func, get_cons, mapList, mapOpt, Option.bind_some, Option.map_some, Nat.reduceEqDiff, if_true, if_false, reduceIte, reduceCtorEq, wv_mov, wv_pick, wv_alloc, wv_box, wv_build, wv_load, wv_loadn, wv_store, wv_nilCheck, wv_bin, wv_eq, wv_un, wv_convInt, wv_convSame, wv_fieldAddr, wv_field, wv_fieldn, wv_extract, wv_lenSlice, wv_lenString, wv_mkMap, wv_call, callee_func, wv_indexAddr, wv_lookup, wv_mapUpdate, wv_mapEntry, wv_entryStore, wv_delete, wv_append, wv_slice, wv_mkSlice, wv_buildSlice, wv_index, wv_copy, wv_lenMap, Abs.cellAt, Abs.rowAt, Abs.storeAt, Heap.get_put, List.getElem?_cons_zero, List.getElem?_cons_succ, Nat.zero_add, Nat.reduceAdd, idx, and_self, Int.toNat_natCast, cellsAt, ne_eq, not_true_eq_false, not_false_eq_true, cellList, Value.cells, List.length_cons, List.length_nil, List.all_cons, List.all_nil, isCell, Bool.and_self, storeL, List.set_cons_zero, List.set_cons_succ, footOf, true_and, and_true, Nat.reduceLeDiff, Nat.le_refl, Nat.reduceMul, Nat.reduceLT, List.nil_append, List.cons_append, List.length_set, ends_normal, ends_ret, endK_apply, resV_tmp, tupleV, eqV, Bool.not_true, Bool.not_false, BEq.rfl, Bool.true_beq, Bool.false_beq, beq_true, beq_false, Nat.sub_self, List.range'_zero, decide_true, decide_false, List.not_mem_nil, false_implies, implies_true, Bool.true_and, Bool.and_true, drawn, pairOk, disj, quietAt, Bool.bne_false, Bool.bne_true, Bool.false_eq_true, applyUpd, Int.reduceEq, Int.reduceNeg, bin_add, bin_sub, bin_mul, bin_lss, bin_leq, bin_gtr, bin_geq, bin_eql, bin_neq, un_not, wv_cap, wv_appendMake, wv_clear, wv_toString, wv_toBytes, wv_sameB, wv_mkIface, wv_minmax, qcont_some, qcont_none, wq_nil, wq_cons, wq_guard, qgcont_true, qgcont_false, List.mem_cons, List.not_mem_nil, or_false, false_or, or_self, Quiet.refl, g0, g5, g7, g9, w1, w2, w3, he]
  refine WCall.mono (read_spec h37 hb' (by omega)) ?_
  rintro u s2 ⟨rfl, rfl⟩
  have d : (((sumL part).toNat : Int) != ((valL ((zs.take (i + 6)).drop (i + 2)) : Nat) : Int)) = !decide ((sumL part).toNat = sumAt zs i) := by
    show _ = !decide ((sumL part).toNat = valL ((zs.take (i + 6)).drop (i + 2)))
    generalize (sumL part).toNat = x
    generalize valL ((zs.take (i + 6)).drop (i + 2)) = y
    by_cases h : x = y
    · subst h; simp
    · have h2 : ¬ (x : Int) = (y : Int) := by omega
      simp [h, h2]
  cases hd : decide ((sumL part).toNat = sumAt zs i) with
  | false =>
    rw [hd] at d
    simp only [params, wc_skip, wc_region, wc_draw, wc_seq, wc_cond, wc_block, wc_exit, wc_ret, next_normal, next_exit, next_ret, inBlock_normal, inBlock_ret, inBlock_exit, sq_apply, nrm_apply, drawnK_apply, boolV_bool, ccond_true, ccond_false, wo_nil, wo_cons, wo_guard, wop, bindP_some, cont_some, cont_none, guardV_bool, guardV_undef, gcont_true, gcont_false, gcont_false', ret_apply, aggK_apply, putK_apply, resK_apply, boolK_apply, ccont_apply, wd_nil, wd_cons, dvals_apply, dcont_some, dcont_none, AOp.vals, rd_tmp, rd_const, rd_func, get_cons, mapList, mapOpt, Option.bind_some, Option.map_some, Nat.reduceEqDiff, if_true, if_false, reduceIte, reduceCtorEq, wv_mov, wv_pick, wv_alloc, wv_box, wv_build, wv_load, wv_loadn, wv_store, wv_nilCheck, wv_bin, wv_eq, wv_un, wv_convInt, wv_convSame, wv_fieldAddr, wv_field, wv_fieldn, wv_extract, wv_lenSlice, wv_lenString, wv_mkMap, wv_call, callee_func, wv_indexAddr, wv_lookup, wv_mapUpdate, wv_mapEntry, wv_entryStore, wv_delete, wv_append, wv_slice, wv_mkSlice, wv_buildSlice, wv_index, wv_copy, wv_lenMap, Abs.cellAt, Abs.rowAt, Abs.storeAt, Heap.get_put, List.getElem?_cons_zero, List.getElem?_cons_succ, Nat.zero_add, Nat.reduceAdd, idx, and_self, Int.toNat_natCast, cellsAt, ne_eq, not_true_eq_false, not_false_eq_true, cellList, Value.cells, List.length_cons, List.length_nil, List.all_cons, List.all_nil, isCell, Bool.and_self, storeL, List.set_cons_zero, List.set_cons_succ, footOf, true_and, and_true, Nat.reduceLeDiff, Nat.le_refl, Nat.reduceMul, Nat.reduceLT, List.nil_append, List.cons_append, List.length_set, ends_normal, ends_ret, endK_apply, resV_tmp, tupleV, eqV, Bool.not_true, Bool.not_false, BEq.rfl, Bool.true_beq, Bool.false_beq, beq_true, beq_false, Nat.sub_self, List.range'_zero, decide_true, decide_false, List.not_mem_nil, false_implies, implies_true, Bool.true_and, Bool.and_true, drawn, pairOk, disj, quietAt, Bool.bne_false, Bool.bne_true, Bool.false_eq_true, applyUpd, Int.reduceEq, Int.reduceNeg, bin_add, bin_sub, bin_mul, bin_lss, bin_leq, bin_gtr, bin_geq, bin_eql, bin_neq, un_not, wv_cap, wv_appendMake, wv_clear, wv_toString, wv_toBytes, wv_sameB, wv_mkIface, wv_minmax, qcont_some, qcont_none, wq_nil, wq_cons, wq_guard, qgcont_true, qgcont_false, List.mem_cons, List.not_mem_nil, or_false, false_or, or_self, Quiet.refl, g0, g5, g7, g9, d, Bool.false_and]
    intro j hj
    simp (disch := omega) only [get_cons, if_neg]
  | true =>
    rw [hd] at d
    simp only [params, wc_skip, wc_region, wc_draw, wc_seq, wc_cond, wc_block, wc_exit, wc_ret, next_normal, next_exit, next_ret, inBlock_normal, inBlock_ret, inBlock_exit, sq_apply, nrm_apply, drawnK_apply, boolV_bool, ccond_true, ccond_false, wo_nil, wo_cons, wo_guard, wop, bindP_some, cont_some, cont_none, guardV_bool, guardV_undef, gcont_true, gcont_false, gcont_false', ret_apply, aggK_apply, putK_apply, resK_apply, boolK_apply, ccont_apply, wd_nil, wd_cons, dvals_apply, dcont_some, dcont_none, AOp.vals, rd_tmp, rd_const, rd_func, get_cons, mapList, mapOpt, Option.bind_some, Option.map_some, Nat.reduceEqDiff, if_true, if_false, reduceIte, reduceCtorEq, wv_mov, wv_pick, wv_alloc, wv_box, wv_build, wv_load, wv_loadn, wv_store, wv_nilCheck, wv_bin, wv_eq, wv_un, wv_convInt, wv_convSame, wv_fieldAddr, wv_field, wv_fieldn, wv_extract, wv_lenSlice, wv_lenString, wv_mkMap, wv_call, callee_func, wv_indexAddr, wv_lookup, wv_mapUpdate, wv_mapEntry, wv_entryStore, wv_delete, wv_append, wv_slice, wv_mkSlice, wv_buildSlice, wv_index, wv_copy, wv_lenMap, Abs.cellAt, Abs.rowAt, Abs.storeAt, Heap.get_put, List.getElem?_cons_zero, List.getElem?_cons_succ, Nat.zero_add, Nat.reduceAdd, idx, and_self, Int.toNat_natCast, cellsAt, ne_eq, not_true_eq_false, not_false_eq_true, cellList, Value.cells, List.length_cons, List.length_nil, List.all_cons, List.all_nil, isCell, Bool.and_self, storeL, List.set_cons_zero, List.set_cons_succ, footOf, true_and, and_true, Nat.reduceLeDiff, Nat.le_refl, Nat.reduceMul, Nat.reduceLT, List.nil_append, List.cons_append, List.length_set, ends_normal, ends_ret, endK_apply, resV_tmp, tupleV, eqV, Bool.not_true, Bool.not_false, BEq.rfl, Bool.true_beq, Bool.false_beq, beq_true, beq_false, Nat.sub_self, List.range'_zero, decide_true, decide_false, List.not_mem_nil, false_implies, implies_true, Bool.true_and, Bool.and_true, drawn, pairOk, disj, quietAt, Bool.bne_false, Bool.bne_true, Bool.false_eq_true, applyUpd, Int.reduceEq, Int.reduceNeg, bin_add, bin_sub, bin_mul, bin_lss, bin_leq, bin_gtr, bin_geq, bin_eql, bin_neq, un_not, wv_cap, wv_appendMake, wv_clear, wv_toString, wv_toBytes, wv_sameB, wv_mkIface, wv_minmax, qcont_some, qcont_none, wq_nil, wq_cons, wq_guard, qgcont_true, qgcont_false, List.mem_cons, List.not_mem_nil, or_false, false_or, or_self, Quiet.refl, g0, g5, g7, g9, d, Bool.true_and]
    intro j hj
    simp (disch := omega) only [get_cons, if_neg]

theorem m_6_gen {L : List (List Value)} {S : List Nat} (ho : RowsO 50 6 s v L S) (hL : L.length < 2 ^ 39) {c : List Value} (hc : c.length = 6) (hall : c.all isCell = true) (hq : s.heap.get q = some (.cells c 50 0 false)) (hqn : q < s.next) (g4 : e.get 4 = some v) (g8 : e.get 8 = some (.pointer (some ⟨q, 0, none⟩))) :
    WCode (fun k => call tbl ov k) m_6 e s fun x e' s' => x = .normal ∧ e'.get 0 = e.get 0 ∧ e'.get 5 = e.get 5 ∧ e'.get 6 = e.get 6 ∧ ∃ v' S', e'.get 4 = some v' ∧ RowsO 50 6 s' v' (L ++ [c]) S' ∧ Kept S s s' ∧ ∀ x ∈ S', x ∈ S ∨ s.next ≤ x := by
  have hst : storeL [in64 0, in64 0, .string ⟨#[]⟩, .string ⟨#[]⟩, in64 0, in64 0] 0 c = c := by
    match c, hc with
    | [_, _, _, _, _, _], _ => rfl
  have htk : (c.drop 0).take 6 = c := by rw [List.drop_zero, List.take_of_length_le (by omega)]
  have hk1 : Kept [] s ⟨s.heap.put s.next (some (.cells c 50 6 false)), s.next + 1⟩ := ⟨Nat.le_succ _, fun id hid _ => by
    have : ¬ id = s.next := by omega
    simp only [Heap.get_put, this, if_false]⟩
  have ho1 := ho.kept hk1 (fun _ _ => by simp)
  obtain ⟨val, upd, nx, S', he, ho2, hk2, hS⟩ := ho1.append1 (b := 64) (c1 := c) (m := s.next) (t' := 50) (sz' := 6) (ro := false) hc hall (by simp only [Heap.get_put, if_true]) (by simp [tooBig]; omega) (by simp [tooBig])
  simp only [m_6, r3b, r_3, code26, params, wc_skip, wc_region, wc_draw, wc_seq, wc_cond, wc_block, wc_exit, wc_ret, next_normal, next_exit, next_ret, inBlock_normal, inBlock_ret, inBlock_exit, sq_apply, nrm_apply, drawnK_apply, boolV_bool, ccond_true, ccond_false, wo_nil, wo_cons, wo_guard, wop, bindP_some, cont_some, cont_none, guardV_bool, guardV_undef, gcont_true, gcont_false, gcont_false', ret_apply, aggK_apply, putK_apply, resK_apply, boolK_apply, ccont_apply, wd_nil, wd_cons, dvals_apply, dcont_some, dcont_none, AOp.vals, rd_tmp, rd_const, rd_func, get_cons, mapList, mapOpt, Option.bind_some, Option.map_some, Nat.reduceEqDiff, if_true, if_false, reduceIte, reduceCtorEq, wv_mov, wv_pick, wv_alloc, wv_box, wv_build, wv_load, wv_loadn, wv_store, wv_nilCheck, wv_bin, wv_eq, wv_un, wv_convInt, wv_convSame, wv_fieldAddr, wv_field, wv_fieldn, wv_extract, wv_lenSlice, wv_lenString, wv_mkMap, wv_call, callee_func, wv_indexAddr, wv_lookup, wv_mapUpdate, wv_mapEntry, wv_entryStore, wv_delete, wv_append, wv_slice, wv_mkSlice, wv_buildSlice, wv_index, wv_copy, wv_lenMap, Abs.cellAt, Abs.rowAt, Abs.storeAt, Heap.get_put, List.getElem?_cons_zero, List.getElem?_cons_succ, Nat.zero_add, Nat.reduceAdd, idx, and_self, Int.toNat_natCast, cellsAt, ne_eq, not_true_eq_false, not_false_eq_true, cellList, Value.cells, List.length_cons, List.length_nil, List.all_cons, List.all_nil, isCell, Bool.and_self, storeL, List.set_cons_zero, List.set_cons_succ, footOf, true_and, and_true, Nat.reduceLeDiff, Nat.le_refl, Nat.reduceMul, Nat.reduceLT, List.nil_append, List.cons_append, List.length_set, ends_normal, ends_ret, endK_apply, resV_tmp, tupleV, eqV, Bool.not_true, Bool.not_false, BEq.rfl, Bool.true_beq, Bool.false_beq, beq_true, beq_false, Nat.sub_self, List.range'_zero, decide_true, decide_false, List.not_mem_nil, false_implies, implies_true, Bool.true_and, Bool.and_true, drawn, pairOk, disj, quietAt, Bool.bne_false, Bool.bne_true, Bool.false_eq_true, applyUpd, Int.reduceEq, Int.reduceNeg, bin_add, bin_sub, bin_mul, bin_lss, bin_leq, bin_gtr, bin_geq, bin_eql, bin_neq, un_not, wv_cap, wv_appendMake, wv_clear, wv_toString, wv_toBytes, wv_sameB, wv_mkIface, wv_minmax, g4, g8, hq, hc, htk, ev_buildSlice, fillL, mapParts, List.toList_toArray, hst, he]
  refine ⟨val, S', rfl, ho2, ⟨Nat.le_trans hk1.1 hk2.1, fun id hid hn => ?_⟩, fun x hx => ?_⟩
  · have h1 := hk2.2 id (Nat.lt_of_lt_of_le hid hk1.1) hn
    have h2 := hk1.2 id hid (by simp)
    exact h1.trans h2
  · rcases hS x hx with h | h
    · exact .inl h
    · exact .inr (by have := hk1.1; omega)

theorem m_7_gen (hi : i < 2 ^ 40) (hn : n < 2 ^ 40) (g5 : e.get 5 = some (in64 i)) (g6 : e.get 6 = some (in64 n)) : WCode (fun k => call tbl ov k) m_7 e s fun x e' s' => x = .normal ∧ (∀ j, j < 5 → e'.get j = e.get j) ∧ e'.get 5 = some (in64 (i + 6 + n : Nat)) ∧ s' = s := by
  have w1 : IntKind.i64.wrap (6 + (n : Int)) = ((6 + n : Nat) : Int) := by rw [wrap64 (by omega) (by omega)]; omega
  have w2 : IntKind.i64.wrap ((i : Int) + ((6 + n : Nat) : Int)) = ((i + 6 + n : Nat) : Int) := by rw [wrap64 (by omega) (by omega)]; omega
  simp only [m_7, r3b, r_3, code26, params, wc_skip, wc_region, wc_draw, wc_seq, wc_cond, wc_block, wc_exit, wc_ret, next_normal, next_exit, next_ret, inBlock_normal, inBlock_ret, inBlock_exit, sq_apply, nrm_apply, drawnK_apply, boolV_bool, ccond_true, ccond_false, wo_nil, wo_cons, wo_guard, wop, bindP_some, cont_some, cont_none, guardV_bool, guardV_undef, gcont_true, gcont_false, gcont_false', ret_apply, aggK_apply, putK_apply, resK_apply, boolK_apply, ccont_apply, wd_nil, wd_cons, dvals_apply, dcont_some, dcont_none, AOp.vals, rd_tmp, rd_const, rd_func, get_cons, mapList, mapOpt, Option.bind_some, Option.map_some, Nat.reduceEqDiff, if_true, if_false, reduceIte, reduceCtorEq, wv_mov, wv_pick, wv_alloc, wv_box, wv_build, wv_load, wv_loadn, wv_store, wv_nilCheck, wv_bin, wv_eq, wv_un, wv_convInt, wv_convSame, wv_fieldAddr, wv_field, wv_fieldn, wv_extract, wv_lenSlice, wv_lenString, wv_mkMap, wv_call, callee_func, wv_indexAddr, wv_lookup, wv_mapUpdate, wv_mapEntry, wv_entryStore, wv_delete, wv_append, wv_slice, wv_mkSlice, wv_buildSlice, wv_index, wv_copy, wv_lenMap, Abs.cellAt, Abs.rowAt, Abs.storeAt, Heap.get_put, List.getElem?_cons_zero, List.getElem?_cons_succ, Nat.zero_add, Nat.reduceAdd, idx, and_self, Int.toNat_natCast, cellsAt, ne_eq, not_true_eq_false, not_false_eq_true, cellList, Value.cells, List.length_cons, List.length_nil, List.all_cons, List.all_nil, isCell, Bool.and_self, storeL, List.set_cons_zero, List.set_cons_succ, footOf, true_and, and_true, Nat.reduceLeDiff, Nat.le_refl, Nat.reduceMul, Nat.reduceLT, List.nil_append, List.cons_append, List.length_set, ends_normal, ends_ret, endK_apply, resV_tmp, tupleV, eqV, Bool.not_true, Bool.not_false, BEq.rfl, Bool.true_beq, Bool.false_beq, beq_true, beq_false, Nat.sub_self, List.range'_zero, decide_true, decide_false, List.not_mem_nil, false_implies, implies_true, Bool.true_and, Bool.and_true, drawn, pairOk, disj, quietAt, Bool.bne_false, Bool.bne_true, Bool.false_eq_true, applyUpd, Int.reduceEq, Int.reduceNeg, bin_add, bin_sub, bin_mul, bin_lss, bin_leq, bin_gtr, bin_geq, bin_eql, bin_neq, un_not, wv_cap, wv_appendMake, wv_clear, wv_toString, wv_toBytes, wv_sameB, wv_mkIface, wv_minmax, g5, g6, w1, w2]
  intro j hj
  simp (disch := omega) only [get_cons, if_neg]

theorem scan_spec (T : FrameTbl tbl) (hb : BytesV s v zs) (hz2 : zs.length < 2 ^ 30) : WCall (fun k => call tbl ov k) 26 [v] s fun u s' => Kept [] s s' ∧ ∃ w S, u = .tuple #[w, in64 (scanL zs.length zs 0).2] ∧ RowsO 50 6 s' w ((scanL zs.length zs 0).1.map FRec.cells) S ∧ ∀ x ∈ S, s.next ≤ x := by
  refine WCall.of T.h26 rfl ?_
  simp only [fun26, code26_eq, params]
  have h0 : WCode (fun k => call tbl ov k) (.seq (.seq r_0 r_1) r_2) [(0, v)] s fun x e' s' => x = .normal ∧ e'.get 0 = some v ∧ e'.get 4 = some (.slice none 0 0) ∧ e'.get 5 = some (in64 0) ∧ s' = s := by
    simp only [r_0, r_1, r_2, code26, params, wc_skip, wc_region, wc_draw, wc_seq, wc_cond, wc_block, wc_exit, wc_ret, next_normal, next_exit, next_ret, inBlock_normal, inBlock_ret, inBlock_exit, sq_apply, nrm_apply, drawnK_apply, boolV_bool, ccond_true, ccond_false, wo_nil, wo_cons, wo_guard, wop, bindP_some, cont_some, cont_none, guardV_bool, guardV_undef, gcont_true, gcont_false, gcont_false', ret_apply, aggK_apply, putK_apply, resK_apply, boolK_apply, ccont_apply, wd_nil, wd_cons, dvals_apply, dcont_some, dcont_none, AOp.vals, rd_tmp, rd_const, rd_func, get_cons, mapList, mapOpt, Option.bind_some, Option.map_some, Nat.reduceEqDiff, if_true, if_false, reduceIte, reduceCtorEq, wv_mov, wv_pick, wv_alloc, wv_box, wv_build, wv_load, wv_loadn, wv_store, wv_nilCheck, wv_bin, wv_eq, wv_un, wv_convInt, wv_convSame, wv_fieldAddr, wv_field, wv_fieldn, wv_extract, wv_lenSlice, wv_lenString, wv_mkMap, wv_call, callee_func, wv_indexAddr, wv_lookup, wv_mapUpdate, wv_mapEntry, wv_entryStore, wv_delete, wv_append, wv_slice, wv_mkSlice, wv_buildSlice, wv_index, wv_copy, wv_lenMap, Abs.cellAt, Abs.rowAt, Abs.storeAt, Heap.get_put, List.getElem?_cons_zero, List.getElem?_cons_succ, Nat.zero_add, Nat.reduceAdd, idx, and_self, Int.toNat_natCast, cellsAt, ne_eq, not_true_eq_false, not_false_eq_true, cellList, Value.cells, List.length_cons, List.length_nil, List.all_cons, List.all_nil, isCell, Bool.and_self, storeL, List.set_cons_zero, List.set_cons_succ, footOf, true_and, and_true, Nat.reduceLeDiff, Nat.le_refl, Nat.reduceMul, Nat.reduceLT, List.nil_append, List.cons_append, List.length_set, ends_normal, ends_ret, endK_apply, resV_tmp, tupleV, eqV, Bool.not_true, Bool.not_false, BEq.rfl, Bool.true_beq, Bool.false_beq, beq_true, beq_false, Nat.sub_self, List.range'_zero, decide_true, decide_false, List.not_mem_nil, false_implies, implies_true, Bool.true_and, Bool.and_true, drawn, pairOk, disj, quietAt, Bool.bne_false, Bool.bne_true, Bool.false_eq_true, applyUpd, Int.reduceEq, Int.reduceNeg, bin_add, bin_sub, bin_mul, bin_lss, bin_leq, bin_gtr, bin_geq, bin_eql, bin_neq, un_not, wv_cap, wv_appendMake, wv_clear, wv_toString, wv_toBytes, wv_sameB, wv_mkIface, wv_minmax]
  rw [wc_assoc, wc_assoc]
  refine wc_then h0 ?_
  rintro e1 s1 ⟨a0, a4, a5, rfl⟩
  refine wc_then (R := fun e' s' => ∃ w S, e'.get 4 = some w ∧ e'.get 5 = some (in64 (scanL zs.length zs 0).2) ∧ RowsO 50 6 s' w ((scanL zs.length zs 0).1.map FRec.cells) S ∧ Kept [] s1 s' ∧ ∀ x ∈ S, s1.next ≤ x) ?_ ?_
  · rw [r_3_eq]
    refine wc_while (fun m e' s' => ∃ i L w S, m = zs.length - i ∧ i ≤ zs.length ∧ e'.get 0 = some v ∧ e'.get 4 = some w ∧ e'.get 5 = some (in64 (i : Nat)) ∧ RowsO 50 6 s' w (L.map FRec.cells) S ∧ Kept [] s1 s' ∧ (∀ x ∈ S, s1.next ≤ x) ∧ L.length ≤ i ∧ scanL zs.length zs 0 = (L ++ (scanL (zs.length - i) zs i).1, (scanL (zs.length - i) zs i).2)) zs.length ?_ ?_
    · exact ⟨0, [], _, [], rfl, by omega, a0, a4, a5, ⟨by simp, .inl ⟨rfl, rfl, rfl⟩⟩, Kept.refl _ _, by simp, Nat.le_refl _, rfl⟩
    · rintro m e2 s2 E ⟨i, L, w, S, rfl, hi, b0, b4, b5, ho, hk, hS, hLi, hscan⟩ hE
      have c0 := (hE 0 (by simp)).trans b0
      have c4 := (hE 4 (by simp)).trans b4
      have c5 := (hE 5 (by simp)).trans b5
      have hb2 := hb.kept hk
      have hstop : stepL zs i = none → ∀ (e' : Env) s', e'.get 4 = some w → e'.get 5 = some (in64 i) → RowsO 50 6 s' w (L.map FRec.cells) S → Kept [] s1 s' →
          ∃ w S, e'.get 4 = some w ∧ e'.get 5 = some (in64 (scanL zs.length zs 0).2) ∧ RowsO 50 6 s' w ((scanL zs.length zs 0).1.map FRec.cells) S ∧ Kept [] s1 s' ∧ ∀ x ∈ S, s1.next ≤ x := by
        intro hn e' s' h4 h5 ho' hk'
        have h1 : scanL (zs.length - i) zs i = ([], i) := by
          cases hq : zs.length - i with
          | zero => rfl
          | succ f => simp only [scanL, hn]
        rw [h1] at hscan
        simp only [List.append_nil] at hscan
        refine ⟨w, S, h4, ?_, ?_, hk', hS⟩
        · rw [hscan]; exact h5
        · rw [hscan]; exact ho'
      refine WCode.mono ?_ (r3h_gen hb2 (by omega) hi c0 c5)
      rintro y e3 s3 ⟨rfl, k3, a14, rfl⟩
      refine ⟨rfl, _, a14, fun hbb => ?_, fun hbb => ?_⟩
      · simp only [decide_eq_false_iff_not] at hbb
        exact ⟨rfl, hstop (by unfold stepL; rw [if_neg (by omega)]) e3 s3 ((k3 4 (by omega)).trans c4) ((k3 5 (by omega)).trans c5) ho hk⟩
      simp only [decide_eq_true_eq] at hbb
      have hlt := lenAt_lt hb.1 hbb
      rw [wc_seq]
      refine WCode.mono ?_ (m_1_gen T.h37 hb2 (by omega) hbb ((k3 0 (by omega)).trans c0) ((k3 5 (by omega)).trans c5))
      rintro y e4 s4 ⟨rfl, k4, a6, rfl⟩
      rw [next_normal, sq_apply, wc_seq]
      refine wc_if ?_
      have d0 := (k4 0 (by omega)).trans ((k3 0 (by omega)).trans c0)
      have d4 := (k4 4 (by omega)).trans ((k3 4 (by omega)).trans c4)
      have d5 := (k4 5 (by omega)).trans ((k3 5 (by omega)).trans c5)
      refine WCode.mono ?_ (m_2_gen hb2 (by omega) hbb d0 d5 a6)
      rintro y e5 s5 ⟨rfl, k5, a28, rfl⟩
      refine ⟨rfl, _, a28, fun ht => ?_, fun hf => ?_⟩
      · simp only [decide_eq_true_eq] at ht
        rw [wc_exit, next_exit]
        exact .inr (.inl ⟨rfl, by decide, rfl, hstop (by unfold stepL; rw [if_neg (by omega)]) e5 s5 ((k5 4 (by omega)).trans d4) ((k5 5 (by omega)).trans d5) ho hk⟩)
      simp only [decide_eq_false_iff_not] at hf
      rw [wc_skip, next_normal, sq_apply, wc_seq]
      refine WCode.mono ?_ (m_3_gen hb2 (by omega) (n := lenAt zs i) (by omega) ((k5 0 (by omega)).trans d0) ((k5 5 (by omega)).trans d5) ((k5 6 (by omega)).trans a6))
      rintro y e6 s6 ⟨rfl, k6, ⟨pv, a7, hpv⟩, rfl⟩
      rw [next_normal, sq_apply, wc_seq]
      have hpv : BytesV s6 pv (partAt zs i) := hpv
      have hpl : (partAt zs i).length < 2 ^ 40 := by unfold partAt; rw [List.length_drop, List.length_take]; omega
      refine WCode.mono ?_ (m_4_gen T.h38 T.h37 T.h33 (zs := partAt zs i) hpv hpl a7)
      rintro y e7 s7 ⟨rfl, k7, hk7, q, c, b, a8, a9, hq1, hq2, hqc, hc6, hall, hdec⟩
      rw [next_normal, sq_apply, wc_seq]
      refine wc_if ?_
      have f0 := (k7 0 (by omega)).trans ((k6 0 (by omega)).trans ((k5 0 (by omega)).trans d0))
      have f4 := (k7 4 (by omega)).trans ((k6 4 (by omega)).trans ((k5 4 (by omega)).trans d4))
      have f5 := (k7 5 (by omega)).trans ((k6 5 (by omega)).trans ((k5 5 (by omega)).trans d5))
      have f6 := (k7 6 (by omega)).trans ((k6 6 (by omega)).trans ((k5 6 (by omega)).trans a6))
      have f7 := (k7 7 (by omega)).trans a7
      have hb7 := hb2.kept hk7
      have ho7 := ho.kept hk7 (fun _ _ => by simp)
      refine WCode.mono ?_ (m_5_gen T.h28 T.h37 hb7 (by omega) hbb (hpv.kept hk7) hpl f0 f5 f7 a9)
      rintro y e8 s8 ⟨rfl, k8, a56, rfl⟩
      refine ⟨rfl, _, a56, fun ht => ?_, fun hf2 => ?_⟩
      · have hn : stepL zs i = none := by
          unfold stepL
          rw [if_pos ⟨hbb, by omega⟩]
          rcases hdec with ⟨hd, rfl⟩ | ⟨r, hd, rfl, rfl⟩
          · rw [hd]
          · rw [hd]
            simp only
            rw [if_neg]
            rintro ⟨h1, h2⟩
            rw [h2, decide_eq_true h1] at ht
            simp at ht
        rw [wc_exit, next_exit]
        exact .inr (.inl ⟨rfl, by decide, rfl, hstop hn e8 s8 ((k8 4 (by omega)).trans f4) ((k8 5 (by omega)).trans f5) ho7 (hk.trans hk7)⟩)
      · simp only [Bool.not_eq_false', Bool.and_eq_true, decide_eq_true_eq] at hf2
        obtain ⟨r, hd, hbr, rfl⟩ : ∃ r, decL (partAt zs i) = some r ∧ b = r.sound ∧ c = r.cells := by
          rcases hdec with ⟨_, h⟩ | h
          · rw [h] at hf2; simp at hf2
          · exact h
        have hstep : stepL zs i = some (r, i + 6 + lenAt zs i) := by
          unfold stepL
          rw [if_pos ⟨hbb, by omega⟩, hd]
          simp only
          rw [if_pos ⟨hf2.1, by rw [← hbr]; exact hf2.2⟩]
        rw [wc_skip, next_normal, sq_apply, wc_seq]
        refine WCode.mono ?_ (m_6_gen ho7 (by rw [List.length_map]; omega) hc6 hall hqc hq2 ((k8 4 (by omega)).trans f4) ((k8 8 (by omega)).trans a8))
        rintro y e9 s9 ⟨rfl, h0', h5', h6', v', S', h4', ho9, hk9, hS9⟩
        rw [next_normal, sq_apply]
        refine WCode.mono ?_ (m_7_gen (i := i) (n := lenAt zs i) (by omega) (by omega) (h5'.trans ((k8 5 (by omega)).trans f5)) (h6'.trans ((k8 6 (by omega)).trans f6)))
        rintro y e10 s10 ⟨rfl, k10, a5', rfl⟩
        refine .inl ⟨.inl rfl, zs.length - (i + 6 + lenAt zs i), by omega, i + 6 + lenAt zs i, L ++ [r], v', S', rfl, by omega, (k10 0 (by omega)).trans (h0'.trans ((k8 0 (by omega)).trans f0)), (k10 4 (by omega)).trans h4', a5', by simpa using ho9, (hk.trans hk7).comp hk9 (fun x hx => .inr (hS x hx)), fun x hx => ?_, by simp; omega, ?_⟩
        · rcases hS9 x hx with h | h
          · exact hS x h
          · have := (hk.trans hk7).1; omega
        · rw [hscan]
          obtain ⟨f, hfu⟩ : ∃ f, zs.length - i = f + 1 := ⟨zs.length - i - 1, by omega⟩
          rw [hfu]
          simp only [scanL, hstep]
          rw [scanL_fuel f (zs.length - (i + 6 + lenAt zs i)) zs (i + 6 + lenAt zs i) (by omega) (by omega)]
          simp
  · rintro e2 s2 ⟨w, S, b4, b5, ho, hk, hS⟩
    simp only [r_4, code26, params, wc_skip, wc_region, wc_draw, wc_seq, wc_cond, wc_block, wc_exit, wc_ret, next_normal, next_exit, next_ret, inBlock_normal, inBlock_ret, inBlock_exit, sq_apply, nrm_apply, drawnK_apply, boolV_bool, ccond_true, ccond_false, wo_nil, wo_cons, wo_guard, wop, bindP_some, cont_some, cont_none, guardV_bool, guardV_undef, gcont_true, gcont_false, gcont_false', ret_apply, aggK_apply, putK_apply, resK_apply, boolK_apply, ccont_apply, wd_nil, wd_cons, dvals_apply, dcont_some, dcont_none, AOp.vals, rd_tmp, rd_const, rd_func, get_cons, mapList, mapOpt, Option.bind_some, Option.map_some, Nat.reduceEqDiff, if_true, if_false, reduceIte, reduceCtorEq, wv_mov, wv_pick, wv_alloc, wv_box, wv_build, wv_load, wv_loadn, wv_store, wv_nilCheck, wv_bin, wv_eq, wv_un, wv_convInt, wv_convSame, wv_fieldAddr, wv_field, wv_fieldn, wv_extract, wv_lenSlice, wv_lenString, wv_mkMap, wv_call, callee_func, wv_indexAddr, wv_lookup, wv_mapUpdate, wv_mapEntry, wv_entryStore, wv_delete, wv_append, wv_slice, wv_mkSlice, wv_buildSlice, wv_index, wv_copy, wv_lenMap, Abs.cellAt, Abs.rowAt, Abs.storeAt, Heap.get_put, List.getElem?_cons_zero, List.getElem?_cons_succ, Nat.zero_add, Nat.reduceAdd, idx, and_self, Int.toNat_natCast, cellsAt, ne_eq, not_true_eq_false, not_false_eq_true, cellList, Value.cells, List.length_cons, List.length_nil, List.all_cons, List.all_nil, isCell, Bool.and_self, storeL, List.set_cons_zero, List.set_cons_succ, footOf, true_and, and_true, Nat.reduceLeDiff, Nat.le_refl, Nat.reduceMul, Nat.reduceLT, List.nil_append, List.cons_append, List.length_set, ends_normal, ends_ret, endK_apply, resV_tmp, tupleV, eqV, Bool.not_true, Bool.not_false, BEq.rfl, Bool.true_beq, Bool.false_beq, beq_true, beq_false, Nat.sub_self, List.range'_zero, decide_true, decide_false, List.not_mem_nil, false_implies, implies_true, Bool.true_and, Bool.and_true, drawn, pairOk, disj, quietAt, Bool.bne_false, Bool.bne_true, Bool.false_eq_true, applyUpd, Int.reduceEq, Int.reduceNeg, bin_add, bin_sub, bin_mul, bin_lss, bin_leq, bin_gtr, bin_geq, bin_eql, bin_neq, un_not, wv_cap, wv_appendMake, wv_clear, wv_toString, wv_toBytes, wv_sameB, wv_mkIface, wv_minmax, b4, b5]
    exact ⟨hk, w, S, rfl, ho, hS⟩

end
end Go.Proofs.Ytaigiehdnhehnaa
