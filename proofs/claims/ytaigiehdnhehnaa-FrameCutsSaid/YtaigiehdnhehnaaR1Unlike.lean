/-
  What bytes a number has; records and their bytes.
-/
import Derived.Test.YtaigiehdnhehnaaR1Enc2
import Derived.Test.YtaigiehdnhehnaaA31
set_option maxRecDepth 100000
set_option linter.unusedVariables false
set_option linter.unusedSimpArgs false
namespace Go.Proofs.Ytaigiehdnhehnaa
open Go Go.Abs

def valA (acc : Nat) (zs : List Int) : Nat := zs.foldl (fun a z => a * 256 + z.toNat) acc
def valL (zs : List Int) : Nat := valA 0 zs

theorem valA_beL (n : Nat) : ∀ (k acc : Nat), valA acc (beL n k) = acc * 256 ^ k + n % 256 ^ k := by
  intro k
  induction k with
  | zero => intro acc; simp [valA, beL, Nat.mod_one]
  | succ k ih =>
    intro acc
    show valA (acc * 256 + _) (beL n k) = _
    rw [ih, Int.toNat_natCast, Nat.pow_succ, Nat.mod_mul, Nat.add_mul]
    have h1 : acc * 256 * 256 ^ k = acc * (256 ^ k * 256) := by rw [Nat.mul_assoc, Nat.mul_comm 256]
    have h2 : n / 256 ^ k % 256 * 256 ^ k = 256 ^ k * (n / 256 ^ k % 256) := Nat.mul_comm _ _
    omega

theorem valL_beL (n k : Nat) : valL (beL n k) = n % 256 ^ k := by
  unfold valL; rw [valA_beL]; omega

theorem beL_inj {n m k : Nat} (hn : n < 256 ^ k) (hm : m < 256 ^ k) (h : beL n k = beL m k) : n = m := by
  have := congrArg valL h
  rwa [valL_beL, valL_beL, Nat.mod_eq_of_lt hn, Nat.mod_eq_of_lt hm] at this

theorem body_inj {a b : FRec} (ha : a.sound = true) (hb : b.sound = true) (wa : a.Wide) (wb : b.Wide) (h : bodyL a = bodyL b) : a = b := by
  obtain ⟨a1, a2, a3, a4, a5, a6, a7, a8⟩ := a.of_sound ha
  obtain ⟨b1, b2, b3, b4, b5, b6, b7, b8⟩ := b.of_sound hb
  have wa1 := wa.id; have wa2 := wa.till; have wb1 := wb.id; have wb2 := wb.till
  simp only [bodyL, List.append_assoc] at h
  obtain ⟨h1, h⟩ := List.append_inj h (by simp)
  obtain ⟨h2, h⟩ := List.append_inj h (by simp [beL_length])
  obtain ⟨h3, h⟩ := List.append_inj h (by simp [beL_length])
  obtain ⟨h4, h⟩ := List.append_inj h (by simp [beL_length])
  have e4 := beL_inj (by omega) (by omega) h4
  obtain ⟨h5, h6⟩ := List.append_inj h (by rw [strL_length, strL_length, e4])
  have e2 := beL_inj (k := 8) (by omega) (by omega) h2
  have e3 := beL_inj (k := 8) (by omega) (by omega) h3
  simp only [List.cons.injEq, and_true] at h1
  obtain ⟨k, i, ho, pa, pr, ti⟩ := a
  obtain ⟨k', i', ho', pa', pr', ti'⟩ := b
  simp only at *
  have e5 := strL_inj h5
  have e6 := strL_inj h6
  have e7 : i = i' := by omega
  have e8 : ti = ti' := by omega
  rw [h1.1, h1.2, e5, e6, e7, e8]

theorem body_small {a : FRec} (ha : a.sound = true) : (bodyL a).length < 65536 := by
  obtain ⟨a1, a2, _⟩ := a.of_sound ha
  rw [bodyL_length]; omega

/-- A record's bytes begin another's bytes only where the two are one. -/
theorem rec_prefix {a b : FRec} (ha : a.sound = true) (hb : b.sound = true) (wa : a.Wide) (wb : b.Wide) (hle : (recL a).length ≤ (recL b).length) : (recL b).take (recL a).length = recL a ↔ a = b := by
  constructor
  · intro h
    have h2 := congrArg (fun l => l.take 2) h
    simp only [List.take_take] at h2
    have hla := recL_length a
    have hlb := recL_length b
    rw [show min 2 (recL a).length = 2 by omega] at h2
    have t2 : ∀ r : FRec, (recL r).take 2 = beL (bodyL r).length 2 := fun r => by
      unfold recL
      rw [List.take_append_of_le_length (by rw [beL_length]; omega), List.take_of_length_le (by rw [beL_length]; omega)]
    rw [t2, t2] at h2
    have hl := beL_inj (by have := body_small hb; omega) (by have := body_small ha; omega) h2
    rw [List.take_of_length_le (by omega)] at h
    have h3 := congrArg (fun l => l.drop 6) h
    have d6 : ∀ r : FRec, (recL r).drop 6 = bodyL r := fun r => by
      unfold recL
      rw [← List.append_assoc, List.drop_append_of_le_length (by simp [beL_length]), List.drop_of_length_le (by simp [beL_length])]
      rfl
    simp only [d6] at h3
    exact (body_inj hb ha wb wa h3).symm
  · rintro rfl
    rw [List.take_length]

open Classical in
theorem eq_rec (a b : FRec) : cellsEqK [.int, .int, .string, .string, .int, .int] a.cells b.cells = some (decide (a = b)) := by
  simp only [FRec.cells, cellsEqK, cellEqK, keyOk, keyEq, Bool.and_self, if_true, Option.bind_some, Option.map_some, Bool.and_true]
  congr 1
  rw [Bool.eq_iff_iff]
  simp only [Bool.and_eq_true, beq_iff_eq, decide_eq_true_eq, bytes_beq]
  obtain ⟨k, i, ho, pa, pr, ti⟩ := a
  obtain ⟨k', i', ho', pa', pr', ti'⟩ := b
  simp only [FRec.mk.injEq]

def f_0 : ACode := match code12 with | .seq x _ => x | _ => .skip
def f_1 : ACode := match code12 with | .seq _ (.seq (.seq x _) _) => x | _ => .skip
def f_1n : ACode := match code12 with | .seq _ (.seq (.seq _ (.cond _ x _)) _) => x | _ => .skip
def f_2 : ACode := match code12 with | .seq _ (.seq _ (.seq x _)) => x | _ => .skip
def f_3 : ACode := match code12 with | .seq _ (.seq _ (.seq _ (.seq x _))) => x | _ => .skip
def f_4 : ACode := match code12 with | .seq _ (.seq _ (.seq _ (.seq _ (.seq (.seq x _) _)))) => x | _ => .skip
def f_4n : ACode := match code12 with | .seq _ (.seq _ (.seq _ (.seq _ (.seq (.seq _ (.cond _ x _)) _)))) => x | _ => .skip
def f_5 : ACode := match code12 with | .seq _ (.seq _ (.seq _ (.seq _ (.seq _ (.seq x _))))) => x | _ => .skip
def f_6 : ACode := match code12 with | .seq _ (.seq _ (.seq _ (.seq _ (.seq _ (.seq _ x))))) => x | _ => .skip
theorem code12_eq : code12 = .seq f_0 (.seq (.seq f_1 (.cond (.tmp 28) f_1n .skip)) (.seq f_2 (.seq f_3 (.seq (.seq f_4 (.cond (.tmp 52) f_4n .skip)) (.seq f_5 f_6))))) := rfl

section
variable {tbl : FuncId → Option AFun} {ov : CallSem} {s s1 : St} {e : Env} {v : Value} {zs : List Int} {a b : FRec} {p q : Nat}

theorem f_0_gen (g0 : e.get 0 = some a.val) (g1 : e.get 1 = some b.val) : WCode (fun k => call tbl ov k) f_0 e s fun x e' s' => x = .normal ∧ ∃ p q, (e'.get 2 = some (.pointer (some ⟨p, 0, none⟩)) ∧ e'.get 3 = some (.pointer (some ⟨q, 0, none⟩))) ∧ s'.heap.get p = some (.cells a.cells 50 0 false) ∧ s'.heap.get q = some (.cells b.cells 50 0 false) ∧ p < s'.next ∧ q < s'.next := by
  simp only [f_0, code12, params, wc_skip, wc_region, wc_draw, wc_seq, wc_cond, wc_block, wc_exit, wc_ret, next_normal, next_exit, next_ret, inBlock_normal, inBlock_ret, inBlock_exit, sq_apply, nrm_apply, drawnK_apply, boolV_bool, ccond_true, ccond_false, wo_nil, wo_cons, wo_guard, wop, bindP_some, cont_some, cont_none, guardV_bool, guardV_undef, gcont_true, gcont_false, gcont_false', ret_apply, aggK_apply, putK_apply, resK_apply, boolK_apply, ccont_apply, wd_nil, wd_cons, dvals_apply, dcont_some, dcont_none, AOp.vals, rd_tmp, rd_const, rd_func, get_cons, mapList, mapOpt, Option.bind_some, Option.map_some, Nat.reduceEqDiff, if_true, if_false, reduceIte, reduceCtorEq, wv_mov, wv_pick, wv_alloc, wv_box, wv_build, wv_load, wv_loadn, wv_store, wv_nilCheck, wv_bin, wv_eq, wv_un, wv_convInt, wv_convSame, wv_fieldAddr, wv_field, wv_fieldn, wv_extract, wv_lenSlice, wv_lenString, wv_mkMap, wv_call, callee_func, wv_indexAddr, wv_lookup, wv_mapUpdate, wv_mapEntry, wv_entryStore, wv_delete, wv_append, wv_slice, wv_mkSlice, wv_buildSlice, wv_index, wv_copy, wv_lenMap, Abs.cellAt, Abs.rowAt, Abs.storeAt, Heap.get_put, List.getElem?_cons_zero, List.getElem?_cons_succ, Nat.zero_add, Nat.reduceAdd, idx, and_self, Int.toNat_natCast, cellsAt, ne_eq, not_true_eq_false, not_false_eq_true, cellList, Value.cells, List.length_cons, List.length_nil, List.all_cons, List.all_nil, isCell, Bool.and_self, storeL, List.set_cons_zero, List.set_cons_succ, footOf, true_and, and_true, Nat.reduceLeDiff, Nat.le_refl, Nat.reduceMul, Nat.reduceLT, List.nil_append, List.cons_append, List.length_set, ends_normal, ends_ret, endK_apply, resV_tmp, tupleV, eqV, Bool.not_true, Bool.not_false, BEq.rfl, Bool.true_beq, Bool.false_beq, beq_true, beq_false, Nat.sub_self, List.range'_zero, decide_true, decide_false, List.not_mem_nil, false_implies, implies_true, Bool.true_and, Bool.and_true, drawn, pairOk, disj, quietAt, Bool.bne_false, Bool.bne_true, Bool.false_eq_true, applyUpd, Int.reduceEq, Int.reduceNeg, bin_add, bin_sub, bin_mul, bin_lss, bin_leq, bin_gtr, bin_geq, bin_eql, bin_neq, un_not, wv_cap, wv_appendMake, wv_clear, wv_toString, wv_toBytes, wv_sameB, wv_mkIface, wv_minmax, g0, g1, List.toList_toArray]
  have n1 : ¬ s.next = s.next + 1 := by omega
  refine ⟨s.next, s.next + 1, ⟨rfl, rfl⟩, ?_, ?_, ?_, ?_⟩
  · simp only [Heap.get_put, n1, if_false, if_true]
  · simp only [Heap.get_put, if_true]
  · show s.next < s.next + 1 + 1; omega
  · show s.next + 1 < s.next + 1 + 1; omega

theorem f_1_gen (hp : s.heap.get p = some (.cells a.cells 50 0 false)) (hq : s.heap.get q = some (.cells b.cells 50 0 false)) (g2 : e.get 2 = some (.pointer (some ⟨p, 0, none⟩))) (g3 : e.get 3 = some (.pointer (some ⟨q, 0, none⟩))) :
    WCode (fun k => call tbl ov k) f_1 e s fun x e' s' => x = .normal ∧ e'.get 2 = e.get 2 ∧ e'.get 3 = e.get 3 ∧ (∃ t, e'.get 28 = some (.bool t)) ∧ s' = s := by
  have a2 : a.cells[2]? = some (.string a.host) := rfl
  have a3 : a.cells[3]? = some (.string a.path) := rfl
  have b2 : b.cells[2]? = some (.string b.host) := rfl
  have b3 : b.cells[3]? = some (.string b.path) := rfl
  simp only [f_1, code12, params, wc_skip, wc_region, wc_draw, wc_seq, wc_cond, wc_block, wc_exit, wc_ret, next_normal, next_exit, next_ret, inBlock_normal, inBlock_ret, inBlock_exit, sq_apply, nrm_apply, drawnK_apply, boolV_bool, ccond_true, ccond_false, wo_nil, wo_cons, wo_guard, wop, bindP_some, cont_some, cont_none, guardV_bool, guardV_undef, gcont_true, gcont_false, gcont_false', ret_apply, aggK_apply, putK_apply, resK_apply, boolK_apply, ccont_apply, wd_nil, wd_cons, dvals_apply, dcont_some, dcont_none, AOp.vals, rd_tmp, rd_const, rd_func, get_cons, mapList, mapOpt, Option.bind_some, Option.map_some, Nat.reduceEqDiff, if_true, if_false, reduceIte, reduceCtorEq, wv_mov, wv_pick, wv_alloc, wv_box, wv_build, wv_load, wv_loadn, wv_store, wv_nilCheck, wv_bin, wv_eq, wv_un, wv_convInt, wv_convSame, wv_fieldAddr, wv_field, wv_fieldn, wv_extract, wv_lenSlice, wv_lenString, wv_mkMap, wv_call, callee_func, wv_indexAddr, wv_lookup, wv_mapUpdate, wv_mapEntry, wv_entryStore, wv_delete, wv_append, wv_slice, wv_mkSlice, wv_buildSlice, wv_index, wv_copy, wv_lenMap, Abs.cellAt, Abs.rowAt, Abs.storeAt, Heap.get_put, List.getElem?_cons_zero, List.getElem?_cons_succ, Nat.zero_add, Nat.reduceAdd, idx, and_self, Int.toNat_natCast, cellsAt, ne_eq, not_true_eq_false, not_false_eq_true, cellList, Value.cells, List.length_cons, List.length_nil, List.all_cons, List.all_nil, isCell, Bool.and_self, storeL, List.set_cons_zero, List.set_cons_succ, footOf, true_and, and_true, Nat.reduceLeDiff, Nat.le_refl, Nat.reduceMul, Nat.reduceLT, List.nil_append, List.cons_append, List.length_set, ends_normal, ends_ret, endK_apply, resV_tmp, tupleV, eqV, Bool.not_true, Bool.not_false, BEq.rfl, Bool.true_beq, Bool.false_beq, beq_true, beq_false, Nat.sub_self, List.range'_zero, decide_true, decide_false, List.not_mem_nil, false_implies, implies_true, Bool.true_and, Bool.and_true, drawn, pairOk, disj, quietAt, Bool.bne_false, Bool.bne_true, Bool.false_eq_true, applyUpd, Int.reduceEq, Int.reduceNeg, bin_add, bin_sub, bin_mul, bin_lss, bin_leq, bin_gtr, bin_geq, bin_eql, bin_neq, un_not, wv_cap, wv_appendMake, wv_clear, wv_toString, wv_toBytes, wv_sameB, wv_mkIface, wv_minmax, g2, g3, hp, hq, a2, a3, b2, b3]
  exact ⟨_, rfl⟩

/-- What an encoding comes to, and its error. -/
def EncV (s : St) (r : FRec) (x : Value) (er : Int) : Prop := (r.sound = false → x = .slice none 0 0 ∧ er = 2) ∧ (r.sound = true → er = 0 ∧ BytesV s x (recL r))

theorem EncV.kept {s s' : St} {r : FRec} {x : Value} {er : Int} (h : EncV s r x er) (hk : Kept [] s s') : EncV s' r x er :=
  ⟨h.1, fun hs => ⟨(h.2 hs).1, (h.2 hs).2.kept hk⟩⟩

theorem enc_spec (T : FrameTbl tbl) (hw : a.Wide) : WCall (fun k => call tbl ov k) 24 [a.val] s fun v s' => Kept [] s s' ∧ ∃ x er, v = .tuple #[x, in64 er] ∧ EncV s' a x er := by
  refine WCall.mono (encode_spec T hw) ?_
  rintro v s' ⟨hk, h1, h2⟩
  refine ⟨hk, ?_⟩
  cases hs : a.sound with
  | false => exact ⟨_, _, h1 hs, (fun _ => ⟨rfl, rfl⟩), fun h => by rw [hs] at h; cases h⟩
  | true =>
    obtain ⟨w, hv, hb, _⟩ := h2 hs
    exact ⟨w, 0, hv, (fun h => by rw [hs] at h; cases h), fun _ => ⟨rfl, hb⟩⟩

theorem f_2_gen (T : FrameTbl tbl) (hw : a.Wide) (hp : s.heap.get p = some (.cells a.cells 50 0 false)) (g2 : e.get 2 = some (.pointer (some ⟨p, 0, none⟩))) :
    WCode (fun k => call tbl ov k) f_2 e s fun x e' s' => x = .normal ∧ e'.get 2 = e.get 2 ∧ e'.get 3 = e.get 3 ∧ ∃ y er, e'.get 5 = some y ∧ e'.get 6 = some (in64 er) ∧ EncV s' a y er ∧ Kept [] s s' := by
  have hl := rec_len a
  have ha := rec_all a
  simp only [f_2, code12, params, wc_skip, wc_region, wc_draw, wc_seq, wc_cond, wc_block, wc_exit, wc_ret, next_normal, next_exit, next_ret, inBlock_normal, inBlock_ret, inBlock_exit, sq_apply, nrm_apply, drawnK_apply, boolV_bool, ccond_true, ccond_false, wo_nil, wo_cons, wo_guard, wop, bindP_some, cont_some, cont_none, guardV_bool, guardV_undef, gcont_true, gcont_false, gcont_false', ret_apply, aggK_apply, putK_apply, resK_apply, boolK_apply, ccont_apply, wd_nil, wd_cons, dvals_apply, dcont_some, dcont_none, AOp.vals, rd_tmp, rd_const, rd_func, get_cons, mapList, mapOpt, Option.bind_some, Option.map_some, Nat.reduceEqDiff, if_true, if_false, reduceIte, reduceCtorEq, wv_mov, wv_pick, wv_alloc, wv_box, wv_build, wv_load, wv_loadn, wv_store, wv_nilCheck, wv_bin, wv_eq, wv_un, wv_convInt, wv_convSame, wv_fieldAddr, wv_field, wv_fieldn, wv_extract, wv_lenSlice, wv_lenString, wv_mkMap, wv_call, callee_func, wv_indexAddr, wv_lookup, wv_mapUpdate, wv_mapEntry, wv_entryStore, wv_delete, wv_append, wv_slice, wv_mkSlice, wv_buildSlice, wv_index, wv_copy, wv_lenMap, Abs.cellAt, Abs.rowAt, Abs.storeAt, Heap.get_put, List.getElem?_cons_zero, List.getElem?_cons_succ, Nat.zero_add, Nat.reduceAdd, idx, and_self, Int.toNat_natCast, cellsAt, ne_eq, not_true_eq_false, not_false_eq_true, cellList, Value.cells, List.length_cons, List.length_nil, List.all_cons, List.all_nil, isCell, Bool.and_self, storeL, List.set_cons_zero, List.set_cons_succ, footOf, true_and, and_true, Nat.reduceLeDiff, Nat.le_refl, Nat.reduceMul, Nat.reduceLT, List.nil_append, List.cons_append, List.length_set, ends_normal, ends_ret, endK_apply, resV_tmp, tupleV, eqV, Bool.not_true, Bool.not_false, BEq.rfl, Bool.true_beq, Bool.false_beq, beq_true, beq_false, Nat.sub_self, List.range'_zero, decide_true, decide_false, List.not_mem_nil, false_implies, implies_true, Bool.true_and, Bool.and_true, drawn, pairOk, disj, quietAt, Bool.bne_false, Bool.bne_true, Bool.false_eq_true, applyUpd, Int.reduceEq, Int.reduceNeg, bin_add, bin_sub, bin_mul, bin_lss, bin_leq, bin_gtr, bin_geq, bin_eql, bin_neq, un_not, wv_cap, wv_appendMake, wv_clear, wv_toString, wv_toBytes, wv_sameB, wv_mkIface, wv_minmax, g2, hp, hl, ha]
  refine WCall.mono (enc_spec T hw) ?_
  rintro v s1 ⟨hk, x, er, rfl, he⟩
  simp only [params, wc_skip, wc_region, wc_draw, wc_seq, wc_cond, wc_block, wc_exit, wc_ret, next_normal, next_exit, next_ret, inBlock_normal, inBlock_ret, inBlock_exit, sq_apply, nrm_apply, drawnK_apply, boolV_bool, ccond_true, ccond_false, wo_nil, wo_cons, wo_guard, wop, bindP_some, cont_some, cont_none, guardV_bool, guardV_undef, gcont_true, gcont_false, gcont_false', ret_apply, aggK_apply, putK_apply, resK_apply, boolK_apply, ccont_apply, wd_nil, wd_cons, dvals_apply, dcont_some, dcont_none, AOp.vals, rd_tmp, rd_const, rd_func, get_cons, mapList, mapOpt, Option.bind_some, Option.map_some, Nat.reduceEqDiff, if_true, if_false, reduceIte, reduceCtorEq, wv_mov, wv_pick, wv_alloc, wv_box, wv_build, wv_load, wv_loadn, wv_store, wv_nilCheck, wv_bin, wv_eq, wv_un, wv_convInt, wv_convSame, wv_fieldAddr, wv_field, wv_fieldn, wv_extract, wv_lenSlice, wv_lenString, wv_mkMap, wv_call, callee_func, wv_indexAddr, wv_lookup, wv_mapUpdate, wv_mapEntry, wv_entryStore, wv_delete, wv_append, wv_slice, wv_mkSlice, wv_buildSlice, wv_index, wv_copy, wv_lenMap, Abs.cellAt, Abs.rowAt, Abs.storeAt, Heap.get_put, List.getElem?_cons_zero, List.getElem?_cons_succ, Nat.zero_add, Nat.reduceAdd, idx, and_self, Int.toNat_natCast, cellsAt, ne_eq, not_true_eq_false, not_false_eq_true, cellList, Value.cells, List.length_cons, List.length_nil, List.all_cons, List.all_nil, isCell, Bool.and_self, storeL, List.set_cons_zero, List.set_cons_succ, footOf, true_and, and_true, Nat.reduceLeDiff, Nat.le_refl, Nat.reduceMul, Nat.reduceLT, List.nil_append, List.cons_append, List.length_set, ends_normal, ends_ret, endK_apply, resV_tmp, tupleV, eqV, Bool.not_true, Bool.not_false, BEq.rfl, Bool.true_beq, Bool.false_beq, beq_true, beq_false, Nat.sub_self, List.range'_zero, decide_true, decide_false, List.not_mem_nil, false_implies, implies_true, Bool.true_and, Bool.and_true, drawn, pairOk, disj, quietAt, Bool.bne_false, Bool.bne_true, Bool.false_eq_true, applyUpd, Int.reduceEq, Int.reduceNeg, bin_add, bin_sub, bin_mul, bin_lss, bin_leq, bin_gtr, bin_geq, bin_eql, bin_neq, un_not, wv_cap, wv_appendMake, wv_clear, wv_toString, wv_toBytes, wv_sameB, wv_mkIface, wv_minmax, g2]
  exact ⟨x, er, rfl, rfl, he, hk⟩

theorem f_3_gen (T : FrameTbl tbl) (hw : b.Wide) (hq : s.heap.get q = some (.cells b.cells 50 0 false)) (g3 : e.get 3 = some (.pointer (some ⟨q, 0, none⟩))) :
    WCode (fun k => call tbl ov k) f_3 e s fun x e' s' => x = .normal ∧ e'.get 2 = e.get 2 ∧ e'.get 3 = e.get 3 ∧ e'.get 5 = e.get 5 ∧ e'.get 6 = e.get 6 ∧ ∃ y er, e'.get 7 = some y ∧ e'.get 8 = some (in64 er) ∧ EncV s' b y er ∧ Kept [] s s' := by
  have hl := rec_len b
  have ha := rec_all b
  simp only [f_3, code12, params, wc_skip, wc_region, wc_draw, wc_seq, wc_cond, wc_block, wc_exit, wc_ret, next_normal, next_exit, next_ret, inBlock_normal, inBlock_ret, inBlock_exit, sq_apply, nrm_apply, drawnK_apply, boolV_bool, ccond_true, ccond_false, wo_nil, wo_cons, wo_guard, wop, bindP_some, cont_some, cont_none, guardV_bool, guardV_undef, gcont_true, gcont_false, gcont_false', ret_apply, aggK_apply, putK_apply, resK_apply, boolK_apply, ccont_apply, wd_nil, wd_cons, dvals_apply, dcont_some, dcont_none, AOp.vals, rd_tmp, rd_const, rd_func, get_cons, mapList, mapOpt, Option.bind_some, Option.map_some, Nat.reduceEqDiff, if_true, if_false, reduceIte, reduceCtorEq, wv_mov, wv_pick, wv_alloc, wv_box, wv_build, wv_load, wv_loadn, wv_store, wv_nilCheck, wv_bin, wv_eq, wv_un, wv_convInt, wv_convSame, wv_fieldAddr, wv_field, wv_fieldn, wv_extract, wv_lenSlice, wv_lenString, wv_mkMap, wv_call, callee_func, wv_indexAddr, wv_lookup, wv_mapUpdate, wv_mapEntry, wv_entryStore, wv_delete, wv_append, wv_slice, wv_mkSlice, wv_buildSlice, wv_index, wv_copy, wv_lenMap, Abs.cellAt, Abs.rowAt, Abs.storeAt, Heap.get_put, List.getElem?_cons_zero, List.getElem?_cons_succ, Nat.zero_add, Nat.reduceAdd, idx, and_self, Int.toNat_natCast, cellsAt, ne_eq, not_true_eq_false, not_false_eq_true, cellList, Value.cells, List.length_cons, List.length_nil, List.all_cons, List.all_nil, isCell, Bool.and_self, storeL, List.set_cons_zero, List.set_cons_succ, footOf, true_and, and_true, Nat.reduceLeDiff, Nat.le_refl, Nat.reduceMul, Nat.reduceLT, List.nil_append, List.cons_append, List.length_set, ends_normal, ends_ret, endK_apply, resV_tmp, tupleV, eqV, Bool.not_true, Bool.not_false, BEq.rfl, Bool.true_beq, Bool.false_beq, beq_true, beq_false, Nat.sub_self, List.range'_zero, decide_true, decide_false, List.not_mem_nil, false_implies, implies_true, Bool.true_and, Bool.and_true, drawn, pairOk, disj, quietAt, Bool.bne_false, Bool.bne_true, Bool.false_eq_true, applyUpd, Int.reduceEq, Int.reduceNeg, bin_add, bin_sub, bin_mul, bin_lss, bin_leq, bin_gtr, bin_geq, bin_eql, bin_neq, un_not, wv_cap, wv_appendMake, wv_clear, wv_toString, wv_toBytes, wv_sameB, wv_mkIface, wv_minmax, g3, hq, hl, ha]
  refine WCall.mono (enc_spec T hw) ?_
  rintro v s1 ⟨hk, x, er, rfl, he⟩
  simp only [params, wc_skip, wc_region, wc_draw, wc_seq, wc_cond, wc_block, wc_exit, wc_ret, next_normal, next_exit, next_ret, inBlock_normal, inBlock_ret, inBlock_exit, sq_apply, nrm_apply, drawnK_apply, boolV_bool, ccond_true, ccond_false, wo_nil, wo_cons, wo_guard, wop, bindP_some, cont_some, cont_none, guardV_bool, guardV_undef, gcont_true, gcont_false, gcont_false', ret_apply, aggK_apply, putK_apply, resK_apply, boolK_apply, ccont_apply, wd_nil, wd_cons, dvals_apply, dcont_some, dcont_none, AOp.vals, rd_tmp, rd_const, rd_func, get_cons, mapList, mapOpt, Option.bind_some, Option.map_some, Nat.reduceEqDiff, if_true, if_false, reduceIte, reduceCtorEq, wv_mov, wv_pick, wv_alloc, wv_box, wv_build, wv_load, wv_loadn, wv_store, wv_nilCheck, wv_bin, wv_eq, wv_un, wv_convInt, wv_convSame, wv_fieldAddr, wv_field, wv_fieldn, wv_extract, wv_lenSlice, wv_lenString, wv_mkMap, wv_call, callee_func, wv_indexAddr, wv_lookup, wv_mapUpdate, wv_mapEntry, wv_entryStore, wv_delete, wv_append, wv_slice, wv_mkSlice, wv_buildSlice, wv_index, wv_copy, wv_lenMap, Abs.cellAt, Abs.rowAt, Abs.storeAt, Heap.get_put, List.getElem?_cons_zero, List.getElem?_cons_succ, Nat.zero_add, Nat.reduceAdd, idx, and_self, Int.toNat_natCast, cellsAt, ne_eq, not_true_eq_false, not_false_eq_true, cellList, Value.cells, List.length_cons, List.length_nil, List.all_cons, List.all_nil, isCell, Bool.and_self, storeL, List.set_cons_zero, List.set_cons_succ, footOf, true_and, and_true, Nat.reduceLeDiff, Nat.le_refl, Nat.reduceMul, Nat.reduceLT, List.nil_append, List.cons_append, List.length_set, ends_normal, ends_ret, endK_apply, resV_tmp, tupleV, eqV, Bool.not_true, Bool.not_false, BEq.rfl, Bool.true_beq, Bool.false_beq, beq_true, beq_false, Nat.sub_self, List.range'_zero, decide_true, decide_false, List.not_mem_nil, false_implies, implies_true, Bool.true_and, Bool.and_true, drawn, pairOk, disj, quietAt, Bool.bne_false, Bool.bne_true, Bool.false_eq_true, applyUpd, Int.reduceEq, Int.reduceNeg, bin_add, bin_sub, bin_mul, bin_lss, bin_leq, bin_gtr, bin_geq, bin_eql, bin_neq, un_not, wv_cap, wv_appendMake, wv_clear, wv_toString, wv_toBytes, wv_sameB, wv_mkIface, wv_minmax, g3]
  exact ⟨x, er, rfl, rfl, he, hk⟩

theorem f_4_gen {x y : Option Addr} {lx cx ly cy : Nat} {ea eb : Int} (g5 : e.get 5 = some (.slice x lx cx)) (g6 : e.get 6 = some (in64 ea)) (g7 : e.get 7 = some (.slice y ly cy)) (g8 : e.get 8 = some (in64 eb)) :
    WCode (fun k => call tbl ov k) f_4 e s fun z e' s' => z = .normal ∧ e'.get 2 = e.get 2 ∧ e'.get 3 = e.get 3 ∧ e'.get 5 = e.get 5 ∧ e'.get 7 = e.get 7 ∧ e'.get 52 = some (.bool ((ea != 0) || ((eb != 0) || decide ((lx : Int) > (ly : Int))))) ∧ s' = s := by
  cases h1 : (ea != 0) with
  | true => simp only [f_4, code12, params, wc_skip, wc_region, wc_draw, wc_seq, wc_cond, wc_block, wc_exit, wc_ret, next_normal, next_exit, next_ret, inBlock_normal, inBlock_ret, inBlock_exit, sq_apply, nrm_apply, drawnK_apply, boolV_bool, ccond_true, ccond_false, wo_nil, wo_cons, wo_guard, wop, bindP_some, cont_some, cont_none, guardV_bool, guardV_undef, gcont_true, gcont_false, gcont_false', ret_apply, aggK_apply, putK_apply, resK_apply, boolK_apply, ccont_apply, wd_nil, wd_cons, dvals_apply, dcont_some, dcont_none, AOp.vals, rd_tmp, rd_const, rd_func, get_cons, mapList, mapOpt, Option.bind_some, Option.map_some, Nat.reduceEqDiff, if_true, if_false, reduceIte, reduceCtorEq, wv_mov, wv_pick, wv_alloc, wv_box, wv_build, wv_load, wv_loadn, wv_store, wv_nilCheck, wv_bin, wv_eq, wv_un, wv_convInt, wv_convSame, wv_fieldAddr, wv_field, wv_fieldn, wv_extract, wv_lenSlice, wv_lenString, wv_mkMap, wv_call, callee_func, wv_indexAddr, wv_lookup, wv_mapUpdate, wv_mapEntry, wv_entryStore, wv_delete, wv_append, wv_slice, wv_mkSlice, wv_buildSlice, wv_index, wv_copy, wv_lenMap, Abs.cellAt, Abs.rowAt, Abs.storeAt, Heap.get_put, List.getElem?_cons_zero, List.getElem?_cons_succ, Nat.zero_add, Nat.reduceAdd, idx, and_self, Int.toNat_natCast, cellsAt, ne_eq, not_true_eq_false, not_false_eq_true, cellList, Value.cells, List.length_cons, List.length_nil, List.all_cons, List.all_nil, isCell, Bool.and_self, storeL, List.set_cons_zero, List.set_cons_succ, footOf, true_and, and_true, Nat.reduceLeDiff, Nat.le_refl, Nat.reduceMul, Nat.reduceLT, List.nil_append, List.cons_append, List.length_set, ends_normal, ends_ret, endK_apply, resV_tmp, tupleV, eqV, Bool.not_true, Bool.not_false, BEq.rfl, Bool.true_beq, Bool.false_beq, beq_true, beq_false, Nat.sub_self, List.range'_zero, decide_true, decide_false, List.not_mem_nil, false_implies, implies_true, Bool.true_and, Bool.and_true, drawn, pairOk, disj, quietAt, Bool.bne_false, Bool.bne_true, Bool.false_eq_true, applyUpd, Int.reduceEq, Int.reduceNeg, bin_add, bin_sub, bin_mul, bin_lss, bin_leq, bin_gtr, bin_geq, bin_eql, bin_neq, un_not, wv_cap, wv_appendMake, wv_clear, wv_toString, wv_toBytes, wv_sameB, wv_mkIface, wv_minmax, g5, g6, g7, g8, h1, Bool.true_or]
  | false =>
    cases h2 : (eb != 0) with
    | true => simp only [f_4, code12, params, wc_skip, wc_region, wc_draw, wc_seq, wc_cond, wc_block, wc_exit, wc_ret, next_normal, next_exit, next_ret, inBlock_normal, inBlock_ret, inBlock_exit, sq_apply, nrm_apply, drawnK_apply, boolV_bool, ccond_true, ccond_false, wo_nil, wo_cons, wo_guard, wop, bindP_some, cont_some, cont_none, guardV_bool, guardV_undef, gcont_true, gcont_false, gcont_false', ret_apply, aggK_apply, putK_apply, resK_apply, boolK_apply, ccont_apply, wd_nil, wd_cons, dvals_apply, dcont_some, dcont_none, AOp.vals, rd_tmp, rd_const, rd_func, get_cons, mapList, mapOpt, Option.bind_some, Option.map_some, Nat.reduceEqDiff, if_true, if_false, reduceIte, reduceCtorEq, wv_mov, wv_pick, wv_alloc, wv_box, wv_build, wv_load, wv_loadn, wv_store, wv_nilCheck, wv_bin, wv_eq, wv_un, wv_convInt, wv_convSame, wv_fieldAddr, wv_field, wv_fieldn, wv_extract, wv_lenSlice, wv_lenString, wv_mkMap, wv_call, callee_func, wv_indexAddr, wv_lookup, wv_mapUpdate, wv_mapEntry, wv_entryStore, wv_delete, wv_append, wv_slice, wv_mkSlice, wv_buildSlice, wv_index, wv_copy, wv_lenMap, Abs.cellAt, Abs.rowAt, Abs.storeAt, Heap.get_put, List.getElem?_cons_zero, List.getElem?_cons_succ, Nat.zero_add, Nat.reduceAdd, idx, and_self, Int.toNat_natCast, cellsAt, ne_eq, not_true_eq_false, not_false_eq_true, cellList, Value.cells, List.length_cons, List.length_nil, List.all_cons, List.all_nil, isCell, Bool.and_self, storeL, List.set_cons_zero, List.set_cons_succ, footOf, true_and, and_true, Nat.reduceLeDiff, Nat.le_refl, Nat.reduceMul, Nat.reduceLT, List.nil_append, List.cons_append, List.length_set, ends_normal, ends_ret, endK_apply, resV_tmp, tupleV, eqV, Bool.not_true, Bool.not_false, BEq.rfl, Bool.true_beq, Bool.false_beq, beq_true, beq_false, Nat.sub_self, List.range'_zero, decide_true, decide_false, List.not_mem_nil, false_implies, implies_true, Bool.true_and, Bool.and_true, drawn, pairOk, disj, quietAt, Bool.bne_false, Bool.bne_true, Bool.false_eq_true, applyUpd, Int.reduceEq, Int.reduceNeg, bin_add, bin_sub, bin_mul, bin_lss, bin_leq, bin_gtr, bin_geq, bin_eql, bin_neq, un_not, wv_cap, wv_appendMake, wv_clear, wv_toString, wv_toBytes, wv_sameB, wv_mkIface, wv_minmax, g5, g6, g7, g8, h1, h2, Bool.true_or, Bool.false_or]
    | false => simp only [f_4, code12, params, wc_skip, wc_region, wc_draw, wc_seq, wc_cond, wc_block, wc_exit, wc_ret, next_normal, next_exit, next_ret, inBlock_normal, inBlock_ret, inBlock_exit, sq_apply, nrm_apply, drawnK_apply, boolV_bool, ccond_true, ccond_false, wo_nil, wo_cons, wo_guard, wop, bindP_some, cont_some, cont_none, guardV_bool, guardV_undef, gcont_true, gcont_false, gcont_false', ret_apply, aggK_apply, putK_apply, resK_apply, boolK_apply, ccont_apply, wd_nil, wd_cons, dvals_apply, dcont_some, dcont_none, AOp.vals, rd_tmp, rd_const, rd_func, get_cons, mapList, mapOpt, Option.bind_some, Option.map_some, Nat.reduceEqDiff, if_true, if_false, reduceIte, reduceCtorEq, wv_mov, wv_pick, wv_alloc, wv_box, wv_build, wv_load, wv_loadn, wv_store, wv_nilCheck, wv_bin, wv_eq, wv_un, wv_convInt, wv_convSame, wv_fieldAddr, wv_field, wv_fieldn, wv_extract, wv_lenSlice, wv_lenString, wv_mkMap, wv_call, callee_func, wv_indexAddr, wv_lookup, wv_mapUpdate, wv_mapEntry, wv_entryStore, wv_delete, wv_append, wv_slice, wv_mkSlice, wv_buildSlice, wv_index, wv_copy, wv_lenMap, Abs.cellAt, Abs.rowAt, Abs.storeAt, Heap.get_put, List.getElem?_cons_zero, List.getElem?_cons_succ, Nat.zero_add, Nat.reduceAdd, idx, and_self, Int.toNat_natCast, cellsAt, ne_eq, not_true_eq_false, not_false_eq_true, cellList, Value.cells, List.length_cons, List.length_nil, List.all_cons, List.all_nil, isCell, Bool.and_self, storeL, List.set_cons_zero, List.set_cons_succ, footOf, true_and, and_true, Nat.reduceLeDiff, Nat.le_refl, Nat.reduceMul, Nat.reduceLT, List.nil_append, List.cons_append, List.length_set, ends_normal, ends_ret, endK_apply, resV_tmp, tupleV, eqV, Bool.not_true, Bool.not_false, BEq.rfl, Bool.true_beq, Bool.false_beq, beq_true, beq_false, Nat.sub_self, List.range'_zero, decide_true, decide_false, List.not_mem_nil, false_implies, implies_true, Bool.true_and, Bool.and_true, drawn, pairOk, disj, quietAt, Bool.bne_false, Bool.bne_true, Bool.false_eq_true, applyUpd, Int.reduceEq, Int.reduceNeg, bin_add, bin_sub, bin_mul, bin_lss, bin_leq, bin_gtr, bin_geq, bin_eql, bin_neq, un_not, wv_cap, wv_appendMake, wv_clear, wv_toString, wv_toBytes, wv_sameB, wv_mkIface, wv_minmax, g5, g6, g7, g8, h1, h2, Bool.true_or, Bool.false_or]

open Classical in
theorem f_56_gen (h23 : tbl 23 = none) (hov : ∀ s, ov 23 [] s = some (.bool true, s)) (ha : a.sound = true) (hb : b.sound = true) (wa : a.Wide) (wb : b.Wide) (hle : (recL a).length ≤ (recL b).length) {x y : Value} (hx : BytesV s x (recL a)) (hy : BytesV s y (recL b))
    (hp : s.heap.get p = some (.cells a.cells 50 0 false)) (hq : s.heap.get q = some (.cells b.cells 50 0 false)) (g2 : e.get 2 = some (.pointer (some ⟨p, 0, none⟩))) (g3 : e.get 3 = some (.pointer (some ⟨q, 0, none⟩))) (g5 : e.get 5 = some x) (g7 : e.get 7 = some y) :
    WCode (fun k => call tbl ov k) (.seq f_5 f_6) e s fun z e' s' => z = .ret ∧ e'.get 4 = some (.bool true) := by
  have hla := rec_len a
  have haa := rec_all a
  have hlb := rec_len b
  have hab := rec_all b
  obtain ⟨ad, cap, hxv⟩ := hx.len
  obtain ⟨y', hy', he⟩ := hy.take hle
  have he := he .i64
  have ht1 := ev_toString hy'
  have ht2 := ev_toString hx
  have hq1 := bin_eqlS (toB ((recL b).take (recL a).length)) (toB (recL a))
  have hq2 := eq_rec a b
  have hiff : decide (toB ((recL b).take (recL a).length) = toB (recL a)) = decide (a = b) := by
    rw [decide_eq_decide, ← rec_prefix ha hb wa wb hle]
    exact ⟨fun h => toB_inj hy'.1 hx.1 h, fun h => by rw [h]⟩
  rw [hiff] at hq1
  subst hxv
  simp only [f_5, f_6, code12, params, wc_skip, wc_region, wc_draw, wc_seq, wc_cond, wc_block, wc_exit, wc_ret, next_normal, next_exit, next_ret, inBlock_normal, inBlock_ret, inBlock_exit, sq_apply, nrm_apply, drawnK_apply, boolV_bool, ccond_true, ccond_false, wo_nil, wo_cons, wo_guard, wop, bindP_some, cont_some, cont_none, guardV_bool, guardV_undef, gcont_true, gcont_false, gcont_false', ret_apply, aggK_apply, putK_apply, resK_apply, boolK_apply, ccont_apply, wd_nil, wd_cons, dvals_apply, dcont_some, dcont_none, AOp.vals, rd_tmp, rd_const, rd_func, get_cons, mapList, mapOpt, Option.bind_some, Option.map_some, Nat.reduceEqDiff, if_true, if_false, reduceIte, reduceCtorEq, wv_mov, wv_pick, wv_alloc, wv_box, wv_build, wv_load, wv_loadn, wv_store, wv_nilCheck, wv_bin, wv_eq, wv_un, wv_convInt, wv_convSame, wv_fieldAddr, wv_field, wv_fieldn, wv_extract, wv_lenSlice, wv_lenString, wv_mkMap, wv_call, callee_func, wv_indexAddr, wv_lookup, wv_mapUpdate, wv_mapEntry, wv_entryStore, wv_delete, wv_append, wv_slice, wv_mkSlice, wv_buildSlice, wv_index, wv_copy, wv_lenMap, Abs.cellAt, Abs.rowAt, Abs.storeAt, Heap.get_put, List.getElem?_cons_zero, List.getElem?_cons_succ, Nat.zero_add, Nat.reduceAdd, idx, and_self, Int.toNat_natCast, cellsAt, ne_eq, not_true_eq_false, not_false_eq_true, cellList, Value.cells, List.length_cons, List.length_nil, List.all_cons, List.all_nil, isCell, Bool.and_self, storeL, List.set_cons_zero, List.set_cons_succ, footOf, true_and, and_true, Nat.reduceLeDiff, Nat.le_refl, Nat.reduceMul, Nat.reduceLT, List.nil_append, List.cons_append, List.length_set, ends_normal, ends_ret, endK_apply, resV_tmp, tupleV, eqV, Bool.not_true, Bool.not_false, BEq.rfl, Bool.true_beq, Bool.false_beq, beq_true, beq_false, Nat.sub_self, List.range'_zero, decide_true, decide_false, List.not_mem_nil, false_implies, implies_true, Bool.true_and, Bool.and_true, drawn, pairOk, disj, quietAt, Bool.bne_false, Bool.bne_true, Bool.false_eq_true, applyUpd, Int.reduceEq, Int.reduceNeg, bin_add, bin_sub, bin_mul, bin_lss, bin_leq, bin_gtr, bin_geq, bin_eql, bin_neq, un_not, wv_cap, wv_appendMake, wv_clear, wv_toString, wv_toBytes, wv_sameB, wv_mkIface, wv_minmax, g2, g3, g5, g7]
  refine WCall.ov h23 (hov _) ?_
  have hs : ∀ t : Bool, eqV .scalar (.bool t) (.bool t) = some true := fun t => by cases t <;> rfl
  simp only [params, wc_skip, wc_region, wc_draw, wc_seq, wc_cond, wc_block, wc_exit, wc_ret, next_normal, next_exit, next_ret, inBlock_normal, inBlock_ret, inBlock_exit, sq_apply, nrm_apply, drawnK_apply, boolV_bool, ccond_true, ccond_false, wo_nil, wo_cons, wo_guard, wop, bindP_some, cont_some, cont_none, guardV_bool, guardV_undef, gcont_true, gcont_false, gcont_false', ret_apply, aggK_apply, putK_apply, resK_apply, boolK_apply, ccont_apply, wd_nil, wd_cons, dvals_apply, dcont_some, dcont_none, AOp.vals, rd_tmp, rd_const, rd_func, get_cons, mapList, mapOpt, Option.bind_some, Option.map_some, Nat.reduceEqDiff, if_true, if_false, reduceIte, reduceCtorEq, wv_mov, wv_pick, wv_alloc, wv_box, wv_build, wv_load, wv_loadn, wv_store, wv_nilCheck, wv_bin, wv_eq, wv_un, wv_convInt, wv_convSame, wv_fieldAddr, wv_field, wv_fieldn, wv_extract, wv_lenSlice, wv_lenString, wv_mkMap, wv_call, callee_func, wv_indexAddr, wv_lookup, wv_mapUpdate, wv_mapEntry, wv_entryStore, wv_delete, wv_append, wv_slice, wv_mkSlice, wv_buildSlice, wv_index, wv_copy, wv_lenMap, Abs.cellAt, Abs.rowAt, Abs.storeAt, Heap.get_put, List.getElem?_cons_zero, List.getElem?_cons_succ, Nat.zero_add, Nat.reduceAdd, idx, and_self, Int.toNat_natCast, cellsAt, ne_eq, not_true_eq_false, not_false_eq_true, cellList, Value.cells, List.length_cons, List.length_nil, List.all_cons, List.all_nil, isCell, Bool.and_self, storeL, List.set_cons_zero, List.set_cons_succ, footOf, true_and, and_true, Nat.reduceLeDiff, Nat.le_refl, Nat.reduceMul, Nat.reduceLT, List.nil_append, List.cons_append, List.length_set, ends_normal, ends_ret, endK_apply, resV_tmp, tupleV, eqV, Bool.not_true, Bool.not_false, BEq.rfl, Bool.true_beq, Bool.false_beq, beq_true, beq_false, Nat.sub_self, List.range'_zero, decide_true, decide_false, List.not_mem_nil, false_implies, implies_true, Bool.true_and, Bool.and_true, drawn, pairOk, disj, quietAt, Bool.bne_false, Bool.bne_true, Bool.false_eq_true, applyUpd, Int.reduceEq, Int.reduceNeg, bin_add, bin_sub, bin_mul, bin_lss, bin_leq, bin_gtr, bin_geq, bin_eql, bin_neq, un_not, wv_cap, wv_appendMake, wv_clear, wv_toString, wv_toBytes, wv_sameB, wv_mkIface, wv_minmax, g2, g3, g5, g7, hp, hq, he, ht1, ht2, hq1, hq2, hla, haa, hlb, hab, hs]

theorem law12 (T : FrameTbl tbl) (h12 : tbl 12 = some fun12) (h23 : tbl 23 = none) (hov : ∀ s, ov 23 [] s = some (.bool true, s)) (wa : a.Wide) (wb : b.Wide) : WCall (fun k => call tbl ov k) 12 [a.val, b.val] s fun v _ => v = .bool true := by
  refine WCall.of h12 rfl ?_
  simp only [fun12, code12_eq, params]
  have hn1 : ∀ e s, WCode (fun k => call tbl ov k) f_1n e s fun z e' s' => z = .ret ∧ e'.get 4 = some (.bool true) := by
    intro e s
    simp only [f_1n, code12, params, wc_skip, wc_region, wc_draw, wc_seq, wc_cond, wc_block, wc_exit, wc_ret, next_normal, next_exit, next_ret, inBlock_normal, inBlock_ret, inBlock_exit, sq_apply, nrm_apply, drawnK_apply, boolV_bool, ccond_true, ccond_false, wo_nil, wo_cons, wo_guard, wop, bindP_some, cont_some, cont_none, guardV_bool, guardV_undef, gcont_true, gcont_false, gcont_false', ret_apply, aggK_apply, putK_apply, resK_apply, boolK_apply, ccont_apply, wd_nil, wd_cons, dvals_apply, dcont_some, dcont_none, AOp.vals, rd_tmp, rd_const, rd_func, get_cons, mapList, mapOpt, Option.bind_some, Option.map_some, Nat.reduceEqDiff, if_true, if_false, reduceIte, reduceCtorEq, wv_mov, wv_pick, wv_alloc, wv_box, wv_build, wv_load, wv_loadn, wv_store, wv_nilCheck, wv_bin, wv_eq, wv_un, wv_convInt, wv_convSame, wv_fieldAddr, wv_field, wv_fieldn, wv_extract, wv_lenSlice, wv_lenString, wv_mkMap, wv_call, callee_func, wv_indexAddr, wv_lookup, wv_mapUpdate, wv_mapEntry, wv_entryStore, wv_delete, wv_append, wv_slice, wv_mkSlice, wv_buildSlice, wv_index, wv_copy, wv_lenMap, Abs.cellAt, Abs.rowAt, Abs.storeAt, Heap.get_put, List.getElem?_cons_zero, List.getElem?_cons_succ, Nat.zero_add, Nat.reduceAdd, idx, and_self, Int.toNat_natCast, cellsAt, ne_eq, not_true_eq_false, not_false_eq_true, cellList, Value.cells, List.length_cons, List.length_nil, List.all_cons, List.all_nil, isCell, Bool.and_self, storeL, List.set_cons_zero, List.set_cons_succ, footOf, true_and, and_true, Nat.reduceLeDiff, Nat.le_refl, Nat.reduceMul, Nat.reduceLT, List.nil_append, List.cons_append, List.length_set, ends_normal, ends_ret, endK_apply, resV_tmp, tupleV, eqV, Bool.not_true, Bool.not_false, BEq.rfl, Bool.true_beq, Bool.false_beq, beq_true, beq_false, Nat.sub_self, List.range'_zero, decide_true, decide_false, List.not_mem_nil, false_implies, implies_true, Bool.true_and, Bool.and_true, drawn, pairOk, disj, quietAt, Bool.bne_false, Bool.bne_true, Bool.false_eq_true, applyUpd, Int.reduceEq, Int.reduceNeg, bin_add, bin_sub, bin_mul, bin_lss, bin_leq, bin_gtr, bin_geq, bin_eql, bin_neq, un_not, wv_cap, wv_appendMake, wv_clear, wv_toString, wv_toBytes, wv_sameB, wv_mkIface, wv_minmax]
    refine WCall.ov h23 (hov _) ?_
    simp only [params, wc_skip, wc_region, wc_draw, wc_seq, wc_cond, wc_block, wc_exit, wc_ret, next_normal, next_exit, next_ret, inBlock_normal, inBlock_ret, inBlock_exit, sq_apply, nrm_apply, drawnK_apply, boolV_bool, ccond_true, ccond_false, wo_nil, wo_cons, wo_guard, wop, bindP_some, cont_some, cont_none, guardV_bool, guardV_undef, gcont_true, gcont_false, gcont_false', ret_apply, aggK_apply, putK_apply, resK_apply, boolK_apply, ccont_apply, wd_nil, wd_cons, dvals_apply, dcont_some, dcont_none, AOp.vals, rd_tmp, rd_const, rd_func, get_cons, mapList, mapOpt, Option.bind_some, Option.map_some, Nat.reduceEqDiff, if_true, if_false, reduceIte, reduceCtorEq, wv_mov, wv_pick, wv_alloc, wv_box, wv_build, wv_load, wv_loadn, wv_store, wv_nilCheck, wv_bin, wv_eq, wv_un, wv_convInt, wv_convSame, wv_fieldAddr, wv_field, wv_fieldn, wv_extract, wv_lenSlice, wv_lenString, wv_mkMap, wv_call, callee_func, wv_indexAddr, wv_lookup, wv_mapUpdate, wv_mapEntry, wv_entryStore, wv_delete, wv_append, wv_slice, wv_mkSlice, wv_buildSlice, wv_index, wv_copy, wv_lenMap, Abs.cellAt, Abs.rowAt, Abs.storeAt, Heap.get_put, List.getElem?_cons_zero, List.getElem?_cons_succ, Nat.zero_add, Nat.reduceAdd, idx, and_self, Int.toNat_natCast, cellsAt, ne_eq, not_true_eq_false, not_false_eq_true, cellList, Value.cells, List.length_cons, List.length_nil, List.all_cons, List.all_nil, isCell, Bool.and_self, storeL, List.set_cons_zero, List.set_cons_succ, footOf, true_and, and_true, Nat.reduceLeDiff, Nat.le_refl, Nat.reduceMul, Nat.reduceLT, List.nil_append, List.cons_append, List.length_set, ends_normal, ends_ret, endK_apply, resV_tmp, tupleV, eqV, Bool.not_true, Bool.not_false, BEq.rfl, Bool.true_beq, Bool.false_beq, beq_true, beq_false, Nat.sub_self, List.range'_zero, decide_true, decide_false, List.not_mem_nil, false_implies, implies_true, Bool.true_and, Bool.and_true, drawn, pairOk, disj, quietAt, Bool.bne_false, Bool.bne_true, Bool.false_eq_true, applyUpd, Int.reduceEq, Int.reduceNeg, bin_add, bin_sub, bin_mul, bin_lss, bin_leq, bin_gtr, bin_geq, bin_eql, bin_neq, un_not, wv_cap, wv_appendMake, wv_clear, wv_toString, wv_toBytes, wv_sameB, wv_mkIface, wv_minmax]
  have hn4 : ∀ e s, WCode (fun k => call tbl ov k) f_4n e s fun z e' s' => z = .ret ∧ e'.get 4 = some (.bool true) := by
    intro e s
    simp only [f_4n, code12, params, wc_skip, wc_region, wc_draw, wc_seq, wc_cond, wc_block, wc_exit, wc_ret, next_normal, next_exit, next_ret, inBlock_normal, inBlock_ret, inBlock_exit, sq_apply, nrm_apply, drawnK_apply, boolV_bool, ccond_true, ccond_false, wo_nil, wo_cons, wo_guard, wop, bindP_some, cont_some, cont_none, guardV_bool, guardV_undef, gcont_true, gcont_false, gcont_false', ret_apply, aggK_apply, putK_apply, resK_apply, boolK_apply, ccont_apply, wd_nil, wd_cons, dvals_apply, dcont_some, dcont_none, AOp.vals, rd_tmp, rd_const, rd_func, get_cons, mapList, mapOpt, Option.bind_some, Option.map_some, Nat.reduceEqDiff, if_true, if_false, reduceIte, reduceCtorEq, wv_mov, wv_pick, wv_alloc, wv_box, wv_build, wv_load, wv_loadn, wv_store, wv_nilCheck, wv_bin, wv_eq, wv_un, wv_convInt, wv_convSame, wv_fieldAddr, wv_field, wv_fieldn, wv_extract, wv_lenSlice, wv_lenString, wv_mkMap, wv_call, callee_func, wv_indexAddr, wv_lookup, wv_mapUpdate, wv_mapEntry, wv_entryStore, wv_delete, wv_append, wv_slice, wv_mkSlice, wv_buildSlice, wv_index, wv_copy, wv_lenMap, Abs.cellAt, Abs.rowAt, Abs.storeAt, Heap.get_put, List.getElem?_cons_zero, List.getElem?_cons_succ, Nat.zero_add, Nat.reduceAdd, idx, and_self, Int.toNat_natCast, cellsAt, ne_eq, not_true_eq_false, not_false_eq_true, cellList, Value.cells, List.length_cons, List.length_nil, List.all_cons, List.all_nil, isCell, Bool.and_self, storeL, List.set_cons_zero, List.set_cons_succ, footOf, true_and, and_true, Nat.reduceLeDiff, Nat.le_refl, Nat.reduceMul, Nat.reduceLT, List.nil_append, List.cons_append, List.length_set, ends_normal, ends_ret, endK_apply, resV_tmp, tupleV, eqV, Bool.not_true, Bool.not_false, BEq.rfl, Bool.true_beq, Bool.false_beq, beq_true, beq_false, Nat.sub_self, List.range'_zero, decide_true, decide_false, List.not_mem_nil, false_implies, implies_true, Bool.true_and, Bool.and_true, drawn, pairOk, disj, quietAt, Bool.bne_false, Bool.bne_true, Bool.false_eq_true, applyUpd, Int.reduceEq, Int.reduceNeg, bin_add, bin_sub, bin_mul, bin_lss, bin_leq, bin_gtr, bin_geq, bin_eql, bin_neq, un_not, wv_cap, wv_appendMake, wv_clear, wv_toString, wv_toBytes, wv_sameB, wv_mkIface, wv_minmax]
    refine WCall.ov h23 (hov _) ?_
    simp only [params, wc_skip, wc_region, wc_draw, wc_seq, wc_cond, wc_block, wc_exit, wc_ret, next_normal, next_exit, next_ret, inBlock_normal, inBlock_ret, inBlock_exit, sq_apply, nrm_apply, drawnK_apply, boolV_bool, ccond_true, ccond_false, wo_nil, wo_cons, wo_guard, wop, bindP_some, cont_some, cont_none, guardV_bool, guardV_undef, gcont_true, gcont_false, gcont_false', ret_apply, aggK_apply, putK_apply, resK_apply, boolK_apply, ccont_apply, wd_nil, wd_cons, dvals_apply, dcont_some, dcont_none, AOp.vals, rd_tmp, rd_const, rd_func, get_cons, mapList, mapOpt, Option.bind_some, Option.map_some, Nat.reduceEqDiff, if_true, if_false, reduceIte, reduceCtorEq, wv_mov, wv_pick, wv_alloc, wv_box, wv_build, wv_load, wv_loadn, wv_store, wv_nilCheck, wv_bin, wv_eq, wv_un, wv_convInt, wv_convSame, wv_fieldAddr, wv_field, wv_fieldn, wv_extract, wv_lenSlice, wv_lenString, wv_mkMap, wv_call, callee_func, wv_indexAddr, wv_lookup, wv_mapUpdate, wv_mapEntry, wv_entryStore, wv_delete, wv_append, wv_slice, wv_mkSlice, wv_buildSlice, wv_index, wv_copy, wv_lenMap, Abs.cellAt, Abs.rowAt, Abs.storeAt, Heap.get_put, List.getElem?_cons_zero, List.getElem?_cons_succ, Nat.zero_add, Nat.reduceAdd, idx, and_self, Int.toNat_natCast, cellsAt, ne_eq, not_true_eq_false, not_false_eq_true, cellList, Value.cells, List.length_cons, List.length_nil, List.all_cons, List.all_nil, isCell, Bool.and_self, storeL, List.set_cons_zero, List.set_cons_succ, footOf, true_and, and_true, Nat.reduceLeDiff, Nat.le_refl, Nat.reduceMul, Nat.reduceLT, List.nil_append, List.cons_append, List.length_set, ends_normal, ends_ret, endK_apply, resV_tmp, tupleV, eqV, Bool.not_true, Bool.not_false, BEq.rfl, Bool.true_beq, Bool.false_beq, beq_true, beq_false, Nat.sub_self, List.range'_zero, decide_true, decide_false, List.not_mem_nil, false_implies, implies_true, Bool.true_and, Bool.and_true, drawn, pairOk, disj, quietAt, Bool.bne_false, Bool.bne_true, Bool.false_eq_true, applyUpd, Int.reduceEq, Int.reduceNeg, bin_add, bin_sub, bin_mul, bin_lss, bin_leq, bin_gtr, bin_geq, bin_eql, bin_neq, un_not, wv_cap, wv_appendMake, wv_clear, wv_toString, wv_toBytes, wv_sameB, wv_mkIface, wv_minmax]
  have hfin : ∀ z (e' : Env) s', (z = AExit.ret ∧ e'.get 4 = some (.bool true)) → ends [.tmp 4] (fun v _ => v = .bool true) z e' s' := by
    rintro z e' s' ⟨rfl, g4⟩
    rw [ends_ret]
    simp only [mapList, resV_tmp, g4, bindP_some, Option.bind_some, Option.map_some, endK_apply, tupleV]
  refine wc_then (f_0_gen rfl rfl) ?_
  rintro e1 s1 ⟨p, q, ⟨a2, a3⟩, hp, hq, hp1, hq1⟩
  rw [wc_seq]
  refine wc_if ?_
  refine WCode.mono ?_ (f_1_gen hp hq a2 a3)
  rintro x e2 s2 ⟨rfl, b2, b3, ⟨t, b28⟩, rfl⟩
  refine ⟨rfl, _, b28, fun _ => ?_, fun _ => ?_⟩
  · refine WCode.mono ?_ (hn1 e2 s2)
    rintro z e' s' ⟨rfl, h⟩
    exact hfin _ _ _ ⟨rfl, h⟩
  rw [wc_skip, next_normal, sq_apply]
  refine wc_then (f_2_gen T wa hp (b2.trans a2)) ?_
  rintro e3 s3 ⟨c2, c3, x, ea, c5, c6, hea, hk3⟩
  have hp3 : s3.heap.get p = some (.cells a.cells 50 0 false) := by rw [hk3.2 p hp1 (by simp)]; exact hp
  have hq3 : s3.heap.get q = some (.cells b.cells 50 0 false) := by rw [hk3.2 q hq1 (by simp)]; exact hq
  refine wc_then (f_3_gen T wb hq3 (c3.trans (b3.trans a3))) ?_
  rintro e4 s4 ⟨d2, d3, d5, d6, y, eb, d7, d8, heb, hk4⟩
  have hp4 : s4.heap.get p = some (.cells a.cells 50 0 false) := by rw [hk4.2 p (Nat.lt_of_lt_of_le hp1 hk3.1) (by simp)]; exact hp3
  have hq4 : s4.heap.get q = some (.cells b.cells 50 0 false) := by rw [hk4.2 q (Nat.lt_of_lt_of_le hq1 hk3.1) (by simp)]; exact hq3
  have hea4 := hea.kept hk4
  have shape : ∀ (r : FRec) (v : Value) (er : Int), EncV s4 r v er → ∃ ad l c, v = .slice ad l c ∧ (r.sound = true → l = (recL r).length) := by
    intro r v er h
    cases hs : r.sound with
    | false => exact ⟨_, _, _, (h.1 hs).1, fun h => by cases h⟩
    | true =>
      obtain ⟨_, hb⟩ := h.2 hs
      obtain ⟨ad, cap, rfl⟩ := hb.len
      exact ⟨_, _, _, rfl, fun _ => rfl⟩
  obtain ⟨ax, lx, cx, rfl, hlx⟩ := shape a x ea hea4
  obtain ⟨ay, ly, cy, rfl, hly⟩ := shape b y eb heb
  rw [wc_seq]
  refine wc_if ?_
  refine WCode.mono ?_ (f_4_gen (d5.trans c5) (d6.trans c6) d7 d8)
  rintro z e5 s5 ⟨rfl, f2, f3, f5, f7, f52, rfl⟩
  refine ⟨rfl, _, f52, fun _ => ?_, fun hf => ?_⟩
  · refine WCode.mono ?_ (hn4 e5 s5)
    rintro z e' s' ⟨rfl, h⟩
    exact hfin _ _ _ ⟨rfl, h⟩
  · rw [wc_skip, next_normal, sq_apply]
    simp only [Bool.or_eq_false_iff, bne_eq_false_iff_eq, decide_eq_false_iff_not] at hf
    obtain ⟨h1, h2, h3⟩ := hf
    have hsa : a.sound = true := by
      cases hs : a.sound with
      | true => rfl
      | false => have := (hea4.1 hs).2; omega
    have hsb : b.sound = true := by
      cases hs : b.sound with
      | true => rfl
      | false => have := (heb.1 hs).2; omega
    have e1 := hlx hsa
    have e2 := hly hsb
    refine WCode.mono hfin (f_56_gen h23 hov hsa hsb wa wb (by omega) (hea4.2 hsa).2 (heb.2 hsb).2 hp4 hq4 (f2.trans (d2.trans (c2.trans (b2.trans a2)))) (f3.trans (d3.trans (c3.trans (b3.trans a3)))) (f5.trans (d5.trans c5)) (f7.trans d7))

end
end Go.Proofs.Ytaigiehdnhehnaa
