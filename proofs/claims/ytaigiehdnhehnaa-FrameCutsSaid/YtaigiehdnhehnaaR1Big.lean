/-
  The document's bytes of a record.
-/
import Derived.Test.YtaigiehdnhehnaaR1Ref
import Derived.Test.YtaigiehdnhehnaaR1Enc2
import Derived.Test.YtaigiehdnhehnaaA32
set_option maxRecDepth 100000
set_option linter.unusedVariables false
set_option linter.unusedSimpArgs false
namespace Go.Proofs.Ytaigiehdnhehnaa
open Go Go.Abs

/-- Bytes of one's own newer than s1; nothing of the old has turned, nothing stands above. -/
def GrownQ (s1 s : St) (v : Value) (zs : List Int) : Prop := ∃ S, BytesO 5 s v zs S ∧ Kept [] s1 s ∧ (∀ x ∈ S, s1.next ≤ x) ∧ Above s1 s

theorem GrownQ.toV {s1 s : St} {v : Value} {zs : List Int} (h : GrownQ s1 s v zs) : BytesV s v zs := by
  obtain ⟨S, h1, _⟩ := h; exact h1.toV
theorem GrownQ.keep {s1 s : St} {v : Value} {zs : List Int} (h : GrownQ s1 s v zs) : Kept [] s1 s := by
  obtain ⟨S, _, h1, _⟩ := h; exact h1
theorem GrownQ.above {s1 s : St} {v : Value} {zs : List Int} (h : GrownQ s1 s v zs) : Above s1 s := by
  obtain ⟨S, _, _, _, h1⟩ := h; exact h1
theorem GrownQ.kept {s1 s s' : St} {v : Value} {zs : List Int} (h : GrownQ s1 s v zs) (hk : Kept [] s s') (ha : Above s s') : GrownQ s1 s' v zs := by
  obtain ⟨S, h1, h2, h3, h4⟩ := h
  exact ⟨S, h1.kept hk (fun _ _ => by simp), h2.trans hk, h3, h4.trans ha hk.1⟩
theorem GrownQ.from {s0 s1 s : St} {v : Value} {zs : List Int} (h : GrownQ s1 s v zs) (hk : Kept [] s0 s1) (ha : Above s0 s1) : GrownQ s0 s v zs := by
  obtain ⟨S, h1, h2, h3, h4⟩ := h
  exact ⟨S, h1, hk.trans h2, fun x hx => by have := h3 x hx; have := hk.1; omega, ha.trans h4 h2.1⟩
theorem GrownQ.append {s1 s : St} {v y : Value} {zs ys : List Int} (h : GrownQ s1 s v zs) (hy : SrcV s y ys) (hbig : zs.length + ys.length < 2 ^ 40) :
    ∃ val upd nx, evP s.heap.get s.next (.append 5 1 1 v y) = some ⟨val, upd, nx⟩ ∧ GrownQ s1 ⟨applyUpd s.heap upd, nx⟩ val (zs ++ ys) := by
  obtain ⟨S, h1, h2, h3, h4⟩ := h
  obtain ⟨res, S', he, ho, hk, hS, ha⟩ := h1.append hy hbig
  refine ⟨res.val, res.upd, res.next, he, S', ho, h2.comp hk (fun x hx => .inr (h3 x hx)), fun x hx => ?_, h4.trans ha hk.1⟩
  rcases hS x hx with h | h
  · exact h3 x h
  · have := h2.1; omega
theorem GrownQ.get {s1 s : St} {v : Value} {zs : List Int} (h : GrownQ s1 s v zs) {q : Nat} (hq : q < s1.next) : s.heap.get q = s1.heap.get q :=
  h.keep.2 q hq (by simp)

def dig (n k : Nat) : Int := ((n / 256 ^ k % 256 : Nat) : Int)
def hiD (n k : Nat) : Nat → List Int
  | 0 => []
  | m + 1 => dig n (k + m) :: hiD n k m

theorem hiD_beL (n : Nat) : ∀ m, hiD n 0 m = beL n m := by
  intro m
  induction m with
  | zero => rfl
  | succ m ih => simp only [hiD, ih, Nat.zero_add]; rfl

theorem hiD_step (n k : Nat) : ∀ m, hiD n k (m + 1) = hiD n (k + 1) m ++ [dig n k] := by
  intro m
  induction m with
  | zero => rfl
  | succ m ih =>
    rw [hiD, ih]
    show dig n (k + (m + 1)) :: _ = dig n (k + 1 + m) :: _
    rw [show k + (m + 1) = k + 1 + m by omega]
    rfl

theorem hiD_length (n k m : Nat) : (hiD n k m).length = m := by
  induction m with
  | zero => rfl
  | succ m ih => simp [hiD, ih]

theorem dig_range (n k : Nat) : 0 ≤ dig n k ∧ dig n k ≤ 255 := by unfold dig; omega

theorem shr_i64 {n k : Nat} (hk : k < 8) : IntKind.u8.wrap ((n : Int).fdiv (2 ^ min (8 * k) IntKind.i64.bits)) = dig n k := by
  have h1 : min (8 * k) IntKind.i64.bits = 8 * k := by
    have : IntKind.i64.bits = 64 := rfl
    rw [this]; omega
  have h2 : ((2 : Int) ^ (8 * k)) = ((256 ^ k : Nat) : Int) := by
    rw [show (256 : Nat) = 2 ^ 8 from rfl, ← Nat.pow_mul]; push_cast; rfl
  have h3 : ∀ m : Int, IntKind.u8.wrap m = m % 256 := fun m => by simp [IntKind.wrap, IntKind.signed, IntKind.bits]
  rw [h1, h2, h3, Int.fdiv_eq_ediv_of_nonneg _ (Int.natCast_nonneg _), ← Int.natCast_ediv]
  unfold dig; push_cast; rfl

theorem bin_shr_i64 {n : Int} {k : Nat} : binV .shr (.int .i64 n) (.int .u64 (k : Int)) = some (.int .i64 (n.fdiv (2 ^ min k IntKind.i64.bits))) := by
  simp only [binV, show ¬ (k : Int) < 0 by omega, if_false, Int.toNat_natCast]

theorem wrap_u64q {n : Nat} (h : n < 18446744073709551616) : IntKind.u64.wrap (n : Int) = (n : Int) := wrap_u64 (by omega)

def b_0 : ACode := match code39 with | .seq x _ => x | _ => .skip
def b_1 : ACode := match code39 with | .seq _ (.seq x _) => x | _ => .skip
def b_2 : ACode := match code39 with | .seq _ (.seq _ (.seq x _)) => x | _ => .skip
def b_3 : ACode := match code39 with | .seq _ (.seq _ (.seq _ x)) => x | _ => .skip
def b2i : ACode := match b_2 with | .seq x _ => x | _ => .skip
def b2h : ACode := match b_2 with | .seq _ (.block _ (.loop _ (.seq (.seq x _) _))) => x | _ => .skip
def b2b : ACode := match b_2 with | .seq _ (.block _ (.loop _ (.seq _ (.seq (.block _ x) _)))) => x | _ => .skip
def b2n : ACode := match b_2 with | .seq _ (.block _ (.loop _ (.seq _ (.seq _ x)))) => x | _ => .skip
theorem code39_eq : code39 = .seq b_0 (.seq b_1 (.seq b_2 b_3)) := rfl
theorem b_2_eq : b_2 = .seq b2i (.block 0 (.loop [0, 5, 6] (.seq (.seq b2h (.cond (.tmp 11) .skip (.exit 0))) (.seq (.block 1 b2b) b2n)))) := rfl

section
variable {tbl : FuncId → Option AFun} {ov : CallSem} {s s1 : St} {e : Env} {v w : Value} {zs : List Int} {p q n size : Nat}

theorem b_01_gen : WCode (fun k => call tbl ov k) (.seq b_0 b_1) e s fun x e' s' => x = .normal ∧ e'.get 0 = e.get 0 ∧ e'.get 1 = e.get 1 ∧ ∃ v, e'.get 5 = some v ∧ GrownQ s s' v [] := by
  simp only [b_0, b_1, code39, params, wc_skip, wc_region, wc_draw, wc_seq, wc_cond, wc_block, wc_exit, wc_ret, next_normal, next_exit, next_ret, inBlock_normal, inBlock_ret, inBlock_exit, sq_apply, nrm_apply, drawnK_apply, boolV_bool, ccond_true, ccond_false, wo_nil, wo_cons, wo_guard, wop, bindP_some, cont_some, cont_none, guardV_bool, guardV_undef, gcont_true, gcont_false, gcont_false', ret_apply, aggK_apply, putK_apply, resK_apply, boolK_apply, ccont_apply, wd_nil, wd_cons, dvals_apply, dcont_some, dcont_none, AOp.vals, rd_tmp, rd_const, rd_func, get_cons, mapList, mapOpt, Option.bind_some, Option.map_some, Nat.reduceEqDiff, if_true, if_false, reduceIte, reduceCtorEq, wv_mov, wv_pick, wv_alloc, wv_box, wv_build, wv_load, wv_loadn, wv_store, wv_nilCheck, wv_bin, wv_eq, wv_un, wv_convInt, wv_convSame, wv_fieldAddr, wv_field, wv_fieldn, wv_extract, wv_lenSlice, wv_lenString, wv_mkMap, wv_call, callee_func, wv_indexAddr, wv_lookup, wv_mapUpdate, wv_mapEntry, wv_entryStore, wv_delete, wv_append, wv_slice, wv_mkSlice, wv_buildSlice, wv_index, wv_copy, wv_lenMap, Abs.cellAt, Abs.rowAt, Abs.storeAt, Heap.get_put, List.getElem?_cons_zero, List.getElem?_cons_succ, Nat.zero_add, Nat.reduceAdd, idx, and_self, Int.toNat_natCast, cellsAt, ne_eq, not_true_eq_false, not_false_eq_true, cellList, Value.cells, List.length_cons, List.length_nil, List.all_cons, List.all_nil, isCell, Bool.and_self, storeL, List.set_cons_zero, List.set_cons_succ, footOf, true_and, and_true, Nat.reduceLeDiff, Nat.le_refl, Nat.reduceMul, Nat.reduceLT, List.nil_append, List.cons_append, List.length_set, ends_normal, ends_ret, endK_apply, resV_tmp, tupleV, eqV, Bool.not_true, Bool.not_false, BEq.rfl, Bool.true_beq, Bool.false_beq, beq_true, beq_false, Nat.sub_self, List.range'_zero, decide_true, decide_false, List.not_mem_nil, false_implies, implies_true, Bool.true_and, Bool.and_true, drawn, pairOk, disj, quietAt, Bool.bne_false, Bool.bne_true, Bool.false_eq_true, applyUpd, Int.reduceEq, Int.reduceNeg, bin_add, bin_sub, bin_mul, bin_lss, bin_leq, bin_gtr, bin_geq, bin_eql, bin_neq, un_not, wv_cap, wv_appendMake, wv_clear, wv_toString, wv_toBytes, wv_sameB, wv_mkIface, wv_minmax, ev_buildSlice, fillL, mapParts]
  refine ⟨_, rfl, [s.next], ⟨by simp, .inr ⟨s.next, 0, 0, [], rfl, rfl, Nat.le_refl _, Nat.lt_succ_self _, ?_, Nat.le_refl _, rfl⟩⟩, ⟨Nat.le_succ _, fun id hid _ => ?_⟩, by simp, fun id hid => ?_⟩
  · simp only [applyUpd, Heap.get_put, if_true]
  · have : ¬ id = s.next := by omega
    simp only [applyUpd, Heap.get_put, this, if_false]
  · simp only at hid
    have : ¬ id = s.next := by omega
    simp only [applyUpd, Heap.get_put, this, if_false]

theorem b2i_gen (hs : size ≤ 8) (g1 : e.get 1 = some (in64 size)) : WCode (fun k => call tbl ov k) b2i e s fun x e' s' => x = .normal ∧ (∀ j, j < 6 → e'.get j = e.get j) ∧ e'.get 6 = some (in64 ((size : Int) - 1)) ∧ s' = s := by
  have w1 : IntKind.i64.wrap ((size : Int) - 1) = (size : Int) - 1 := wrap64 (by omega) (by omega)
  simp only [b2i, b_2, code39, params, wc_skip, wc_region, wc_draw, wc_seq, wc_cond, wc_block, wc_exit, wc_ret, next_normal, next_exit, next_ret, inBlock_normal, inBlock_ret, inBlock_exit, sq_apply, nrm_apply, drawnK_apply, boolV_bool, ccond_true, ccond_false, wo_nil, wo_cons, wo_guard, wop, bindP_some, cont_some, cont_none, guardV_bool, guardV_undef, gcont_true, gcont_false, gcont_false', ret_apply, aggK_apply, putK_apply, resK_apply, boolK_apply, ccont_apply, wd_nil, wd_cons, dvals_apply, dcont_some, dcont_none, AOp.vals, rd_tmp, rd_const, rd_func, get_cons, mapList, mapOpt, Option.bind_some, Option.map_some, Nat.reduceEqDiff, if_true, if_false, reduceIte, reduceCtorEq, wv_mov, wv_pick, wv_alloc, wv_box, wv_build, wv_load, wv_loadn, wv_store, wv_nilCheck, wv_bin, wv_eq, wv_un, wv_convInt, wv_convSame, wv_fieldAddr, wv_field, wv_fieldn, wv_extract, wv_lenSlice, wv_lenString, wv_mkMap, wv_call, callee_func, wv_indexAddr, wv_lookup, wv_mapUpdate, wv_mapEntry, wv_entryStore, wv_delete, wv_append, wv_slice, wv_mkSlice, wv_buildSlice, wv_index, wv_copy, wv_lenMap, Abs.cellAt, Abs.rowAt, Abs.storeAt, Heap.get_put, List.getElem?_cons_zero, List.getElem?_cons_succ, Nat.zero_add, Nat.reduceAdd, idx, and_self, Int.toNat_natCast, cellsAt, ne_eq, not_true_eq_false, not_false_eq_true, cellList, Value.cells, List.length_cons, List.length_nil, List.all_cons, List.all_nil, isCell, Bool.and_self, storeL, List.set_cons_zero, List.set_cons_succ, footOf, true_and, and_true, Nat.reduceLeDiff, Nat.le_refl, Nat.reduceMul, Nat.reduceLT, List.nil_append, List.cons_append, List.length_set, ends_normal, ends_ret, endK_apply, resV_tmp, tupleV, eqV, Bool.not_true, Bool.not_false, BEq.rfl, Bool.true_beq, Bool.false_beq, beq_true, beq_false, Nat.sub_self, List.range'_zero, decide_true, decide_false, List.not_mem_nil, false_implies, implies_true, Bool.true_and, Bool.and_true, drawn, pairOk, disj, quietAt, Bool.bne_false, Bool.bne_true, Bool.false_eq_true, applyUpd, Int.reduceEq, Int.reduceNeg, bin_add, bin_sub, bin_mul, bin_lss, bin_leq, bin_gtr, bin_geq, bin_eql, bin_neq, un_not, wv_cap, wv_appendMake, wv_clear, wv_toString, wv_toBytes, wv_sameB, wv_mkIface, wv_minmax, g1, w1]
  intro j hj
  simp (disch := omega) only [get_cons, if_neg]

theorem b2h_gen {k : Nat} (g6 : e.get 6 = some (in64 ((k : Int) - 1))) : WCode (fun k => call tbl ov k) b2h e s fun x e' s' => x = .normal ∧ (∀ j, j < 10 → e'.get j = e.get j) ∧ e'.get 11 = some (.bool (decide (0 < k))) ∧ s' = s := by
  have d : decide ((k : Int) - 1 ≥ 0) = decide (0 < k) := by
    have : ((k : Int) - 1 ≥ 0) ↔ 0 < k := by omega
    simp only [this]
  simp only [b2h, b_2, code39, params, wc_skip, wc_region, wc_draw, wc_seq, wc_cond, wc_block, wc_exit, wc_ret, next_normal, next_exit, next_ret, inBlock_normal, inBlock_ret, inBlock_exit, sq_apply, nrm_apply, drawnK_apply, boolV_bool, ccond_true, ccond_false, wo_nil, wo_cons, wo_guard, wop, bindP_some, cont_some, cont_none, guardV_bool, guardV_undef, gcont_true, gcont_false, gcont_false', ret_apply, aggK_apply, putK_apply, resK_apply, boolK_apply, ccont_apply, wd_nil, wd_cons, dvals_apply, dcont_some, dcont_none, AOp.vals, rd_tmp, rd_const, rd_func, get_cons, mapList, mapOpt, Option.bind_some, Option.map_some, Nat.reduceEqDiff, if_true, if_false, reduceIte, reduceCtorEq, wv_mov, wv_pick, wv_alloc, wv_box, wv_build, wv_load, wv_loadn, wv_store, wv_nilCheck, wv_bin, wv_eq, wv_un, wv_convInt, wv_convSame, wv_fieldAddr, wv_field, wv_fieldn, wv_extract, wv_lenSlice, wv_lenString, wv_mkMap, wv_call, callee_func, wv_indexAddr, wv_lookup, wv_mapUpdate, wv_mapEntry, wv_entryStore, wv_delete, wv_append, wv_slice, wv_mkSlice, wv_buildSlice, wv_index, wv_copy, wv_lenMap, Abs.cellAt, Abs.rowAt, Abs.storeAt, Heap.get_put, List.getElem?_cons_zero, List.getElem?_cons_succ, Nat.zero_add, Nat.reduceAdd, idx, and_self, Int.toNat_natCast, cellsAt, ne_eq, not_true_eq_false, not_false_eq_true, cellList, Value.cells, List.length_cons, List.length_nil, List.all_cons, List.all_nil, isCell, Bool.and_self, storeL, List.set_cons_zero, List.set_cons_succ, footOf, true_and, and_true, Nat.reduceLeDiff, Nat.le_refl, Nat.reduceMul, Nat.reduceLT, List.nil_append, List.cons_append, List.length_set, ends_normal, ends_ret, endK_apply, resV_tmp, tupleV, eqV, Bool.not_true, Bool.not_false, BEq.rfl, Bool.true_beq, Bool.false_beq, beq_true, beq_false, Nat.sub_self, List.range'_zero, decide_true, decide_false, List.not_mem_nil, false_implies, implies_true, Bool.true_and, Bool.and_true, drawn, pairOk, disj, quietAt, Bool.bne_false, Bool.bne_true, Bool.false_eq_true, applyUpd, Int.reduceEq, Int.reduceNeg, bin_add, bin_sub, bin_mul, bin_lss, bin_leq, bin_gtr, bin_geq, bin_eql, bin_neq, un_not, wv_cap, wv_appendMake, wv_clear, wv_toString, wv_toBytes, wv_sameB, wv_mkIface, wv_minmax, g6, d]
  intro j hj
  simp (disch := omega) only [get_cons, if_neg]

theorem b2b_gen {k : Nat} (hk : k < 8) (hg : GrownQ s1 s v zs) (hz : zs.length < 2 ^ 30) (g0 : e.get 0 = some (in64 n)) (g5 : e.get 5 = some v) (g6 : e.get 6 = some (in64 k)) :
    WCode (fun k => call tbl ov k) b2b e s fun x e' s' => x = .normal ∧ e'.get 0 = e.get 0 ∧ e'.get 6 = e.get 6 ∧ ∃ v', e'.get 5 = some v' ∧ GrownQ s1 s' v' (zs ++ [dig n k]) := by
  have w1 : IntKind.i64.wrap (8 * (k : Int)) = ((8 * k : Nat) : Int) := by rw [wrap64 (by omega) (by omega)]; omega
  have w2 : IntKind.u64.wrap ((8 * k : Nat) : Int) = ((8 * k : Nat) : Int) := wrap_u64q (by omega)
  have hsh := shr_i64 (n := n) hk
  have hk1 : Kept [] s ⟨s.heap.put s.next (some (.cells [.int .u8 (dig n k)] 5 1 false)), s.next + 1⟩ := ⟨Nat.le_succ _, fun id hid _ => by
    have : ¬ id = s.next := by omega
    simp only [Heap.get_put, this, if_false]⟩
  have ha1 : Above s ⟨s.heap.put s.next (some (.cells [.int .u8 (dig n k)] 5 1 false)), s.next + 1⟩ := fun id hid => by
    simp only at hid
    have : ¬ id = s.next := by omega
    simp only [Heap.get_put, this, if_false]
  have hy : SrcV ⟨s.heap.put s.next (some (.cells [.int .u8 (dig n k)] 5 1 false)), s.next + 1⟩ (.slice (some ⟨s.next, 0, none⟩) 1 1) [dig n k] := .inl ⟨fun z hz => by
    simp only [List.mem_singleton] at hz; subst hz; exact dig_range n k, .inr ⟨s.next, 0, 1, [.int .u8 (dig n k)], 5, 1, false, rfl, Nat.le_refl _, Nat.lt_succ_self _, by simp only [Heap.get_put, if_true], rfl, .inr rfl, Nat.le_refl _⟩⟩
  obtain ⟨val, upd, nx, he, hg2⟩ := (hg.kept hk1 ha1).append hy (by simp; omega)
  simp only [b2b, b_2, code39, params, wc_skip, wc_region, wc_draw, wc_seq, wc_cond, wc_block, wc_exit, wc_ret, next_normal, next_exit, next_ret, inBlock_normal, inBlock_ret, inBlock_exit, sq_apply, nrm_apply, drawnK_apply, boolV_bool, ccond_true, ccond_false, wo_nil, wo_cons, wo_guard, wop, bindP_some, cont_some, cont_none, guardV_bool, guardV_undef, gcont_true, gcont_false, gcont_false', ret_apply, aggK_apply, putK_apply, resK_apply, boolK_apply, ccont_apply, wd_nil, wd_cons, dvals_apply, dcont_some, dcont_none, AOp.vals, rd_tmp, rd_const, rd_func, get_cons, mapList, mapOpt, Option.bind_some, Option.map_some, Nat.reduceEqDiff, if_true, if_false, reduceIte, reduceCtorEq, wv_mov, wv_pick, wv_alloc, wv_box, wv_build, wv_load, wv_loadn, wv_store, wv_nilCheck, wv_bin, wv_eq, wv_un, wv_convInt, wv_convSame, wv_fieldAddr, wv_field, wv_fieldn, wv_extract, wv_lenSlice, wv_lenString, wv_mkMap, wv_call, callee_func, wv_indexAddr, wv_lookup, wv_mapUpdate, wv_mapEntry, wv_entryStore, wv_delete, wv_append, wv_slice, wv_mkSlice, wv_buildSlice, wv_index, wv_copy, wv_lenMap, Abs.cellAt, Abs.rowAt, Abs.storeAt, Heap.get_put, List.getElem?_cons_zero, List.getElem?_cons_succ, Nat.zero_add, Nat.reduceAdd, idx, and_self, Int.toNat_natCast, cellsAt, ne_eq, not_true_eq_false, not_false_eq_true, cellList, Value.cells, List.length_cons, List.length_nil, List.all_cons, List.all_nil, isCell, Bool.and_self, storeL, List.set_cons_zero, List.set_cons_succ, footOf, true_and, and_true, Nat.reduceLeDiff, Nat.le_refl, Nat.reduceMul, Nat.reduceLT, List.nil_append, List.cons_append, List.length_set, ends_normal, ends_ret, endK_apply, resV_tmp, tupleV, eqV, Bool.not_true, Bool.not_false, BEq.rfl, Bool.true_beq, Bool.false_beq, beq_true, beq_false, Nat.sub_self, List.range'_zero, decide_true, decide_false, List.not_mem_nil, false_implies, implies_true, Bool.true_and, Bool.and_true, drawn, pairOk, disj, quietAt, Bool.bne_false, Bool.bne_true, Bool.false_eq_true, applyUpd, Int.reduceEq, Int.reduceNeg, bin_add, bin_sub, bin_mul, bin_lss, bin_leq, bin_gtr, bin_geq, bin_eql, bin_neq, un_not, wv_cap, wv_appendMake, wv_clear, wv_toString, wv_toBytes, wv_sameB, wv_mkIface, wv_minmax, g0, g5, g6, w1, w2, bin_shr_i64, hsh, ev_buildSlice, fillL, mapParts, he]
  exact ⟨_, rfl, hg2⟩

theorem b2n_gen {k : Nat} (hk : k < 100) (g6 : e.get 6 = some (in64 k)) : WCode (fun k => call tbl ov k) b2n e s fun x e' s' => x = .normal ∧ (∀ j, j < 6 → e'.get j = e.get j) ∧ e'.get 6 = some (in64 ((k : Int) - 1)) ∧ s' = s := by
  have w : IntKind.i64.wrap ((k : Int) - 1) = (k : Int) - 1 := wrap64 (by omega) (by omega)
  simp only [b2n, b_2, code39, params, wc_skip, wc_region, wc_draw, wc_seq, wc_cond, wc_block, wc_exit, wc_ret, next_normal, next_exit, next_ret, inBlock_normal, inBlock_ret, inBlock_exit, sq_apply, nrm_apply, drawnK_apply, boolV_bool, ccond_true, ccond_false, wo_nil, wo_cons, wo_guard, wop, bindP_some, cont_some, cont_none, guardV_bool, guardV_undef, gcont_true, gcont_false, gcont_false', ret_apply, aggK_apply, putK_apply, resK_apply, boolK_apply, ccont_apply, wd_nil, wd_cons, dvals_apply, dcont_some, dcont_none, AOp.vals, rd_tmp, rd_const, rd_func, get_cons, mapList, mapOpt, Option.bind_some, Option.map_some, Nat.reduceEqDiff, if_true, if_false, reduceIte, reduceCtorEq, wv_mov, wv_pick, wv_alloc, wv_box, wv_build, wv_load, wv_loadn, wv_store, wv_nilCheck, wv_bin, wv_eq, wv_un, wv_convInt, wv_convSame, wv_fieldAddr, wv_field, wv_fieldn, wv_extract, wv_lenSlice, wv_lenString, wv_mkMap, wv_call, callee_func, wv_indexAddr, wv_lookup, wv_mapUpdate, wv_mapEntry, wv_entryStore, wv_delete, wv_append, wv_slice, wv_mkSlice, wv_buildSlice, wv_index, wv_copy, wv_lenMap, Abs.cellAt, Abs.rowAt, Abs.storeAt, Heap.get_put, List.getElem?_cons_zero, List.getElem?_cons_succ, Nat.zero_add, Nat.reduceAdd, idx, and_self, Int.toNat_natCast, cellsAt, ne_eq, not_true_eq_false, not_false_eq_true, cellList, Value.cells, List.length_cons, List.length_nil, List.all_cons, List.all_nil, isCell, Bool.and_self, storeL, List.set_cons_zero, List.set_cons_succ, footOf, true_and, and_true, Nat.reduceLeDiff, Nat.le_refl, Nat.reduceMul, Nat.reduceLT, List.nil_append, List.cons_append, List.length_set, ends_normal, ends_ret, endK_apply, resV_tmp, tupleV, eqV, Bool.not_true, Bool.not_false, BEq.rfl, Bool.true_beq, Bool.false_beq, beq_true, beq_false, Nat.sub_self, List.range'_zero, decide_true, decide_false, List.not_mem_nil, false_implies, implies_true, Bool.true_and, Bool.and_true, drawn, pairOk, disj, quietAt, Bool.bne_false, Bool.bne_true, Bool.false_eq_true, applyUpd, Int.reduceEq, Int.reduceNeg, bin_add, bin_sub, bin_mul, bin_lss, bin_leq, bin_gtr, bin_geq, bin_eql, bin_neq, un_not, wv_cap, wv_appendMake, wv_clear, wv_toString, wv_toBytes, wv_sameB, wv_mkIface, wv_minmax, g6, w]
  intro j hj
  simp (disch := omega) only [get_cons, if_neg]

theorem big_spec (h39 : tbl 39 = some fun39) (hs : size ≤ 8) : WCall (fun k => call tbl ov k) 39 [in64 n, in64 size] s fun v s' => GrownQ s s' v (beL n size) := by
  refine WCall.of h39 rfl ?_
  simp only [fun39, code39_eq, params]
  rw [wc_assoc]
  refine wc_then b_01_gen ?_
  rintro e1 s1 ⟨a0, a1, v1, a5, hg1⟩
  have a0' : e1.get 0 = some (in64 n) := a0
  have a1' : e1.get 1 = some (in64 size) := a1
  refine wc_then (R := fun e' s' => ∃ v, e'.get 5 = some v ∧ GrownQ s s' v (beL n size)) ?_ ?_
  · rw [b_2_eq]
    refine wc_then (b2i_gen hs a1') ?_
    rintro e2 s2 ⟨k2, a6, rfl⟩
    refine wc_for (fun k e' s' => k ≤ size ∧ e'.get 0 = some (in64 n) ∧ e'.get 6 = some (in64 ((k : Int) - 1)) ∧ ∃ v, e'.get 5 = some v ∧ GrownQ s s' v (hiD n k (size - k))) size ?_ ?_
    · exact ⟨Nat.le_refl _, (k2 0 (by omega)).trans a0', a6, v1, (k2 5 (by omega)).trans a5, by rw [Nat.sub_self]; exact hg1⟩
    · rintro k e3 s3 E ⟨hk, b0, b6, v, b5, hg⟩ hE
      have c0 := (hE 0 (by simp)).trans b0
      have c5 := (hE 5 (by simp)).trans b5
      have c6 := (hE 6 (by simp)).trans b6
      refine WCode.mono ?_ (b2h_gen c6)
      rintro y e4 s4 ⟨rfl, k4, a11, rfl⟩
      refine ⟨rfl, _, a11, fun hbb => ?_, fun hbb => ?_⟩
      · simp only [decide_eq_false_iff_not] at hbb
        have : k = 0 := by omega
        subst this
        exact ⟨rfl, v, (k4 5 (by omega)).trans c5, by rw [← hiD_beL]; exact hg⟩
      · simp only [decide_eq_true_eq] at hbb
        obtain ⟨j, rfl⟩ : ∃ j, k = j + 1 := ⟨k - 1, by omega⟩
        have hj : ((j + 1 : Nat) : Int) - 1 = (j : Int) := by omega
        rw [hj] at c6
        refine WCode.mono ?_ (b2b_gen (k := j) (n := n) (by omega) hg (by rw [hiD_length]; omega) ((k4 0 (by omega)).trans c0) ((k4 5 (by omega)).trans c5) ((k4 6 (by omega)).trans c6))
        rintro y e5 s5 ⟨rfl, d0, d6, v', d5, hg5⟩
        refine .inl ⟨.inl rfl, ?_⟩
        refine WCode.mono ?_ (b2n_gen (k := j) (by omega) (d6.trans ((k4 6 (by omega)).trans c6)))
        rintro y e6 s6 ⟨rfl, k6, f6, rfl⟩
        refine ⟨rfl, j, Nat.lt_succ_self _, by omega, (k6 0 (by omega)).trans (d0.trans ((k4 0 (by omega)).trans c0)), f6, v', (k6 5 (by omega)).trans d5, ?_⟩
        rw [show size - j = (size - (j + 1)) + 1 by omega, hiD_step]
        exact hg5
  · rintro e2 s2 ⟨v, b5, hg⟩
    simp only [b_3, code39, params, wc_skip, wc_region, wc_draw, wc_seq, wc_cond, wc_block, wc_exit, wc_ret, next_normal, next_exit, next_ret, inBlock_normal, inBlock_ret, inBlock_exit, sq_apply, nrm_apply, drawnK_apply, boolV_bool, ccond_true, ccond_false, wo_nil, wo_cons, wo_guard, wop, bindP_some, cont_some, cont_none, guardV_bool, guardV_undef, gcont_true, gcont_false, gcont_false', ret_apply, aggK_apply, putK_apply, resK_apply, boolK_apply, ccont_apply, wd_nil, wd_cons, dvals_apply, dcont_some, dcont_none, AOp.vals, rd_tmp, rd_const, rd_func, get_cons, mapList, mapOpt, Option.bind_some, Option.map_some, Nat.reduceEqDiff, if_true, if_false, reduceIte, reduceCtorEq, wv_mov, wv_pick, wv_alloc, wv_box, wv_build, wv_load, wv_loadn, wv_store, wv_nilCheck, wv_bin, wv_eq, wv_un, wv_convInt, wv_convSame, wv_fieldAddr, wv_field, wv_fieldn, wv_extract, wv_lenSlice, wv_lenString, wv_mkMap, wv_call, callee_func, wv_indexAddr, wv_lookup, wv_mapUpdate, wv_mapEntry, wv_entryStore, wv_delete, wv_append, wv_slice, wv_mkSlice, wv_buildSlice, wv_index, wv_copy, wv_lenMap, Abs.cellAt, Abs.rowAt, Abs.storeAt, Heap.get_put, List.getElem?_cons_zero, List.getElem?_cons_succ, Nat.zero_add, Nat.reduceAdd, idx, and_self, Int.toNat_natCast, cellsAt, ne_eq, not_true_eq_false, not_false_eq_true, cellList, Value.cells, List.length_cons, List.length_nil, List.all_cons, List.all_nil, isCell, Bool.and_self, storeL, List.set_cons_zero, List.set_cons_succ, footOf, true_and, and_true, Nat.reduceLeDiff, Nat.le_refl, Nat.reduceMul, Nat.reduceLT, List.nil_append, List.cons_append, List.length_set, ends_normal, ends_ret, endK_apply, resV_tmp, tupleV, eqV, Bool.not_true, Bool.not_false, BEq.rfl, Bool.true_beq, Bool.false_beq, beq_true, beq_false, Nat.sub_self, List.range'_zero, decide_true, decide_false, List.not_mem_nil, false_implies, implies_true, Bool.true_and, Bool.and_true, drawn, pairOk, disj, quietAt, Bool.bne_false, Bool.bne_true, Bool.false_eq_true, applyUpd, Int.reduceEq, Int.reduceNeg, bin_add, bin_sub, bin_mul, bin_lss, bin_leq, bin_gtr, bin_geq, bin_eql, bin_neq, un_not, wv_cap, wv_appendMake, wv_clear, wv_toString, wv_toBytes, wv_sameB, wv_mkIface, wv_minmax, b5]
    exact hg

end
end Go.Proofs.Ytaigiehdnhehnaa
