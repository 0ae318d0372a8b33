/-
  FrameCuts: what the law does with its records.
-/
import Derived.Test.YtaigiehdnhehnaaR1CutsP
import Derived.Test.YtaigiehdnhehnaaR1Scan
import Derived.Test.YtaigiehdnhehnaaR1Snd
set_option maxRecDepth 100000
set_option linter.unusedVariables false
set_option linter.unusedSimpArgs false
namespace Go.Proofs.Ytaigiehdnhehnaa
open Go Go.Abs

def ct_0 : ACode := match code10 with | .seq x _ => x | _ => .skip
def ct_1 : ACode := match code10 with | .seq _ (.seq x _) => x | _ => .skip
def ct_2 : ACode := match code10 with | .seq _ (.seq _ (.seq x _)) => x | _ => .skip
def ct_3 : ACode := match code10 with | .seq _ (.seq _ (.seq _ (.seq x _))) => x | _ => .skip
def ct_4 : ACode := match code10 with | .seq _ (.seq _ (.seq _ (.seq _ (.seq x _)))) => x | _ => .skip
def ct_5 : ACode := match code10 with | .seq _ (.seq _ (.seq _ (.seq _ (.seq _ (.seq x _))))) => x | _ => .skip
def ct_6 : ACode := match code10 with | .seq _ (.seq _ (.seq _ (.seq _ (.seq _ (.seq _ (.seq x _)))))) => x | _ => .skip
def ct_7 : ACode := match code10 with | .seq _ (.seq _ (.seq _ (.seq _ (.seq _ (.seq _ (.seq _ (.seq x _))))))) => x | _ => .skip
def ct_8 : ACode := match code10 with | .seq _ (.seq _ (.seq _ (.seq _ (.seq _ (.seq _ (.seq _ (.seq _ (.seq x _)))))))) => x | _ => .skip
def ct_9 : ACode := match code10 with | .seq _ (.seq _ (.seq _ (.seq _ (.seq _ (.seq _ (.seq _ (.seq _ (.seq _ (.seq (.seq x _) _))))))))) => x | _ => .skip
def ct_9t : ACode := match code10 with | .seq _ (.seq _ (.seq _ (.seq _ (.seq _ (.seq _ (.seq _ (.seq _ (.seq _ (.seq (.seq _ (.cond _ x _)) _))))))))) => x | _ => .skip
def ct_10 : ACode := match code10 with | .seq _ (.seq _ (.seq _ (.seq _ (.seq _ (.seq _ (.seq _ (.seq _ (.seq _ (.seq _ (.seq x _)))))))))) => x | _ => .skip
def ct_11 : ACode := match code10 with | .seq _ (.seq _ (.seq _ (.seq _ (.seq _ (.seq _ (.seq _ (.seq _ (.seq _ (.seq _ (.seq _ x)))))))))) => x | _ => .skip
def q_i : ACode := match ct_4 with | .seq x _ => x | _ => .skip
def q_h : ACode := match ct_4 with | .seq _ (.block _ (.loop _ (.seq (.seq x _) _))) => x | _ => .skip
def q_a : ACode := match ct_4 with | .seq _ (.block _ (.loop _ (.seq _ (.seq (.block _ (.seq (.seq x _) _)) _)))) => x | _ => .skip
def q_b : ACode := match ct_4 with | .seq _ (.block _ (.loop _ (.seq _ (.seq (.block _ (.seq _ (.seq x _))) _)))) => x | _ => .skip
def q_c : ACode := match ct_4 with | .seq _ (.block _ (.loop _ (.seq _ (.seq (.block _ (.seq _ (.seq _ (.seq (.seq x _) _)))) _)))) => x | _ => .skip
def q_d : ACode := match ct_4 with | .seq _ (.block _ (.loop _ (.seq _ (.seq (.block _ (.seq _ (.seq _ (.seq _ (.seq x _))))) _)))) => x | _ => .skip
def q_e : ACode := match ct_4 with | .seq _ (.block _ (.loop _ (.seq _ (.seq (.block _ (.seq _ (.seq _ (.seq _ (.seq _ (.seq x _)))))) _)))) => x | _ => .skip
def q_f : ACode := match ct_4 with | .seq _ (.block _ (.loop _ (.seq _ (.seq (.block _ (.seq _ (.seq _ (.seq _ (.seq _ (.seq _ x)))))) _)))) => x | _ => .skip
def q_n : ACode := match ct_4 with | .seq _ (.block _ (.loop _ (.seq _ (.seq _ x)))) => x | _ => .skip
def w_h : ACode := match ct_8 with | .block _ (.loop _ (.seq (.seq x _) _)) => x | _ => .skip
def w_b : ACode := match ct_8 with | .block _ (.loop _ (.seq _ (.block _ x))) => x | _ => .skip
def c_i : ACode := match ct_10 with | .seq x _ => x | _ => .skip
def c_h : ACode := match ct_10 with | .seq _ (.block _ (.loop _ (.seq (.seq x _) _))) => x | _ => .skip
def c_b : ACode := match ct_10 with | .seq _ (.block _ (.loop _ (.seq _ (.seq (.block _ (.seq x _)) _)))) => x | _ => .skip
def c_t : ACode := match ct_10 with | .seq _ (.block _ (.loop _ (.seq _ (.seq (.block _ (.seq _ (.cond _ x _))) _)))) => x | _ => .skip
def c_n : ACode := match ct_10 with | .seq _ (.block _ (.loop _ (.seq _ (.seq _ x)))) => x | _ => .skip
theorem code10_eq : code10 = .seq ct_0 (.seq ct_1 (.seq ct_2 (.seq ct_3 (.seq ct_4 (.seq ct_5 (.seq ct_6 (.seq ct_7 (.seq ct_8 (.seq (.seq ct_9 (.cond (.tmp 121) ct_9t .skip)) (.seq ct_10 ct_11)))))))))) := rfl
theorem ct_4_eq : ct_4 = .seq q_i (.block 0 (.loop [0, 1, 5, 6, 7, 8] (.seq (.seq q_h (.cond (.tmp 26) .skip (.exit 0))) (.seq (.block 1 (.seq (.seq q_a (.cond (.tmp 44) (.exit 1) .skip)) (.seq q_b (.seq (.seq q_c (.cond (.tmp 54) (.exit 1) .skip)) (.seq q_d (.seq q_e q_f)))))) q_n)))) := rfl
theorem ct_8_eq : ct_8 = .block 2 (.loop [6, 7, 11, 12, 13, 14] (.seq (.seq w_h (.cond (.tmp 94) .skip (.exit 2))) (.block 3 w_b))) := rfl
theorem ct_10_eq : ct_10 = .seq c_i (.block 4 (.loop [7, 12, 14, 15] (.seq (.seq c_h (.cond (.tmp 124) .skip (.exit 4))) (.seq (.block 5 (.seq c_b (.cond (.tmp 135) c_t .skip))) c_n)))) := rfl

abbrev rG (L : List FRec) (i : Nat) : FRec := L.getD i ⟨0, 0, .empty, .empty, 0, 0⟩

/-- A row of records as it is read. -/
def RecsV (s : St) (v : Value) (L : List FRec) : Prop :=
  (v = .slice none 0 0 ∧ L = []) ∨ ∃ id o cap c T ro, v = .slice (some ⟨id, o, none⟩) L.length cap ∧ id < s.next ∧ s.heap.get id = some (.cells c T 6 ro) ∧ o + L.length * 6 ≤ c.length ∧ ∀ i, i < L.length → (c.drop (o + i * 6)).take 6 = (rG L i).cells

section
variable {tbl : FuncId → Option AFun} {ov : CallSem} {s s1 sB : St} {e : Env} {v w y b a0 : Value} {zs : List Int} {L G : List FRec} {S : List Nat} {p q i n k : Nat}

theorem RecsV.len (h : RecsV s v L) : ∃ a c, v = .slice a L.length c := by
  rcases h with ⟨rfl, rfl⟩ | ⟨id, o, cap, c, T, ro, rfl, _⟩
  · exact ⟨_, _, rfl⟩
  · exact ⟨_, _, rfl⟩

theorem RecsV.kept {s' : St} (h : RecsV s v L) (hk : Kept [] s s') : RecsV s' v L := by
  rcases h with h | ⟨id, o, cap, c, T, ro, rfl, h1, h2, h3, h4⟩
  · exact .inl h
  · exact .inr ⟨id, o, cap, c, T, ro, rfl, Nat.lt_of_lt_of_le h1 hk.1, by rw [hk.2 id h1 (by simp)]; exact h2, h3, h4⟩

theorem rows_one {c : List Value} : ∀ {L : List FRec} {o : Nat}, (c.drop o).take (L.length * 6) = (L.map FRec.cells).flatten → o + L.length * 6 ≤ c.length → ∀ {i : Nat}, i < L.length → (c.drop (o + i * 6)).take 6 = (rG L i).cells := by
  intro L
  induction L with
  | nil => intro o _ _ i hi; simp at hi
  | cons r L ih =>
    intro o h hl i hi
    simp only [List.length_cons, List.map_cons, List.flatten_cons] at h hl hi
    have h6 : (c.drop o).take 6 = r.cells := by
      have := congrArg (fun l => l.take 6) h
      simp only [List.take_take] at this
      rw [show min 6 ((L.length + 1) * 6) = 6 by omega, List.take_append_of_le_length (by rw [rec_len]; omega)] at this
      exact this
    cases i with
    | zero => simpa using h6
    | succ i =>
      have h2 : (c.drop (o + 6)).take (L.length * 6) = (L.map FRec.cells).flatten := by
        have := congrArg (fun l => l.drop 6) h
        rw [List.drop_append_of_le_length (by rw [rec_len]; omega), List.drop_of_length_le (l := r.cells) (by rw [rec_len]; omega), List.nil_append, List.drop_take, List.drop_drop] at this
        rw [show (L.length + 1) * 6 - 6 = L.length * 6 by omega] at this
        exact this
      have := ih h2 (by omega) (i := i) (by omega)
      rw [show o + (i + 1) * 6 = o + 6 + i * 6 by omega]
      simpa using this

theorem RowsO.recs (ho : RowsO 50 6 s v (L.map FRec.cells) S) : RecsV s v L := by
  obtain ⟨_, ⟨rfl, h, _⟩ | ⟨id, o, cap, c, rfl, rfl, h1, h2, h3, h4, h5⟩⟩ := ho
  · rw [List.map_eq_nil_iff] at h; subst h; exact .inl ⟨rfl, rfl⟩
  rw [List.length_map] at h1 h5 ⊢
  have hle : L.length * 6 ≤ cap * 6 := Nat.mul_le_mul_right _ h1
  exact .inr ⟨id, o, cap, c, 50, false, rfl, h2, h3, by omega, fun i hi => rows_one h5 (by omega) hi⟩

/-- What stands at a place. -/
theorem RecsV.at (h : RecsV s v L) (hi : i < L.length) : ∃ id o cap c T ro, v = .slice (some ⟨id, o, none⟩) L.length cap ∧ s.heap.get id = some (.cells c T 6 ro) ∧ o + i * 6 + 6 ≤ c.length ∧ (c.drop (o + i * 6)).take 6 = (rG L i).cells ∧
    c[o + i * 6 + 1 + 1]? = some (.string (rG L i).host) ∧ c[o + i * 6 + 1 + 2]? = some (.string (rG L i).path) := by
  rcases h with ⟨rfl, rfl⟩ | ⟨id, o, cap, c, T, ro, rfl, h1, h2, h3, h4⟩
  · simp at hi
  have hg := h4 i hi
  refine ⟨id, o, cap, c, T, ro, rfl, h2, by omega, hg, ?_, ?_⟩
  · have := congrArg (fun l => l[2]?) hg
    simp only [List.getElem?_take, List.getElem?_drop] at this
    rw [if_pos (by omega)] at this
    rw [show o + i * 6 + 1 + 1 = o + i * 6 + 2 by omega, this]; rfl
  · have := congrArg (fun l => l[3]?) hg
    simp only [List.getElem?_take, List.getElem?_drop] at this
    rw [if_pos (by omega)] at this
    rw [show o + i * 6 + 1 + 2 = o + i * 6 + 3 by omega, this]; rfl

/-- The law's three rows. -/
def Trio (sB s : St) (v5 v6 v7 : Value) (G : List FRec) : Prop :=
  ∃ S5 S6 S7, BytesO 5 s v5 (flatR G) S5 ∧ RowsO 3 1 s v6 ((endsL G).map fun n : Nat => [in64 (n : Int)]) S6 ∧ RowsO 50 6 s v7 (G.map FRec.cells) S7 ∧
    (∀ x ∈ S5, sB.next ≤ x) ∧ (∀ x ∈ S6, sB.next ≤ x) ∧ (∀ x ∈ S7, sB.next ≤ x) ∧ (∀ x ∈ S5, x ∉ S6) ∧ (∀ x ∈ S5, x ∉ S7) ∧ (∀ x ∈ S6, x ∉ S7) ∧ Kept [] sB s

theorem Trio.kept {s' : St} {v5 v6 v7 : Value} (h : Trio sB s v5 v6 v7 G) (hk : Kept [] s s') : Trio sB s' v5 v6 v7 G := by
  obtain ⟨S5, S6, S7, h5, h6, h7, a5, a6, a7, b1, b2, b3, hk0⟩ := h
  exact ⟨S5, S6, S7, h5.kept hk (fun _ _ => by simp), h6.kept hk (fun _ _ => by simp), h7.kept hk (fun _ _ => by simp), a5, a6, a7, b1, b2, b3, hk0.trans hk⟩

theorem q_h_gen (hv : RecsV s v L) (hi : i < 2 ^ 40) (g0 : e.get 0 = some v) (g8 : e.get 8 = some (in64 i)) :
    WCode (fun k => call tbl ov k) q_h e s fun x e' s' => x = .normal ∧ (∀ j, j < 9 → e'.get j = e.get j) ∧ e'.get 26 = some (.bool (decide (i < L.length) && decide (i < 10))) ∧ s' = s := by
  obtain ⟨a, c, rfl⟩ := hv.len
  have d1 : decide ((i : Int) < (L.length : Nat)) = decide (i < L.length) := by simp
  have d2 : decide ((i : Int) < 10) = decide (i < 10) := by
    have : ((i : Int) < 10) ↔ i < 10 := by omega
    simp only [this]
  cases h1 : decide (i < L.length) with
  | false =>
    rw [h1] at d1
    simp only [q_h, ct_4, code10, params, wc_skip, wc_region, wc_draw, wc_seq, wc_cond, wc_block, wc_exit, wc_ret, next_normal, next_exit, next_ret, inBlock_normal, inBlock_ret, inBlock_exit, sq_apply, nrm_apply, drawnK_apply, boolV_bool, ccond_true, ccond_false, wo_nil, wo_cons, wo_guard, wop, bindP_some, cont_some, cont_none, guardV_bool, guardV_undef, gcont_true, gcont_false, gcont_false', ret_apply, aggK_apply, putK_apply, resK_apply, boolK_apply, ccont_apply, wd_nil, wd_cons, dvals_apply, dcont_some, dcont_none, AOp.vals, rd_tmp, rd_const, rd_func, get_cons, mapList, mapOpt, Option.bind_some, Option.map_some, Nat.reduceEqDiff, if_true, if_false, reduceIte, reduceCtorEq, wv_mov, wv_pick, wv_alloc, wv_box, wv_build, wv_load, wv_loadn, wv_store, wv_nilCheck, wv_bin, wv_eq, wv_un, wv_convInt, wv_convSame, wv_fieldAddr, wv_field, wv_fieldn, wv_extract, wv_lenSlice, wv_lenString, wv_mkMap, wv_call, callee_func, wv_indexAddr, wv_lookup, wv_mapUpdate, wv_mapEntry, wv_entryStore, wv_delete, wv_append, wv_slice, wv_mkSlice, wv_buildSlice, wv_index, wv_copy, wv_lenMap, Abs.cellAt, Abs.rowAt, Abs.storeAt, Heap.get_put, List.getElem?_cons_zero, List.getElem?_cons_succ, Nat.zero_add, Nat.reduceAdd, idx, and_self, Int.toNat_natCast, cellsAt, ne_eq, not_true_eq_false, not_false_eq_true, cellList, Value.cells, List.length_cons, List.length_nil, List.all_cons, List.all_nil, isCell, Bool.and_self, storeL, List.set_cons_zero, List.set_cons_succ, footOf, true_and, and_true, Nat.reduceLeDiff, Nat.le_refl, Nat.reduceMul, Nat.reduceLT, List.nil_append, List.cons_append, List.length_set, ends_normal, ends_ret, endK_apply, resV_tmp, tupleV, eqV, Bool.not_true, Bool.not_false, BEq.rfl, Bool.true_beq, Bool.false_beq, beq_true, beq_false, Nat.sub_self, List.range'_zero, decide_true, decide_false, List.not_mem_nil, false_implies, implies_true, Bool.true_and, Bool.and_true, drawn, pairOk, disj, quietAt, Bool.bne_false, Bool.bne_true, Bool.false_eq_true, applyUpd, Int.reduceEq, Int.reduceNeg, bin_add, bin_sub, bin_mul, bin_lss, bin_leq, bin_gtr, bin_geq, bin_eql, bin_neq, un_not, wv_cap, wv_appendMake, wv_clear, wv_toString, wv_toBytes, wv_sameB, wv_mkIface, wv_minmax, g0, g8, d1, Bool.false_and]
    intro j hj
    simp (disch := omega) only [get_cons, if_neg]
  | true =>
    rw [h1] at d1
    simp only [q_h, ct_4, code10, params, wc_skip, wc_region, wc_draw, wc_seq, wc_cond, wc_block, wc_exit, wc_ret, next_normal, next_exit, next_ret, inBlock_normal, inBlock_ret, inBlock_exit, sq_apply, nrm_apply, drawnK_apply, boolV_bool, ccond_true, ccond_false, wo_nil, wo_cons, wo_guard, wop, bindP_some, cont_some, cont_none, guardV_bool, guardV_undef, gcont_true, gcont_false, gcont_false', ret_apply, aggK_apply, putK_apply, resK_apply, boolK_apply, ccont_apply, wd_nil, wd_cons, dvals_apply, dcont_some, dcont_none, AOp.vals, rd_tmp, rd_const, rd_func, get_cons, mapList, mapOpt, Option.bind_some, Option.map_some, Nat.reduceEqDiff, if_true, if_false, reduceIte, reduceCtorEq, wv_mov, wv_pick, wv_alloc, wv_box, wv_build, wv_load, wv_loadn, wv_store, wv_nilCheck, wv_bin, wv_eq, wv_un, wv_convInt, wv_convSame, wv_fieldAddr, wv_field, wv_fieldn, wv_extract, wv_lenSlice, wv_lenString, wv_mkMap, wv_call, callee_func, wv_indexAddr, wv_lookup, wv_mapUpdate, wv_mapEntry, wv_entryStore, wv_delete, wv_append, wv_slice, wv_mkSlice, wv_buildSlice, wv_index, wv_copy, wv_lenMap, Abs.cellAt, Abs.rowAt, Abs.storeAt, Heap.get_put, List.getElem?_cons_zero, List.getElem?_cons_succ, Nat.zero_add, Nat.reduceAdd, idx, and_self, Int.toNat_natCast, cellsAt, ne_eq, not_true_eq_false, not_false_eq_true, cellList, Value.cells, List.length_cons, List.length_nil, List.all_cons, List.all_nil, isCell, Bool.and_self, storeL, List.set_cons_zero, List.set_cons_succ, footOf, true_and, and_true, Nat.reduceLeDiff, Nat.le_refl, Nat.reduceMul, Nat.reduceLT, List.nil_append, List.cons_append, List.length_set, ends_normal, ends_ret, endK_apply, resV_tmp, tupleV, eqV, Bool.not_true, Bool.not_false, BEq.rfl, Bool.true_beq, Bool.false_beq, beq_true, beq_false, Nat.sub_self, List.range'_zero, decide_true, decide_false, List.not_mem_nil, false_implies, implies_true, Bool.true_and, Bool.and_true, drawn, pairOk, disj, quietAt, Bool.bne_false, Bool.bne_true, Bool.false_eq_true, applyUpd, Int.reduceEq, Int.reduceNeg, bin_add, bin_sub, bin_mul, bin_lss, bin_leq, bin_gtr, bin_geq, bin_eql, bin_neq, un_not, wv_cap, wv_appendMake, wv_clear, wv_toString, wv_toBytes, wv_sameB, wv_mkIface, wv_minmax, g0, g8, d1, d2, Bool.true_and]
    intro j hj
    simp (disch := omega) only [get_cons, if_neg]

theorem q_a_gen (hv : RecsV s v L) (hi : i < L.length) (g0 : e.get 0 = some v) (g8 : e.get 8 = some (in64 i)) :
    WCode (fun k => call tbl ov k) q_a e s fun x e' s' => x = .normal ∧ (∀ j, j < 9 → e'.get j = e.get j) ∧ (∃ b, e'.get 44 = some (.bool b)) ∧ s' = s := by
  obtain ⟨id, o, cap, c, T, ro, rfl, h3, hle, hrow, hh, hp⟩ := hv.at hi
  have d2 : (0 : Int) ≤ i := by omega
  have d3 : (i : Int) < (L.length : Nat) := by omega
  simp only [q_a, ct_4, code10, params, wc_skip, wc_region, wc_draw, wc_seq, wc_cond, wc_block, wc_exit, wc_ret, next_normal, next_exit, next_ret, inBlock_normal, inBlock_ret, inBlock_exit, sq_apply, nrm_apply, drawnK_apply, boolV_bool, ccond_true, ccond_false, wo_nil, wo_cons, wo_guard, wop, bindP_some, cont_some, cont_none, guardV_bool, guardV_undef, gcont_true, gcont_false, gcont_false', ret_apply, aggK_apply, putK_apply, resK_apply, boolK_apply, ccont_apply, wd_nil, wd_cons, dvals_apply, dcont_some, dcont_none, AOp.vals, rd_tmp, rd_const, rd_func, get_cons, mapList, mapOpt, Option.bind_some, Option.map_some, Nat.reduceEqDiff, if_true, if_false, reduceIte, reduceCtorEq, wv_mov, wv_pick, wv_alloc, wv_box, wv_build, wv_load, wv_loadn, wv_store, wv_nilCheck, wv_bin, wv_eq, wv_un, wv_convInt, wv_convSame, wv_fieldAddr, wv_field, wv_fieldn, wv_extract, wv_lenSlice, wv_lenString, wv_mkMap, wv_call, callee_func, wv_indexAddr, wv_lookup, wv_mapUpdate, wv_mapEntry, wv_entryStore, wv_delete, wv_append, wv_slice, wv_mkSlice, wv_buildSlice, wv_index, wv_copy, wv_lenMap, Abs.cellAt, Abs.rowAt, Abs.storeAt, Heap.get_put, List.getElem?_cons_zero, List.getElem?_cons_succ, Nat.zero_add, Nat.reduceAdd, idx, and_self, Int.toNat_natCast, cellsAt, ne_eq, not_true_eq_false, not_false_eq_true, cellList, Value.cells, List.length_cons, List.length_nil, List.all_cons, List.all_nil, isCell, Bool.and_self, storeL, List.set_cons_zero, List.set_cons_succ, footOf, true_and, and_true, Nat.reduceLeDiff, Nat.le_refl, Nat.reduceMul, Nat.reduceLT, List.nil_append, List.cons_append, List.length_set, ends_normal, ends_ret, endK_apply, resV_tmp, tupleV, eqV, Bool.not_true, Bool.not_false, BEq.rfl, Bool.true_beq, Bool.false_beq, beq_true, beq_false, Nat.sub_self, List.range'_zero, decide_true, decide_false, List.not_mem_nil, false_implies, implies_true, Bool.true_and, Bool.and_true, drawn, pairOk, disj, quietAt, Bool.bne_false, Bool.bne_true, Bool.false_eq_true, applyUpd, Int.reduceEq, Int.reduceNeg, bin_add, bin_sub, bin_mul, bin_lss, bin_leq, bin_gtr, bin_geq, bin_eql, bin_neq, un_not, wv_cap, wv_appendMake, wv_clear, wv_toString, wv_toBytes, wv_sameB, wv_mkIface, wv_minmax, g0, g8, d2, d3, h3, hh, hp]
  refine ⟨fun j hj => ?_, _, rfl⟩
  simp (disch := omega) only [get_cons, if_neg]

theorem q_b_gen (T : FrameTbl tbl) (hv : RecsV s v L) (hi : i < L.length) (hw : (rG L i).Wide) (g0 : e.get 0 = some v) (g8 : e.get 8 = some (in64 i)) :
    WCode (fun k => call tbl ov k) q_b e s fun x e' s' => x = .normal ∧ (∀ j, j < 9 → e'.get j = e.get j) ∧ Kept [] s s' ∧ ((rG L i).sound = false → e'.get 10 = some (in64 2)) ∧
      ((rG L i).sound = true → e'.get 10 = some (in64 0) ∧ ∃ w, e'.get 9 = some w ∧ BytesV s' w (recL (rG L i))) := by
  obtain ⟨id, o, cap, c, T', ro, rfl, h3, hle, hrow, hh, hp⟩ := hv.at hi
  have d2 : (0 : Int) ≤ i := by omega
  have d3 : (i : Int) < (L.length : Nat) := by omega
  simp only [q_b, ct_4, code10, params, wc_skip, wc_region, wc_draw, wc_seq, wc_cond, wc_block, wc_exit, wc_ret, next_normal, next_exit, next_ret, inBlock_normal, inBlock_ret, inBlock_exit, sq_apply, nrm_apply, drawnK_apply, boolV_bool, ccond_true, ccond_false, wo_nil, wo_cons, wo_guard, wop, bindP_some, cont_some, cont_none, guardV_bool, guardV_undef, gcont_true, gcont_false, gcont_false', ret_apply, aggK_apply, putK_apply, resK_apply, boolK_apply, ccont_apply, wd_nil, wd_cons, dvals_apply, dcont_some, dcont_none, AOp.vals, rd_tmp, rd_const, rd_func, get_cons, mapList, mapOpt, Option.bind_some, Option.map_some, Nat.reduceEqDiff, if_true, if_false, reduceIte, reduceCtorEq, wv_mov, wv_pick, wv_alloc, wv_box, wv_build, wv_load, wv_loadn, wv_store, wv_nilCheck, wv_bin, wv_eq, wv_un, wv_convInt, wv_convSame, wv_fieldAddr, wv_field, wv_fieldn, wv_extract, wv_lenSlice, wv_lenString, wv_mkMap, wv_call, callee_func, wv_indexAddr, wv_lookup, wv_mapUpdate, wv_mapEntry, wv_entryStore, wv_delete, wv_append, wv_slice, wv_mkSlice, wv_buildSlice, wv_index, wv_copy, wv_lenMap, Abs.cellAt, Abs.rowAt, Abs.storeAt, Heap.get_put, List.getElem?_cons_zero, List.getElem?_cons_succ, Nat.zero_add, Nat.reduceAdd, idx, and_self, Int.toNat_natCast, cellsAt, ne_eq, not_true_eq_false, not_false_eq_true, cellList, Value.cells, List.length_cons, List.length_nil, List.all_cons, List.all_nil, isCell, Bool.and_self, storeL, List.set_cons_zero, List.set_cons_succ, footOf, true_and, and_true, Nat.reduceLeDiff, Nat.le_refl, Nat.reduceMul, Nat.reduceLT, List.nil_append, List.cons_append, List.length_set, ends_normal, ends_ret, endK_apply, resV_tmp, tupleV, eqV, Bool.not_true, Bool.not_false, BEq.rfl, Bool.true_beq, Bool.false_beq, beq_true, beq_false, Nat.sub_self, List.range'_zero, decide_true, decide_false, List.not_mem_nil, false_implies, implies_true, Bool.true_and, Bool.and_true, drawn, pairOk, disj, quietAt, Bool.bne_false, Bool.bne_true, Bool.false_eq_true, applyUpd, Int.reduceEq, Int.reduceNeg, bin_add, bin_sub, bin_mul, bin_lss, bin_leq, bin_gtr, bin_geq, bin_eql, bin_neq, un_not, wv_cap, wv_appendMake, wv_clear, wv_toString, wv_toBytes, wv_sameB, wv_mkIface, wv_minmax, g0, g8, d2, d3, h3, hrow, hle]
  refine WCall.mono (encode_spec T hw) ?_
  rintro u s1 ⟨hk, hf, ht⟩
  cases hs : (rG L i).sound with
  | false =>
    obtain rfl := hf hs
    simp only [params, wc_skip, wc_region, wc_draw, wc_seq, wc_cond, wc_block, wc_exit, wc_ret, next_normal, next_exit, next_ret, inBlock_normal, inBlock_ret, inBlock_exit, sq_apply, nrm_apply, drawnK_apply, boolV_bool, ccond_true, ccond_false, wo_nil, wo_cons, wo_guard, wop, bindP_some, cont_some, cont_none, guardV_bool, guardV_undef, gcont_true, gcont_false, gcont_false', ret_apply, aggK_apply, putK_apply, resK_apply, boolK_apply, ccont_apply, wd_nil, wd_cons, dvals_apply, dcont_some, dcont_none, AOp.vals, rd_tmp, rd_const, rd_func, get_cons, mapList, mapOpt, Option.bind_some, Option.map_some, Nat.reduceEqDiff, if_true, if_false, reduceIte, reduceCtorEq, wv_mov, wv_pick, wv_alloc, wv_box, wv_build, wv_load, wv_loadn, wv_store, wv_nilCheck, wv_bin, wv_eq, wv_un, wv_convInt, wv_convSame, wv_fieldAddr, wv_field, wv_fieldn, wv_extract, wv_lenSlice, wv_lenString, wv_mkMap, wv_call, callee_func, wv_indexAddr, wv_lookup, wv_mapUpdate, wv_mapEntry, wv_entryStore, wv_delete, wv_append, wv_slice, wv_mkSlice, wv_buildSlice, wv_index, wv_copy, wv_lenMap, Abs.cellAt, Abs.rowAt, Abs.storeAt, Heap.get_put, List.getElem?_cons_zero, List.getElem?_cons_succ, Nat.zero_add, Nat.reduceAdd, idx, and_self, Int.toNat_natCast, cellsAt, ne_eq, not_true_eq_false, not_false_eq_true, cellList, Value.cells, List.length_cons, List.length_nil, List.all_cons, List.all_nil, isCell, Bool.and_self, storeL, List.set_cons_zero, List.set_cons_succ, footOf, true_and, and_true, Nat.reduceLeDiff, Nat.le_refl, Nat.reduceMul, Nat.reduceLT, List.nil_append, List.cons_append, List.length_set, ends_normal, ends_ret, endK_apply, resV_tmp, tupleV, eqV, Bool.not_true, Bool.not_false, BEq.rfl, Bool.true_beq, Bool.false_beq, beq_true, beq_false, Nat.sub_self, List.range'_zero, decide_true, decide_false, List.not_mem_nil, false_implies, implies_true, Bool.true_and, Bool.and_true, drawn, pairOk, disj, quietAt, Bool.bne_false, Bool.bne_true, Bool.false_eq_true, applyUpd, Int.reduceEq, Int.reduceNeg, bin_add, bin_sub, bin_mul, bin_lss, bin_leq, bin_gtr, bin_geq, bin_eql, bin_neq, un_not, wv_cap, wv_appendMake, wv_clear, wv_toString, wv_toBytes, wv_sameB, wv_mkIface, wv_minmax]
    refine ⟨fun j hj => ?_, hk⟩
    simp (disch := omega) only [get_cons, if_neg]
  | true =>
    obtain ⟨w, rfl, hb, _⟩ := ht hs
    simp only [params, wc_skip, wc_region, wc_draw, wc_seq, wc_cond, wc_block, wc_exit, wc_ret, next_normal, next_exit, next_ret, inBlock_normal, inBlock_ret, inBlock_exit, sq_apply, nrm_apply, drawnK_apply, boolV_bool, ccond_true, ccond_false, wo_nil, wo_cons, wo_guard, wop, bindP_some, cont_some, cont_none, guardV_bool, guardV_undef, gcont_true, gcont_false, gcont_false', ret_apply, aggK_apply, putK_apply, resK_apply, boolK_apply, ccont_apply, wd_nil, wd_cons, dvals_apply, dcont_some, dcont_none, AOp.vals, rd_tmp, rd_const, rd_func, get_cons, mapList, mapOpt, Option.bind_some, Option.map_some, Nat.reduceEqDiff, if_true, if_false, reduceIte, reduceCtorEq, wv_mov, wv_pick, wv_alloc, wv_box, wv_build, wv_load, wv_loadn, wv_store, wv_nilCheck, wv_bin, wv_eq, wv_un, wv_convInt, wv_convSame, wv_fieldAddr, wv_field, wv_fieldn, wv_extract, wv_lenSlice, wv_lenString, wv_mkMap, wv_call, callee_func, wv_indexAddr, wv_lookup, wv_mapUpdate, wv_mapEntry, wv_entryStore, wv_delete, wv_append, wv_slice, wv_mkSlice, wv_buildSlice, wv_index, wv_copy, wv_lenMap, Abs.cellAt, Abs.rowAt, Abs.storeAt, Heap.get_put, List.getElem?_cons_zero, List.getElem?_cons_succ, Nat.zero_add, Nat.reduceAdd, idx, and_self, Int.toNat_natCast, cellsAt, ne_eq, not_true_eq_false, not_false_eq_true, cellList, Value.cells, List.length_cons, List.length_nil, List.all_cons, List.all_nil, isCell, Bool.and_self, storeL, List.set_cons_zero, List.set_cons_succ, footOf, true_and, and_true, Nat.reduceLeDiff, Nat.le_refl, Nat.reduceMul, Nat.reduceLT, List.nil_append, List.cons_append, List.length_set, ends_normal, ends_ret, endK_apply, resV_tmp, tupleV, eqV, Bool.not_true, Bool.not_false, BEq.rfl, Bool.true_beq, Bool.false_beq, beq_true, beq_false, Nat.sub_self, List.range'_zero, decide_true, decide_false, List.not_mem_nil, false_implies, implies_true, Bool.true_and, Bool.and_true, drawn, pairOk, disj, quietAt, Bool.bne_false, Bool.bne_true, Bool.false_eq_true, applyUpd, Int.reduceEq, Int.reduceNeg, bin_add, bin_sub, bin_mul, bin_lss, bin_leq, bin_gtr, bin_geq, bin_eql, bin_neq, un_not, wv_cap, wv_appendMake, wv_clear, wv_toString, wv_toBytes, wv_sameB, wv_mkIface, wv_minmax]
    refine ⟨fun j hj => ?_, hk, fun _ => ⟨_, rfl, hb⟩⟩
    simp (disch := omega) only [get_cons, if_neg]

theorem q_c_gen {n : Int} (g10 : e.get 10 = some (in64 n)) :
    WCode (fun k => call tbl ov k) q_c e s fun x e' s' => x = .normal ∧ (∀ j, j < 11 → e'.get j = e.get j) ∧ e'.get 54 = some (.bool (n != 0)) ∧ s' = s := by
  simp only [q_c, ct_4, code10, params, wc_skip, wc_region, wc_draw, wc_seq, wc_cond, wc_block, wc_exit, wc_ret, next_normal, next_exit, next_ret, inBlock_normal, inBlock_ret, inBlock_exit, sq_apply, nrm_apply, drawnK_apply, boolV_bool, ccond_true, ccond_false, wo_nil, wo_cons, wo_guard, wop, bindP_some, cont_some, cont_none, guardV_bool, guardV_undef, gcont_true, gcont_false, gcont_false', ret_apply, aggK_apply, putK_apply, resK_apply, boolK_apply, ccont_apply, wd_nil, wd_cons, dvals_apply, dcont_some, dcont_none, AOp.vals, rd_tmp, rd_const, rd_func, get_cons, mapList, mapOpt, Option.bind_some, Option.map_some, Nat.reduceEqDiff, if_true, if_false, reduceIte, reduceCtorEq, wv_mov, wv_pick, wv_alloc, wv_box, wv_build, wv_load, wv_loadn, wv_store, wv_nilCheck, wv_bin, wv_eq, wv_un, wv_convInt, wv_convSame, wv_fieldAddr, wv_field, wv_fieldn, wv_extract, wv_lenSlice, wv_lenString, wv_mkMap, wv_call, callee_func, wv_indexAddr, wv_lookup, wv_mapUpdate, wv_mapEntry, wv_entryStore, wv_delete, wv_append, wv_slice, wv_mkSlice, wv_buildSlice, wv_index, wv_copy, wv_lenMap, Abs.cellAt, Abs.rowAt, Abs.storeAt, Heap.get_put, List.getElem?_cons_zero, List.getElem?_cons_succ, Nat.zero_add, Nat.reduceAdd, idx, and_self, Int.toNat_natCast, cellsAt, ne_eq, not_true_eq_false, not_false_eq_true, cellList, Value.cells, List.length_cons, List.length_nil, List.all_cons, List.all_nil, isCell, Bool.and_self, storeL, List.set_cons_zero, List.set_cons_succ, footOf, true_and, and_true, Nat.reduceLeDiff, Nat.le_refl, Nat.reduceMul, Nat.reduceLT, List.nil_append, List.cons_append, List.length_set, ends_normal, ends_ret, endK_apply, resV_tmp, tupleV, eqV, Bool.not_true, Bool.not_false, BEq.rfl, Bool.true_beq, Bool.false_beq, beq_true, beq_false, Nat.sub_self, List.range'_zero, decide_true, decide_false, List.not_mem_nil, false_implies, implies_true, Bool.true_and, Bool.and_true, drawn, pairOk, disj, quietAt, Bool.bne_false, Bool.bne_true, Bool.false_eq_true, applyUpd, Int.reduceEq, Int.reduceNeg, bin_add, bin_sub, bin_mul, bin_lss, bin_leq, bin_gtr, bin_geq, bin_eql, bin_neq, un_not, wv_cap, wv_appendMake, wv_clear, wv_toString, wv_toBytes, wv_sameB, wv_mkIface, wv_minmax, g10]
  intro j hj
  simp (disch := omega) only [get_cons, if_neg]

theorem q_n_gen (hi : i < 2 ^ 60) (g8 : e.get 8 = some (in64 i)) : WCode (fun k => call tbl ov k) q_n e s fun x e' s' => x = .normal ∧ (∀ j, j < 8 → e'.get j = e.get j) ∧ e'.get 8 = some (in64 (i + 1 : Nat)) ∧ s' = s := by
  have w : IntKind.i64.wrap ((i : Int) + 1) = ((i + 1 : Nat) : Int) := by rw [wrap64 (by omega) (by omega)]; omega
  simp only [q_n, ct_4, code10, params, wc_skip, wc_region, wc_draw, wc_seq, wc_cond, wc_block, wc_exit, wc_ret, next_normal, next_exit, next_ret, inBlock_normal, inBlock_ret, inBlock_exit, sq_apply, nrm_apply, drawnK_apply, boolV_bool, ccond_true, ccond_false, wo_nil, wo_cons, wo_guard, wop, bindP_some, cont_some, cont_none, guardV_bool, guardV_undef, gcont_true, gcont_false, gcont_false', ret_apply, aggK_apply, putK_apply, resK_apply, boolK_apply, ccont_apply, wd_nil, wd_cons, dvals_apply, dcont_some, dcont_none, AOp.vals, rd_tmp, rd_const, rd_func, get_cons, mapList, mapOpt, Option.bind_some, Option.map_some, Nat.reduceEqDiff, if_true, if_false, reduceIte, reduceCtorEq, wv_mov, wv_pick, wv_alloc, wv_box, wv_build, wv_load, wv_loadn, wv_store, wv_nilCheck, wv_bin, wv_eq, wv_un, wv_convInt, wv_convSame, wv_fieldAddr, wv_field, wv_fieldn, wv_extract, wv_lenSlice, wv_lenString, wv_mkMap, wv_call, callee_func, wv_indexAddr, wv_lookup, wv_mapUpdate, wv_mapEntry, wv_entryStore, wv_delete, wv_append, wv_slice, wv_mkSlice, wv_buildSlice, wv_index, wv_copy, wv_lenMap, Abs.cellAt, Abs.rowAt, Abs.storeAt, Heap.get_put, List.getElem?_cons_zero, List.getElem?_cons_succ, Nat.zero_add, Nat.reduceAdd, idx, and_self, Int.toNat_natCast, cellsAt, ne_eq, not_true_eq_false, not_false_eq_true, cellList, Value.cells, List.length_cons, List.length_nil, List.all_cons, List.all_nil, isCell, Bool.and_self, storeL, List.set_cons_zero, List.set_cons_succ, footOf, true_and, and_true, Nat.reduceLeDiff, Nat.le_refl, Nat.reduceMul, Nat.reduceLT, List.nil_append, List.cons_append, List.length_set, ends_normal, ends_ret, endK_apply, resV_tmp, tupleV, eqV, Bool.not_true, Bool.not_false, BEq.rfl, Bool.true_beq, Bool.false_beq, beq_true, beq_false, Nat.sub_self, List.range'_zero, decide_true, decide_false, List.not_mem_nil, false_implies, implies_true, Bool.true_and, Bool.and_true, drawn, pairOk, disj, quietAt, Bool.bne_false, Bool.bne_true, Bool.false_eq_true, applyUpd, Int.reduceEq, Int.reduceNeg, bin_add, bin_sub, bin_mul, bin_lss, bin_leq, bin_gtr, bin_geq, bin_eql, bin_neq, un_not, wv_cap, wv_appendMake, wv_clear, wv_toString, wv_toBytes, wv_sameB, wv_mkIface, wv_minmax, g8, w]
  intro j hj
  simp (disch := omega) only [get_cons, if_neg]

theorem put_kept (s : St) (o : Option AObj) : Kept [] s ⟨s.heap.put s.next o, s.next + 1⟩ := ⟨Nat.le_succ _, fun id hid _ => by
  have : ¬ id = s.next := by omega
  simp only [Heap.get_put, this, if_false]⟩

theorem q_def_gen {v5 v6 v7 : Value} (hv : RecsV s v L) (hi : i < L.length) (ht : Trio sB s v5 v6 v7 G) (hG : G.length < 1000) (hz : (flatR (G ++ [rG L i])).length < 2 ^ 30) (hw : BytesV s w (recL (rG L i)))
    (g0 : e.get 0 = some v) (g5 : e.get 5 = some v5) (g6 : e.get 6 = some v6) (g7 : e.get 7 = some v7) (g8 : e.get 8 = some (in64 i)) (g9 : e.get 9 = some w) (hvB : RecsV sB v L) :
    WCode (fun k => call tbl ov k) (.seq q_d (.seq q_e q_f)) e s fun x e' s' => x = .normal ∧ e'.get 0 = e.get 0 ∧ e'.get 1 = e.get 1 ∧ e'.get 8 = e.get 8 ∧ ∃ u5 u6 u7, e'.get 5 = some u5 ∧ e'.get 6 = some u6 ∧ e'.get 7 = some u7 ∧ Trio sB s' u5 u6 u7 (G ++ [rG L i]) := by
  obtain ⟨S5, S6, S7, h5, h6, h7, a5, a6, a7, b1, b2, b3, hk0⟩ := ht
  have hfl : flatR (G ++ [rG L i]) = flatR G ++ recL (rG L i) := by rw [flatR_append]; simp [flatR]
  rw [hfl, List.length_append] at hz
  obtain ⟨res, S5', he, ho, hk, hS, hab⟩ := h5.append (.inl hw) (by omega)
  have hd : WCode (fun k => call tbl ov k) q_d e s fun x e' s' => x = .normal ∧ (∀ j, j < 9 → j ≠ 5 → e'.get j = e.get j) ∧ e'.get 5 = some res.val ∧ s' = ⟨applyUpd s.heap res.upd, res.next⟩ := by
    obtain ⟨rv, ru, rn⟩ := res
    simp only [q_d, ct_4, code10, params, wc_skip, wc_region, wc_draw, wc_seq, wc_cond, wc_block, wc_exit, wc_ret, next_normal, next_exit, next_ret, inBlock_normal, inBlock_ret, inBlock_exit, sq_apply, nrm_apply, drawnK_apply, boolV_bool, ccond_true, ccond_false, wo_nil, wo_cons, wo_guard, wop, bindP_some, cont_some, cont_none, guardV_bool, guardV_undef, gcont_true, gcont_false, gcont_false', ret_apply, aggK_apply, putK_apply, resK_apply, boolK_apply, ccont_apply, wd_nil, wd_cons, dvals_apply, dcont_some, dcont_none, AOp.vals, rd_tmp, rd_const, rd_func, get_cons, mapList, mapOpt, Option.bind_some, Option.map_some, Nat.reduceEqDiff, if_true, if_false, reduceIte, reduceCtorEq, wv_mov, wv_pick, wv_alloc, wv_box, wv_build, wv_load, wv_loadn, wv_store, wv_nilCheck, wv_bin, wv_eq, wv_un, wv_convInt, wv_convSame, wv_fieldAddr, wv_field, wv_fieldn, wv_extract, wv_lenSlice, wv_lenString, wv_mkMap, wv_call, callee_func, wv_indexAddr, wv_lookup, wv_mapUpdate, wv_mapEntry, wv_entryStore, wv_delete, wv_append, wv_slice, wv_mkSlice, wv_buildSlice, wv_index, wv_copy, wv_lenMap, Abs.cellAt, Abs.rowAt, Abs.storeAt, Heap.get_put, List.getElem?_cons_zero, List.getElem?_cons_succ, Nat.zero_add, Nat.reduceAdd, idx, and_self, Int.toNat_natCast, cellsAt, ne_eq, not_true_eq_false, not_false_eq_true, cellList, Value.cells, List.length_cons, List.length_nil, List.all_cons, List.all_nil, isCell, Bool.and_self, storeL, List.set_cons_zero, List.set_cons_succ, footOf, true_and, and_true, Nat.reduceLeDiff, Nat.le_refl, Nat.reduceMul, Nat.reduceLT, List.nil_append, List.cons_append, List.length_set, ends_normal, ends_ret, endK_apply, resV_tmp, tupleV, eqV, Bool.not_true, Bool.not_false, BEq.rfl, Bool.true_beq, Bool.false_beq, beq_true, beq_false, Nat.sub_self, List.range'_zero, decide_true, decide_false, List.not_mem_nil, false_implies, implies_true, Bool.true_and, Bool.and_true, drawn, pairOk, disj, quietAt, Bool.bne_false, Bool.bne_true, Bool.false_eq_true, applyUpd, Int.reduceEq, Int.reduceNeg, bin_add, bin_sub, bin_mul, bin_lss, bin_leq, bin_gtr, bin_geq, bin_eql, bin_neq, un_not, wv_cap, wv_appendMake, wv_clear, wv_toString, wv_toBytes, wv_sameB, wv_mkIface, wv_minmax, g5, g9, he]
    intro j hj h5
    simp (disch := omega) only [get_cons, if_neg]
  refine wc_then hd ?_
  rintro e1 s1 ⟨k1, c5, hs1⟩
  rw [← hs1] at ho hk
  have l6 := h6.lt
  have l7 := h7.lt
  have l5 := h5.toV
  have hS5 : ∀ x ∈ S5', sB.next ≤ x := fun x hx => by
    rcases hS x hx with h | h
    · exact a5 x h
    · have := hk0.1; omega
  have n56 : ∀ x ∈ S6, x ∉ S5 := fun x hx hx2 => b1 x hx2 hx
  have n57 : ∀ x ∈ S7, x ∉ S5 := fun x hx hx2 => b2 x hx2 hx
  have h6a := h6.kept hk n56
  have h7a := h7.kept hk n57
  have m56 : ∀ x ∈ S5', x ∉ S6 := fun x hx hx2 => by
    rcases hS x hx with h | h
    · exact b1 x h hx2
    · have := l6 x hx2; omega
  have m57 : ∀ x ∈ S5', x ∉ S7 := fun x hx hx2 => by
    rcases hS x hx with h | h
    · exact b2 x h hx2
    · have := l7 x hx2; omega
  have hk1 : Kept [] sB s1 := hk0.comp hk (fun x hx => .inr (a5 x hx))
  clear he hk hS hab h5 h6 h7 b1 b2 a5 hd
  -- the record
  obtain ⟨id, o, cap, c, T, ro, rfl, h3, hle, hrow, _, _⟩ := (hvB.kept hk1).at hi
  have d2 : (0 : Int) ≤ i := by omega
  have d3 : (i : Int) < (L.length : Nat) := by omega
  have hst : storeL [in64 0, in64 0, .string ⟨#[]⟩, .string ⟨#[]⟩, in64 0, in64 0] 0 (rG L i).cells = (rG L i).cells := rfl
  have hc6 : (rG L i).cells.length = 6 := rfl
  have hall : (rG L i).cells.all isCell = true := rfl
  have hp1 := put_kept s1 (some (.cells (rG L i).cells 50 6 false))
  have h7b := h7a.kept hp1 (fun _ _ => by simp)
  obtain ⟨val, upd, nx, S7', he, ho7, hk7, hS7⟩ := h7b.append1 (b := 64) (c1 := (rG L i).cells) (m := s1.next) (t' := 50) (sz' := 6) (ro := false) hc6 hall (by simp only [Heap.get_put, if_true]) (by simp [tooBig]; omega) (by simp [tooBig])
  have hde : WCode (fun k => call tbl ov k) q_e e1 s1 fun x e' s' => x = .normal ∧ (∀ j, j < 9 → j ≠ 7 → e'.get j = e1.get j) ∧ e'.get 7 = some val ∧ s' = ⟨applyUpd (s1.heap.put s1.next (some (.cells (rG L i).cells 50 6 false))) upd, nx⟩ := by
    have f0 := (k1 0 (by omega) (by omega)).trans g0
    have f7 := (k1 7 (by omega) (by omega)).trans g7
    have f8 := (k1 8 (by omega) (by omega)).trans g8
    simp only [q_e, ct_4, code10, params, wc_skip, wc_region, wc_draw, wc_seq, wc_cond, wc_block, wc_exit, wc_ret, next_normal, next_exit, next_ret, inBlock_normal, inBlock_ret, inBlock_exit, sq_apply, nrm_apply, drawnK_apply, boolV_bool, ccond_true, ccond_false, wo_nil, wo_cons, wo_guard, wop, bindP_some, cont_some, cont_none, guardV_bool, guardV_undef, gcont_true, gcont_false, gcont_false', ret_apply, aggK_apply, putK_apply, resK_apply, boolK_apply, ccont_apply, wd_nil, wd_cons, dvals_apply, dcont_some, dcont_none, AOp.vals, rd_tmp, rd_const, rd_func, get_cons, mapList, mapOpt, Option.bind_some, Option.map_some, Nat.reduceEqDiff, if_true, if_false, reduceIte, reduceCtorEq, wv_mov, wv_pick, wv_alloc, wv_box, wv_build, wv_load, wv_loadn, wv_store, wv_nilCheck, wv_bin, wv_eq, wv_un, wv_convInt, wv_convSame, wv_fieldAddr, wv_field, wv_fieldn, wv_extract, wv_lenSlice, wv_lenString, wv_mkMap, wv_call, callee_func, wv_indexAddr, wv_lookup, wv_mapUpdate, wv_mapEntry, wv_entryStore, wv_delete, wv_append, wv_slice, wv_mkSlice, wv_buildSlice, wv_index, wv_copy, wv_lenMap, Abs.cellAt, Abs.rowAt, Abs.storeAt, Heap.get_put, List.getElem?_cons_zero, List.getElem?_cons_succ, Nat.zero_add, Nat.reduceAdd, idx, and_self, Int.toNat_natCast, cellsAt, ne_eq, not_true_eq_false, not_false_eq_true, cellList, Value.cells, List.length_cons, List.length_nil, List.all_cons, List.all_nil, isCell, Bool.and_self, storeL, List.set_cons_zero, List.set_cons_succ, footOf, true_and, and_true, Nat.reduceLeDiff, Nat.le_refl, Nat.reduceMul, Nat.reduceLT, List.nil_append, List.cons_append, List.length_set, ends_normal, ends_ret, endK_apply, resV_tmp, tupleV, eqV, Bool.not_true, Bool.not_false, BEq.rfl, Bool.true_beq, Bool.false_beq, beq_true, beq_false, Nat.sub_self, List.range'_zero, decide_true, decide_false, List.not_mem_nil, false_implies, implies_true, Bool.true_and, Bool.and_true, drawn, pairOk, disj, quietAt, Bool.bne_false, Bool.bne_true, Bool.false_eq_true, applyUpd, Int.reduceEq, Int.reduceNeg, bin_add, bin_sub, bin_mul, bin_lss, bin_leq, bin_gtr, bin_geq, bin_eql, bin_neq, un_not, wv_cap, wv_appendMake, wv_clear, wv_toString, wv_toBytes, wv_sameB, wv_mkIface, wv_minmax, f0, f7, f8, d2, d3, h3, hrow, hle, hc6, hall, ev_buildSlice, fillL, mapParts, List.toList_toArray, hst, he]
    intro j hj h5
    simp (disch := omega) only [get_cons, if_neg]
  refine wc_then hde ?_
  rintro e2 s2 ⟨k2, c7, hs2⟩
  rw [← hs2] at ho7 hk7
  have nS7 : ∀ x ∈ S7', x ∈ S7 ∨ s1.next ≤ x := fun x hx => by
    rcases hS7 x hx with h | h
    · exact .inl h
    · exact .inr (Nat.le_of_succ_le h)
  have hk2 : Kept S7 s1 s2 := ⟨Nat.le_trans hp1.1 hk7.1, fun id hid hn => (hk7.2 id (Nat.lt_of_lt_of_le hid hp1.1) hn).trans (hp1.2 id hid (by simp))⟩
  have h5c := ho.kept hk2 m57
  have h6c := h6a.kept hk2 b3
  have l6c := h6a.lt
  have l5c := ho.lt
  have m57' : ∀ x ∈ S5', x ∉ S7' := fun x hx hx2 => by
    rcases nS7 x hx2 with h | h
    · exact m57 x hx h
    · have := l5c x hx; omega
  have m67' : ∀ x ∈ S6, x ∉ S7' := fun x hx hx2 => by
    rcases nS7 x hx2 with h | h
    · exact b3 x hx h
    · have := l6c x hx; omega
  have a7' : ∀ x ∈ S7', sB.next ≤ x := fun x hx => by
    rcases nS7 x hx with h | h
    · exact a7 x h
    · have := hk1.1; omega
  have hk3 : Kept [] sB s2 := hk1.comp hk2 (fun x hx => .inr (a7 x hx))
  -- where it ends
  obtain ⟨ad, cp, hl5⟩ := h5c.toV.len
  have hp3 := put_kept s2 (some (.cells [in64 ((flatR G ++ recL (rG L i)).length : Nat)] 3 1 false))
  have h6d := h6c.kept hp3 (fun _ _ => by simp)
  have hel : ((endsL G).map fun n : Nat => [in64 (n : Int)]).length = G.length := by rw [List.length_map, endsL_length]
  obtain ⟨val6, upd6, nx6, S6', he6, ho6, hk6, hS6⟩ := h6d.append1 (b := 8) (c1 := [in64 ((flatR G ++ recL (rG L i)).length : Nat)]) (m := s2.next) (t' := 3) (sz' := 1) (ro := false) rfl rfl (by simp only [Heap.get_put, if_true]) (by rw [hel]; simp [tooBig]; omega) (by simp [tooBig])
  have hdf : WCode (fun k => call tbl ov k) q_f e2 s2 fun x e' s' => x = .normal ∧ (∀ j, j < 9 → j ≠ 6 → e'.get j = e2.get j) ∧ e'.get 6 = some val6 ∧ s' = ⟨applyUpd (s2.heap.put s2.next (some (.cells [in64 ((flatR G ++ recL (rG L i)).length : Nat)] 3 1 false))) upd6, nx6⟩ := by
    have f5 := (k2 5 (by omega) (by omega)).trans c5
    have f6 := (k2 6 (by omega) (by omega)).trans ((k1 6 (by omega) (by omega)).trans g6)
    rw [hl5] at f5
    simp only [q_f, ct_4, code10, params, wc_skip, wc_region, wc_draw, wc_seq, wc_cond, wc_block, wc_exit, wc_ret, next_normal, next_exit, next_ret, inBlock_normal, inBlock_ret, inBlock_exit, sq_apply, nrm_apply, drawnK_apply, boolV_bool, ccond_true, ccond_false, wo_nil, wo_cons, wo_guard, wop, bindP_some, cont_some, cont_none, guardV_bool, guardV_undef, gcont_true, gcont_false, gcont_false', ret_apply, aggK_apply, putK_apply, resK_apply, boolK_apply, ccont_apply, wd_nil, wd_cons, dvals_apply, dcont_some, dcont_none, AOp.vals, rd_tmp, rd_const, rd_func, get_cons, mapList, mapOpt, Option.bind_some, Option.map_some, Nat.reduceEqDiff, if_true, if_false, reduceIte, reduceCtorEq, wv_mov, wv_pick, wv_alloc, wv_box, wv_build, wv_load, wv_loadn, wv_store, wv_nilCheck, wv_bin, wv_eq, wv_un, wv_convInt, wv_convSame, wv_fieldAddr, wv_field, wv_fieldn, wv_extract, wv_lenSlice, wv_lenString, wv_mkMap, wv_call, callee_func, wv_indexAddr, wv_lookup, wv_mapUpdate, wv_mapEntry, wv_entryStore, wv_delete, wv_append, wv_slice, wv_mkSlice, wv_buildSlice, wv_index, wv_copy, wv_lenMap, Abs.cellAt, Abs.rowAt, Abs.storeAt, Heap.get_put, List.getElem?_cons_zero, List.getElem?_cons_succ, Nat.zero_add, Nat.reduceAdd, idx, and_self, Int.toNat_natCast, cellsAt, ne_eq, not_true_eq_false, not_false_eq_true, cellList, Value.cells, List.length_cons, List.length_nil, List.all_cons, List.all_nil, isCell, Bool.and_self, storeL, List.set_cons_zero, List.set_cons_succ, footOf, true_and, and_true, Nat.reduceLeDiff, Nat.le_refl, Nat.reduceMul, Nat.reduceLT, List.nil_append, List.cons_append, List.length_set, ends_normal, ends_ret, endK_apply, resV_tmp, tupleV, eqV, Bool.not_true, Bool.not_false, BEq.rfl, Bool.true_beq, Bool.false_beq, beq_true, beq_false, Nat.sub_self, List.range'_zero, decide_true, decide_false, List.not_mem_nil, false_implies, implies_true, Bool.true_and, Bool.and_true, drawn, pairOk, disj, quietAt, Bool.bne_false, Bool.bne_true, Bool.false_eq_true, applyUpd, Int.reduceEq, Int.reduceNeg, bin_add, bin_sub, bin_mul, bin_lss, bin_leq, bin_gtr, bin_geq, bin_eql, bin_neq, un_not, wv_cap, wv_appendMake, wv_clear, wv_toString, wv_toBytes, wv_sameB, wv_mkIface, wv_minmax, f5, f6, ev_buildSlice, fillL, mapParts, he6]
    intro j hj h5
    simp (disch := omega) only [get_cons, if_neg]
  refine WCode.mono ?_ hdf
  rintro x e3 s3 ⟨rfl, k3, c6, hs3⟩
  rw [← hs3] at ho6 hk6
  have nS6 : ∀ x ∈ S6', x ∈ S6 ∨ s2.next ≤ x := fun x hx => by
    rcases hS6 x hx with h | h
    · exact .inl h
    · exact .inr (Nat.le_of_succ_le h)
  have hk4 : Kept S6 s2 s3 := ⟨Nat.le_trans hp3.1 hk6.1, fun id hid hn => (hk6.2 id (Nat.lt_of_lt_of_le hid hp3.1) hn).trans (hp3.2 id hid (by simp))⟩
  have l7 := ho7.lt
  have l5d := h5c.lt
  refine ⟨rfl, (k3 0 (by omega) (by omega)).trans ((k2 0 (by omega) (by omega)).trans (k1 0 (by omega) (by omega))), (k3 1 (by omega) (by omega)).trans ((k2 1 (by omega) (by omega)).trans (k1 1 (by omega) (by omega))), (k3 8 (by omega) (by omega)).trans ((k2 8 (by omega) (by omega)).trans (k1 8 (by omega) (by omega))), res.val, val6, val,
    (k3 5 (by omega) (by omega)).trans ((k2 5 (by omega) (by omega)).trans c5), c6, (k3 7 (by omega) (by omega)).trans c7, S5', S6', S7', ?_, ?_, ?_, hS5, ?_, a7', ?_, m57', ?_, ?_⟩
  · rw [hfl]; exact h5c.kept hk4 m56
  · rw [endsL_snoc, List.map_append, hfl]; exact ho6
  · rw [List.map_append]; exact ho7.kept hk4 (fun x hx hx2 => m67' x hx2 hx)
  · intro x hx
    rcases nS6 x hx with h | h
    · exact a6 x h
    · have := hk3.1; omega
  · intro x hx hx2
    rcases nS6 x hx2 with h | h
    · exact m56 x hx h
    · have := l5d x hx; omega
  · intro x hx hx2
    rcases nS6 x hx with h | h
    · exact m67' x h hx2
    · have := l7 x hx2; omega
  · exact hk3.comp hk4 (fun x hx => .inr (a6 x hx))

end
end Go.Proofs.Ytaigiehdnhehnaa
