/-
  FrameCuts: for every list of records and every cut the law comes to true.
-/
import Derived.Test.YtaigiehdnhehnaaR1Cuts
import Derived.Test.YtaigiehdnhehnaaR1Encs
set_option maxRecDepth 100000
set_option linter.unusedVariables false
set_option linter.unusedSimpArgs false
namespace Go.Proofs.Ytaigiehdnhehnaa
open Go Go.Abs

section
variable {tbl : FuncId → Option AFun} {ov : CallSem} {s s1 sB : St} {e : Env} {v w y a1 v5 v6 v7 : Value} {zs : List Int} {L G : List FRec} {S : List Nat} {p q i n k : Nat}

theorem ct_4_gen (T : FrameTbl tbl) (hv : RecsV sB v L) (hL : ∀ i, i < L.length → (rG L i).Wide) (ht : Trio sB s v5 v6 v7 []) (g0 : e.get 0 = some v) (g1 : e.get 1 = some a1) (g5 : e.get 5 = some v5) (g6 : e.get 6 = some v6) (g7 : e.get 7 = some v7) :
    WCode (fun k => call tbl ov k) ct_4 e s fun x e' s' => x = .normal ∧ e'.get 1 = some a1 ∧ ∃ G u5 u6 u7, (∀ r ∈ G, r.sound = true ∧ r.Wide) ∧ G.length ≤ 10 ∧ e'.get 5 = some u5 ∧ e'.get 6 = some u6 ∧ e'.get 7 = some u7 ∧ Trio sB s' u5 u6 u7 G := by
  rw [ct_4_eq]
  have hi0 : WCode (fun k => call tbl ov k) q_i e s fun x e' s' => x = .normal ∧ (∀ j, j < 8 → e'.get j = e.get j) ∧ e'.get 8 = some (in64 0) ∧ s' = s := by
    simp only [q_i, ct_4, code10, params, wc_skip, wc_region, wc_draw, wc_seq, wc_cond, wc_block, wc_exit, wc_ret, next_normal, next_exit, next_ret, inBlock_normal, inBlock_ret, inBlock_exit, sq_apply, nrm_apply, drawnK_apply, boolV_bool, ccond_true, ccond_false, wo_nil, wo_cons, wo_guard, wop, bindP_some, cont_some, cont_none, guardV_bool, guardV_undef, gcont_true, gcont_false, gcont_false', ret_apply, aggK_apply, putK_apply, resK_apply, boolK_apply, ccont_apply, wd_nil, wd_cons, dvals_apply, dcont_some, dcont_none, AOp.vals, rd_tmp, rd_const, rd_func, get_cons, mapList, mapOpt, Option.bind_some, Option.map_some, Nat.reduceEqDiff, if_true, if_false, reduceIte, reduceCtorEq, wv_mov, wv_pick, wv_alloc, wv_box, wv_build, wv_load, wv_loadn, wv_store, wv_nilCheck, wv_bin, wv_eq, wv_un, wv_convInt, wv_convSame, wv_fieldAddr, wv_field, wv_fieldn, wv_extract, wv_lenSlice, wv_lenString, wv_mkMap, wv_call, callee_func, wv_indexAddr, wv_lookup, wv_mapUpdate, wv_mapEntry, wv_entryStore, wv_delete, wv_append, wv_slice, wv_mkSlice, wv_buildSlice, wv_index, wv_copy, wv_lenMap, Abs.cellAt, Abs.rowAt, Abs.storeAt, Heap.get_put, List.getElem?_cons_zero, List.getElem?_cons_succ, Nat.zero_add, Nat.reduceAdd, idx, and_self, Int.toNat_natCast, cellsAt, ne_eq, not_true_eq_false, not_false_eq_true, cellList, Value.cells, List.length_cons, List.length_nil, List.all_cons, List.all_nil, isCell, Bool.and_self, storeL, List.set_cons_zero, List.set_cons_succ, footOf, true_and, and_true, Nat.reduceLeDiff, Nat.le_refl, Nat.reduceMul, Nat.reduceLT, List.nil_append, List.cons_append, List.length_set, ends_normal, ends_ret, endK_apply, resV_tmp, tupleV, eqV, Bool.not_true, Bool.not_false, BEq.rfl, Bool.true_beq, Bool.false_beq, beq_true, beq_false, Nat.sub_self, List.range'_zero, decide_true, decide_false, List.not_mem_nil, false_implies, implies_true, Bool.true_and, Bool.and_true, drawn, pairOk, disj, quietAt, Bool.bne_false, Bool.bne_true, Bool.false_eq_true, applyUpd, Int.reduceEq, Int.reduceNeg, bin_add, bin_sub, bin_mul, bin_lss, bin_leq, bin_gtr, bin_geq, bin_eql, bin_neq, un_not, wv_cap, wv_appendMake, wv_clear, wv_toString, wv_toBytes, wv_sameB, wv_mkIface, wv_minmax]
    intro j hj
    simp (disch := omega) only [get_cons, if_neg]
  refine wc_then hi0 ?_
  rintro e1 s1 ⟨k1, a8, rfl⟩
  refine wc_for (fun m e' s' => ∃ i G u5 u6 u7, m = 10 - i ∧ i ≤ 10 ∧ G.length ≤ i ∧ (∀ r ∈ G, r.sound = true ∧ r.Wide) ∧ e'.get 0 = some v ∧ e'.get 1 = some a1 ∧ e'.get 5 = some u5 ∧ e'.get 6 = some u6 ∧ e'.get 7 = some u7 ∧ e'.get 8 = some (in64 (i : Nat)) ∧ Trio sB s' u5 u6 u7 G) 10 ?_ ?_
  · exact ⟨0, [], v5, v6, v7, rfl, by omega, by simp, by simp, (k1 0 (by omega)).trans g0, (k1 1 (by omega)).trans g1, (k1 5 (by omega)).trans g5, (k1 6 (by omega)).trans g6, (k1 7 (by omega)).trans g7, a8, ht⟩
  · rintro m e2 s2 E ⟨i, G, u5, u6, u7, rfl, hi, hGl, hG, c0, c1, c5, c6, c7, c8, ht2⟩ hE
    have d0 := (hE 0 (by simp)).trans c0
    have d1 := (hE 1 (by simp)).trans c1
    have d5 := (hE 5 (by simp)).trans c5
    have d6 := (hE 6 (by simp)).trans c6
    have d7 := (hE 7 (by simp)).trans c7
    have d8 := (hE 8 (by simp)).trans c8
    have hkB : Kept [] sB s2 := by obtain ⟨_, _, _, _, _, _, _, _, _, _, _, _, h⟩ := ht2; exact h
    refine WCode.mono ?_ (q_h_gen (hv.kept hkB) (by omega) d0 d8)
    rintro z e3 s3 ⟨rfl, k3, a26, rfl⟩
    refine ⟨rfl, _, a26, fun hbb => ?_, fun hbb => ?_⟩
    · exact ⟨rfl, (k3 1 (by omega)).trans d1, G, u5, u6, u7, hG, by omega, (k3 5 (by omega)).trans d5, (k3 6 (by omega)).trans d6, (k3 7 (by omega)).trans d7, ht2⟩
    · simp only [Bool.and_eq_true, decide_eq_true_eq] at hbb
      obtain ⟨hb1, hb2⟩ := hbb
      have hend : ∀ (z : AExit) (e' : Env) s', (z = .normal ∨ z = .exit 1) → (∃ G u5 u6 u7, G.length ≤ i + 1 ∧ (∀ r ∈ G, r.sound = true ∧ r.Wide) ∧ e'.get 0 = some v ∧ e'.get 1 = some a1 ∧ e'.get 5 = some u5 ∧ e'.get 6 = some u6 ∧ e'.get 7 = some u7 ∧ e'.get 8 = some (in64 (i : Nat)) ∧ Trio sB s' u5 u6 u7 G) →
          bodyK 0 1 (fun x e' s' => x = .normal ∧ e'.get 1 = some a1 ∧ ∃ G u5 u6 u7, (∀ r ∈ G, r.sound = true ∧ r.Wide) ∧ G.length ≤ 10 ∧ e'.get 5 = some u5 ∧ e'.get 6 = some u6 ∧ e'.get 7 = some u7 ∧ Trio sB s' u5 u6 u7 G)
            (fun e2 s2 => WCode (fun k => call tbl ov k) q_n e2 s2 fun z e3 s3 => z = .normal ∧ ∃ k', k' < 10 - i ∧ ∃ i G u5 u6 u7, k' = 10 - i ∧ i ≤ 10 ∧ G.length ≤ i ∧ (∀ r ∈ G, r.sound = true ∧ r.Wide) ∧ e3.get 0 = some v ∧ e3.get 1 = some a1 ∧ e3.get 5 = some u5 ∧ e3.get 6 = some u6 ∧ e3.get 7 = some u7 ∧ e3.get 8 = some (in64 (i : Nat)) ∧ Trio sB s3 u5 u6 u7 G) z e' s' := by
        rintro z e' s' hz ⟨G', w5, w6, w7, hl', hG', f0, f1, f5, f6, f7, f8, ht'⟩
        refine .inl ⟨hz, ?_⟩
        refine WCode.mono ?_ (q_n_gen (i := i) (by omega) f8)
        rintro z e4 s4 ⟨rfl, k4, i8, rfl⟩
        exact ⟨rfl, 10 - (i + 1), by omega, i + 1, G', w5, w6, w7, rfl, by omega, hl', hG', (k4 0 (by omega)).trans f0, (k4 1 (by omega)).trans f1, (k4 5 (by omega)).trans f5, (k4 6 (by omega)).trans f6, (k4 7 (by omega)).trans f7, i8, ht'⟩
      have f0 := (k3 0 (by omega)).trans d0
      have f1 := (k3 1 (by omega)).trans d1
      have f5 := (k3 5 (by omega)).trans d5
      have f6 := (k3 6 (by omega)).trans d6
      have f7 := (k3 7 (by omega)).trans d7
      have f8 := (k3 8 (by omega)).trans d8
      rw [wc_seq]
      refine wc_if ?_
      refine WCode.mono ?_ (q_a_gen (hv.kept hkB) hb1 f0 f8)
      rintro z e4 s4 ⟨rfl, k4, ⟨b, a44⟩, rfl⟩
      have m0 := (k4 0 (by omega)).trans f0
      have m1 := (k4 1 (by omega)).trans f1
      have m5 := (k4 5 (by omega)).trans f5
      have m6 := (k4 6 (by omega)).trans f6
      have m7 := (k4 7 (by omega)).trans f7
      have m8 := (k4 8 (by omega)).trans f8
      refine ⟨rfl, b, a44, fun hbt => ?_, fun hbf => ?_⟩
      · rw [wc_exit, next_exit]
        exact hend _ _ _ (.inr rfl) ⟨G, u5, u6, u7, by omega, hG, m0, m1, m5, m6, m7, m8, ht2⟩
      rw [wc_skip, next_normal, sq_apply, wc_seq]
      refine WCode.mono ?_ (q_b_gen T (hv.kept hkB) hb1 (hL i hb1) m0 m8)
      rintro z e5 s5 ⟨rfl, k5, hk5, hno, hyes⟩
      rw [next_normal, sq_apply, wc_seq]
      have n0 := (k5 0 (by omega)).trans m0
      have n1 := (k5 1 (by omega)).trans m1
      have n5 := (k5 5 (by omega)).trans m5
      have n6 := (k5 6 (by omega)).trans m6
      have n7 := (k5 7 (by omega)).trans m7
      have n8 := (k5 8 (by omega)).trans m8
      have ht5 := ht2.kept hk5
      refine wc_if ?_
      cases hs : (rG L i).sound with
      | false =>
        refine WCode.mono ?_ (q_c_gen (hno hs))
        rintro z e6 s6 ⟨rfl, k6, a54, rfl⟩
        refine ⟨rfl, _, a54, fun _ => ?_, fun h => absurd h (by decide)⟩
        rw [wc_exit, next_exit]
        exact hend _ _ _ (.inr rfl) ⟨G, u5, u6, u7, by omega, hG, (k6 0 (by omega)).trans n0, (k6 1 (by omega)).trans n1, (k6 5 (by omega)).trans n5, (k6 6 (by omega)).trans n6, (k6 7 (by omega)).trans n7, (k6 8 (by omega)).trans n8, ht5⟩
      | true =>
        obtain ⟨h10, w, h9, hbw⟩ := hyes hs
        refine WCode.mono ?_ (q_c_gen h10)
        rintro z e6 s6 ⟨rfl, k6, a54, rfl⟩
        refine ⟨rfl, _, a54, fun h => absurd h (by decide), fun _ => ?_⟩
        rw [wc_skip, next_normal, sq_apply]
        have hG' : ∀ r ∈ G ++ [rG L i], r.sound = true ∧ r.Wide := fun r hr => by
          rcases List.mem_append.1 hr with hr | hr
          · exact hG r hr
          · simp only [List.mem_singleton] at hr; subst hr; exact ⟨hs, hL i hb1⟩
        have hsm := flatR_small (G ++ [rG L i]) (fun r hr => (hG' r hr).1)
        have hgl : (G ++ [rG L i]).length = G.length + 1 := by simp
        refine WCode.mono ?_ (q_def_gen ((hv.kept hkB).kept hk5) hb1 ht5 (by omega) (by omega) hbw ((k6 0 (by omega)).trans n0) ((k6 5 (by omega)).trans n5) ((k6 6 (by omega)).trans n6) ((k6 7 (by omega)).trans n7) ((k6 8 (by omega)).trans n8) ((k6 9 (by omega)).trans h9) hv)
        rintro z e7 s7 ⟨rfl, x0, x1, x8, w5, w6, w7, x5, x6, x7, ht7⟩
        exact hend _ _ _ (.inl rfl) ⟨G ++ [rG L i], w5, w6, w7, by omega, hG', x0.trans ((k6 0 (by omega)).trans n0), x1.trans ((k6 1 (by omega)).trans n1), x5, x6, x7, x8.trans ((k6 8 (by omega)).trans n8), ht7⟩

theorem ct_5_gen {c : Int} (hc : 0 ≤ c ∧ c ≤ 65535) (hb : BytesV s v zs) (hz : zs.length < 2 ^ 40) (g1 : e.get 1 = some (.int .u16 c)) (g5 : e.get 5 = some v) :
    WCode (fun k => call tbl ov k) ct_5 e s fun x e' s' => x = .normal ∧ (∀ j, j < 11 → e'.get j = e.get j) ∧ (∃ k, k ≤ zs.length ∧ e'.get 11 = some (in64 (k : Nat))) ∧ s' = s := by
  obtain ⟨ad, cp, rfl⟩ := hb.len
  have w1 : IntKind.i64.wrap c = c := wrap64 (by omega) (by omega)
  have w2 : IntKind.i64.wrap ((zs.length : Int) + 1) = ((zs.length + 1 : Nat) : Int) := by rw [wrap64 (by omega) (by omega)]; omega
  have h1 := Int.tmod_lt_of_pos c (b := ((zs.length + 1 : Nat) : Int)) (by omega)
  have h2 := Int.tmod_nonneg ((zs.length + 1 : Nat) : Int) hc.1
  have hrem : binV .rem (.int .i64 c) (.int .i64 ((zs.length + 1 : Nat) : Int)) = some (.int .i64 (((c.tmod ((zs.length + 1 : Nat) : Int)).toNat : Nat) : Int)) := by
    have : ¬ ((zs.length + 1 : Nat) : Int) = 0 := by omega
    have h3 : (((c.tmod ((zs.length + 1 : Nat) : Int)).toNat : Nat) : Int) = c.tmod ((zs.length + 1 : Nat) : Int) := Int.toNat_of_nonneg h2
    rw [h3]
    simp only [binV, this, if_false]; simp [this]
  simp only [ct_5, code10, params, wc_skip, wc_region, wc_draw, wc_seq, wc_cond, wc_block, wc_exit, wc_ret, next_normal, next_exit, next_ret, inBlock_normal, inBlock_ret, inBlock_exit, sq_apply, nrm_apply, drawnK_apply, boolV_bool, ccond_true, ccond_false, wo_nil, wo_cons, wo_guard, wop, bindP_some, cont_some, cont_none, guardV_bool, guardV_undef, gcont_true, gcont_false, gcont_false', ret_apply, aggK_apply, putK_apply, resK_apply, boolK_apply, ccont_apply, wd_nil, wd_cons, dvals_apply, dcont_some, dcont_none, AOp.vals, rd_tmp, rd_const, rd_func, get_cons, mapList, mapOpt, Option.bind_some, Option.map_some, Nat.reduceEqDiff, if_true, if_false, reduceIte, reduceCtorEq, wv_mov, wv_pick, wv_alloc, wv_box, wv_build, wv_load, wv_loadn, wv_store, wv_nilCheck, wv_bin, wv_eq, wv_un, wv_convInt, wv_convSame, wv_fieldAddr, wv_field, wv_fieldn, wv_extract, wv_lenSlice, wv_lenString, wv_mkMap, wv_call, callee_func, wv_indexAddr, wv_lookup, wv_mapUpdate, wv_mapEntry, wv_entryStore, wv_delete, wv_append, wv_slice, wv_mkSlice, wv_buildSlice, wv_index, wv_copy, wv_lenMap, Abs.cellAt, Abs.rowAt, Abs.storeAt, Heap.get_put, List.getElem?_cons_zero, List.getElem?_cons_succ, Nat.zero_add, Nat.reduceAdd, idx, and_self, Int.toNat_natCast, cellsAt, ne_eq, not_true_eq_false, not_false_eq_true, cellList, Value.cells, List.length_cons, List.length_nil, List.all_cons, List.all_nil, isCell, Bool.and_self, storeL, List.set_cons_zero, List.set_cons_succ, footOf, true_and, and_true, Nat.reduceLeDiff, Nat.le_refl, Nat.reduceMul, Nat.reduceLT, List.nil_append, List.cons_append, List.length_set, ends_normal, ends_ret, endK_apply, resV_tmp, tupleV, eqV, Bool.not_true, Bool.not_false, BEq.rfl, Bool.true_beq, Bool.false_beq, beq_true, beq_false, Nat.sub_self, List.range'_zero, decide_true, decide_false, List.not_mem_nil, false_implies, implies_true, Bool.true_and, Bool.and_true, drawn, pairOk, disj, quietAt, Bool.bne_false, Bool.bne_true, Bool.false_eq_true, applyUpd, Int.reduceEq, Int.reduceNeg, bin_add, bin_sub, bin_mul, bin_lss, bin_leq, bin_gtr, bin_geq, bin_eql, bin_neq, un_not, wv_cap, wv_appendMake, wv_clear, wv_toString, wv_toBytes, wv_sameB, wv_mkIface, wv_minmax, g1, g5, w1, w2, hrem]
  refine ⟨fun j hj => ?_, _, ?_, rfl⟩
  · simp (disch := omega) only [get_cons, if_neg]
  · omega

theorem ct_6_gen (T : FrameTbl tbl) (hb : BytesV s v zs) (hz : zs.length < 2 ^ 30) (hk : k ≤ zs.length) (g5 : e.get 5 = some v) (g11 : e.get 11 = some (in64 k)) :
    WCode (fun k => call tbl ov k) ct_6 e s fun x e' s' => x = .normal ∧ (∀ j, j < 12 → e'.get j = e.get j) ∧ Kept [] s s' ∧ ∃ w S, e'.get 12 = some w ∧ e'.get 13 = some (in64 (scanL k (zs.take k) 0).2) ∧ RowsO 50 6 s' w ((scanL k (zs.take k) 0).1.map FRec.cells) S := by
  obtain ⟨v', hb', he⟩ := hb.take hk
  have he := he .i64
  have hkl : (zs.take k).length = k := by rw [List.length_take]; omega
  simp only [ct_6, code10, params, wc_skip, wc_region, wc_draw, wc_seq, wc_cond, wc_block, wc_exit, wc_ret, next_normal, next_exit, next_ret, inBlock_normal, inBlock_ret, inBlock_exit, sq_apply, nrm_apply, drawnK_apply, boolV_bool, ccond_true, ccond_false, wo_nil, wo_cons, wo_guard, wop, bindP_some, cont_some, cont_none, guardV_bool, guardV_undef, gcont_true, gcont_false, gcont_false', ret_apply, aggK_apply, putK_apply, resK_apply, boolK_apply, ccont_apply, wd_nil, wd_cons, dvals_apply, dcont_some, dcont_none, AOp.vals, rd_tmp, rd_const, rd_func, get_cons, mapList, mapOpt, Option.bind_some, Option.map_some, Nat.reduceEqDiff, if_true, if_false, reduceIte, reduceCtorEq, wv_mov, wv_pick, wv_alloc, wv_box, wv_build, wv_load, wv_loadn, wv_store, wv_nilCheck, wv_bin, wv_eq, wv_un, wv_convInt, wv_convSame, wv_fieldAddr, wv_field, wv_fieldn, wv_extract, wv_lenSlice, wv_lenString, wv_mkMap, wv_call, callee_func, wv_indexAddr, wv_lookup, wv_mapUpdate, wv_mapEntry, wv_entryStore, wv_delete, wv_append, wv_slice, wv_mkSlice, wv_buildSlice, wv_index, wv_copy, wv_lenMap, Abs.cellAt, Abs.rowAt, Abs.storeAt, Heap.get_put, List.getElem?_cons_zero, List.getElem?_cons_succ, Nat.zero_add, Nat.reduceAdd, idx, and_self, Int.toNat_natCast, cellsAt, ne_eq, not_true_eq_false, not_false_eq_true, cellList, Value.cells, List.length_cons, List.length_nil, List.all_cons, List.all_nil, isCell, Bool.and_self, storeL, List.set_cons_zero, List.set_cons_succ, footOf, true_and, and_true, Nat.reduceLeDiff, Nat.le_refl, Nat.reduceMul, Nat.reduceLT, List.nil_append, List.cons_append, List.length_set, ends_normal, ends_ret, endK_apply, resV_tmp, tupleV, eqV, Bool.not_true, Bool.not_false, BEq.rfl, Bool.true_beq, Bool.false_beq, beq_true, beq_false, Nat.sub_self, List.range'_zero, decide_true, decide_false, List.not_mem_nil, false_implies, implies_true, Bool.true_and, Bool.and_true, drawn, pairOk, disj, quietAt, Bool.bne_false, Bool.bne_true, Bool.false_eq_true, applyUpd, Int.reduceEq, Int.reduceNeg, bin_add, bin_sub, bin_mul, bin_lss, bin_leq, bin_gtr, bin_geq, bin_eql, bin_neq, un_not, wv_cap, wv_appendMake, wv_clear, wv_toString, wv_toBytes, wv_sameB, wv_mkIface, wv_minmax, g5, g11, he]
  refine WCall.mono (scan_spec T hb' (by omega)) ?_
  rintro u s1 ⟨hkp, w, S, rfl, ho, _⟩
  rw [hkl] at ho ⊢
  simp only [params, wc_skip, wc_region, wc_draw, wc_seq, wc_cond, wc_block, wc_exit, wc_ret, next_normal, next_exit, next_ret, inBlock_normal, inBlock_ret, inBlock_exit, sq_apply, nrm_apply, drawnK_apply, boolV_bool, ccond_true, ccond_false, wo_nil, wo_cons, wo_guard, wop, bindP_some, cont_some, cont_none, guardV_bool, guardV_undef, gcont_true, gcont_false, gcont_false', ret_apply, aggK_apply, putK_apply, resK_apply, boolK_apply, ccont_apply, wd_nil, wd_cons, dvals_apply, dcont_some, dcont_none, AOp.vals, rd_tmp, rd_const, rd_func, get_cons, mapList, mapOpt, Option.bind_some, Option.map_some, Nat.reduceEqDiff, if_true, if_false, reduceIte, reduceCtorEq, wv_mov, wv_pick, wv_alloc, wv_box, wv_build, wv_load, wv_loadn, wv_store, wv_nilCheck, wv_bin, wv_eq, wv_un, wv_convInt, wv_convSame, wv_fieldAddr, wv_field, wv_fieldn, wv_extract, wv_lenSlice, wv_lenString, wv_mkMap, wv_call, callee_func, wv_indexAddr, wv_lookup, wv_mapUpdate, wv_mapEntry, wv_entryStore, wv_delete, wv_append, wv_slice, wv_mkSlice, wv_buildSlice, wv_index, wv_copy, wv_lenMap, Abs.cellAt, Abs.rowAt, Abs.storeAt, Heap.get_put, List.getElem?_cons_zero, List.getElem?_cons_succ, Nat.zero_add, Nat.reduceAdd, idx, and_self, Int.toNat_natCast, cellsAt, ne_eq, not_true_eq_false, not_false_eq_true, cellList, Value.cells, List.length_cons, List.length_nil, List.all_cons, List.all_nil, isCell, Bool.and_self, storeL, List.set_cons_zero, List.set_cons_succ, footOf, true_and, and_true, Nat.reduceLeDiff, Nat.le_refl, Nat.reduceMul, Nat.reduceLT, List.nil_append, List.cons_append, List.length_set, ends_normal, ends_ret, endK_apply, resV_tmp, tupleV, eqV, Bool.not_true, Bool.not_false, BEq.rfl, Bool.true_beq, Bool.false_beq, beq_true, beq_false, Nat.sub_self, List.range'_zero, decide_true, decide_false, List.not_mem_nil, false_implies, implies_true, Bool.true_and, Bool.and_true, drawn, pairOk, disj, quietAt, Bool.bne_false, Bool.bne_true, Bool.false_eq_true, applyUpd, Int.reduceEq, Int.reduceNeg, bin_add, bin_sub, bin_mul, bin_lss, bin_leq, bin_gtr, bin_geq, bin_eql, bin_neq, un_not, wv_cap, wv_appendMake, wv_clear, wv_toString, wv_toBytes, wv_sameB, wv_mkIface, wv_minmax, g5, g11]
  refine ⟨fun j hj => ?_, hkp, w, S, rfl, ho⟩
  simp (disch := omega) only [get_cons, if_neg]

/-- A row of whole numbers as it is read. -/
def NatsV (s : St) (v : Value) (E : List Nat) : Prop := ∃ S, RowsO 3 1 s v (E.map fun n : Nat => [in64 (n : Int)]) S

theorem NatsV.at {E : List Nat} (h : NatsV s v E) (hi : i < E.length) : ∃ id o cap c, v = .slice (some ⟨id, o, none⟩) E.length cap ∧ s.heap.get id = some (.cells c 3 1 false) ∧ c[o + i]? = some (in64 (E.getD i 0 : Nat)) := by
  obtain ⟨S, _, ⟨rfl, h, _⟩ | ⟨id, o, cap, c, rfl, rfl, h1, h2, h3, h4, h5⟩⟩ := h
  · rw [List.map_eq_nil_iff] at h; subst h; simp at hi
  rw [List.length_map] at h1 h5 ⊢
  refine ⟨id, o, cap, c, rfl, h3, ?_⟩
  have := congrArg (fun l => l[i]?) h5
  simp only [List.getElem?_take, List.getElem?_drop] at this
  rw [if_pos (by omega)] at this
  rw [this]
  have hfl : ∀ E : List Nat, (E.map fun n : Nat => [in64 (n : Int)]).flatten = E.map fun n : Nat => in64 (n : Int) := by
    intro E
    induction E with
    | nil => rfl
    | cons x E ih => simp only [List.map_cons, List.flatten_cons, ih]; rfl
  rw [hfl, List.getElem?_map, List.getElem?_eq_getElem hi, Option.map_some, List.getD_eq_getElem?_getD, List.getElem?_eq_getElem hi, Option.getD_some]

theorem NatsV.len {E : List Nat} (h : NatsV s v E) : ∃ a c, v = .slice a E.length c := by
  obtain ⟨S, _, ⟨rfl, h, _⟩ | ⟨id, o, cap, c, rfl, rfl, h1, h2, h3, h4, h5⟩⟩ := h
  · rw [List.map_eq_nil_iff] at h; subst h; exact ⟨_, _, rfl⟩
  · rw [List.length_map]; exact ⟨_, _, rfl⟩

theorem w_h_gen {E : List Nat} (hv : NatsV s v E) (g6 : e.get 6 = some v) (g11 : e.get 11 = some (in64 k)) (g14 : e.get 14 = some (in64 i)) :
    WCode (fun k => call tbl ov k) w_h e s fun x e' s' => x = .normal ∧ (∀ j, j < 15 → e'.get j = e.get j) ∧ e'.get 94 = some (.bool (decide (i < E.length) && decide (E.getD i 0 ≤ k))) ∧ s' = s := by
  cases h1 : decide (i < E.length) with
  | false =>
    obtain ⟨a, c, rfl⟩ := hv.len
    have d1 : decide ((i : Int) < (E.length : Nat)) = false := by rw [← h1]; simp
    simp only [w_h, ct_8, code10, params, wc_skip, wc_region, wc_draw, wc_seq, wc_cond, wc_block, wc_exit, wc_ret, next_normal, next_exit, next_ret, inBlock_normal, inBlock_ret, inBlock_exit, sq_apply, nrm_apply, drawnK_apply, boolV_bool, ccond_true, ccond_false, wo_nil, wo_cons, wo_guard, wop, bindP_some, cont_some, cont_none, guardV_bool, guardV_undef, gcont_true, gcont_false, gcont_false', ret_apply, aggK_apply, putK_apply, resK_apply, boolK_apply, ccont_apply, wd_nil, wd_cons, dvals_apply, dcont_some, dcont_none, AOp.vals, rd_tmp, rd_const, rd_func, get_cons, mapList, mapOpt, Option.bind_some, Option.map_some, Nat.reduceEqDiff, if_true, if_false, reduceIte, reduceCtorEq, wv_mov, wv_pick, wv_alloc, wv_box, wv_build, wv_load, wv_loadn, wv_store, wv_nilCheck, wv_bin, wv_eq, wv_un, wv_convInt, wv_convSame, wv_fieldAddr, wv_field, wv_fieldn, wv_extract, wv_lenSlice, wv_lenString, wv_mkMap, wv_call, callee_func, wv_indexAddr, wv_lookup, wv_mapUpdate, wv_mapEntry, wv_entryStore, wv_delete, wv_append, wv_slice, wv_mkSlice, wv_buildSlice, wv_index, wv_copy, wv_lenMap, Abs.cellAt, Abs.rowAt, Abs.storeAt, Heap.get_put, List.getElem?_cons_zero, List.getElem?_cons_succ, Nat.zero_add, Nat.reduceAdd, idx, and_self, Int.toNat_natCast, cellsAt, ne_eq, not_true_eq_false, not_false_eq_true, cellList, Value.cells, List.length_cons, List.length_nil, List.all_cons, List.all_nil, isCell, Bool.and_self, storeL, List.set_cons_zero, List.set_cons_succ, footOf, true_and, and_true, Nat.reduceLeDiff, Nat.le_refl, Nat.reduceMul, Nat.reduceLT, List.nil_append, List.cons_append, List.length_set, ends_normal, ends_ret, endK_apply, resV_tmp, tupleV, eqV, Bool.not_true, Bool.not_false, BEq.rfl, Bool.true_beq, Bool.false_beq, beq_true, beq_false, Nat.sub_self, List.range'_zero, decide_true, decide_false, List.not_mem_nil, false_implies, implies_true, Bool.true_and, Bool.and_true, drawn, pairOk, disj, quietAt, Bool.bne_false, Bool.bne_true, Bool.false_eq_true, applyUpd, Int.reduceEq, Int.reduceNeg, bin_add, bin_sub, bin_mul, bin_lss, bin_leq, bin_gtr, bin_geq, bin_eql, bin_neq, un_not, wv_cap, wv_appendMake, wv_clear, wv_toString, wv_toBytes, wv_sameB, wv_mkIface, wv_minmax, g6, g11, g14, d1, Bool.false_and]
    intro j hj
    simp (disch := omega) only [get_cons, if_neg]
  | true =>
    simp only [decide_eq_true_eq] at h1
    obtain ⟨id, o, cap, c, rfl, h3, hc⟩ := hv.at h1
    have d1 : decide ((i : Int) < (E.length : Nat)) = true := by simp; exact h1
    have d2 : (0 : Int) ≤ i := by omega
    have d3 : (i : Int) < (E.length : Nat) := by omega
    have d4 : decide (((E.getD i 0 : Nat) : Int) ≤ (k : Nat)) = decide (E.getD i 0 ≤ k) := by simp
    simp only [w_h, ct_8, code10, params, wc_skip, wc_region, wc_draw, wc_seq, wc_cond, wc_block, wc_exit, wc_ret, next_normal, next_exit, next_ret, inBlock_normal, inBlock_ret, inBlock_exit, sq_apply, nrm_apply, drawnK_apply, boolV_bool, ccond_true, ccond_false, wo_nil, wo_cons, wo_guard, wop, bindP_some, cont_some, cont_none, guardV_bool, guardV_undef, gcont_true, gcont_false, gcont_false', ret_apply, aggK_apply, putK_apply, resK_apply, boolK_apply, ccont_apply, wd_nil, wd_cons, dvals_apply, dcont_some, dcont_none, AOp.vals, rd_tmp, rd_const, rd_func, get_cons, mapList, mapOpt, Option.bind_some, Option.map_some, Nat.reduceEqDiff, if_true, if_false, reduceIte, reduceCtorEq, wv_mov, wv_pick, wv_alloc, wv_box, wv_build, wv_load, wv_loadn, wv_store, wv_nilCheck, wv_bin, wv_eq, wv_un, wv_convInt, wv_convSame, wv_fieldAddr, wv_field, wv_fieldn, wv_extract, wv_lenSlice, wv_lenString, wv_mkMap, wv_call, callee_func, wv_indexAddr, wv_lookup, wv_mapUpdate, wv_mapEntry, wv_entryStore, wv_delete, wv_append, wv_slice, wv_mkSlice, wv_buildSlice, wv_index, wv_copy, wv_lenMap, Abs.cellAt, Abs.rowAt, Abs.storeAt, Heap.get_put, List.getElem?_cons_zero, List.getElem?_cons_succ, Nat.zero_add, Nat.reduceAdd, idx, and_self, Int.toNat_natCast, cellsAt, ne_eq, not_true_eq_false, not_false_eq_true, cellList, Value.cells, List.length_cons, List.length_nil, List.all_cons, List.all_nil, isCell, Bool.and_self, storeL, List.set_cons_zero, List.set_cons_succ, footOf, true_and, and_true, Nat.reduceLeDiff, Nat.le_refl, Nat.reduceMul, Nat.reduceLT, List.nil_append, List.cons_append, List.length_set, ends_normal, ends_ret, endK_apply, resV_tmp, tupleV, eqV, Bool.not_true, Bool.not_false, BEq.rfl, Bool.true_beq, Bool.false_beq, beq_true, beq_false, Nat.sub_self, List.range'_zero, decide_true, decide_false, List.not_mem_nil, false_implies, implies_true, Bool.true_and, Bool.and_true, drawn, pairOk, disj, quietAt, Bool.bne_false, Bool.bne_true, Bool.false_eq_true, applyUpd, Int.reduceEq, Int.reduceNeg, bin_add, bin_sub, bin_mul, bin_lss, bin_leq, bin_gtr, bin_geq, bin_eql, bin_neq, un_not, wv_cap, wv_appendMake, wv_clear, wv_toString, wv_toBytes, wv_sameB, wv_mkIface, wv_minmax, g6, g11, g14, d1, d2, d3, h3, Nat.mul_one, hc, d4, Bool.true_and]
    intro j hj
    simp (disch := omega) only [get_cons, if_neg]

theorem w_b_gen (hi : i < 2 ^ 60) (g14 : e.get 14 = some (in64 i)) : WCode (fun k => call tbl ov k) w_b e s fun x e' s' => x = .normal ∧ (∀ j, j < 14 → e'.get j = e.get j) ∧ e'.get 14 = some (in64 (i + 1 : Nat)) ∧ s' = s := by
  have w : IntKind.i64.wrap ((i : Int) + 1) = ((i + 1 : Nat) : Int) := by rw [wrap64 (by omega) (by omega)]; omega
  simp only [w_b, ct_8, code10, params, wc_skip, wc_region, wc_draw, wc_seq, wc_cond, wc_block, wc_exit, wc_ret, next_normal, next_exit, next_ret, inBlock_normal, inBlock_ret, inBlock_exit, sq_apply, nrm_apply, drawnK_apply, boolV_bool, ccond_true, ccond_false, wo_nil, wo_cons, wo_guard, wop, bindP_some, cont_some, cont_none, guardV_bool, guardV_undef, gcont_true, gcont_false, gcont_false', ret_apply, aggK_apply, putK_apply, resK_apply, boolK_apply, ccont_apply, wd_nil, wd_cons, dvals_apply, dcont_some, dcont_none, AOp.vals, rd_tmp, rd_const, rd_func, get_cons, mapList, mapOpt, Option.bind_some, Option.map_some, Nat.reduceEqDiff, if_true, if_false, reduceIte, reduceCtorEq, wv_mov, wv_pick, wv_alloc, wv_box, wv_build, wv_load, wv_loadn, wv_store, wv_nilCheck, wv_bin, wv_eq, wv_un, wv_convInt, wv_convSame, wv_fieldAddr, wv_field, wv_fieldn, wv_extract, wv_lenSlice, wv_lenString, wv_mkMap, wv_call, callee_func, wv_indexAddr, wv_lookup, wv_mapUpdate, wv_mapEntry, wv_entryStore, wv_delete, wv_append, wv_slice, wv_mkSlice, wv_buildSlice, wv_index, wv_copy, wv_lenMap, Abs.cellAt, Abs.rowAt, Abs.storeAt, Heap.get_put, List.getElem?_cons_zero, List.getElem?_cons_succ, Nat.zero_add, Nat.reduceAdd, idx, and_self, Int.toNat_natCast, cellsAt, ne_eq, not_true_eq_false, not_false_eq_true, cellList, Value.cells, List.length_cons, List.length_nil, List.all_cons, List.all_nil, isCell, Bool.and_self, storeL, List.set_cons_zero, List.set_cons_succ, footOf, true_and, and_true, Nat.reduceLeDiff, Nat.le_refl, Nat.reduceMul, Nat.reduceLT, List.nil_append, List.cons_append, List.length_set, ends_normal, ends_ret, endK_apply, resV_tmp, tupleV, eqV, Bool.not_true, Bool.not_false, BEq.rfl, Bool.true_beq, Bool.false_beq, beq_true, beq_false, Nat.sub_self, List.range'_zero, decide_true, decide_false, List.not_mem_nil, false_implies, implies_true, Bool.true_and, Bool.and_true, drawn, pairOk, disj, quietAt, Bool.bne_false, Bool.bne_true, Bool.false_eq_true, applyUpd, Int.reduceEq, Int.reduceNeg, bin_add, bin_sub, bin_mul, bin_lss, bin_leq, bin_gtr, bin_geq, bin_eql, bin_neq, un_not, wv_cap, wv_appendMake, wv_clear, wv_toString, wv_toBytes, wv_sameB, wv_mkIface, wv_minmax, g14, w]
  intro j hj
  simp (disch := omega) only [get_cons, if_neg]

theorem endsL_getD (h : i < G.length) : (endsL G).getD i 0 = (flatR (G.take (i + 1))).length := by
  rw [List.getD_eq_getElem?_getD, endsL_get h, Option.getD_some]

theorem ct_8_gen (hv : NatsV s v6 (endsL G)) (hG : G.length < 1000) (g6 : e.get 6 = some v6) (g7 : e.get 7 = some v7) (g11 : e.get 11 = some (in64 k)) {x12 x13 : Value} (g12 : e.get 12 = some x12) (g13 : e.get 13 = some x13) (g14 : e.get 14 = some (in64 0)) :
    WCode (fun k => call tbl ov k) ct_8 e s fun x e' s' => x = .normal ∧ e'.get 6 = some v6 ∧ e'.get 7 = some v7 ∧ e'.get 12 = some x12 ∧ e'.get 13 = some x13 ∧ e'.get 14 = some (in64 (wantL 0 G k : Nat)) ∧ s' = s := by
  rw [ct_8_eq]
  have hwl := wantL_le G 0 k
  have hiff := fun i (hi : i < G.length) => want_iff G 0 k i hi
  simp only [Nat.zero_add] at hiff
  refine wc_while (fun m e' s' => ∃ i, m = wantL 0 G k - i ∧ i ≤ wantL 0 G k ∧ e'.get 6 = some v6 ∧ e'.get 7 = some v7 ∧ e'.get 11 = some (in64 k) ∧ e'.get 12 = some x12 ∧ e'.get 13 = some x13 ∧ e'.get 14 = some (in64 (i : Nat)) ∧ s' = s) (wantL 0 G k) ?_ ?_
  · exact ⟨0, rfl, by omega, g6, g7, g11, g12, g13, g14, rfl⟩
  · rintro m e2 s2 E ⟨i, rfl, hi, c6, c7, c11, c12, c13, c14, rfl⟩ hE
    have d6 := (hE 6 (by simp)).trans c6
    have d7 := (hE 7 (by simp)).trans c7
    have d11 := (hE 11 (by simp)).trans c11
    have d12 := (hE 12 (by simp)).trans c12
    have d13 := (hE 13 (by simp)).trans c13
    have d14 := (hE 14 (by simp)).trans c14
    refine WCode.mono ?_ (w_h_gen hv d6 d11 d14)
    rintro z e3 s3 ⟨rfl, k3, a94, rfl⟩
    rw [endsL_length] at a94
    have hdec : (decide (i < G.length) && decide ((endsL G).getD i 0 ≤ k)) = decide (i < wantL 0 G k) := by
      by_cases hl : i < G.length
      · have h1 := hiff i hl
        rw [endsL_getD hl]
        simp only [hl, h1, decide_true, Bool.true_and]
      · have h2 : ¬ i < wantL 0 G k := by omega
        simp only [hl, h2, decide_false, Bool.false_and]
    rw [hdec] at a94
    refine ⟨rfl, _, a94, fun hbb => ?_, fun hbb => ?_⟩
    · simp only [decide_eq_false_iff_not] at hbb
      have : i = wantL 0 G k := by omega
      subst this
      exact ⟨rfl, (k3 6 (by omega)).trans d6, (k3 7 (by omega)).trans d7, (k3 12 (by omega)).trans d12, (k3 13 (by omega)).trans d13, (k3 14 (by omega)).trans d14, rfl⟩
    · simp only [decide_eq_true_eq] at hbb
      refine WCode.mono ?_ (w_b_gen (i := i) (by omega) ((k3 14 (by omega)).trans d14))
      rintro z e4 s4 ⟨rfl, k4, i14, rfl⟩
      exact .inl ⟨.inl rfl, wantL 0 G k - (i + 1), by omega, i + 1, rfl, by omega, (k4 6 (by omega)).trans ((k3 6 (by omega)).trans d6), (k4 7 (by omega)).trans ((k3 7 (by omega)).trans d7), (k4 11 (by omega)).trans ((k3 11 (by omega)).trans d11), (k4 12 (by omega)).trans ((k3 12 (by omega)).trans d12), (k4 13 (by omega)).trans ((k3 13 (by omega)).trans d13), i14, rfl⟩

def o9 : List AOper := opsOf ct_9
theorem ct_9_eq : ct_9 = .region o9 none := rfl

theorem c9a_gen {W n : Nat} (hv : NatsV s v6 (endsL G)) (hG : G.length < 1000) (hW : W ≤ G.length) (hn : n = (flatR (G.take W)).length) {x : Option Addr} {c : Nat} (g6 : e.get 6 = some v6) (g12 : e.get 12 = some (.slice x W c)) (g13 : e.get 13 = some (in64 n)) (g14 : e.get 14 = some (in64 W)) :
    WCode (fun k => call tbl ov k) (.region (o9.take 17) none) e s fun x e' s' => x = .normal ∧ (∀ j, j < 15 → e'.get j = e.get j) ∧ e'.get 113 = some (.bool false) ∧ s' = s := by
  have d0 : (((W : Nat) : Int) != ((W : Nat) : Int)) = false := by simp
  by_cases hW0 : W = 0
  · have d1 : decide (((W : Nat) : Int) > 0) = false := decide_eq_false (by omega)
    simp only [o9, ct_9, code10, opsOf, List.take_succ_cons, List.take_zero, params, wc_skip, wc_region, wc_draw, wc_seq, wc_cond, wc_block, wc_exit, wc_ret, next_normal, next_exit, next_ret, inBlock_normal, inBlock_ret, inBlock_exit, sq_apply, nrm_apply, drawnK_apply, boolV_bool, ccond_true, ccond_false, wo_nil, wo_cons, wo_guard, wop, bindP_some, cont_some, cont_none, guardV_bool, guardV_undef, gcont_true, gcont_false, gcont_false', ret_apply, aggK_apply, putK_apply, resK_apply, boolK_apply, ccont_apply, wd_nil, wd_cons, dvals_apply, dcont_some, dcont_none, AOp.vals, rd_tmp, rd_const, rd_func, get_cons, mapList, mapOpt, Option.bind_some, Option.map_some, Nat.reduceEqDiff, if_true, if_false, reduceIte, reduceCtorEq, wv_mov, wv_pick, wv_alloc, wv_box, wv_build, wv_load, wv_loadn, wv_store, wv_nilCheck, wv_bin, wv_eq, wv_un, wv_convInt, wv_convSame, wv_fieldAddr, wv_field, wv_fieldn, wv_extract, wv_lenSlice, wv_lenString, wv_mkMap, wv_call, callee_func, wv_indexAddr, wv_lookup, wv_mapUpdate, wv_mapEntry, wv_entryStore, wv_delete, wv_append, wv_slice, wv_mkSlice, wv_buildSlice, wv_index, wv_copy, wv_lenMap, Abs.cellAt, Abs.rowAt, Abs.storeAt, Heap.get_put, List.getElem?_cons_zero, List.getElem?_cons_succ, Nat.zero_add, Nat.reduceAdd, idx, and_self, Int.toNat_natCast, cellsAt, ne_eq, not_true_eq_false, not_false_eq_true, cellList, Value.cells, List.length_cons, List.length_nil, List.all_cons, List.all_nil, isCell, Bool.and_self, storeL, List.set_cons_zero, List.set_cons_succ, footOf, true_and, and_true, Nat.reduceLeDiff, Nat.le_refl, Nat.reduceMul, Nat.reduceLT, List.nil_append, List.cons_append, List.length_set, ends_normal, ends_ret, endK_apply, resV_tmp, tupleV, eqV, Bool.not_true, Bool.not_false, BEq.rfl, Bool.true_beq, Bool.false_beq, beq_true, beq_false, Nat.sub_self, List.range'_zero, decide_true, decide_false, List.not_mem_nil, false_implies, implies_true, Bool.true_and, Bool.and_true, drawn, pairOk, disj, quietAt, Bool.bne_false, Bool.bne_true, Bool.false_eq_true, applyUpd, Int.reduceEq, Int.reduceNeg, bin_add, bin_sub, bin_mul, bin_lss, bin_leq, bin_gtr, bin_geq, bin_eql, bin_neq, un_not, wv_cap, wv_appendMake, wv_clear, wv_toString, wv_toBytes, wv_sameB, wv_mkIface, wv_minmax, g6, g12, g13, g14, d0, d1, Bool.false_or, Bool.false_and]
    intro j hj
    simp (disch := omega) only [get_cons, if_neg]
  · obtain ⟨id, o, cap, c', rfl, h3, hc⟩ := hv.at (i := W - 1) (by rw [endsL_length]; omega)
    rw [endsL_getD (by omega), show W - 1 + 1 = W by omega, ← hn] at hc
    have d1 : decide (((W : Nat) : Int) > 0) = true := decide_eq_true (by omega)
    have w1 : IntKind.i64.wrap (((W : Nat) : Int) - 1) = (W - 1 : Nat) := by rw [wrap64 (by omega) (by omega)]; omega
    have e1 : (0 : Int) ≤ (W - 1 : Nat) := by omega
    have e2 : ((W - 1 : Nat) : Int) < ((endsL G).length : Nat) := by rw [endsL_length]; omega
    have d4 : (((n : Nat) : Int) != ((n : Nat) : Int)) = false := by simp
    generalize W - 1 = W' at *
    simp only [o9, ct_9, code10, opsOf, List.take_succ_cons, List.take_zero, params, wc_skip, wc_region, wc_draw, wc_seq, wc_cond, wc_block, wc_exit, wc_ret, next_normal, next_exit, next_ret, inBlock_normal, inBlock_ret, inBlock_exit, sq_apply, nrm_apply, drawnK_apply, boolV_bool, ccond_true, ccond_false, wo_nil, wo_cons, wo_guard, wop, bindP_some, cont_some, cont_none, guardV_bool, guardV_undef, gcont_true, gcont_false, gcont_false', ret_apply, aggK_apply, putK_apply, resK_apply, boolK_apply, ccont_apply, wd_nil, wd_cons, dvals_apply, dcont_some, dcont_none, AOp.vals, rd_tmp, rd_const, rd_func, get_cons, mapList, mapOpt, Option.bind_some, Option.map_some, Nat.reduceEqDiff, if_true, if_false, reduceIte, reduceCtorEq, wv_mov, wv_pick, wv_alloc, wv_box, wv_build, wv_load, wv_loadn, wv_store, wv_nilCheck, wv_bin, wv_eq, wv_un, wv_convInt, wv_convSame, wv_fieldAddr, wv_field, wv_fieldn, wv_extract, wv_lenSlice, wv_lenString, wv_mkMap, wv_call, callee_func, wv_indexAddr, wv_lookup, wv_mapUpdate, wv_mapEntry, wv_entryStore, wv_delete, wv_append, wv_slice, wv_mkSlice, wv_buildSlice, wv_index, wv_copy, wv_lenMap, Abs.cellAt, Abs.rowAt, Abs.storeAt, Heap.get_put, List.getElem?_cons_zero, List.getElem?_cons_succ, Nat.zero_add, Nat.reduceAdd, idx, and_self, Int.toNat_natCast, cellsAt, ne_eq, not_true_eq_false, not_false_eq_true, cellList, Value.cells, List.length_cons, List.length_nil, List.all_cons, List.all_nil, isCell, Bool.and_self, storeL, List.set_cons_zero, List.set_cons_succ, footOf, true_and, and_true, Nat.reduceLeDiff, Nat.le_refl, Nat.reduceMul, Nat.reduceLT, List.nil_append, List.cons_append, List.length_set, ends_normal, ends_ret, endK_apply, resV_tmp, tupleV, eqV, Bool.not_true, Bool.not_false, BEq.rfl, Bool.true_beq, Bool.false_beq, beq_true, beq_false, Nat.sub_self, List.range'_zero, decide_true, decide_false, List.not_mem_nil, false_implies, implies_true, Bool.true_and, Bool.and_true, drawn, pairOk, disj, quietAt, Bool.bne_false, Bool.bne_true, Bool.false_eq_true, applyUpd, Int.reduceEq, Int.reduceNeg, bin_add, bin_sub, bin_mul, bin_lss, bin_leq, bin_gtr, bin_geq, bin_eql, bin_neq, un_not, wv_cap, wv_appendMake, wv_clear, wv_toString, wv_toBytes, wv_sameB, wv_mkIface, wv_minmax, g6, g12, g13, g14, d0, d1, w1, e1, e2, h3, Nat.mul_one, hc, d4, Bool.false_or, Bool.false_and]
    intro j hj
    simp (disch := omega) only [get_cons, if_neg]

theorem c9b_gen {W n : Nat} (hn : W = 0 → n = 0) (g13 : e.get 13 = some (in64 n)) (g14 : e.get 14 = some (in64 W)) (g113 : e.get 113 = some (.bool false)) :
    WCode (fun k => call tbl ov k) (.region (o9.drop 17) none) e s fun x e' s' => x = .normal ∧ (∀ j, j < 15 → e'.get j = e.get j) ∧ e'.get 121 = some (.bool false) ∧ s' = s := by
  by_cases hW0 : W = 0
  · have d2 : (((W : Nat) : Int) == 0) = true := by subst hW0; rfl
    have d3 : (((n : Nat) : Int) != 0) = false := by rw [hn hW0]; rfl
    simp only [o9, ct_9, code10, opsOf, List.drop_succ_cons, List.drop_zero, params, wc_skip, wc_region, wc_draw, wc_seq, wc_cond, wc_block, wc_exit, wc_ret, next_normal, next_exit, next_ret, inBlock_normal, inBlock_ret, inBlock_exit, sq_apply, nrm_apply, drawnK_apply, boolV_bool, ccond_true, ccond_false, wo_nil, wo_cons, wo_guard, wop, bindP_some, cont_some, cont_none, guardV_bool, guardV_undef, gcont_true, gcont_false, gcont_false', ret_apply, aggK_apply, putK_apply, resK_apply, boolK_apply, ccont_apply, wd_nil, wd_cons, dvals_apply, dcont_some, dcont_none, AOp.vals, rd_tmp, rd_const, rd_func, get_cons, mapList, mapOpt, Option.bind_some, Option.map_some, Nat.reduceEqDiff, if_true, if_false, reduceIte, reduceCtorEq, wv_mov, wv_pick, wv_alloc, wv_box, wv_build, wv_load, wv_loadn, wv_store, wv_nilCheck, wv_bin, wv_eq, wv_un, wv_convInt, wv_convSame, wv_fieldAddr, wv_field, wv_fieldn, wv_extract, wv_lenSlice, wv_lenString, wv_mkMap, wv_call, callee_func, wv_indexAddr, wv_lookup, wv_mapUpdate, wv_mapEntry, wv_entryStore, wv_delete, wv_append, wv_slice, wv_mkSlice, wv_buildSlice, wv_index, wv_copy, wv_lenMap, Abs.cellAt, Abs.rowAt, Abs.storeAt, Heap.get_put, List.getElem?_cons_zero, List.getElem?_cons_succ, Nat.zero_add, Nat.reduceAdd, idx, and_self, Int.toNat_natCast, cellsAt, ne_eq, not_true_eq_false, not_false_eq_true, cellList, Value.cells, List.length_cons, List.length_nil, List.all_cons, List.all_nil, isCell, Bool.and_self, storeL, List.set_cons_zero, List.set_cons_succ, footOf, true_and, and_true, Nat.reduceLeDiff, Nat.le_refl, Nat.reduceMul, Nat.reduceLT, List.nil_append, List.cons_append, List.length_set, ends_normal, ends_ret, endK_apply, resV_tmp, tupleV, eqV, Bool.not_true, Bool.not_false, BEq.rfl, Bool.true_beq, Bool.false_beq, beq_true, beq_false, Nat.sub_self, List.range'_zero, decide_true, decide_false, List.not_mem_nil, false_implies, implies_true, Bool.true_and, Bool.and_true, drawn, pairOk, disj, quietAt, Bool.bne_false, Bool.bne_true, Bool.false_eq_true, applyUpd, Int.reduceEq, Int.reduceNeg, bin_add, bin_sub, bin_mul, bin_lss, bin_leq, bin_gtr, bin_geq, bin_eql, bin_neq, un_not, wv_cap, wv_appendMake, wv_clear, wv_toString, wv_toBytes, wv_sameB, wv_mkIface, wv_minmax, g13, g14, g113, d2, d3, Bool.false_or, Bool.false_and]
    intro j hj
    simp (disch := omega) only [get_cons, if_neg]
  · have d5 : (((W : Nat) : Int) == 0) = false := by
      have : ¬ ((W : Nat) : Int) = 0 := by omega
      simpa using this
    simp only [o9, ct_9, code10, opsOf, List.drop_succ_cons, List.drop_zero, params, wc_skip, wc_region, wc_draw, wc_seq, wc_cond, wc_block, wc_exit, wc_ret, next_normal, next_exit, next_ret, inBlock_normal, inBlock_ret, inBlock_exit, sq_apply, nrm_apply, drawnK_apply, boolV_bool, ccond_true, ccond_false, wo_nil, wo_cons, wo_guard, wop, bindP_some, cont_some, cont_none, guardV_bool, guardV_undef, gcont_true, gcont_false, gcont_false', ret_apply, aggK_apply, putK_apply, resK_apply, boolK_apply, ccont_apply, wd_nil, wd_cons, dvals_apply, dcont_some, dcont_none, AOp.vals, rd_tmp, rd_const, rd_func, get_cons, mapList, mapOpt, Option.bind_some, Option.map_some, Nat.reduceEqDiff, if_true, if_false, reduceIte, reduceCtorEq, wv_mov, wv_pick, wv_alloc, wv_box, wv_build, wv_load, wv_loadn, wv_store, wv_nilCheck, wv_bin, wv_eq, wv_un, wv_convInt, wv_convSame, wv_fieldAddr, wv_field, wv_fieldn, wv_extract, wv_lenSlice, wv_lenString, wv_mkMap, wv_call, callee_func, wv_indexAddr, wv_lookup, wv_mapUpdate, wv_mapEntry, wv_entryStore, wv_delete, wv_append, wv_slice, wv_mkSlice, wv_buildSlice, wv_index, wv_copy, wv_lenMap, Abs.cellAt, Abs.rowAt, Abs.storeAt, Heap.get_put, List.getElem?_cons_zero, List.getElem?_cons_succ, Nat.zero_add, Nat.reduceAdd, idx, and_self, Int.toNat_natCast, cellsAt, ne_eq, not_true_eq_false, not_false_eq_true, cellList, Value.cells, List.length_cons, List.length_nil, List.all_cons, List.all_nil, isCell, Bool.and_self, storeL, List.set_cons_zero, List.set_cons_succ, footOf, true_and, and_true, Nat.reduceLeDiff, Nat.le_refl, Nat.reduceMul, Nat.reduceLT, List.nil_append, List.cons_append, List.length_set, ends_normal, ends_ret, endK_apply, resV_tmp, tupleV, eqV, Bool.not_true, Bool.not_false, BEq.rfl, Bool.true_beq, Bool.false_beq, beq_true, beq_false, Nat.sub_self, List.range'_zero, decide_true, decide_false, List.not_mem_nil, false_implies, implies_true, Bool.true_and, Bool.and_true, drawn, pairOk, disj, quietAt, Bool.bne_false, Bool.bne_true, Bool.false_eq_true, applyUpd, Int.reduceEq, Int.reduceNeg, bin_add, bin_sub, bin_mul, bin_lss, bin_leq, bin_gtr, bin_geq, bin_eql, bin_neq, un_not, wv_cap, wv_appendMake, wv_clear, wv_toString, wv_toBytes, wv_sameB, wv_mkIface, wv_minmax, g13, g14, g113, d5, Bool.false_or, Bool.false_and]
    intro j hj
    simp (disch := omega) only [get_cons, if_neg]

theorem ct_9_gen {W n : Nat} (hv : NatsV s v6 (endsL G)) (hG : G.length < 1000) (hW : W ≤ G.length) (hn : n = (flatR (G.take W)).length) {x : Option Addr} {c : Nat} (g6 : e.get 6 = some v6) (g12 : e.get 12 = some (.slice x W c)) (g13 : e.get 13 = some (in64 n)) (g14 : e.get 14 = some (in64 W)) :
    WCode (fun k => call tbl ov k) ct_9 e s fun x e' s' => x = .normal ∧ (∀ j, j < 15 → e'.get j = e.get j) ∧ e'.get 121 = some (.bool false) ∧ s' = s := by
  rw [ct_9_eq, wc_cut _ _ 17]
  refine WCode.mono ?_ (c9a_gen hv hG hW hn g6 g12 g13 g14)
  rintro z e1 s1 ⟨rfl, k1, a113, rfl⟩
  rw [next_normal]
  refine WCode.mono ?_ (c9b_gen (fun h => by rw [hn, h]; simp [flatR]) ((k1 13 (by omega)).trans g13) ((k1 14 (by omega)).trans g14) a113)
  rintro z e2 s2 ⟨rfl, k2, b, rfl⟩
  exact ⟨rfl, fun j hj => (k2 j hj).trans (k1 j hj), b, rfl⟩

theorem c_h_gen {W : Nat} (g14 : e.get 14 = some (in64 W)) (g15 : e.get 15 = some (in64 i)) :
    WCode (fun k => call tbl ov k) c_h e s fun x e' s' => x = .normal ∧ (∀ j, j < 16 → e'.get j = e.get j) ∧ e'.get 124 = some (.bool (decide (i < W))) ∧ s' = s := by
  have d1 : decide ((i : Int) < (W : Nat)) = decide (i < W) := by simp
  simp only [c_h, ct_10, code10, params, wc_skip, wc_region, wc_draw, wc_seq, wc_cond, wc_block, wc_exit, wc_ret, next_normal, next_exit, next_ret, inBlock_normal, inBlock_ret, inBlock_exit, sq_apply, nrm_apply, drawnK_apply, boolV_bool, ccond_true, ccond_false, wo_nil, wo_cons, wo_guard, wop, bindP_some, cont_some, cont_none, guardV_bool, guardV_undef, gcont_true, gcont_false, gcont_false', ret_apply, aggK_apply, putK_apply, resK_apply, boolK_apply, ccont_apply, wd_nil, wd_cons, dvals_apply, dcont_some, dcont_none, AOp.vals, rd_tmp, rd_const, rd_func, get_cons, mapList, mapOpt, Option.bind_some, Option.map_some, Nat.reduceEqDiff, if_true, if_false, reduceIte, reduceCtorEq, wv_mov, wv_pick, wv_alloc, wv_box, wv_build, wv_load, wv_loadn, wv_store, wv_nilCheck, wv_bin, wv_eq, wv_un, wv_convInt, wv_convSame, wv_fieldAddr, wv_field, wv_fieldn, wv_extract, wv_lenSlice, wv_lenString, wv_mkMap, wv_call, callee_func, wv_indexAddr, wv_lookup, wv_mapUpdate, wv_mapEntry, wv_entryStore, wv_delete, wv_append, wv_slice, wv_mkSlice, wv_buildSlice, wv_index, wv_copy, wv_lenMap, Abs.cellAt, Abs.rowAt, Abs.storeAt, Heap.get_put, List.getElem?_cons_zero, List.getElem?_cons_succ, Nat.zero_add, Nat.reduceAdd, idx, and_self, Int.toNat_natCast, cellsAt, ne_eq, not_true_eq_false, not_false_eq_true, cellList, Value.cells, List.length_cons, List.length_nil, List.all_cons, List.all_nil, isCell, Bool.and_self, storeL, List.set_cons_zero, List.set_cons_succ, footOf, true_and, and_true, Nat.reduceLeDiff, Nat.le_refl, Nat.reduceMul, Nat.reduceLT, List.nil_append, List.cons_append, List.length_set, ends_normal, ends_ret, endK_apply, resV_tmp, tupleV, eqV, Bool.not_true, Bool.not_false, BEq.rfl, Bool.true_beq, Bool.false_beq, beq_true, beq_false, Nat.sub_self, List.range'_zero, decide_true, decide_false, List.not_mem_nil, false_implies, implies_true, Bool.true_and, Bool.and_true, drawn, pairOk, disj, quietAt, Bool.bne_false, Bool.bne_true, Bool.false_eq_true, applyUpd, Int.reduceEq, Int.reduceNeg, bin_add, bin_sub, bin_mul, bin_lss, bin_leq, bin_gtr, bin_geq, bin_eql, bin_neq, un_not, wv_cap, wv_appendMake, wv_clear, wv_toString, wv_toBytes, wv_sameB, wv_mkIface, wv_minmax, g14, g15, d1]
  intro j hj
  simp (disch := omega) only [get_cons, if_neg]

theorem c_b_gen {M : List FRec} (hv : RecsV s v M) (hw : RecsV s w G) (hi : i < M.length) (hi2 : i < G.length) (he : rG M i = rG G i) (g7 : e.get 7 = some w) (g12 : e.get 12 = some v) (g15 : e.get 15 = some (in64 i)) :
    WCode (fun k => call tbl ov k) c_b e s fun x e' s' => x = .normal ∧ (∀ j, j < 16 → e'.get j = e.get j) ∧ e'.get 135 = some (.bool false) ∧ s' = s := by
  obtain ⟨id, o, cap, c, T, ro, rfl, h3, hle, hrow, _, _⟩ := hv.at hi
  obtain ⟨id', o', cap', c', T', ro', rfl, h3', hle', hrow', _, _⟩ := hw.at hi2
  have d2 : (0 : Int) ≤ i := by omega
  have d3 : (i : Int) < (M.length : Nat) := by omega
  have d4 : (i : Int) < (G.length : Nat) := by omega
  rw [he] at hrow
  have heq : cellsEqK [.int, .int, .string, .string, .int, .int] (rG G i).cells (rG G i).cells = some true := by rw [eq_rec]; simp
  simp only [c_b, ct_10, code10, params, wc_skip, wc_region, wc_draw, wc_seq, wc_cond, wc_block, wc_exit, wc_ret, next_normal, next_exit, next_ret, inBlock_normal, inBlock_ret, inBlock_exit, sq_apply, nrm_apply, drawnK_apply, boolV_bool, ccond_true, ccond_false, wo_nil, wo_cons, wo_guard, wop, bindP_some, cont_some, cont_none, guardV_bool, guardV_undef, gcont_true, gcont_false, gcont_false', ret_apply, aggK_apply, putK_apply, resK_apply, boolK_apply, ccont_apply, wd_nil, wd_cons, dvals_apply, dcont_some, dcont_none, AOp.vals, rd_tmp, rd_const, rd_func, get_cons, mapList, mapOpt, Option.bind_some, Option.map_some, Nat.reduceEqDiff, if_true, if_false, reduceIte, reduceCtorEq, wv_mov, wv_pick, wv_alloc, wv_box, wv_build, wv_load, wv_loadn, wv_store, wv_nilCheck, wv_bin, wv_eq, wv_un, wv_convInt, wv_convSame, wv_fieldAddr, wv_field, wv_fieldn, wv_extract, wv_lenSlice, wv_lenString, wv_mkMap, wv_call, callee_func, wv_indexAddr, wv_lookup, wv_mapUpdate, wv_mapEntry, wv_entryStore, wv_delete, wv_append, wv_slice, wv_mkSlice, wv_buildSlice, wv_index, wv_copy, wv_lenMap, Abs.cellAt, Abs.rowAt, Abs.storeAt, Heap.get_put, List.getElem?_cons_zero, List.getElem?_cons_succ, Nat.zero_add, Nat.reduceAdd, idx, and_self, Int.toNat_natCast, cellsAt, ne_eq, not_true_eq_false, not_false_eq_true, cellList, Value.cells, List.length_cons, List.length_nil, List.all_cons, List.all_nil, isCell, Bool.and_self, storeL, List.set_cons_zero, List.set_cons_succ, footOf, true_and, and_true, Nat.reduceLeDiff, Nat.le_refl, Nat.reduceMul, Nat.reduceLT, List.nil_append, List.cons_append, List.length_set, ends_normal, ends_ret, endK_apply, resV_tmp, tupleV, eqV, Bool.not_true, Bool.not_false, BEq.rfl, Bool.true_beq, Bool.false_beq, beq_true, beq_false, Nat.sub_self, List.range'_zero, decide_true, decide_false, List.not_mem_nil, false_implies, implies_true, Bool.true_and, Bool.and_true, drawn, pairOk, disj, quietAt, Bool.bne_false, Bool.bne_true, Bool.false_eq_true, applyUpd, Int.reduceEq, Int.reduceNeg, bin_add, bin_sub, bin_mul, bin_lss, bin_leq, bin_gtr, bin_geq, bin_eql, bin_neq, un_not, wv_cap, wv_appendMake, wv_clear, wv_toString, wv_toBytes, wv_sameB, wv_mkIface, wv_minmax, g7, g12, g15, d2, d3, d4, h3, h3', hle, hle', hrow, hrow', heq]
  intro j hj
  simp (disch := omega) only [get_cons, if_neg]

theorem c_n_gen (hi : i < 2 ^ 60) (g15 : e.get 15 = some (in64 i)) : WCode (fun k => call tbl ov k) c_n e s fun x e' s' => x = .normal ∧ (∀ j, j < 15 → e'.get j = e.get j) ∧ e'.get 15 = some (in64 (i + 1 : Nat)) ∧ s' = s := by
  have w : IntKind.i64.wrap ((i : Int) + 1) = ((i + 1 : Nat) : Int) := by rw [wrap64 (by omega) (by omega)]; omega
  simp only [c_n, ct_10, code10, params, wc_skip, wc_region, wc_draw, wc_seq, wc_cond, wc_block, wc_exit, wc_ret, next_normal, next_exit, next_ret, inBlock_normal, inBlock_ret, inBlock_exit, sq_apply, nrm_apply, drawnK_apply, boolV_bool, ccond_true, ccond_false, wo_nil, wo_cons, wo_guard, wop, bindP_some, cont_some, cont_none, guardV_bool, guardV_undef, gcont_true, gcont_false, gcont_false', ret_apply, aggK_apply, putK_apply, resK_apply, boolK_apply, ccont_apply, wd_nil, wd_cons, dvals_apply, dcont_some, dcont_none, AOp.vals, rd_tmp, rd_const, rd_func, get_cons, mapList, mapOpt, Option.bind_some, Option.map_some, Nat.reduceEqDiff, if_true, if_false, reduceIte, reduceCtorEq, wv_mov, wv_pick, wv_alloc, wv_box, wv_build, wv_load, wv_loadn, wv_store, wv_nilCheck, wv_bin, wv_eq, wv_un, wv_convInt, wv_convSame, wv_fieldAddr, wv_field, wv_fieldn, wv_extract, wv_lenSlice, wv_lenString, wv_mkMap, wv_call, callee_func, wv_indexAddr, wv_lookup, wv_mapUpdate, wv_mapEntry, wv_entryStore, wv_delete, wv_append, wv_slice, wv_mkSlice, wv_buildSlice, wv_index, wv_copy, wv_lenMap, Abs.cellAt, Abs.rowAt, Abs.storeAt, Heap.get_put, List.getElem?_cons_zero, List.getElem?_cons_succ, Nat.zero_add, Nat.reduceAdd, idx, and_self, Int.toNat_natCast, cellsAt, ne_eq, not_true_eq_false, not_false_eq_true, cellList, Value.cells, List.length_cons, List.length_nil, List.all_cons, List.all_nil, isCell, Bool.and_self, storeL, List.set_cons_zero, List.set_cons_succ, footOf, true_and, and_true, Nat.reduceLeDiff, Nat.le_refl, Nat.reduceMul, Nat.reduceLT, List.nil_append, List.cons_append, List.length_set, ends_normal, ends_ret, endK_apply, resV_tmp, tupleV, eqV, Bool.not_true, Bool.not_false, BEq.rfl, Bool.true_beq, Bool.false_beq, beq_true, beq_false, Nat.sub_self, List.range'_zero, decide_true, decide_false, List.not_mem_nil, false_implies, implies_true, Bool.true_and, Bool.and_true, drawn, pairOk, disj, quietAt, Bool.bne_false, Bool.bne_true, Bool.false_eq_true, applyUpd, Int.reduceEq, Int.reduceNeg, bin_add, bin_sub, bin_mul, bin_lss, bin_leq, bin_gtr, bin_geq, bin_eql, bin_neq, un_not, wv_cap, wv_appendMake, wv_clear, wv_toString, wv_toBytes, wv_sameB, wv_mkIface, wv_minmax, g15, w]
  intro j hj
  simp (disch := omega) only [get_cons, if_neg]

theorem ct_10_gen {M : List FRec} (hv : RecsV s v M) (hw : RecsV s w G) (hle : M.length ≤ G.length) (hG : G.length < 1000) (he : ∀ i, i < M.length → rG M i = rG G i) (g7 : e.get 7 = some w) (g12 : e.get 12 = some v) (g14 : e.get 14 = some (in64 M.length)) :
    WCode (fun k => call tbl ov k) ct_10 e s fun x e' s' => x = .normal ∧ s' = s := by
  rw [ct_10_eq]
  have hi0 : WCode (fun k => call tbl ov k) c_i e s fun x e' s' => x = .normal ∧ (∀ j, j < 15 → e'.get j = e.get j) ∧ e'.get 15 = some (in64 0) ∧ s' = s := by
    simp only [c_i, ct_10, code10, params, wc_skip, wc_region, wc_draw, wc_seq, wc_cond, wc_block, wc_exit, wc_ret, next_normal, next_exit, next_ret, inBlock_normal, inBlock_ret, inBlock_exit, sq_apply, nrm_apply, drawnK_apply, boolV_bool, ccond_true, ccond_false, wo_nil, wo_cons, wo_guard, wop, bindP_some, cont_some, cont_none, guardV_bool, guardV_undef, gcont_true, gcont_false, gcont_false', ret_apply, aggK_apply, putK_apply, resK_apply, boolK_apply, ccont_apply, wd_nil, wd_cons, dvals_apply, dcont_some, dcont_none, AOp.vals, rd_tmp, rd_const, rd_func, get_cons, mapList, mapOpt, Option.bind_some, Option.map_some, Nat.reduceEqDiff, if_true, if_false, reduceIte, reduceCtorEq, wv_mov, wv_pick, wv_alloc, wv_box, wv_build, wv_load, wv_loadn, wv_store, wv_nilCheck, wv_bin, wv_eq, wv_un, wv_convInt, wv_convSame, wv_fieldAddr, wv_field, wv_fieldn, wv_extract, wv_lenSlice, wv_lenString, wv_mkMap, wv_call, callee_func, wv_indexAddr, wv_lookup, wv_mapUpdate, wv_mapEntry, wv_entryStore, wv_delete, wv_append, wv_slice, wv_mkSlice, wv_buildSlice, wv_index, wv_copy, wv_lenMap, Abs.cellAt, Abs.rowAt, Abs.storeAt, Heap.get_put, List.getElem?_cons_zero, List.getElem?_cons_succ, Nat.zero_add, Nat.reduceAdd, idx, and_self, Int.toNat_natCast, cellsAt, ne_eq, not_true_eq_false, not_false_eq_true, cellList, Value.cells, List.length_cons, List.length_nil, List.all_cons, List.all_nil, isCell, Bool.and_self, storeL, List.set_cons_zero, List.set_cons_succ, footOf, true_and, and_true, Nat.reduceLeDiff, Nat.le_refl, Nat.reduceMul, Nat.reduceLT, List.nil_append, List.cons_append, List.length_set, ends_normal, ends_ret, endK_apply, resV_tmp, tupleV, eqV, Bool.not_true, Bool.not_false, BEq.rfl, Bool.true_beq, Bool.false_beq, beq_true, beq_false, Nat.sub_self, List.range'_zero, decide_true, decide_false, List.not_mem_nil, false_implies, implies_true, Bool.true_and, Bool.and_true, drawn, pairOk, disj, quietAt, Bool.bne_false, Bool.bne_true, Bool.false_eq_true, applyUpd, Int.reduceEq, Int.reduceNeg, bin_add, bin_sub, bin_mul, bin_lss, bin_leq, bin_gtr, bin_geq, bin_eql, bin_neq, un_not, wv_cap, wv_appendMake, wv_clear, wv_toString, wv_toBytes, wv_sameB, wv_mkIface, wv_minmax]
    intro j hj
    simp (disch := omega) only [get_cons, if_neg]
  refine wc_then hi0 ?_
  rintro e1 s1 ⟨k1, a15, rfl⟩
  refine wc_for (fun m e' s' => ∃ i, m = M.length - i ∧ i ≤ M.length ∧ e'.get 7 = some w ∧ e'.get 12 = some v ∧ e'.get 14 = some (in64 M.length) ∧ e'.get 15 = some (in64 (i : Nat)) ∧ s' = s1) M.length ?_ ?_
  · exact ⟨0, rfl, by omega, (k1 7 (by omega)).trans g7, (k1 12 (by omega)).trans g12, (k1 14 (by omega)).trans g14, a15, rfl⟩
  · rintro m e2 s2 E ⟨i, rfl, hi, c7, c12, c14, c15, rfl⟩ hE
    have d7 := (hE 7 (by simp)).trans c7
    have d12 := (hE 12 (by simp)).trans c12
    have d14 := (hE 14 (by simp)).trans c14
    have d15 := (hE 15 (by simp)).trans c15
    refine WCode.mono ?_ (c_h_gen d14 d15)
    rintro z e3 s3 ⟨rfl, k3, a124, rfl⟩
    refine ⟨rfl, _, a124, fun hbb => ⟨rfl, rfl⟩, fun hbb => ?_⟩
    simp only [decide_eq_true_eq] at hbb
    refine wc_if ?_
    refine WCode.mono ?_ (c_b_gen hv hw hbb (by omega) (he i hbb) ((k3 7 (by omega)).trans d7) ((k3 12 (by omega)).trans d12) ((k3 15 (by omega)).trans d15))
    rintro z e4 s4 ⟨rfl, k4, a135, rfl⟩
    refine ⟨rfl, _, a135, fun h => absurd h (by decide), fun _ => ?_⟩
    rw [wc_skip]
    refine .inl ⟨.inl rfl, ?_⟩
    refine WCode.mono ?_ (c_n_gen (i := i) (by omega) ((k4 15 (by omega)).trans ((k3 15 (by omega)).trans d15)))
    rintro z e5 s5 ⟨rfl, k5, i15, rfl⟩
    exact ⟨rfl, M.length - (i + 1), by omega, i + 1, rfl, by omega, (k5 7 (by omega)).trans ((k4 7 (by omega)).trans ((k3 7 (by omega)).trans d7)), (k5 12 (by omega)).trans ((k4 12 (by omega)).trans ((k3 12 (by omega)).trans d12)), (k5 14 (by omega)).trans ((k4 14 (by omega)).trans ((k3 14 (by omega)).trans d14)), i15, rfl⟩

theorem ct_11_gen (h23 : tbl 23 = none) (hov : ∀ s, ov 23 [] s = some (.bool true, s)) : WCode (fun k => call tbl ov k) ct_11 e s fun x e' s' => x = .ret ∧ e'.get 4 = some (.bool true) := by
  simp only [ct_11, code10, params, wc_skip, wc_region, wc_draw, wc_seq, wc_cond, wc_block, wc_exit, wc_ret, next_normal, next_exit, next_ret, inBlock_normal, inBlock_ret, inBlock_exit, sq_apply, nrm_apply, drawnK_apply, boolV_bool, ccond_true, ccond_false, wo_nil, wo_cons, wo_guard, wop, bindP_some, cont_some, cont_none, guardV_bool, guardV_undef, gcont_true, gcont_false, gcont_false', ret_apply, aggK_apply, putK_apply, resK_apply, boolK_apply, ccont_apply, wd_nil, wd_cons, dvals_apply, dcont_some, dcont_none, AOp.vals, rd_tmp, rd_const, rd_func, get_cons, mapList, mapOpt, Option.bind_some, Option.map_some, Nat.reduceEqDiff, if_true, if_false, reduceIte, reduceCtorEq, wv_mov, wv_pick, wv_alloc, wv_box, wv_build, wv_load, wv_loadn, wv_store, wv_nilCheck, wv_bin, wv_eq, wv_un, wv_convInt, wv_convSame, wv_fieldAddr, wv_field, wv_fieldn, wv_extract, wv_lenSlice, wv_lenString, wv_mkMap, wv_call, callee_func, wv_indexAddr, wv_lookup, wv_mapUpdate, wv_mapEntry, wv_entryStore, wv_delete, wv_append, wv_slice, wv_mkSlice, wv_buildSlice, wv_index, wv_copy, wv_lenMap, Abs.cellAt, Abs.rowAt, Abs.storeAt, Heap.get_put, List.getElem?_cons_zero, List.getElem?_cons_succ, Nat.zero_add, Nat.reduceAdd, idx, and_self, Int.toNat_natCast, cellsAt, ne_eq, not_true_eq_false, not_false_eq_true, cellList, Value.cells, List.length_cons, List.length_nil, List.all_cons, List.all_nil, isCell, Bool.and_self, storeL, List.set_cons_zero, List.set_cons_succ, footOf, true_and, and_true, Nat.reduceLeDiff, Nat.le_refl, Nat.reduceMul, Nat.reduceLT, List.nil_append, List.cons_append, List.length_set, ends_normal, ends_ret, endK_apply, resV_tmp, tupleV, eqV, Bool.not_true, Bool.not_false, BEq.rfl, Bool.true_beq, Bool.false_beq, beq_true, beq_false, Nat.sub_self, List.range'_zero, decide_true, decide_false, List.not_mem_nil, false_implies, implies_true, Bool.true_and, Bool.and_true, drawn, pairOk, disj, quietAt, Bool.bne_false, Bool.bne_true, Bool.false_eq_true, applyUpd, Int.reduceEq, Int.reduceNeg, bin_add, bin_sub, bin_mul, bin_lss, bin_leq, bin_gtr, bin_geq, bin_eql, bin_neq, un_not, wv_cap, wv_appendMake, wv_clear, wv_toString, wv_toBytes, wv_sameB, wv_mkIface, wv_minmax]
  refine WCall.ov h23 (hov _) ?_
  simp only [params, wc_skip, wc_region, wc_draw, wc_seq, wc_cond, wc_block, wc_exit, wc_ret, next_normal, next_exit, next_ret, inBlock_normal, inBlock_ret, inBlock_exit, sq_apply, nrm_apply, drawnK_apply, boolV_bool, ccond_true, ccond_false, wo_nil, wo_cons, wo_guard, wop, bindP_some, cont_some, cont_none, guardV_bool, guardV_undef, gcont_true, gcont_false, gcont_false', ret_apply, aggK_apply, putK_apply, resK_apply, boolK_apply, ccont_apply, wd_nil, wd_cons, dvals_apply, dcont_some, dcont_none, AOp.vals, rd_tmp, rd_const, rd_func, get_cons, mapList, mapOpt, Option.bind_some, Option.map_some, Nat.reduceEqDiff, if_true, if_false, reduceIte, reduceCtorEq, wv_mov, wv_pick, wv_alloc, wv_box, wv_build, wv_load, wv_loadn, wv_store, wv_nilCheck, wv_bin, wv_eq, wv_un, wv_convInt, wv_convSame, wv_fieldAddr, wv_field, wv_fieldn, wv_extract, wv_lenSlice, wv_lenString, wv_mkMap, wv_call, callee_func, wv_indexAddr, wv_lookup, wv_mapUpdate, wv_mapEntry, wv_entryStore, wv_delete, wv_append, wv_slice, wv_mkSlice, wv_buildSlice, wv_index, wv_copy, wv_lenMap, Abs.cellAt, Abs.rowAt, Abs.storeAt, Heap.get_put, List.getElem?_cons_zero, List.getElem?_cons_succ, Nat.zero_add, Nat.reduceAdd, idx, and_self, Int.toNat_natCast, cellsAt, ne_eq, not_true_eq_false, not_false_eq_true, cellList, Value.cells, List.length_cons, List.length_nil, List.all_cons, List.all_nil, isCell, Bool.and_self, storeL, List.set_cons_zero, List.set_cons_succ, footOf, true_and, and_true, Nat.reduceLeDiff, Nat.le_refl, Nat.reduceMul, Nat.reduceLT, List.nil_append, List.cons_append, List.length_set, ends_normal, ends_ret, endK_apply, resV_tmp, tupleV, eqV, Bool.not_true, Bool.not_false, BEq.rfl, Bool.true_beq, Bool.false_beq, beq_true, beq_false, Nat.sub_self, List.range'_zero, decide_true, decide_false, List.not_mem_nil, false_implies, implies_true, Bool.true_and, Bool.and_true, drawn, pairOk, disj, quietAt, Bool.bne_false, Bool.bne_true, Bool.false_eq_true, applyUpd, Int.reduceEq, Int.reduceNeg, bin_add, bin_sub, bin_mul, bin_lss, bin_leq, bin_gtr, bin_geq, bin_eql, bin_neq, un_not, wv_cap, wv_appendMake, wv_clear, wv_toString, wv_toBytes, wv_sameB, wv_mkIface, wv_minmax]

theorem start_gen (g0 : e.get 0 = some v) (g1 : e.get 1 = some a1) {cc : ACode} {Q : AExit → Env → St → Prop}
    (hq : ∀ (e' : Env) s' v5 v6 v7, e'.get 0 = some v → e'.get 1 = some a1 → e'.get 5 = some v5 → e'.get 6 = some v6 → e'.get 7 = some v7 → Trio s s' v5 v6 v7 [] → WCode (fun k => call tbl ov k) cc e' s' Q) :
    WCode (fun k => call tbl ov k) (.seq ct_0 (.seq ct_1 (.seq ct_2 (.seq ct_3 cc)))) e s Q := by
  have h0 : WCode (fun k => call tbl ov k) ct_0 e s fun x e' s' => x = .normal ∧ (∀ j, j < 4 → e'.get j = e.get j) ∧ s' = s := by
    simp only [ct_0, code10, params, wc_skip, wc_region, wc_draw, wc_seq, wc_cond, wc_block, wc_exit, wc_ret, next_normal, next_exit, next_ret, inBlock_normal, inBlock_ret, inBlock_exit, sq_apply, nrm_apply, drawnK_apply, boolV_bool, ccond_true, ccond_false, wo_nil, wo_cons, wo_guard, wop, bindP_some, cont_some, cont_none, guardV_bool, guardV_undef, gcont_true, gcont_false, gcont_false', ret_apply, aggK_apply, putK_apply, resK_apply, boolK_apply, ccont_apply, wd_nil, wd_cons, dvals_apply, dcont_some, dcont_none, AOp.vals, rd_tmp, rd_const, rd_func, get_cons, mapList, mapOpt, Option.bind_some, Option.map_some, Nat.reduceEqDiff, if_true, if_false, reduceIte, reduceCtorEq, wv_mov, wv_pick, wv_alloc, wv_box, wv_build, wv_load, wv_loadn, wv_store, wv_nilCheck, wv_bin, wv_eq, wv_un, wv_convInt, wv_convSame, wv_fieldAddr, wv_field, wv_fieldn, wv_extract, wv_lenSlice, wv_lenString, wv_mkMap, wv_call, callee_func, wv_indexAddr, wv_lookup, wv_mapUpdate, wv_mapEntry, wv_entryStore, wv_delete, wv_append, wv_slice, wv_mkSlice, wv_buildSlice, wv_index, wv_copy, wv_lenMap, Abs.cellAt, Abs.rowAt, Abs.storeAt, Heap.get_put, List.getElem?_cons_zero, List.getElem?_cons_succ, Nat.zero_add, Nat.reduceAdd, idx, and_self, Int.toNat_natCast, cellsAt, ne_eq, not_true_eq_false, not_false_eq_true, cellList, Value.cells, List.length_cons, List.length_nil, List.all_cons, List.all_nil, isCell, Bool.and_self, storeL, List.set_cons_zero, List.set_cons_succ, footOf, true_and, and_true, Nat.reduceLeDiff, Nat.le_refl, Nat.reduceMul, Nat.reduceLT, List.nil_append, List.cons_append, List.length_set, ends_normal, ends_ret, endK_apply, resV_tmp, tupleV, eqV, Bool.not_true, Bool.not_false, BEq.rfl, Bool.true_beq, Bool.false_beq, beq_true, beq_false, Nat.sub_self, List.range'_zero, decide_true, decide_false, List.not_mem_nil, false_implies, implies_true, Bool.true_and, Bool.and_true, drawn, pairOk, disj, quietAt, Bool.bne_false, Bool.bne_true, Bool.false_eq_true, applyUpd, Int.reduceEq, Int.reduceNeg, bin_add, bin_sub, bin_mul, bin_lss, bin_leq, bin_gtr, bin_geq, bin_eql, bin_neq, un_not, wv_cap, wv_appendMake, wv_clear, wv_toString, wv_toBytes, wv_sameB, wv_mkIface, wv_minmax]
    intro j hj
    simp (disch := omega) only [get_cons, if_neg]
  refine wc_then h0 ?_
  rintro e1 s1 ⟨k1, rfl⟩
  have h1 : WCode (fun k => call tbl ov k) ct_1 e1 s1 fun x e' s' => x = .normal ∧ (∀ j, j < 4 → e'.get j = e1.get j) ∧ e'.get 5 = some (.slice (some ⟨s1.next, 0, none⟩) 0 0) ∧ s' = ⟨s1.heap.put s1.next (some (.cells [] 5 1 false)), s1.next + 1⟩ := by
    simp only [ct_1, code10, params, wc_skip, wc_region, wc_draw, wc_seq, wc_cond, wc_block, wc_exit, wc_ret, next_normal, next_exit, next_ret, inBlock_normal, inBlock_ret, inBlock_exit, sq_apply, nrm_apply, drawnK_apply, boolV_bool, ccond_true, ccond_false, wo_nil, wo_cons, wo_guard, wop, bindP_some, cont_some, cont_none, guardV_bool, guardV_undef, gcont_true, gcont_false, gcont_false', ret_apply, aggK_apply, putK_apply, resK_apply, boolK_apply, ccont_apply, wd_nil, wd_cons, dvals_apply, dcont_some, dcont_none, AOp.vals, rd_tmp, rd_const, rd_func, get_cons, mapList, mapOpt, Option.bind_some, Option.map_some, Nat.reduceEqDiff, if_true, if_false, reduceIte, reduceCtorEq, wv_mov, wv_pick, wv_alloc, wv_box, wv_build, wv_load, wv_loadn, wv_store, wv_nilCheck, wv_bin, wv_eq, wv_un, wv_convInt, wv_convSame, wv_fieldAddr, wv_field, wv_fieldn, wv_extract, wv_lenSlice, wv_lenString, wv_mkMap, wv_call, callee_func, wv_indexAddr, wv_lookup, wv_mapUpdate, wv_mapEntry, wv_entryStore, wv_delete, wv_append, wv_slice, wv_mkSlice, wv_buildSlice, wv_index, wv_copy, wv_lenMap, Abs.cellAt, Abs.rowAt, Abs.storeAt, Heap.get_put, List.getElem?_cons_zero, List.getElem?_cons_succ, Nat.zero_add, Nat.reduceAdd, idx, and_self, Int.toNat_natCast, cellsAt, ne_eq, not_true_eq_false, not_false_eq_true, cellList, Value.cells, List.length_cons, List.length_nil, List.all_cons, List.all_nil, isCell, Bool.and_self, storeL, List.set_cons_zero, List.set_cons_succ, footOf, true_and, and_true, Nat.reduceLeDiff, Nat.le_refl, Nat.reduceMul, Nat.reduceLT, List.nil_append, List.cons_append, List.length_set, ends_normal, ends_ret, endK_apply, resV_tmp, tupleV, eqV, Bool.not_true, Bool.not_false, BEq.rfl, Bool.true_beq, Bool.false_beq, beq_true, beq_false, Nat.sub_self, List.range'_zero, decide_true, decide_false, List.not_mem_nil, false_implies, implies_true, Bool.true_and, Bool.and_true, drawn, pairOk, disj, quietAt, Bool.bne_false, Bool.bne_true, Bool.false_eq_true, applyUpd, Int.reduceEq, Int.reduceNeg, bin_add, bin_sub, bin_mul, bin_lss, bin_leq, bin_gtr, bin_geq, bin_eql, bin_neq, un_not, wv_cap, wv_appendMake, wv_clear, wv_toString, wv_toBytes, wv_sameB, wv_mkIface, wv_minmax, ev_buildSlice, fillL, mapParts]
    intro j hj
    simp (disch := omega) only [get_cons, if_neg]
  refine wc_then h1 ?_
  rintro e2 s2 ⟨k2, c5, hs2⟩
  have h2 : WCode (fun k => call tbl ov k) ct_2 e2 s2 fun x e' s' => x = .normal ∧ (∀ j, j < 6 → e'.get j = e2.get j) ∧ e'.get 6 = some (.slice (some ⟨s2.next, 0, none⟩) 0 0) ∧ s' = ⟨s2.heap.put s2.next (some (.cells [] 3 1 false)), s2.next + 1⟩ := by
    simp only [ct_2, code10, params, wc_skip, wc_region, wc_draw, wc_seq, wc_cond, wc_block, wc_exit, wc_ret, next_normal, next_exit, next_ret, inBlock_normal, inBlock_ret, inBlock_exit, sq_apply, nrm_apply, drawnK_apply, boolV_bool, ccond_true, ccond_false, wo_nil, wo_cons, wo_guard, wop, bindP_some, cont_some, cont_none, guardV_bool, guardV_undef, gcont_true, gcont_false, gcont_false', ret_apply, aggK_apply, putK_apply, resK_apply, boolK_apply, ccont_apply, wd_nil, wd_cons, dvals_apply, dcont_some, dcont_none, AOp.vals, rd_tmp, rd_const, rd_func, get_cons, mapList, mapOpt, Option.bind_some, Option.map_some, Nat.reduceEqDiff, if_true, if_false, reduceIte, reduceCtorEq, wv_mov, wv_pick, wv_alloc, wv_box, wv_build, wv_load, wv_loadn, wv_store, wv_nilCheck, wv_bin, wv_eq, wv_un, wv_convInt, wv_convSame, wv_fieldAddr, wv_field, wv_fieldn, wv_extract, wv_lenSlice, wv_lenString, wv_mkMap, wv_call, callee_func, wv_indexAddr, wv_lookup, wv_mapUpdate, wv_mapEntry, wv_entryStore, wv_delete, wv_append, wv_slice, wv_mkSlice, wv_buildSlice, wv_index, wv_copy, wv_lenMap, Abs.cellAt, Abs.rowAt, Abs.storeAt, Heap.get_put, List.getElem?_cons_zero, List.getElem?_cons_succ, Nat.zero_add, Nat.reduceAdd, idx, and_self, Int.toNat_natCast, cellsAt, ne_eq, not_true_eq_false, not_false_eq_true, cellList, Value.cells, List.length_cons, List.length_nil, List.all_cons, List.all_nil, isCell, Bool.and_self, storeL, List.set_cons_zero, List.set_cons_succ, footOf, true_and, and_true, Nat.reduceLeDiff, Nat.le_refl, Nat.reduceMul, Nat.reduceLT, List.nil_append, List.cons_append, List.length_set, ends_normal, ends_ret, endK_apply, resV_tmp, tupleV, eqV, Bool.not_true, Bool.not_false, BEq.rfl, Bool.true_beq, Bool.false_beq, beq_true, beq_false, Nat.sub_self, List.range'_zero, decide_true, decide_false, List.not_mem_nil, false_implies, implies_true, Bool.true_and, Bool.and_true, drawn, pairOk, disj, quietAt, Bool.bne_false, Bool.bne_true, Bool.false_eq_true, applyUpd, Int.reduceEq, Int.reduceNeg, bin_add, bin_sub, bin_mul, bin_lss, bin_leq, bin_gtr, bin_geq, bin_eql, bin_neq, un_not, wv_cap, wv_appendMake, wv_clear, wv_toString, wv_toBytes, wv_sameB, wv_mkIface, wv_minmax, ev_buildSlice, fillL, mapParts]
    intro j hj
    simp (disch := omega) only [get_cons, if_neg]
  refine wc_then h2 ?_
  rintro e3 s3 ⟨k3, c6, hs3⟩
  have h3 : WCode (fun k => call tbl ov k) ct_3 e3 s3 fun x e' s' => x = .normal ∧ (∀ j, j < 7 → e'.get j = e3.get j) ∧ e'.get 7 = some (.slice (some ⟨s3.next, 0, none⟩) 0 0) ∧ s' = ⟨s3.heap.put s3.next (some (.cells [] 50 6 false)), s3.next + 1⟩ := by
    simp only [ct_3, code10, params, wc_skip, wc_region, wc_draw, wc_seq, wc_cond, wc_block, wc_exit, wc_ret, next_normal, next_exit, next_ret, inBlock_normal, inBlock_ret, inBlock_exit, sq_apply, nrm_apply, drawnK_apply, boolV_bool, ccond_true, ccond_false, wo_nil, wo_cons, wo_guard, wop, bindP_some, cont_some, cont_none, guardV_bool, guardV_undef, gcont_true, gcont_false, gcont_false', ret_apply, aggK_apply, putK_apply, resK_apply, boolK_apply, ccont_apply, wd_nil, wd_cons, dvals_apply, dcont_some, dcont_none, AOp.vals, rd_tmp, rd_const, rd_func, get_cons, mapList, mapOpt, Option.bind_some, Option.map_some, Nat.reduceEqDiff, if_true, if_false, reduceIte, reduceCtorEq, wv_mov, wv_pick, wv_alloc, wv_box, wv_build, wv_load, wv_loadn, wv_store, wv_nilCheck, wv_bin, wv_eq, wv_un, wv_convInt, wv_convSame, wv_fieldAddr, wv_field, wv_fieldn, wv_extract, wv_lenSlice, wv_lenString, wv_mkMap, wv_call, callee_func, wv_indexAddr, wv_lookup, wv_mapUpdate, wv_mapEntry, wv_entryStore, wv_delete, wv_append, wv_slice, wv_mkSlice, wv_buildSlice, wv_index, wv_copy, wv_lenMap, Abs.cellAt, Abs.rowAt, Abs.storeAt, Heap.get_put, List.getElem?_cons_zero, List.getElem?_cons_succ, Nat.zero_add, Nat.reduceAdd, idx, and_self, Int.toNat_natCast, cellsAt, ne_eq, not_true_eq_false, not_false_eq_true, cellList, Value.cells, List.length_cons, List.length_nil, List.all_cons, List.all_nil, isCell, Bool.and_self, storeL, List.set_cons_zero, List.set_cons_succ, footOf, true_and, and_true, Nat.reduceLeDiff, Nat.le_refl, Nat.reduceMul, Nat.reduceLT, List.nil_append, List.cons_append, List.length_set, ends_normal, ends_ret, endK_apply, resV_tmp, tupleV, eqV, Bool.not_true, Bool.not_false, BEq.rfl, Bool.true_beq, Bool.false_beq, beq_true, beq_false, Nat.sub_self, List.range'_zero, decide_true, decide_false, List.not_mem_nil, false_implies, implies_true, Bool.true_and, Bool.and_true, drawn, pairOk, disj, quietAt, Bool.bne_false, Bool.bne_true, Bool.false_eq_true, applyUpd, Int.reduceEq, Int.reduceNeg, bin_add, bin_sub, bin_mul, bin_lss, bin_leq, bin_gtr, bin_geq, bin_eql, bin_neq, un_not, wv_cap, wv_appendMake, wv_clear, wv_toString, wv_toBytes, wv_sameB, wv_mkIface, wv_minmax, ev_buildSlice, fillL, mapParts]
    intro j hj
    simp (disch := omega) only [get_cons, if_neg]
  refine wc_then h3 ?_
  rintro e4 s4 ⟨k4, c7, hs4⟩
  have p1 := put_kept s1 (some (.cells [] 5 1 false))
  have p2 := put_kept s2 (some (.cells [] 3 1 false))
  have p3 := put_kept s3 (some (.cells [] 50 6 false))
  rw [← hs2] at p1
  rw [← hs3] at p2
  rw [← hs4] at p3
  have b1 : BytesO 5 s2 (.slice (some ⟨s1.next, 0, none⟩) 0 0) (flatR []) [s1.next] := ⟨by simp [flatR], .inr ⟨s1.next, 0, 0, [], rfl, rfl, Nat.le_refl _, by rw [hs2]; exact Nat.lt_succ_self _, by rw [hs2]; simp only [Heap.get_put, if_true], Nat.le_refl _, rfl⟩⟩
  have b2 : RowsO 3 1 s3 (.slice (some ⟨s2.next, 0, none⟩) 0 0) ((endsL []).map fun n : Nat => [in64 (n : Int)]) [s2.next] := ⟨by simp [endsL], .inr ⟨s2.next, 0, 0, [], rfl, rfl, Nat.le_refl _, by rw [hs3]; exact Nat.lt_succ_self _, by rw [hs3]; simp only [Heap.get_put, if_true], Nat.le_refl _, rfl⟩⟩
  have b3 : RowsO 50 6 s4 (.slice (some ⟨s3.next, 0, none⟩) 0 0) (([] : List FRec).map FRec.cells) [s3.next] := ⟨by simp, .inr ⟨s3.next, 0, 0, [], rfl, rfl, Nat.le_refl _, by rw [hs4]; exact Nat.lt_succ_self _, by rw [hs4]; simp only [Heap.get_put, if_true], Nat.le_refl _, rfl⟩⟩
  have n2 : s2.next = s1.next + 1 := by rw [hs2]
  have n3 : s3.next = s2.next + 1 := by rw [hs3]
  refine hq e4 s4 _ _ _ ?_ ?_ ((k4 5 (by omega)).trans ((k3 5 (by omega)).trans c5)) ((k4 6 (by omega)).trans c6) c7 ⟨[s1.next], [s2.next], [s3.next], (b1.kept p2 (fun _ _ => by simp)).kept p3 (fun _ _ => by simp), b2.kept p3 (fun _ _ => by simp), b3, by simp, by simp; omega, by simp; omega, by simp; omega, by simp; omega, by simp; omega, (p1.trans p2).trans p3⟩
  · exact (k4 0 (by omega)).trans ((k3 0 (by omega)).trans ((k2 0 (by omega)).trans ((k1 0 (by omega)).trans g0)))
  · exact (k4 1 (by omega)).trans ((k3 1 (by omega)).trans ((k2 1 (by omega)).trans ((k1 1 (by omega)).trans g1)))

theorem law10 (T : FrameTbl tbl) (h10 : tbl 10 = some fun10) (h23 : tbl 23 = none) (hov : ∀ s, ov 23 [] s = some (.bool true, s)) {c : Int} (hc : 0 ≤ c ∧ c ≤ 65535) (hv : RecsV s v L) (hL : ∀ i, i < L.length → (rG L i).Wide) :
    WCall (fun k => call tbl ov k) 10 [v, .int .u16 c] s fun v _ => v = .bool true := by
  refine WCall.of h10 rfl ?_
  simp only [fun10, code10_eq, params]
  have hfin : ∀ z (e' : Env) s', (z = AExit.ret ∧ e'.get 4 = some (.bool true)) → ends [.tmp 4] (fun v _ => v = .bool true) z e' s' := by
    rintro z e' s' ⟨rfl, g⟩
    rw [ends_ret]
    simp only [mapList, resV_tmp, g, bindP_some, Option.bind_some, Option.map_some, endK_apply, tupleV]
  refine start_gen rfl rfl ?_
  intro e1 s1 v5 v6 v7 g0 g1 g5 g6 g7 ht
  refine wc_then (ct_4_gen T hv hL ht g0 g1 g5 g6 g7) ?_
  rintro e2 s2 ⟨a1, G, u5, u6, u7, hG, hGl, a5, a6, a7, ht2⟩
  obtain ⟨S5, S6, S7, h5, h6, h7, _, _, _, _, _, _, hk0⟩ := ht2
  have hsm := flatR_small G (fun r hr => (hG r hr).1)
  refine wc_then (ct_5_gen hc h5.toV (by omega) a1 a5) ?_
  rintro e3 s3 ⟨k3, ⟨k, hk, b11⟩, rfl⟩
  refine wc_then (ct_6_gen T h5.toV (by omega) hk ((k3 5 (by omega)).trans a5) b11) ?_
  rintro e4 s4 ⟨k4, hk4, w, S, c12, c13, ho⟩
  have hscan := scan_cut G [] k k hG (Nat.zero_le _) (by rw [List.length_nil]; omega) (by omega)
  simp only [List.nil_append, List.length_nil, Nat.zero_add] at hscan
  rw [hscan] at c13 ho
  simp only at c13 ho
  have hwl := wantL_le G 0 k
  generalize hW : wantL 0 G k = W at *
  have hMl : (G.take W).length = W := by rw [List.length_take]; omega
  have hM := RowsO.recs ho
  have hnv : NatsV s4 u6 (endsL G) := ⟨S6, h6.kept hk4 (fun _ _ => by simp)⟩
  have hgv : RecsV s4 u7 G := RowsO.recs (h7.kept hk4 (fun _ _ => by simp))
  obtain ⟨xa, xc, rfl⟩ := hM.len
  rw [hMl] at c12
  have h7' : WCode (fun k => call tbl ov k) ct_7 e4 s4 fun x e' s' => x = .normal ∧ (∀ j, j < 14 → e'.get j = e4.get j) ∧ e'.get 14 = some (in64 0) ∧ s' = s4 := by
    simp only [ct_7, code10, params, wc_skip, wc_region, wc_draw, wc_seq, wc_cond, wc_block, wc_exit, wc_ret, next_normal, next_exit, next_ret, inBlock_normal, inBlock_ret, inBlock_exit, sq_apply, nrm_apply, drawnK_apply, boolV_bool, ccond_true, ccond_false, wo_nil, wo_cons, wo_guard, wop, bindP_some, cont_some, cont_none, guardV_bool, guardV_undef, gcont_true, gcont_false, gcont_false', ret_apply, aggK_apply, putK_apply, resK_apply, boolK_apply, ccont_apply, wd_nil, wd_cons, dvals_apply, dcont_some, dcont_none, AOp.vals, rd_tmp, rd_const, rd_func, get_cons, mapList, mapOpt, Option.bind_some, Option.map_some, Nat.reduceEqDiff, if_true, if_false, reduceIte, reduceCtorEq, wv_mov, wv_pick, wv_alloc, wv_box, wv_build, wv_load, wv_loadn, wv_store, wv_nilCheck, wv_bin, wv_eq, wv_un, wv_convInt, wv_convSame, wv_fieldAddr, wv_field, wv_fieldn, wv_extract, wv_lenSlice, wv_lenString, wv_mkMap, wv_call, callee_func, wv_indexAddr, wv_lookup, wv_mapUpdate, wv_mapEntry, wv_entryStore, wv_delete, wv_append, wv_slice, wv_mkSlice, wv_buildSlice, wv_index, wv_copy, wv_lenMap, Abs.cellAt, Abs.rowAt, Abs.storeAt, Heap.get_put, List.getElem?_cons_zero, List.getElem?_cons_succ, Nat.zero_add, Nat.reduceAdd, idx, and_self, Int.toNat_natCast, cellsAt, ne_eq, not_true_eq_false, not_false_eq_true, cellList, Value.cells, List.length_cons, List.length_nil, List.all_cons, List.all_nil, isCell, Bool.and_self, storeL, List.set_cons_zero, List.set_cons_succ, footOf, true_and, and_true, Nat.reduceLeDiff, Nat.le_refl, Nat.reduceMul, Nat.reduceLT, List.nil_append, List.cons_append, List.length_set, ends_normal, ends_ret, endK_apply, resV_tmp, tupleV, eqV, Bool.not_true, Bool.not_false, BEq.rfl, Bool.true_beq, Bool.false_beq, beq_true, beq_false, Nat.sub_self, List.range'_zero, decide_true, decide_false, List.not_mem_nil, false_implies, implies_true, Bool.true_and, Bool.and_true, drawn, pairOk, disj, quietAt, Bool.bne_false, Bool.bne_true, Bool.false_eq_true, applyUpd, Int.reduceEq, Int.reduceNeg, bin_add, bin_sub, bin_mul, bin_lss, bin_leq, bin_gtr, bin_geq, bin_eql, bin_neq, un_not, wv_cap, wv_appendMake, wv_clear, wv_toString, wv_toBytes, wv_sameB, wv_mkIface, wv_minmax]
    intro j hj
    simp (disch := omega) only [get_cons, if_neg]
  refine wc_then h7' ?_
  rintro e5 s5 ⟨k5, d14, rfl⟩
  have f6 := (k5 6 (by omega)).trans ((k4 6 (by omega)).trans ((k3 6 (by omega)).trans a6))
  have f7 := (k5 7 (by omega)).trans ((k4 7 (by omega)).trans ((k3 7 (by omega)).trans a7))
  have f11 := (k5 11 (by omega)).trans ((k4 11 (by omega)).trans b11)
  have f12 := (k5 12 (by omega)).trans c12
  have f13 := (k5 13 (by omega)).trans c13
  refine wc_then (ct_8_gen hnv (by omega) f6 f7 f11 f12 f13 d14) ?_
  rintro e6 s6 ⟨m6, m7, m12, m13, m14, rfl⟩
  rw [hW] at m14
  have hfl := flatR_take_le G W
  rw [wc_seq]
  refine wc_if ?_
  refine WCode.mono ?_ (ct_9_gen hnv (by omega) hwl rfl m6 m12 m13 m14)
  rintro z e7 s7 ⟨rfl, k7, n121, rfl⟩
  refine ⟨rfl, _, n121, fun h => absurd h (by decide), fun _ => ?_⟩
  rw [wc_skip, next_normal, sq_apply]
  rw [hMl] at hM
  refine wc_then (ct_10_gen (M := G.take W) hM hgv (by omega) (by omega) (fun i hi => ?_) ((k7 7 (by omega)).trans m7) ((k7 12 (by omega)).trans m12) (by rw [hMl]; exact (k7 14 (by omega)).trans m14)) ?_
  · show (G.take W).getD i _ = G.getD i _
    simp only [List.getD_eq_getElem?_getD]
    rw [List.getElem?_take, if_pos (by omega)]
  rintro e8 s8 rfl
  exact WCode.mono hfin (ct_11_gen h23 hov)

end
end Go.Proofs.Ytaigiehdnhehnaa
