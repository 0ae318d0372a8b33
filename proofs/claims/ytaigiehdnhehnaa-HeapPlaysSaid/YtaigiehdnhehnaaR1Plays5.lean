/-
  HeapPlays: one act as a whole, all acts, the law.
-/
import Derived.Test.YtaigiehdnhehnaaR1Plays4
set_option maxRecDepth 100000
set_option linter.unusedVariables false
set_option linter.unusedSimpArgs false
namespace Go.Proofs.Ytaigiehdnhehnaa
open Go Go.Abs

section
variable {tbl : FuncId → Option AFun} {ov : CallSem} {s s0 : St} {e : Env} {v v0 : Value} {A : List (List Value)} {i p : Nat} {w id key : Int}

/-- What an act leaves: the list's new value and the agreement. -/
def ActPost (e : Env) (v0 : Value) (s0 : St) (p i : Nat) (x : AExit) (e' : Env) (s' : St) : Prop :=
  x = .normal ∧ e'.get 0 = some v0 ∧ e'.get 3 = some (ptr p) ∧ e'.get 5 = some (ik i) ∧ ∃ v', e'.get 4 = some v' ∧ PInv s0 s' p v' (i + 1)

theorem Pend_gen (T : PlayTbl tbl) {v : Value} {P L : List Node} {S S4 : List Nat} {wk : Int} {c n : Nat} {e e0 : Env} (hn : s0.next ≤ s.next) (h : HP s p S L (addW c wk)) (ho : Ord L) (hr : RowsO 41 2 s v (P.map pc) S4) (hu : Uniq P) (hmem : ∀ n, n ∈ P ↔ n ∈ L) (hLP : L.length = P.length)
    (hw0 : 0 ≤ wk) (hw1 : wk ≤ 1000 * i) (hi : i < 150) (hc : c ≤ 3 * bitsN n) (hni : n ≤ i + 1) (hP : P.length ≤ i + 1) (hd : ∀ x ∈ S, x ∉ S4) (hS : ∀ x ∈ S, s0.next ≤ x) (hS4 : ∀ x ∈ S4, s0.next ≤ x) (hk : Kept [] s0 s)
    (g0 : e.get 0 = some v0) (g3 : e.get 3 = some (ptr p)) (g4 : e.get 4 = some v) (g5 : e.get 5 = some (ik i)) (g8 : e.get 8 = some (ik wk)) (g9 : e.get 9 = some (ik n)) :
    WCode (fun k => call tbl ov k) (.seq (.seq Pb_5 (.cond (.tmp 108) Pb_5t .skip)) (.seq Pb_6 (.seq Pb_7 Pt))) e s (ActPost e0 v0 s0 p i) := by
  have hbn := bitsN_le n
  have hadd := addW_eq c wk hw0 (by omega)
  rw [hadd] at h
  refine WCode.mono ?_ (Prest_gen T (c := c) h ho hr hu hmem hLP ⟨hw0, by omega⟩ (by omega) (by omega) (by omega) g0 g3 g4 g5 g8 g9)
  rintro z e1 s1 ⟨rfl, b0, b3, b4, b5, rfl⟩
  exact ⟨rfl, b0, b3, b5, v, b4, S, L, S4, P, _, h, ho, hr, hu, hmem, hLP, hP, by omega, by omega, hd, hS, hS4, hk⟩

theorem Pact_gen (T : PlayTbl tbl) (hv3 : RowV 3 s v0 A) (hi : i < A.length) (hA : A.getD i [] = [ik w, ik id, ik key]) (hi2 : i < 150) (hI : PInv s0 s p v i)
    (g0 : e.get 0 = some v0) (g3 : e.get 3 = some (ptr p)) (g4 : e.get 4 = some v) (g5 : e.get 5 = some (ik i)) :
    WCode (fun k => call tbl ov k) Py_b e s (ActPost e v0 s0 p i) := by
  obtain ⟨S, L, S4, P, wk, h, ho, hr, hu, hmem, hLP, hPi, hw0, hw1, hd, hS, hS4, hk⟩ := hI
  have hbn := bitsN_le P.length
  rw [Py_b_eq]
  refine wc_then (Pb_0_gen hv3 hi hA g0 g5) ?_
  rintro e1 s1 ⟨k1, q, a6, hq, hq1, hq2, hk1⟩
  have h1 := h.frame (T := []) hk1 (by simp)
  have hr1 := hr.kept hk1 (by simp)
  have hlt := h.lt
  have hlt4 := hr.lt
  have hk01 := hk.comp hk1 (by simp)
  have hqS : q ∉ S := fun hm => by have := hlt q hm; omega
  have hqS4 : q ∉ S4 := fun hm => by have := hlt4 q hm; omega
  refine wc_then (Pb_1_gen T.h19 hr1.toV (by omega) hq ((k1 4 (by omega)).trans g4) a6) ?_
  rintro e2 s2 ⟨k2, ⟨u, a7, hu7⟩, rfl⟩
  have b3 := (k2 3 (by omega)).trans ((k1 3 (by omega)).trans g3)
  have b4 := (k2 4 (by omega)).trans ((k1 4 (by omega)).trans g4)
  refine wc_then (Pb_2_gen T.h20 h1 hr1.toV b3 b4) ?_
  rintro e3 s3 ⟨k3, a8, a9, rfl⟩
  have c0 := (k3 0 (by omega)).trans ((k2 0 (by omega)).trans ((k1 0 (by omega)).trans g0))
  have c3 := (k3 3 (by omega)).trans b3
  have c4 := (k3 4 (by omega)).trans b4
  have c5 := (k3 5 (by omega)).trans ((k2 5 (by omega)).trans ((k1 5 (by omega)).trans g5))
  have c6 := (k3 6 (by omega)).trans ((k2 6 (by omega)).trans a6)
  have c7 := (k3 7 (by omega)).trans a7
  rw [wc_seq]
  refine wc_if ?_
  refine WCode.mono ?_ (Pb_3_gen hq c6)
  rintro z e4 s4 ⟨rfl, k4, a43, rfl⟩
  have d0 := (k4 0 (by omega)).trans c0
  have d3 := (k4 3 (by omega)).trans c3
  have d4 := (k4 4 (by omega)).trans c4
  have d5 := (k4 5 (by omega)).trans c5
  have d6 := (k4 6 (by omega)).trans c6
  have d7 := (k4 7 (by omega)).trans c7
  have d8 := (k4 8 (by omega)).trans a8
  have d9 := (k4 9 (by omega)).trans a9
  refine ⟨rfl, _, a43, fun hset => ?_, fun hdrop => ?_⟩
  · -- a key is set
    rw [Pb_s_eq]
    refine wc_then (Pu_0_gen T h1 ho (by omega) hq d3 d6) ?_
    rintro e5 s5 ⟨k5, S', L', c, h5, hchg, hS', hto⟩
    have f0 := (k5 0 (by omega)).trans d0
    have f3 := (k5 3 (by omega)).trans d3
    have f4 := (k5 4 (by omega)).trans d4
    have f5 := (k5 5 (by omega)).trans d5
    have f6 := (k5 6 (by omega)).trans d6
    have f7 := (k5 7 (by omega)).trans d7
    have f8 := (k5 8 (by omega)).trans d8
    have f9 := (k5 9 (by omega)).trans d9
    have hq5 : s5.heap.get q = some (.cells [ik w, ik id, ik key] 38 0 false) := (hchg.2 q hq2 hqS).trans hq
    have hr5 := hr1.kept (T := S) hchg (fun x hx hm => hd x hm hx)
    have hk05 : Kept [] s0 s5 := hk01.comp (T := S) hchg (fun x hx => .inr (hS x hx))
    have hS5 : ∀ x ∈ S', s0.next ≤ x := fun x hx => by rcases hS' x hx with h | h; exact hS x h; have := hk01.1; omega
    have hd5 : ∀ x ∈ S', x ∉ S4 := fun x hx hm => by
      rcases hS' x hx with h | h
      · exact hd x h hm
      · have := hlt4 x hm; have := hk1.1; omega
    rcases hu7 with ⟨k, hkl, rfl, hid⟩ | ⟨rfl, hno⟩
    · -- it is there
      have hin : (id, (nd P k).2) ∈ L := (hmem _).1 (by rw [← hid]; exact mem_nd_lt hkl)
      have hus := uniq_set hu hkl hid key
      have hlen := hto.old ⟨_, hin⟩
      refine wc_then (Pu_1_gen f7) ?_
      rintro e6 s6 ⟨k6, a51, rfl⟩
      have hdk : decide ((k : Int) < 0) = false := decide_eq_false (by omega)
      rw [hdk] at a51
      rw [wc_cond, rd_tmp, a51, boolV_bool, bindP_some, ccond_false]
      refine WCode.mono ?_ (Pu_4_gen hr5 hkl hid hq5 ((k6 4 (by omega)).trans f4) ((k6 6 (by omega)).trans f6) ((k6 7 (by omega)).trans f7))
      rintro z e7 s7 ⟨rfl, k7, hr7, hk7⟩
      rw [next_normal, sq_apply]
      have h7 := h5.frame (T := S4) hk7 hd5
      refine Pend_gen T (P := P.set k (id, key)) (c := c) (by have := hk05.1; have := hk7.1; omega) h7 hto.ord hr7 hus.1 (fun n => (hus.2 n).trans (by rw [hto.mem n, hmem n])) (by rw [List.length_set, hlen, hLP]) hw0 hw1 hi2 (n := P.length) (by rw [← hLP, ← hlen]; exact hto.few) (by omega) (by rw [List.length_set]; omega) hd5 hS5 hS4 (hk05.comp hk7 (fun x hx => .inr (hS4 x hx)))
        ((k7 0 (by omega)).trans ((k6 0 (by omega)).trans f0)) ((k7 3 (by omega)).trans ((k6 3 (by omega)).trans f3)) ((k7 4 (by omega)).trans ((k6 4 (by omega)).trans f4)) ((k7 5 (by omega)).trans ((k6 5 (by omega)).trans f5)) ((k7 8 (by omega)).trans ((k6 8 (by omega)).trans f8)) ((k7 9 (by omega)).trans ((k6 9 (by omega)).trans f9))
    · -- it is new
      have hnin : ∀ k, ¬ (id, k) ∈ L := fun k hk2 => by
        obtain ⟨j, hj, hjn⟩ := mem_nd.1 ((hmem _).2 hk2)
        exact hno j hj (by rw [hjn])
      have hus := uniq_snoc hu (key := key) hno
      have hlen := hto.new hnin
      refine wc_then (Pu_1_gen f7) ?_
      rintro e6 s6 ⟨k6, a51, rfl⟩
      have hdk : decide ((-1 : Int) < 0) = true := rfl
      rw [hdk] at a51
      rw [wc_cond, rd_tmp, a51, boolV_bool, bindP_some, ccond_true, wc_seq]
      refine WCode.mono ?_ (Pu_2_gen hr5 (by omega) hq5 ((k6 4 (by omega)).trans f4) ((k6 6 (by omega)).trans f6))
      rintro z e7 s7 ⟨rfl, k7, v', S4', a4, hr7, hk7, hS7⟩
      rw [next_normal, sq_apply]
      have h7 := h5.frame (T := S4) hk7 hd5
      refine WCode.mono ?_ (Pu_3_gen (n := P.length) (by omega) ((k7 9 (by omega) (by omega)).trans ((k6 9 (by omega)).trans f9)))
      rintro z e8 s8 ⟨rfl, k8, a9', rfl⟩
      rw [next_normal, sq_apply]
      refine Pend_gen T (P := P ++ [(id, key)]) (c := c) (by have := hk05.1; have := hk7.1; omega) h7 hto.ord hr7 hus.1 (fun n => (hus.2 n).trans (by rw [hto.mem n, hmem n])) (by rw [List.length_append, List.length_singleton, hlen, hLP]) hw0 hw1 hi2 (n := P.length + 1) (by rw [← hLP, ← hlen]; exact hto.few) (by omega) (by rw [List.length_append, List.length_singleton]; omega) (fun x hx hm => ?_) hS5 (fun x hx => ?_) (hk05.comp hk7 (fun x hx => .inr (hS4 x hx)))
        ((k8 0 (by omega)).trans ((k7 0 (by omega) (by omega)).trans ((k6 0 (by omega)).trans f0))) ((k8 3 (by omega)).trans ((k7 3 (by omega) (by omega)).trans ((k6 3 (by omega)).trans f3))) ((k8 4 (by omega)).trans a4) ((k8 5 (by omega)).trans ((k7 5 (by omega) (by omega)).trans ((k6 5 (by omega)).trans f5))) ((k8 8 (by omega)).trans ((k7 8 (by omega) (by omega)).trans ((k6 8 (by omega)).trans f8))) a9'
      · rcases hS7 x hm with h | h
        · exact hd5 x hx h
        · have := h5.lt x hx; omega
      · rcases hS7 x hx with h | h
        · exact hS4 x h
        · have := hk05.1; omega
  · -- one goes
    rw [Pb_d_eq, wc_seq]
    rcases hu7 with ⟨k, hkl, rfl, hid⟩ | ⟨rfl, hno⟩
    · have hin : (id, (nd P k).2) ∈ L := (hmem _).1 (by rw [← hid]; exact mem_nd_lt hkl)
      have huc := uniq_cut hu hkl hid
      refine wc_if ?_
      refine WCode.mono ?_ (Pv_0_gen (drop_spec T.h16 T.h30 T.h31 T.h32 T.h40 h1 ho (by omega) hin) hq (k := (k : Int)) (decide_eq_true (by omega)) d3 d6 d7)
      rintro z e5 s5 ⟨rfl, k5, a74, L', c, h5, hchg, hto⟩
      refine ⟨rfl, _, a74, fun h => (by cases h), fun _ => ?_⟩
      rw [wc_skip, next_normal, sq_apply]
      have hr5 := hr1.kept (T := S) hchg (fun x hx hm => hd x hm hx)
      have hk05 : Kept [] s0 s5 := hk01.comp (T := S) hchg (fun x hx => .inr (hS x hx))
      refine wc_then (Pv_1_gen ((k5 7 (by omega)).trans d7)) ?_
      rintro e6 s6 ⟨k6, a76, rfl⟩
      have hdk : decide ((k : Int) ≥ 0) = true := decide_eq_true (by omega)
      rw [hdk] at a76
      rw [wc_cond, rd_tmp, a76, boolV_bool, bindP_some, ccond_true]
      refine WCode.mono ?_ (Pv_2_gen hr5 hkl (by omega) ((k6 4 (by omega)).trans ((k5 4 (by omega)).trans d4)) ((k6 7 (by omega)).trans ((k5 7 (by omega)).trans d7)))
      rintro z e7 s7 ⟨rfl, k7, v', S4', a4, hr7, hk7, hS7⟩
      rw [next_normal, sq_apply]
      have h7 := h5.frame (T := []) hk7 (by simp)
      have hlc : (P.take k ++ P.drop (k + 1)).length + 1 = P.length := huc.2.1
      have hll : L'.length = (P.take k ++ P.drop (k + 1)).length := by have := hto.len; omega
      have g := fun (j : Nat) (hj : j < 10) (h4 : j ≠ 4) => (k7 j hj h4).trans ((k6 j hj).trans (k5 j hj))
      exact Pend_gen T (P := P.take k ++ P.drop (k + 1)) (c := c) (n := P.length) (by have := hk05.1; have := hk7.1; omega) h7 hto.ord hr7 huc.1 (fun n => (huc.2.2 n).trans (by rw [hto.mem n, hmem n])) hll hw0 hw1 hi2 (by rw [← hLP]; exact hto.few) (by omega) (by omega)
        (fun x hx hm => by have := hS7 x hm; have := h5.lt x hx; omega) hS (fun x hx => by have := hS7 x hx; have := hk05.1; omega) (hk05.comp hk7 (by simp))
        ((g 0 (by omega) (by omega)).trans d0) ((g 3 (by omega) (by omega)).trans d3) a4 ((g 5 (by omega) (by omega)).trans d5) ((g 8 (by omega) (by omega)).trans d8) ((g 9 (by omega) (by omega)).trans d9)
    · have hnin : ∀ k, ¬ (id, k) ∈ L := fun k hk2 => by
        obtain ⟨j, hj, hjn⟩ := mem_nd.1 ((hmem _).2 hk2)
        exact hno j hj (by rw [hjn])
      refine wc_if ?_
      refine WCode.mono ?_ (Pv_0_gen (R := fun s' => s' = s4) (b0 := false) (drop_none T.h16 h1 hnin) hq (k := -1) rfl d3 d6 d7)
      rintro z e5 s5 ⟨rfl, k5, a74, rfl⟩
      refine ⟨rfl, _, a74, fun h => (by cases h), fun _ => ?_⟩
      rw [wc_skip, next_normal, sq_apply]
      refine wc_then (Pv_1_gen ((k5 7 (by omega)).trans d7)) ?_
      rintro e6 s6 ⟨k6, a76, rfl⟩
      have hdk : decide ((-1 : Int) ≥ 0) = false := rfl
      rw [hdk] at a76
      rw [wc_cond, rd_tmp, a76, boolV_bool, bindP_some, ccond_false, wc_skip, next_normal, sq_apply]
      exact Pend_gen T (P := P) (c := 0) hk01.1 h1 ho hr1 hu hmem hLP hw0 hw1 hi2 (n := P.length) (by omega) (by omega) (by omega) hd hS hS4 hk01
        ((k6 0 (by omega)).trans ((k5 0 (by omega)).trans d0)) ((k6 3 (by omega)).trans ((k5 3 (by omega)).trans d3)) ((k6 4 (by omega)).trans ((k5 4 (by omega)).trans d4)) ((k6 5 (by omega)).trans ((k5 5 (by omega)).trans d5)) ((k6 8 (by omega)).trans ((k5 8 (by omega)).trans d8)) ((k6 9 (by omega)).trans ((k5 9 (by omega)).trans d9))

theorem Py_h_gen (hv3 : RowV 3 s v0 A) (g0 : e.get 0 = some v0) (g5 : e.get 5 = some (ik i)) :
    WCode (fun k => call tbl ov k) Py_h e s fun x e' s' => x = .normal ∧ (∀ j, j < 6 → e'.get j = e.get j) ∧ e'.get 26 = some (.bool (decide (i < A.length) && decide (i < 150))) ∧ s' = s := by
  obtain ⟨a, c, rfl⟩ := hv3.len
  have d1 : decide ((i : Int) < ((A.length : Nat) : Int)) = decide (i < A.length) := by simp
  have d2 : decide ((i : Int) < 150) = decide (i < 150) := by
    have : ((i : Int) < 150) ↔ i < 150 := by omega
    simp only [this]
  cases hb : decide (i < A.length) with
  | false =>
    simp only [Py_h, code5, params, wc_skip, wc_region, wc_draw, wc_seq, wc_cond, wc_block, wc_exit, wc_ret, next_normal, next_exit, next_ret, inBlock_normal, inBlock_ret, inBlock_exit, sq_apply, nrm_apply, drawnK_apply, boolV_bool, ccond_true, ccond_false, wo_nil, wo_cons, wo_guard, wop, bindP_some, cont_some, cont_none, guardV_bool, guardV_undef, gcont_true, gcont_false, gcont_false', ret_apply, aggK_apply, putK_apply, resK_apply, boolK_apply, ccont_apply, wd_nil, wd_cons, dvals_apply, dcont_some, dcont_none, AOp.vals, rd_tmp, rd_const, rd_func, get_cons, mapList, mapOpt, Option.bind_some, Option.map_some, Nat.reduceEqDiff, if_true, if_false, reduceIte, reduceCtorEq, wv_mov, wv_pick, wv_alloc, wv_box, wv_build, wv_load, wv_loadn, wv_store, wv_nilCheck, wv_bin, wv_eq, wv_un, wv_convInt, wv_convSame, wv_fieldAddr, wv_field, wv_fieldn, wv_extract, wv_lenSlice, wv_lenString, wv_mkMap, wv_call, callee_func, wv_indexAddr, wv_lookup, wv_mapUpdate, wv_mapEntry, wv_entryStore, wv_delete, wv_append, wv_slice, wv_mkSlice, wv_buildSlice, wv_index, wv_copy, wv_lenMap, Abs.cellAt, Abs.rowAt, Abs.storeAt, Heap.get_put, List.getElem?_cons_zero, List.getElem?_cons_succ, Nat.zero_add, Nat.reduceAdd, idx, and_self, Int.toNat_natCast, cellsAt, ne_eq, not_true_eq_false, not_false_eq_true, cellList, Value.cells, List.length_cons, List.length_nil, List.all_cons, List.all_nil, isCell, Bool.and_self, storeL, List.set_cons_zero, List.set_cons_succ, footOf, true_and, and_true, Nat.reduceLeDiff, Nat.le_refl, Nat.reduceMul, Nat.reduceLT, List.nil_append, List.cons_append, List.length_set, ends_normal, ends_ret, endK_apply, resV_tmp, tupleV, eqV, Bool.not_true, Bool.not_false, BEq.rfl, Bool.true_beq, Bool.false_beq, beq_true, beq_false, Nat.sub_self, List.range'_zero, decide_true, decide_false, List.not_mem_nil, false_implies, implies_true, Bool.true_and, Bool.and_true, drawn, pairOk, disj, quietAt, Bool.bne_false, Bool.bne_true, Bool.false_eq_true, applyUpd, Int.reduceEq, Int.reduceNeg, bin_add, bin_sub, bin_mul, bin_lss, bin_leq, bin_gtr, bin_geq, bin_eql, bin_neq, un_not, wv_cap, wv_appendMake, wv_clear, wv_toString, wv_toBytes, wv_sameB, wv_mkIface, wv_minmax, g0, g5, d1, hb, Bool.false_and]
    intro j hj
    simp (disch := omega) only [get_cons, if_neg]
  | true =>
    simp only [Py_h, code5, params, wc_skip, wc_region, wc_draw, wc_seq, wc_cond, wc_block, wc_exit, wc_ret, next_normal, next_exit, next_ret, inBlock_normal, inBlock_ret, inBlock_exit, sq_apply, nrm_apply, drawnK_apply, boolV_bool, ccond_true, ccond_false, wo_nil, wo_cons, wo_guard, wop, bindP_some, cont_some, cont_none, guardV_bool, guardV_undef, gcont_true, gcont_false, gcont_false', ret_apply, aggK_apply, putK_apply, resK_apply, boolK_apply, ccont_apply, wd_nil, wd_cons, dvals_apply, dcont_some, dcont_none, AOp.vals, rd_tmp, rd_const, rd_func, get_cons, mapList, mapOpt, Option.bind_some, Option.map_some, Nat.reduceEqDiff, if_true, if_false, reduceIte, reduceCtorEq, wv_mov, wv_pick, wv_alloc, wv_box, wv_build, wv_load, wv_loadn, wv_store, wv_nilCheck, wv_bin, wv_eq, wv_un, wv_convInt, wv_convSame, wv_fieldAddr, wv_field, wv_fieldn, wv_extract, wv_lenSlice, wv_lenString, wv_mkMap, wv_call, callee_func, wv_indexAddr, wv_lookup, wv_mapUpdate, wv_mapEntry, wv_entryStore, wv_delete, wv_append, wv_slice, wv_mkSlice, wv_buildSlice, wv_index, wv_copy, wv_lenMap, Abs.cellAt, Abs.rowAt, Abs.storeAt, Heap.get_put, List.getElem?_cons_zero, List.getElem?_cons_succ, Nat.zero_add, Nat.reduceAdd, idx, and_self, Int.toNat_natCast, cellsAt, ne_eq, not_true_eq_false, not_false_eq_true, cellList, Value.cells, List.length_cons, List.length_nil, List.all_cons, List.all_nil, isCell, Bool.and_self, storeL, List.set_cons_zero, List.set_cons_succ, footOf, true_and, and_true, Nat.reduceLeDiff, Nat.le_refl, Nat.reduceMul, Nat.reduceLT, List.nil_append, List.cons_append, List.length_set, ends_normal, ends_ret, endK_apply, resV_tmp, tupleV, eqV, Bool.not_true, Bool.not_false, BEq.rfl, Bool.true_beq, Bool.false_beq, beq_true, beq_false, Nat.sub_self, List.range'_zero, decide_true, decide_false, List.not_mem_nil, false_implies, implies_true, Bool.true_and, Bool.and_true, drawn, pairOk, disj, quietAt, Bool.bne_false, Bool.bne_true, Bool.false_eq_true, applyUpd, Int.reduceEq, Int.reduceNeg, bin_add, bin_sub, bin_mul, bin_lss, bin_leq, bin_gtr, bin_geq, bin_eql, bin_neq, un_not, wv_cap, wv_appendMake, wv_clear, wv_toString, wv_toBytes, wv_sameB, wv_mkIface, wv_minmax, g0, g5, d1, d2, hb, Bool.true_and]
    intro j hj
    simp (disch := omega) only [get_cons, if_neg]

theorem Py_n_gen (hi : i < 1000) (g5 : e.get 5 = some (ik i)) :
    WCode (fun k => call tbl ov k) Py_n e s fun x e' s' => x = .normal ∧ (∀ j, j < 5 → e'.get j = e.get j) ∧ e'.get 5 = some (ik (i + 1 : Nat)) ∧ s' = s := by
  have w : IntKind.i64.wrap ((i : Int) + 1) = ((i + 1 : Nat) : Int) := by rw [wrap_in (by omega) (by omega)]; omega
  simp only [Py_n, code5, params, wc_skip, wc_region, wc_draw, wc_seq, wc_cond, wc_block, wc_exit, wc_ret, next_normal, next_exit, next_ret, inBlock_normal, inBlock_ret, inBlock_exit, sq_apply, nrm_apply, drawnK_apply, boolV_bool, ccond_true, ccond_false, wo_nil, wo_cons, wo_guard, wop, bindP_some, cont_some, cont_none, guardV_bool, guardV_undef, gcont_true, gcont_false, gcont_false', ret_apply, aggK_apply, putK_apply, resK_apply, boolK_apply, ccont_apply, wd_nil, wd_cons, dvals_apply, dcont_some, dcont_none, AOp.vals, rd_tmp, rd_const, rd_func, get_cons, mapList, mapOpt, Option.bind_some, Option.map_some, Nat.reduceEqDiff, if_true, if_false, reduceIte, reduceCtorEq, wv_mov, wv_pick, wv_alloc, wv_box, wv_build, wv_load, wv_loadn, wv_store, wv_nilCheck, wv_bin, wv_eq, wv_un, wv_convInt, wv_convSame, wv_fieldAddr, wv_field, wv_fieldn, wv_extract, wv_lenSlice, wv_lenString, wv_mkMap, wv_call, callee_func, wv_indexAddr, wv_lookup, wv_mapUpdate, wv_mapEntry, wv_entryStore, wv_delete, wv_append, wv_slice, wv_mkSlice, wv_buildSlice, wv_index, wv_copy, wv_lenMap, Abs.cellAt, Abs.rowAt, Abs.storeAt, Heap.get_put, List.getElem?_cons_zero, List.getElem?_cons_succ, Nat.zero_add, Nat.reduceAdd, idx, and_self, Int.toNat_natCast, cellsAt, ne_eq, not_true_eq_false, not_false_eq_true, cellList, Value.cells, List.length_cons, List.length_nil, List.all_cons, List.all_nil, isCell, Bool.and_self, storeL, List.set_cons_zero, List.set_cons_succ, footOf, true_and, and_true, Nat.reduceLeDiff, Nat.le_refl, Nat.reduceMul, Nat.reduceLT, List.nil_append, List.cons_append, List.length_set, ends_normal, ends_ret, endK_apply, resV_tmp, tupleV, eqV, Bool.not_true, Bool.not_false, BEq.rfl, Bool.true_beq, Bool.false_beq, beq_true, beq_false, Nat.sub_self, List.range'_zero, decide_true, decide_false, List.not_mem_nil, false_implies, implies_true, Bool.true_and, Bool.and_true, drawn, pairOk, disj, quietAt, Bool.bne_false, Bool.bne_true, Bool.false_eq_true, applyUpd, Int.reduceEq, Int.reduceNeg, bin_add, bin_sub, bin_mul, bin_lss, bin_leq, bin_gtr, bin_geq, bin_eql, bin_neq, un_not, wv_cap, wv_appendMake, wv_clear, wv_toString, wv_toBytes, wv_sameB, wv_mkIface, wv_minmax, g5, w]
  intro j hj
  simp (disch := omega) only [get_cons, if_neg]

theorem law5 (T : PlayTbl tbl) (h5 : tbl 5 = some fun5) (h17 : tbl 17 = none) (hov : ∀ s, ov 17 [] s = some (.bool true, s)) (hv3 : RowV 3 s0 v0 A) (hA : ∀ i, i < A.length → ∃ w id key, A.getD i [] = [ik w, ik id, ik key]) :
    WCall (fun k => call tbl ov k) 5 [v0] s0 fun v _ => v = .bool true := by
  refine WCall.of h5 rfl ?_
  simp only [fun5, code5_eq, params]
  have h0 : WCode (fun k => call tbl ov k) Py_0 [(0, v0)] s0 fun x e' s' => x = .normal ∧ e'.get 0 = some v0 ∧ s' = s0 := by
    simp only [Py_0, code5, params, wc_skip, wc_region, wc_draw, wc_seq, wc_cond, wc_block, wc_exit, wc_ret, next_normal, next_exit, next_ret, inBlock_normal, inBlock_ret, inBlock_exit, sq_apply, nrm_apply, drawnK_apply, boolV_bool, ccond_true, ccond_false, wo_nil, wo_cons, wo_guard, wop, bindP_some, cont_some, cont_none, guardV_bool, guardV_undef, gcont_true, gcont_false, gcont_false', ret_apply, aggK_apply, putK_apply, resK_apply, boolK_apply, ccont_apply, wd_nil, wd_cons, dvals_apply, dcont_some, dcont_none, AOp.vals, rd_tmp, rd_const, rd_func, get_cons, mapList, mapOpt, Option.bind_some, Option.map_some, Nat.reduceEqDiff, if_true, if_false, reduceIte, reduceCtorEq, wv_mov, wv_pick, wv_alloc, wv_box, wv_build, wv_load, wv_loadn, wv_store, wv_nilCheck, wv_bin, wv_eq, wv_un, wv_convInt, wv_convSame, wv_fieldAddr, wv_field, wv_fieldn, wv_extract, wv_lenSlice, wv_lenString, wv_mkMap, wv_call, callee_func, wv_indexAddr, wv_lookup, wv_mapUpdate, wv_mapEntry, wv_entryStore, wv_delete, wv_append, wv_slice, wv_mkSlice, wv_buildSlice, wv_index, wv_copy, wv_lenMap, Abs.cellAt, Abs.rowAt, Abs.storeAt, Heap.get_put, List.getElem?_cons_zero, List.getElem?_cons_succ, Nat.zero_add, Nat.reduceAdd, idx, and_self, Int.toNat_natCast, cellsAt, ne_eq, not_true_eq_false, not_false_eq_true, cellList, Value.cells, List.length_cons, List.length_nil, List.all_cons, List.all_nil, isCell, Bool.and_self, storeL, List.set_cons_zero, List.set_cons_succ, footOf, true_and, and_true, Nat.reduceLeDiff, Nat.le_refl, Nat.reduceMul, Nat.reduceLT, List.nil_append, List.cons_append, List.length_set, ends_normal, ends_ret, endK_apply, resV_tmp, tupleV, eqV, Bool.not_true, Bool.not_false, BEq.rfl, Bool.true_beq, Bool.false_beq, beq_true, beq_false, Nat.sub_self, List.range'_zero, decide_true, decide_false, List.not_mem_nil, false_implies, implies_true, Bool.true_and, Bool.and_true, drawn, pairOk, disj, quietAt, Bool.bne_false, Bool.bne_true, Bool.false_eq_true, applyUpd, Int.reduceEq, Int.reduceNeg, bin_add, bin_sub, bin_mul, bin_lss, bin_leq, bin_gtr, bin_geq, bin_eql, bin_neq, un_not, wv_cap, wv_appendMake, wv_clear, wv_toString, wv_toBytes, wv_sameB, wv_mkIface, wv_minmax]
  refine wc_then h0 ?_
  rintro e1 s1 ⟨a0, rfl⟩
  have h1 : WCode (fun k => call tbl ov k) Py_1 e1 s1 fun x e' s' => x = .normal ∧ e'.get 0 = some v0 ∧ ∃ p S, e'.get 3 = some (ptr p) ∧ HP s' p S [] 0 ∧ Chg [] s1 s' ∧ ∀ x ∈ S, s1.next ≤ x := by
    simp only [Py_1, code5, params, wc_skip, wc_region, wc_draw, wc_seq, wc_cond, wc_block, wc_exit, wc_ret, next_normal, next_exit, next_ret, inBlock_normal, inBlock_ret, inBlock_exit, sq_apply, nrm_apply, drawnK_apply, boolV_bool, ccond_true, ccond_false, wo_nil, wo_cons, wo_guard, wop, bindP_some, cont_some, cont_none, guardV_bool, guardV_undef, gcont_true, gcont_false, gcont_false', ret_apply, aggK_apply, putK_apply, resK_apply, boolK_apply, ccont_apply, wd_nil, wd_cons, dvals_apply, dcont_some, dcont_none, AOp.vals, rd_tmp, rd_const, rd_func, get_cons, mapList, mapOpt, Option.bind_some, Option.map_some, Nat.reduceEqDiff, if_true, if_false, reduceIte, reduceCtorEq, wv_mov, wv_pick, wv_alloc, wv_box, wv_build, wv_load, wv_loadn, wv_store, wv_nilCheck, wv_bin, wv_eq, wv_un, wv_convInt, wv_convSame, wv_fieldAddr, wv_field, wv_fieldn, wv_extract, wv_lenSlice, wv_lenString, wv_mkMap, wv_call, callee_func, wv_indexAddr, wv_lookup, wv_mapUpdate, wv_mapEntry, wv_entryStore, wv_delete, wv_append, wv_slice, wv_mkSlice, wv_buildSlice, wv_index, wv_copy, wv_lenMap, Abs.cellAt, Abs.rowAt, Abs.storeAt, Heap.get_put, List.getElem?_cons_zero, List.getElem?_cons_succ, Nat.zero_add, Nat.reduceAdd, idx, and_self, Int.toNat_natCast, cellsAt, ne_eq, not_true_eq_false, not_false_eq_true, cellList, Value.cells, List.length_cons, List.length_nil, List.all_cons, List.all_nil, isCell, Bool.and_self, storeL, List.set_cons_zero, List.set_cons_succ, footOf, true_and, and_true, Nat.reduceLeDiff, Nat.le_refl, Nat.reduceMul, Nat.reduceLT, List.nil_append, List.cons_append, List.length_set, ends_normal, ends_ret, endK_apply, resV_tmp, tupleV, eqV, Bool.not_true, Bool.not_false, BEq.rfl, Bool.true_beq, Bool.false_beq, beq_true, beq_false, Nat.sub_self, List.range'_zero, decide_true, decide_false, List.not_mem_nil, false_implies, implies_true, Bool.true_and, Bool.and_true, drawn, pairOk, disj, quietAt, Bool.bne_false, Bool.bne_true, Bool.false_eq_true, applyUpd, Int.reduceEq, Int.reduceNeg, bin_add, bin_sub, bin_mul, bin_lss, bin_leq, bin_gtr, bin_geq, bin_eql, bin_neq, un_not, wv_cap, wv_appendMake, wv_clear, wv_toString, wv_toBytes, wv_sameB, wv_mkIface, wv_minmax, a0]
    refine WCall.mono (new_spec T.h13 s1) ?_
    rintro u s2 ⟨p, S, rfl, hh⟩
    simp only [params, wc_skip, wc_region, wc_draw, wc_seq, wc_cond, wc_block, wc_exit, wc_ret, next_normal, next_exit, next_ret, inBlock_normal, inBlock_ret, inBlock_exit, sq_apply, nrm_apply, drawnK_apply, boolV_bool, ccond_true, ccond_false, wo_nil, wo_cons, wo_guard, wop, bindP_some, cont_some, cont_none, guardV_bool, guardV_undef, gcont_true, gcont_false, gcont_false', ret_apply, aggK_apply, putK_apply, resK_apply, boolK_apply, ccont_apply, wd_nil, wd_cons, dvals_apply, dcont_some, dcont_none, AOp.vals, rd_tmp, rd_const, rd_func, get_cons, mapList, mapOpt, Option.bind_some, Option.map_some, Nat.reduceEqDiff, if_true, if_false, reduceIte, reduceCtorEq, wv_mov, wv_pick, wv_alloc, wv_box, wv_build, wv_load, wv_loadn, wv_store, wv_nilCheck, wv_bin, wv_eq, wv_un, wv_convInt, wv_convSame, wv_fieldAddr, wv_field, wv_fieldn, wv_extract, wv_lenSlice, wv_lenString, wv_mkMap, wv_call, callee_func, wv_indexAddr, wv_lookup, wv_mapUpdate, wv_mapEntry, wv_entryStore, wv_delete, wv_append, wv_slice, wv_mkSlice, wv_buildSlice, wv_index, wv_copy, wv_lenMap, Abs.cellAt, Abs.rowAt, Abs.storeAt, Heap.get_put, List.getElem?_cons_zero, List.getElem?_cons_succ, Nat.zero_add, Nat.reduceAdd, idx, and_self, Int.toNat_natCast, cellsAt, ne_eq, not_true_eq_false, not_false_eq_true, cellList, Value.cells, List.length_cons, List.length_nil, List.all_cons, List.all_nil, isCell, Bool.and_self, storeL, List.set_cons_zero, List.set_cons_succ, footOf, true_and, and_true, Nat.reduceLeDiff, Nat.le_refl, Nat.reduceMul, Nat.reduceLT, List.nil_append, List.cons_append, List.length_set, ends_normal, ends_ret, endK_apply, resV_tmp, tupleV, eqV, Bool.not_true, Bool.not_false, BEq.rfl, Bool.true_beq, Bool.false_beq, beq_true, beq_false, Nat.sub_self, List.range'_zero, decide_true, decide_false, List.not_mem_nil, false_implies, implies_true, Bool.true_and, Bool.and_true, drawn, pairOk, disj, quietAt, Bool.bne_false, Bool.bne_true, Bool.false_eq_true, applyUpd, Int.reduceEq, Int.reduceNeg, bin_add, bin_sub, bin_mul, bin_lss, bin_leq, bin_gtr, bin_geq, bin_eql, bin_neq, un_not, wv_cap, wv_appendMake, wv_clear, wv_toString, wv_toBytes, wv_sameB, wv_mkIface, wv_minmax, a0]
    exact ⟨p, S, rfl, hh⟩
  refine wc_then h1 ?_
  rintro e2 s2 ⟨b0, p, S, b3, hh, hc, hS⟩
  have hk12 : Kept [] s1 s2 := hc
  have h2 : WCode (fun k => call tbl ov k) Py_2 e2 s2 fun x e' s' => x = .normal ∧ e'.get 0 = some v0 ∧ e'.get 3 = some (ptr p) ∧ e'.get 4 = some (.slice (some ⟨s2.next, 0, none⟩) 0 0) ∧ s' = ⟨s2.heap.put s2.next (some (.cells [] 41 2 false)), s2.next + 1⟩ := by
    simp only [Py_2, code5, params, wc_skip, wc_region, wc_draw, wc_seq, wc_cond, wc_block, wc_exit, wc_ret, next_normal, next_exit, next_ret, inBlock_normal, inBlock_ret, inBlock_exit, sq_apply, nrm_apply, drawnK_apply, boolV_bool, ccond_true, ccond_false, wo_nil, wo_cons, wo_guard, wop, bindP_some, cont_some, cont_none, guardV_bool, guardV_undef, gcont_true, gcont_false, gcont_false', ret_apply, aggK_apply, putK_apply, resK_apply, boolK_apply, ccont_apply, wd_nil, wd_cons, dvals_apply, dcont_some, dcont_none, AOp.vals, rd_tmp, rd_const, rd_func, get_cons, mapList, mapOpt, Option.bind_some, Option.map_some, Nat.reduceEqDiff, if_true, if_false, reduceIte, reduceCtorEq, wv_mov, wv_pick, wv_alloc, wv_box, wv_build, wv_load, wv_loadn, wv_store, wv_nilCheck, wv_bin, wv_eq, wv_un, wv_convInt, wv_convSame, wv_fieldAddr, wv_field, wv_fieldn, wv_extract, wv_lenSlice, wv_lenString, wv_mkMap, wv_call, callee_func, wv_indexAddr, wv_lookup, wv_mapUpdate, wv_mapEntry, wv_entryStore, wv_delete, wv_append, wv_slice, wv_mkSlice, wv_buildSlice, wv_index, wv_copy, wv_lenMap, Abs.cellAt, Abs.rowAt, Abs.storeAt, Heap.get_put, List.getElem?_cons_zero, List.getElem?_cons_succ, Nat.zero_add, Nat.reduceAdd, idx, and_self, Int.toNat_natCast, cellsAt, ne_eq, not_true_eq_false, not_false_eq_true, cellList, Value.cells, List.length_cons, List.length_nil, List.all_cons, List.all_nil, isCell, Bool.and_self, storeL, List.set_cons_zero, List.set_cons_succ, footOf, true_and, and_true, Nat.reduceLeDiff, Nat.le_refl, Nat.reduceMul, Nat.reduceLT, List.nil_append, List.cons_append, List.length_set, ends_normal, ends_ret, endK_apply, resV_tmp, tupleV, eqV, Bool.not_true, Bool.not_false, BEq.rfl, Bool.true_beq, Bool.false_beq, beq_true, beq_false, Nat.sub_self, List.range'_zero, decide_true, decide_false, List.not_mem_nil, false_implies, implies_true, Bool.true_and, Bool.and_true, drawn, pairOk, disj, quietAt, Bool.bne_false, Bool.bne_true, Bool.false_eq_true, applyUpd, Int.reduceEq, Int.reduceNeg, bin_add, bin_sub, bin_mul, bin_lss, bin_leq, bin_gtr, bin_geq, bin_eql, bin_neq, un_not, wv_cap, wv_appendMake, wv_clear, wv_toString, wv_toBytes, wv_sameB, wv_mkIface, wv_minmax, b0, b3, ev_buildSlice, fillL, mapParts]
  refine wc_then h2 ?_
  rintro e3 s3 ⟨c0, c3, c4, hs3⟩
  have hk23 : Kept [] s2 s3 := by
    rw [hs3]
    exact ⟨Nat.le_succ _, fun id hid _ => by
      have : ¬ id = s2.next := by omega
      simp only [Heap.get_put, this, if_false]⟩
  have hr3 : RowsO 41 2 s3 (.slice (some ⟨s2.next, 0, none⟩) 0 0) (([] : List Node).map pc) [s2.next] := by
    rw [hs3]
    exact ⟨by simp, .inr ⟨s2.next, 0, 0, [], rfl, rfl, Nat.le_refl _, Nat.lt_succ_self _, by simp only [Heap.get_put, if_true], Nat.le_refl _, rfl⟩⟩
  have hh3 := hh.frame (T := []) hk23 (by simp)
  have hI : PInv s1 s3 p (.slice (some ⟨s2.next, 0, none⟩) 0 0) 0 :=
    ⟨S, [], [s2.next], [], 0, hh3, fun c _ hc => by simp at hc, hr3, fun i j hi => by simp at hi, fun n => Iff.rfl, rfl, Nat.le_refl _, by omega, by omega, fun x hx hm => by
      have := hh.lt x hx
      simp only [List.mem_singleton] at hm; omega, hS, fun x hx => by
      simp only [List.mem_singleton] at hx; have := hk12.1; omega, hk12.comp hk23 (by simp)⟩
  refine wc_then (R := fun e' s' => True) ?_ ?_
  · have hi0 : WCode (fun k => call tbl ov k) Py_i e3 s3 fun x e' s' => x = .normal ∧ e'.get 0 = some v0 ∧ e'.get 3 = some (ptr p) ∧ e'.get 4 = e3.get 4 ∧ e'.get 5 = some (ik 0) ∧ s' = s3 := by
      simp only [Py_i, code5, params, wc_skip, wc_region, wc_draw, wc_seq, wc_cond, wc_block, wc_exit, wc_ret, next_normal, next_exit, next_ret, inBlock_normal, inBlock_ret, inBlock_exit, sq_apply, nrm_apply, drawnK_apply, boolV_bool, ccond_true, ccond_false, wo_nil, wo_cons, wo_guard, wop, bindP_some, cont_some, cont_none, guardV_bool, guardV_undef, gcont_true, gcont_false, gcont_false', ret_apply, aggK_apply, putK_apply, resK_apply, boolK_apply, ccont_apply, wd_nil, wd_cons, dvals_apply, dcont_some, dcont_none, AOp.vals, rd_tmp, rd_const, rd_func, get_cons, mapList, mapOpt, Option.bind_some, Option.map_some, Nat.reduceEqDiff, if_true, if_false, reduceIte, reduceCtorEq, wv_mov, wv_pick, wv_alloc, wv_box, wv_build, wv_load, wv_loadn, wv_store, wv_nilCheck, wv_bin, wv_eq, wv_un, wv_convInt, wv_convSame, wv_fieldAddr, wv_field, wv_fieldn, wv_extract, wv_lenSlice, wv_lenString, wv_mkMap, wv_call, callee_func, wv_indexAddr, wv_lookup, wv_mapUpdate, wv_mapEntry, wv_entryStore, wv_delete, wv_append, wv_slice, wv_mkSlice, wv_buildSlice, wv_index, wv_copy, wv_lenMap, Abs.cellAt, Abs.rowAt, Abs.storeAt, Heap.get_put, List.getElem?_cons_zero, List.getElem?_cons_succ, Nat.zero_add, Nat.reduceAdd, idx, and_self, Int.toNat_natCast, cellsAt, ne_eq, not_true_eq_false, not_false_eq_true, cellList, Value.cells, List.length_cons, List.length_nil, List.all_cons, List.all_nil, isCell, Bool.and_self, storeL, List.set_cons_zero, List.set_cons_succ, footOf, true_and, and_true, Nat.reduceLeDiff, Nat.le_refl, Nat.reduceMul, Nat.reduceLT, List.nil_append, List.cons_append, List.length_set, ends_normal, ends_ret, endK_apply, resV_tmp, tupleV, eqV, Bool.not_true, Bool.not_false, BEq.rfl, Bool.true_beq, Bool.false_beq, beq_true, beq_false, Nat.sub_self, List.range'_zero, decide_true, decide_false, List.not_mem_nil, false_implies, implies_true, Bool.true_and, Bool.and_true, drawn, pairOk, disj, quietAt, Bool.bne_false, Bool.bne_true, Bool.false_eq_true, applyUpd, Int.reduceEq, Int.reduceNeg, bin_add, bin_sub, bin_mul, bin_lss, bin_leq, bin_gtr, bin_geq, bin_eql, bin_neq, un_not, wv_cap, wv_appendMake, wv_clear, wv_toString, wv_toBytes, wv_sameB, wv_mkIface, wv_minmax, c0, c3]
    refine wc_then hi0 ?_
    rintro e4 s4 ⟨d0, d3, d4, d5, rfl⟩
    refine wc_for (fun m e' s' => ∃ (i : Nat) (v : Value), m = 150 - i ∧ i ≤ 150 ∧ e'.get 0 = some v0 ∧ e'.get 3 = some (ptr p) ∧ e'.get 4 = some v ∧ e'.get 5 = some (ik (i : Nat)) ∧ PInv s1 s' p v i) 150 ⟨0, _, rfl, by omega, d0, d3, d4.trans c4, d5, hI⟩ ?_
    rintro m e5 s5 E ⟨i, v, rfl, hi, f0, f3, f4, f5, hI5⟩ hE
    have g0 := (hE 0 (by simp)).trans f0
    have g3 := (hE 3 (by simp)).trans f3
    have g4 := (hE 4 (by simp)).trans f4
    have g5 := (hE 5 (by simp)).trans f5
    have hk5 : Kept [] s1 s5 := by obtain ⟨_, _, _, _, _, _, _, _, _, _, _, _, _, _, _, _, _, hk⟩ := hI5; exact hk
    have hv5 := hv3.kept hk5
    refine WCode.mono ?_ (Py_h_gen hv5 g0 g5)
    rintro z e6 s6 ⟨rfl, k6, a26, rfl⟩
    refine ⟨rfl, _, a26, fun _ => ⟨rfl, trivial⟩, fun hb => ?_⟩
    simp only [Bool.and_eq_true, decide_eq_true_eq] at hb
    obtain ⟨w, id, key, hAi⟩ := hA i hb.1
    refine WCode.mono ?_ (Pact_gen T hv5 hb.1 hAi hb.2 hI5 ((k6 0 (by omega)).trans g0) ((k6 3 (by omega)).trans g3) ((k6 4 (by omega)).trans g4) ((k6 5 (by omega)).trans g5))
    rintro z e7 s7 ⟨rfl, x0, x3, x5, v', x4, hI7⟩
    refine .inl ⟨.inl rfl, ?_⟩
    refine WCode.mono ?_ (Py_n_gen (by omega) x5)
    rintro z e8 s8 ⟨rfl, k8, y5, rfl⟩
    exact ⟨rfl, 150 - (i + 1), by omega, i + 1, v', rfl, by omega, (k8 0 (by omega)).trans x0, (k8 3 (by omega)).trans x3, (k8 4 (by omega)).trans x4, y5, hI7⟩
  · rintro e4 s4 -
    simp only [Py_4, code5, params, wc_skip, wc_region, wc_draw, wc_seq, wc_cond, wc_block, wc_exit, wc_ret, next_normal, next_exit, next_ret, inBlock_normal, inBlock_ret, inBlock_exit, sq_apply, nrm_apply, drawnK_apply, boolV_bool, ccond_true, ccond_false, wo_nil, wo_cons, wo_guard, wop, bindP_some, cont_some, cont_none, guardV_bool, guardV_undef, gcont_true, gcont_false, gcont_false', ret_apply, aggK_apply, putK_apply, resK_apply, boolK_apply, ccont_apply, wd_nil, wd_cons, dvals_apply, dcont_some, dcont_none, AOp.vals, rd_tmp, rd_const, rd_func, get_cons, mapList, mapOpt, Option.bind_some, Option.map_some, Nat.reduceEqDiff, if_true, if_false, reduceIte, reduceCtorEq, wv_mov, wv_pick, wv_alloc, wv_box, wv_build, wv_load, wv_loadn, wv_store, wv_nilCheck, wv_bin, wv_eq, wv_un, wv_convInt, wv_convSame, wv_fieldAddr, wv_field, wv_fieldn, wv_extract, wv_lenSlice, wv_lenString, wv_mkMap, wv_call, callee_func, wv_indexAddr, wv_lookup, wv_mapUpdate, wv_mapEntry, wv_entryStore, wv_delete, wv_append, wv_slice, wv_mkSlice, wv_buildSlice, wv_index, wv_copy, wv_lenMap, Abs.cellAt, Abs.rowAt, Abs.storeAt, Heap.get_put, List.getElem?_cons_zero, List.getElem?_cons_succ, Nat.zero_add, Nat.reduceAdd, idx, and_self, Int.toNat_natCast, cellsAt, ne_eq, not_true_eq_false, not_false_eq_true, cellList, Value.cells, List.length_cons, List.length_nil, List.all_cons, List.all_nil, isCell, Bool.and_self, storeL, List.set_cons_zero, List.set_cons_succ, footOf, true_and, and_true, Nat.reduceLeDiff, Nat.le_refl, Nat.reduceMul, Nat.reduceLT, List.nil_append, List.cons_append, List.length_set, ends_normal, ends_ret, endK_apply, resV_tmp, tupleV, eqV, Bool.not_true, Bool.not_false, BEq.rfl, Bool.true_beq, Bool.false_beq, beq_true, beq_false, Nat.sub_self, List.range'_zero, decide_true, decide_false, List.not_mem_nil, false_implies, implies_true, Bool.true_and, Bool.and_true, drawn, pairOk, disj, quietAt, Bool.bne_false, Bool.bne_true, Bool.false_eq_true, applyUpd, Int.reduceEq, Int.reduceNeg, bin_add, bin_sub, bin_mul, bin_lss, bin_leq, bin_gtr, bin_geq, bin_eql, bin_neq, un_not, wv_cap, wv_appendMake, wv_clear, wv_toString, wv_toBytes, wv_sameB, wv_mkIface, wv_minmax]
    refine WCall.ov h17 (hov _) ?_
    simp only [params, wc_skip, wc_region, wc_draw, wc_seq, wc_cond, wc_block, wc_exit, wc_ret, next_normal, next_exit, next_ret, inBlock_normal, inBlock_ret, inBlock_exit, sq_apply, nrm_apply, drawnK_apply, boolV_bool, ccond_true, ccond_false, wo_nil, wo_cons, wo_guard, wop, bindP_some, cont_some, cont_none, guardV_bool, guardV_undef, gcont_true, gcont_false, gcont_false', ret_apply, aggK_apply, putK_apply, resK_apply, boolK_apply, ccont_apply, wd_nil, wd_cons, dvals_apply, dcont_some, dcont_none, AOp.vals, rd_tmp, rd_const, rd_func, get_cons, mapList, mapOpt, Option.bind_some, Option.map_some, Nat.reduceEqDiff, if_true, if_false, reduceIte, reduceCtorEq, wv_mov, wv_pick, wv_alloc, wv_box, wv_build, wv_load, wv_loadn, wv_store, wv_nilCheck, wv_bin, wv_eq, wv_un, wv_convInt, wv_convSame, wv_fieldAddr, wv_field, wv_fieldn, wv_extract, wv_lenSlice, wv_lenString, wv_mkMap, wv_call, callee_func, wv_indexAddr, wv_lookup, wv_mapUpdate, wv_mapEntry, wv_entryStore, wv_delete, wv_append, wv_slice, wv_mkSlice, wv_buildSlice, wv_index, wv_copy, wv_lenMap, Abs.cellAt, Abs.rowAt, Abs.storeAt, Heap.get_put, List.getElem?_cons_zero, List.getElem?_cons_succ, Nat.zero_add, Nat.reduceAdd, idx, and_self, Int.toNat_natCast, cellsAt, ne_eq, not_true_eq_false, not_false_eq_true, cellList, Value.cells, List.length_cons, List.length_nil, List.all_cons, List.all_nil, isCell, Bool.and_self, storeL, List.set_cons_zero, List.set_cons_succ, footOf, true_and, and_true, Nat.reduceLeDiff, Nat.le_refl, Nat.reduceMul, Nat.reduceLT, List.nil_append, List.cons_append, List.length_set, ends_normal, ends_ret, endK_apply, resV_tmp, tupleV, eqV, Bool.not_true, Bool.not_false, BEq.rfl, Bool.true_beq, Bool.false_beq, beq_true, beq_false, Nat.sub_self, List.range'_zero, decide_true, decide_false, List.not_mem_nil, false_implies, implies_true, Bool.true_and, Bool.and_true, drawn, pairOk, disj, quietAt, Bool.bne_false, Bool.bne_true, Bool.false_eq_true, applyUpd, Int.reduceEq, Int.reduceNeg, bin_add, bin_sub, bin_mul, bin_lss, bin_leq, bin_gtr, bin_geq, bin_eql, bin_neq, un_not, wv_cap, wv_appendMake, wv_clear, wv_toString, wv_toBytes, wv_sameB, wv_mkIface, wv_minmax, mapList, resV_tmp]

end
end Go.Proofs.Ytaigiehdnhehnaa
