/-
  HeapAgain: for every slice of numbers and every slice of bytes the law comes to true.
-/
import Derived.Test.YtaigiehdnhehnaaR1Sorts3
import Derived.Test.YtaigiehdnhehnaaA28
set_option maxRecDepth 100000
set_option linter.unusedVariables false
set_option linter.unusedSimpArgs false
namespace Go.Proofs.Ytaigiehdnhehnaa
open Go Go.Abs

/-- A slice of bytes as a law's argument: its block is read alone. -/
def BytesAt (s : St) (av : Value) (zs : List Int) (len : Nat) : Prop :=
  len ≤ zs.length ∧ (∀ z ∈ zs, 0 ≤ z ∧ z ≤ 255) ∧ ((av = .slice none 0 0 ∧ len = 0) ∨ ∃ a cap T, av = .slice (some ⟨a, 0, none⟩) len cap ∧ a < s.next ∧ s.heap.get a = some (.cells (zs.map (.int .u8)) T 1 true))

theorem BytesAt.chg {s0 s : St} {av : Value} {zs : List Int} {len : Nat} (h : BytesAt s0 av zs len) (hc : Chg [] s0 s) : BytesAt s av zs len := by
  obtain ⟨hl, hz, h | ⟨a, cap, T, rfl, ha, hg⟩⟩ := h
  · exact ⟨hl, hz, .inl h⟩
  · exact ⟨hl, hz, .inr ⟨a, cap, T, rfl, Nat.lt_of_lt_of_le ha hc.1, by rw [hc.2 a ha (by simp)]; exact hg⟩⟩

theorem BytesAt.sl {s : St} {av : Value} {zs : List Int} {len : Nat} (h : BytesAt s av zs len) : ∃ a cap, av = .slice a len cap := by
  obtain ⟨hl, _, ⟨rfl, rfl⟩ | ⟨a, cap, T, rfl, ha, hg⟩⟩ := h
  · exact ⟨_, _, rfl⟩
  · exact ⟨_, _, rfl⟩

theorem BytesAt.row {s : St} {av : Value} {zs : List Int} {len : Nat} (h : BytesAt s av zs len) (h0 : 0 < len) : ∃ a cap T, av = .slice (some ⟨a, 0, none⟩) len cap ∧ a < s.next ∧ s.heap.get a = some (.cells (zs.map (.int .u8)) T 1 true) := by
  obtain ⟨hl, _, ⟨rfl, rfl⟩ | ⟨a, cap, T, rfl, ha, hg⟩⟩ := h
  · simp at h0
  · exact ⟨_, _, _, rfl, ha, hg⟩

theorem bytes_get {zs : List Int} {i : Nat} (hi : i < zs.length) : (zs.map (Value.int .u8))[i]? = some (.int .u8 (zs.getD i 0)) := by
  simp [List.getElem?_map, List.getD_eq_getElem?_getD, hi]

theorem getD_mem {zs : List Int} {i : Nat} (hi : i < zs.length) : zs.getD i 0 ∈ zs := by
  rw [List.getD_eq_getElem?_getD, List.getElem?_eq_getElem hi, Option.getD_some]
  exact List.getElem_mem hi

def a4_0 : ACode := match code4 with | .seq x _ => x | _ => .skip
def a4_1 : ACode := match code4 with | .seq _ (.seq x _) => x | _ => .skip
def a4_2 : ACode := match code4 with | .seq _ (.seq _ (.seq x _)) => x | _ => .skip
def a4_3 : ACode := match code4 with | .seq _ (.seq _ (.seq _ (.seq x _))) => x | _ => .skip
def a4_4 : ACode := match code4 with | .seq _ (.seq _ (.seq _ (.seq _ (.seq x _)))) => x | _ => .skip
def a4_5 : ACode := match code4 with | .seq _ (.seq _ (.seq _ (.seq _ (.seq _ (.seq x _))))) => x | _ => .skip
def a4_6 : ACode := match code4 with | .seq _ (.seq _ (.seq _ (.seq _ (.seq _ (.seq _ (.seq x _)))))) => x | _ => .skip
def a4_7 : ACode := match code4 with | .seq _ (.seq _ (.seq _ (.seq _ (.seq _ (.seq _ (.seq _ (.seq x _))))))) => x | _ => .skip
def a4_8 : ACode := match code4 with | .seq _ (.seq _ (.seq _ (.seq _ (.seq _ (.seq _ (.seq _ (.seq _ (.seq x _)))))))) => x | _ => .skip
def a4_9 : ACode := match code4 with | .seq _ (.seq _ (.seq _ (.seq _ (.seq _ (.seq _ (.seq _ (.seq _ (.seq _ x)))))))) => x | _ => .skip
def c4i : ACode := match a4_4 with | .seq x _ => x | _ => .skip
def c4h : ACode := match a4_4 with | .seq _ (.block _ (.loop _ (.seq (.seq x _) _))) => x | _ => .skip
def c4b : ACode := match a4_4 with | .seq _ (.block _ (.loop _ (.seq _ (.seq (.block _ x) _)))) => x | _ => .skip
def c4n : ACode := match a4_4 with | .seq _ (.block _ (.loop _ (.seq _ (.seq _ x)))) => x | _ => .skip
def c5i : ACode := match a4_5 with | .seq x _ => x | _ => .skip
def c5h : ACode := match a4_5 with | .seq _ (.block _ (.loop _ (.seq (.seq x _) _))) => x | _ => .skip
def c5b : ACode := match a4_5 with | .seq _ (.block _ (.loop _ (.seq _ (.seq (.block _ x) _)))) => x | _ => .skip
def c5n : ACode := match a4_5 with | .seq _ (.block _ (.loop _ (.seq _ (.seq _ x)))) => x | _ => .skip
def c6i : ACode := match a4_6 with | .seq x _ => x | _ => .skip
def c6h : ACode := match a4_6 with | .seq _ (.block _ (.loop _ (.seq (.seq x _) _))) => x | _ => .skip
def c6b : ACode := match a4_6 with | .seq _ (.block _ (.loop _ (.seq _ (.seq (.block _ x) _)))) => x | _ => .skip
def c6n : ACode := match a4_6 with | .seq _ (.block _ (.loop _ (.seq _ (.seq _ x)))) => x | _ => .skip
def c7i : ACode := match a4_7 with | .seq x _ => x | _ => .skip
def c7h : ACode := match a4_7 with | .seq _ (.block _ (.loop _ (.seq (.seq x _) _))) => x | _ => .skip
def c7a : ACode := match a4_7 with | .seq _ (.block _ (.loop _ (.seq _ (.seq (.block _ (.seq x _)) _)))) => x | _ => .skip
def c7b : ACode := match a4_7 with | .seq _ (.block _ (.loop _ (.seq _ (.seq (.block _ (.seq _ (.seq x _))) _)))) => x | _ => .skip
def c7c : ACode := match a4_7 with | .seq _ (.block _ (.loop _ (.seq _ (.seq (.block _ (.seq _ (.seq _ (.seq x _)))) _)))) => x | _ => .skip
def c7n : ACode := match a4_7 with | .seq _ (.block _ (.loop _ (.seq _ (.seq _ x)))) => x | _ => .skip
def c7r : ACode := .seq (.region [⟨some 4, .mov (.const (.bool false)), none⟩] none) .ret
theorem code4_eq : code4 = .seq a4_0 (.seq a4_1 (.seq a4_2 (.seq a4_3 (.seq a4_4 (.seq a4_5 (.seq a4_6 (.seq a4_7 (.seq a4_8 a4_9)))))))) := rfl
theorem a4_4_eq : a4_4 = .seq c4i (.block 0 (.loop [0, 1, 5, 6, 7, 8] (.seq (.seq c4h (.cond (.tmp 26) .skip (.exit 0))) (.seq (.block 1 c4b) c4n)))) := rfl
theorem a4_5_eq : a4_5 = .seq c5i (.block 2 (.loop [0, 1, 5, 6, 7, 9] (.seq (.seq c5h (.cond (.tmp 47) .skip (.exit 2))) (.seq (.block 3 c5b) c5n)))) := rfl
theorem a4_6_eq : a4_6 = .seq c6i (.block 4 (.loop [0, 5, 6, 7, 10] (.seq (.seq c6h (.cond (.tmp 64) .skip (.exit 4))) (.seq (.block 5 c6b) c6n)))) := rfl
theorem a4_7_eq : a4_7 = .seq c7i (.block 6 (.loop [5, 6, 7, 11] (.seq (.seq c7h (.cond (.tmp 76) .skip (.exit 6))) (.seq (.block 7 (.seq c7a (.seq c7b (.seq c7c (.cond (.tmp 118) c7r .skip))))) c7n)))) := rfl

/-- Two heaps that lie apart. -/
structure Two (s0 s : St) (pa pb : Nat) (Sa Sb : List Nat) (La Lb : List Node) : Prop where
  ha : ∃ w, HP s pa Sa La w
  hb : ∃ w, HP s pb Sb Lb w
  oa : Ord La
  ob : Ord Lb
  chg : Chg [] s0 s
  la : ∀ x ∈ Sa, s0.next ≤ x
  lb : ∀ x ∈ Sb, s0.next ≤ x
  apart : ∀ x ∈ Sa, x ∉ Sb

theorem Two.symm {s0 s : St} {pa pb : Nat} {Sa Sb : List Nat} {La Lb : List Node} (h : Two s0 s pa pb Sa Sb La Lb) : Two s0 s pb pa Sb Sa Lb La :=
  ⟨h.hb, h.ha, h.ob, h.oa, h.chg, h.lb, h.la, fun x hx hy => h.apart x hy hx⟩

theorem Two.stepA {s0 s s' : St} {pa pb : Nat} {Sa Sb Sa' : List Nat} {La Lb La' : List Node} {w : Int} (h : Two s0 s pa pb Sa Sb La Lb) (h1 : HP s' pa Sa' La' w) (hc : Chg Sa s s') (hS : ∀ x ∈ Sa', x ∈ Sa ∨ s.next ≤ x) (ho : Ord La') : Two s0 s' pa pb Sa' Sb La' Lb where
  ha := ⟨w, h1⟩
  hb := by
    obtain ⟨wb, hb⟩ := h.hb
    exact ⟨wb, hb.frame hc fun x hx hy => h.apart x hy hx⟩
  oa := ho
  ob := h.ob
  chg := h.chg.comp hc fun x hx => .inr (h.la x hx)
  la := fun x hx => by
    rcases hS x hx with h1 | h1
    · exact h.la x h1
    · have := h.chg.1; omega
  lb := h.lb
  apart := fun x hx hy => by
    rcases hS x hx with h1 | h1
    · exact h.apart x h1 hy
    · obtain ⟨wb, hb⟩ := h.hb
      have := hb.lt x hy; omega

section
variable {tbl : FuncId → Option AFun} {ov : CallSem} {s s0 : St} {pa pb : Nat} {Sa Sb : List Nat} {La Lb : List Node} {e : Env} {av bv : Value} {zs ys : List Int} {len blen : Nat}

abbrev ptr (p : Nat) : Value := .pointer (some ⟨p, 0, none⟩)

theorem SetTo.len_le {L L' : List Node} {id key : Int} {c : Nat} (h : SetTo L id key L' c) : L'.length ≤ L.length + 1 := by
  by_cases hx : ∃ k, (id, k) ∈ L
  · rw [h.old hx]; omega
  · rw [h.new (fun k hk => hx ⟨k, hk⟩)]; omega

theorem two_set (T : HeapTbl tbl) (h : Two s0 s pa pb Sa Sb La Lb) (hL : La.length < 2 ^ 30) (id key : Int) :
    WCall (fun k => call tbl ov k) 14 [ptr pa, ik id, ik key] s fun v s' => ∃ Sa' La' c, Two s0 s' pa pb Sa' Sb La' Lb ∧ SetTo La id key La' c := by
  obtain ⟨w, ha⟩ := h.ha
  refine WCall.mono (set_spec T.h14 T.h30 T.h31 T.h32 T.h40 ha h.oa hL id key) ?_
  rintro v s1 ⟨S', L', c, hh, hc, hS, hset⟩
  exact ⟨S', L', c, h.stepA hh hc hS hset.ord, hset⟩

theorem two_setB (T : HeapTbl tbl) (h : Two s0 s pa pb Sa Sb La Lb) (hL : Lb.length < 2 ^ 30) (id key : Int) :
    WCall (fun k => call tbl ov k) 14 [ptr pb, ik id, ik key] s fun v s' => ∃ Sb' Lb' c, Two s0 s' pa pb Sa Sb' La Lb' ∧ SetTo Lb id key Lb' c :=
  WCall.mono (two_set T h.symm hL id key) fun v s' ⟨S', L', c, h1, h2⟩ => ⟨S', L', c, h1.symm, h2⟩

theorem two_drop (T : HeapTbl tbl) (h : Two s0 s pa pb Sa Sb La Lb) (hL : La.length < 2 ^ 30) {id k0 : Int} (hin : (id, k0) ∈ La) :
    WCall (fun k => call tbl ov k) 16 [ptr pa, ik id] s fun v s' => v = .bool true ∧ ∃ La' c, Two s0 s' pa pb Sa Sb La' Lb ∧ DropTo La id La' c := by
  obtain ⟨w, ha⟩ := h.ha
  refine WCall.mono (drop_spec T.h16 T.h30 T.h31 T.h32 T.h40 ha h.oa hL hin) ?_
  rintro v s1 ⟨rfl, L', c, hh, hc, hd⟩
  exact ⟨rfl, L', c, h.stepA hh hc (fun x hx => .inl hx) hd.ord, hd⟩

theorem two_dropB (T : HeapTbl tbl) (h : Two s0 s pa pb Sa Sb La Lb) (hL : Lb.length < 2 ^ 30) {id k0 : Int} (hin : (id, k0) ∈ Lb) :
    WCall (fun k => call tbl ov k) 16 [ptr pb, ik id] s fun v s' => v = .bool true ∧ ∃ Lb' c, Two s0 s' pa pb Sa Sb La Lb' ∧ DropTo Lb id Lb' c :=
  WCall.mono (two_drop T h.symm hL hin) fun v s' ⟨hv, L', c, h1, h2⟩ => ⟨hv, L', c, h1.symm, h2⟩

theorem a4_start (T : HeapTbl tbl) (hk : KeysAt s av zs len) {n : Nat} (hn : n = if len > 60 then 60 else len) (g0 : e.get 0 = some av) (g1 : e.get 1 = some bv) {rest : ACode} {Q : AExit → Env → St → Prop}
    (hq : ∀ (e' : Env) (s' : St) (pa pb : Nat) (Sa Sb : List Nat), e'.get 0 = some av → e'.get 1 = some bv → e'.get 5 = some (ptr pa) → e'.get 6 = some (ptr pb) → e'.get 7 = some (ik n) → Two s s' pa pb Sa Sb [] [] → WCode (fun k => call tbl ov k) rest e' s' Q) :
    WCode (fun k => call tbl ov k) (.seq a4_0 (.seq a4_1 (.seq a4_2 (.seq a4_3 rest)))) e s Q := by
  obtain ⟨a, cap, rfl⟩ := hk.sl
  have ho : Ord [] := fun c hc0 hcl => by simp at hcl
  have h1 : WCode (fun k => call tbl ov k) (.seq a4_0 a4_1) e s fun x e' s' => x = .normal ∧ e'.get 0 = e.get 0 ∧ e'.get 1 = e.get 1 ∧ ∃ pa pb Sa Sb, e'.get 5 = some (ptr pa) ∧ e'.get 6 = some (ptr pb) ∧ Two s s' pa pb Sa Sb [] [] := by
    simp only [a4_0, a4_1, code4, params, wc_skip, wc_region, wc_draw, wc_seq, wc_cond, wc_block, wc_exit, wc_ret, next_normal, next_exit, next_ret, inBlock_normal, inBlock_ret, inBlock_exit, sq_apply, nrm_apply, drawnK_apply, boolV_bool, ccond_true, ccond_false, wo_nil, wo_cons, wo_guard, wop, bindP_some, cont_some, cont_none, guardV_bool, guardV_undef, gcont_true, gcont_false, gcont_false', ret_apply, aggK_apply, putK_apply, resK_apply, boolK_apply, ccont_apply, wd_nil, wd_cons, dvals_apply, dcont_some, dcont_none, AOp.vals, rd_tmp, rd_const, rd_func, get_cons, mapList, mapOpt, Option.bind_some, Option.map_some, Nat.reduceEqDiff, if_true, if_false, reduceIte, reduceCtorEq, wv_mov, wv_pick, wv_alloc, wv_box, wv_build, wv_load, wv_loadn, wv_store, wv_nilCheck, wv_bin, wv_eq, wv_un, wv_convInt, wv_convSame, wv_fieldAddr, wv_field, wv_fieldn, wv_extract, wv_lenSlice, wv_lenString, wv_mkMap, wv_call, callee_func, wv_indexAddr, wv_lookup, wv_mapUpdate, wv_mapEntry, wv_entryStore, wv_delete, wv_append, wv_slice, wv_mkSlice, wv_buildSlice, wv_index, wv_copy, wv_lenMap, Abs.cellAt, Abs.rowAt, Abs.storeAt, Heap.get_put, List.getElem?_cons_zero, List.getElem?_cons_succ, Nat.zero_add, Nat.reduceAdd, idx, and_self, Int.toNat_natCast, cellsAt, ne_eq, not_true_eq_false, not_false_eq_true, cellList, Value.cells, List.length_cons, List.length_nil, List.all_cons, List.all_nil, isCell, Bool.and_self, storeL, List.set_cons_zero, List.set_cons_succ, footOf, true_and, and_true, Nat.reduceLeDiff, Nat.le_refl, Nat.reduceMul, Nat.reduceLT, List.nil_append, List.cons_append, List.length_set, ends_normal, ends_ret, endK_apply, resV_tmp, tupleV, binV, unV, eqV, Bool.not_true, Bool.not_false, BEq.rfl, Bool.true_beq, Bool.false_beq, beq_true, beq_false, Nat.sub_self, List.range'_zero, decide_true, decide_false, List.not_mem_nil, false_implies, implies_true, Bool.true_and, Bool.and_true, drawn, pairOk, disj, quietAt, Bool.bne_false, Bool.bne_true, Bool.false_eq_true, applyUpd, Int.reduceEq, Int.reduceNeg]
    refine WCall.mono (new_spec T.h13 s) ?_
    rintro v s1 ⟨pa, Sa, rfl, hh, hc, hS⟩
    simp only [params, wc_skip, wc_region, wc_draw, wc_seq, wc_cond, wc_block, wc_exit, wc_ret, next_normal, next_exit, next_ret, inBlock_normal, inBlock_ret, inBlock_exit, sq_apply, nrm_apply, drawnK_apply, boolV_bool, ccond_true, ccond_false, wo_nil, wo_cons, wo_guard, wop, bindP_some, cont_some, cont_none, guardV_bool, guardV_undef, gcont_true, gcont_false, gcont_false', ret_apply, aggK_apply, putK_apply, resK_apply, boolK_apply, ccont_apply, wd_nil, wd_cons, dvals_apply, dcont_some, dcont_none, AOp.vals, rd_tmp, rd_const, rd_func, get_cons, mapList, mapOpt, Option.bind_some, Option.map_some, Nat.reduceEqDiff, if_true, if_false, reduceIte, reduceCtorEq, wv_mov, wv_pick, wv_alloc, wv_box, wv_build, wv_load, wv_loadn, wv_store, wv_nilCheck, wv_bin, wv_eq, wv_un, wv_convInt, wv_convSame, wv_fieldAddr, wv_field, wv_fieldn, wv_extract, wv_lenSlice, wv_lenString, wv_mkMap, wv_call, callee_func, wv_indexAddr, wv_lookup, wv_mapUpdate, wv_mapEntry, wv_entryStore, wv_delete, wv_append, wv_slice, wv_mkSlice, wv_buildSlice, wv_index, wv_copy, wv_lenMap, Abs.cellAt, Abs.rowAt, Abs.storeAt, Heap.get_put, List.getElem?_cons_zero, List.getElem?_cons_succ, Nat.zero_add, Nat.reduceAdd, idx, and_self, Int.toNat_natCast, cellsAt, ne_eq, not_true_eq_false, not_false_eq_true, cellList, Value.cells, List.length_cons, List.length_nil, List.all_cons, List.all_nil, isCell, Bool.and_self, storeL, List.set_cons_zero, List.set_cons_succ, footOf, true_and, and_true, Nat.reduceLeDiff, Nat.le_refl, Nat.reduceMul, Nat.reduceLT, List.nil_append, List.cons_append, List.length_set, ends_normal, ends_ret, endK_apply, resV_tmp, tupleV, binV, unV, eqV, Bool.not_true, Bool.not_false, BEq.rfl, Bool.true_beq, Bool.false_beq, beq_true, beq_false, Nat.sub_self, List.range'_zero, decide_true, decide_false, List.not_mem_nil, false_implies, implies_true, Bool.true_and, Bool.and_true, drawn, pairOk, disj, quietAt, Bool.bne_false, Bool.bne_true, Bool.false_eq_true, applyUpd, Int.reduceEq, Int.reduceNeg]
    refine WCall.mono (new_spec T.h13 s1) ?_
    rintro v s2 ⟨pb, Sb, rfl, hh2, hc2, hS2⟩
    simp only [params, wc_skip, wc_region, wc_draw, wc_seq, wc_cond, wc_block, wc_exit, wc_ret, next_normal, next_exit, next_ret, inBlock_normal, inBlock_ret, inBlock_exit, sq_apply, nrm_apply, drawnK_apply, boolV_bool, ccond_true, ccond_false, wo_nil, wo_cons, wo_guard, wop, bindP_some, cont_some, cont_none, guardV_bool, guardV_undef, gcont_true, gcont_false, gcont_false', ret_apply, aggK_apply, putK_apply, resK_apply, boolK_apply, ccont_apply, wd_nil, wd_cons, dvals_apply, dcont_some, dcont_none, AOp.vals, rd_tmp, rd_const, rd_func, get_cons, mapList, mapOpt, Option.bind_some, Option.map_some, Nat.reduceEqDiff, if_true, if_false, reduceIte, reduceCtorEq, wv_mov, wv_pick, wv_alloc, wv_box, wv_build, wv_load, wv_loadn, wv_store, wv_nilCheck, wv_bin, wv_eq, wv_un, wv_convInt, wv_convSame, wv_fieldAddr, wv_field, wv_fieldn, wv_extract, wv_lenSlice, wv_lenString, wv_mkMap, wv_call, callee_func, wv_indexAddr, wv_lookup, wv_mapUpdate, wv_mapEntry, wv_entryStore, wv_delete, wv_append, wv_slice, wv_mkSlice, wv_buildSlice, wv_index, wv_copy, wv_lenMap, Abs.cellAt, Abs.rowAt, Abs.storeAt, Heap.get_put, List.getElem?_cons_zero, List.getElem?_cons_succ, Nat.zero_add, Nat.reduceAdd, idx, and_self, Int.toNat_natCast, cellsAt, ne_eq, not_true_eq_false, not_false_eq_true, cellList, Value.cells, List.length_cons, List.length_nil, List.all_cons, List.all_nil, isCell, Bool.and_self, storeL, List.set_cons_zero, List.set_cons_succ, footOf, true_and, and_true, Nat.reduceLeDiff, Nat.le_refl, Nat.reduceMul, Nat.reduceLT, List.nil_append, List.cons_append, List.length_set, ends_normal, ends_ret, endK_apply, resV_tmp, tupleV, binV, unV, eqV, Bool.not_true, Bool.not_false, BEq.rfl, Bool.true_beq, Bool.false_beq, beq_true, beq_false, Nat.sub_self, List.range'_zero, decide_true, decide_false, List.not_mem_nil, false_implies, implies_true, Bool.true_and, Bool.and_true, drawn, pairOk, disj, quietAt, Bool.bne_false, Bool.bne_true, Bool.false_eq_true, applyUpd, Int.reduceEq, Int.reduceNeg]
    refine ⟨pa, pb, Sa, Sb, rfl, rfl, ⟨⟨0, hh.frame hc2 fun _ _ => by simp⟩, ⟨0, hh2⟩, ho, ho, hc.trans hc2, hS, fun x hx => by have := hS2 x hx; have := hc.1; omega, fun x hx hy => by have := hS2 x hy; have := hh.lt x hx; omega⟩⟩
  have h2 : ∀ e s, e.get 0 = some (.slice a len cap) → WCode (fun k => call tbl ov k) (.seq a4_2 a4_3) e s fun x e' s' => x = .normal ∧ (∀ j, j < 7 → e'.get j = e.get j) ∧ e'.get 7 = some (ik n) ∧ s' = s := by
    intro e s g0
    by_cases hb : len > 60
    · rw [if_pos hb] at hn
      subst hn
      have d : decide ((len : Int) > 60) = true := decide_eq_true (by omega)
      simp only [a4_2, a4_3, code4, params, wc_skip, wc_region, wc_draw, wc_seq, wc_cond, wc_block, wc_exit, wc_ret, next_normal, next_exit, next_ret, inBlock_normal, inBlock_ret, inBlock_exit, sq_apply, nrm_apply, drawnK_apply, boolV_bool, ccond_true, ccond_false, wo_nil, wo_cons, wo_guard, wop, bindP_some, cont_some, cont_none, guardV_bool, guardV_undef, gcont_true, gcont_false, gcont_false', ret_apply, aggK_apply, putK_apply, resK_apply, boolK_apply, ccont_apply, wd_nil, wd_cons, dvals_apply, dcont_some, dcont_none, AOp.vals, rd_tmp, rd_const, rd_func, get_cons, mapList, mapOpt, Option.bind_some, Option.map_some, Nat.reduceEqDiff, if_true, if_false, reduceIte, reduceCtorEq, wv_mov, wv_pick, wv_alloc, wv_box, wv_build, wv_load, wv_loadn, wv_store, wv_nilCheck, wv_bin, wv_eq, wv_un, wv_convInt, wv_convSame, wv_fieldAddr, wv_field, wv_fieldn, wv_extract, wv_lenSlice, wv_lenString, wv_mkMap, wv_call, callee_func, wv_indexAddr, wv_lookup, wv_mapUpdate, wv_mapEntry, wv_entryStore, wv_delete, wv_append, wv_slice, wv_mkSlice, wv_buildSlice, wv_index, wv_copy, wv_lenMap, Abs.cellAt, Abs.rowAt, Abs.storeAt, Heap.get_put, List.getElem?_cons_zero, List.getElem?_cons_succ, Nat.zero_add, Nat.reduceAdd, idx, and_self, Int.toNat_natCast, cellsAt, ne_eq, not_true_eq_false, not_false_eq_true, cellList, Value.cells, List.length_cons, List.length_nil, List.all_cons, List.all_nil, isCell, Bool.and_self, storeL, List.set_cons_zero, List.set_cons_succ, footOf, true_and, and_true, Nat.reduceLeDiff, Nat.le_refl, Nat.reduceMul, Nat.reduceLT, List.nil_append, List.cons_append, List.length_set, ends_normal, ends_ret, endK_apply, resV_tmp, tupleV, binV, unV, eqV, Bool.not_true, Bool.not_false, BEq.rfl, Bool.true_beq, Bool.false_beq, beq_true, beq_false, Nat.sub_self, List.range'_zero, decide_true, decide_false, List.not_mem_nil, false_implies, implies_true, Bool.true_and, Bool.and_true, drawn, pairOk, disj, quietAt, Bool.bne_false, Bool.bne_true, Bool.false_eq_true, applyUpd, Int.reduceEq, Int.reduceNeg, g0, d]
      refine ⟨fun j hj => ?_, rfl⟩
      simp (disch := omega) only [get_cons, if_neg]
    · rw [if_neg hb] at hn
      subst hn
      have d : decide ((n : Int) > 60) = false := decide_eq_false (by omega)
      simp only [a4_2, a4_3, code4, params, wc_skip, wc_region, wc_draw, wc_seq, wc_cond, wc_block, wc_exit, wc_ret, next_normal, next_exit, next_ret, inBlock_normal, inBlock_ret, inBlock_exit, sq_apply, nrm_apply, drawnK_apply, boolV_bool, ccond_true, ccond_false, wo_nil, wo_cons, wo_guard, wop, bindP_some, cont_some, cont_none, guardV_bool, guardV_undef, gcont_true, gcont_false, gcont_false', ret_apply, aggK_apply, putK_apply, resK_apply, boolK_apply, ccont_apply, wd_nil, wd_cons, dvals_apply, dcont_some, dcont_none, AOp.vals, rd_tmp, rd_const, rd_func, get_cons, mapList, mapOpt, Option.bind_some, Option.map_some, Nat.reduceEqDiff, if_true, if_false, reduceIte, reduceCtorEq, wv_mov, wv_pick, wv_alloc, wv_box, wv_build, wv_load, wv_loadn, wv_store, wv_nilCheck, wv_bin, wv_eq, wv_un, wv_convInt, wv_convSame, wv_fieldAddr, wv_field, wv_fieldn, wv_extract, wv_lenSlice, wv_lenString, wv_mkMap, wv_call, callee_func, wv_indexAddr, wv_lookup, wv_mapUpdate, wv_mapEntry, wv_entryStore, wv_delete, wv_append, wv_slice, wv_mkSlice, wv_buildSlice, wv_index, wv_copy, wv_lenMap, Abs.cellAt, Abs.rowAt, Abs.storeAt, Heap.get_put, List.getElem?_cons_zero, List.getElem?_cons_succ, Nat.zero_add, Nat.reduceAdd, idx, and_self, Int.toNat_natCast, cellsAt, ne_eq, not_true_eq_false, not_false_eq_true, cellList, Value.cells, List.length_cons, List.length_nil, List.all_cons, List.all_nil, isCell, Bool.and_self, storeL, List.set_cons_zero, List.set_cons_succ, footOf, true_and, and_true, Nat.reduceLeDiff, Nat.le_refl, Nat.reduceMul, Nat.reduceLT, List.nil_append, List.cons_append, List.length_set, ends_normal, ends_ret, endK_apply, resV_tmp, tupleV, binV, unV, eqV, Bool.not_true, Bool.not_false, BEq.rfl, Bool.true_beq, Bool.false_beq, beq_true, beq_false, Nat.sub_self, List.range'_zero, decide_true, decide_false, List.not_mem_nil, false_implies, implies_true, Bool.true_and, Bool.and_true, drawn, pairOk, disj, quietAt, Bool.bne_false, Bool.bne_true, Bool.false_eq_true, applyUpd, Int.reduceEq, Int.reduceNeg, g0, d]
      intro j hj
      simp (disch := omega) only [get_cons, if_neg]
  rw [wc_assoc]
  refine wc_then h1 ?_
  rintro e1 s1 ⟨a0, a1, pa, pb, Sa, Sb, a5, a6, h⟩
  rw [wc_assoc]
  refine wc_then (h2 e1 s1 (a0.trans g0)) ?_
  rintro e2 s2 ⟨k2, b7, rfl⟩
  exact hq e2 s2 pa pb Sa Sb ((k2 0 (by omega)).trans (a0.trans g0)) ((k2 1 (by omega)).trans (a1.trans g1)) ((k2 5 (by omega)).trans a5) ((k2 6 (by omega)).trans a6) b7 h

/-! ### the regions -/
theorem c4i_gen : WCode (fun k => call tbl ov k) c4i e s fun x e' s' => x = .normal ∧ (∀ j, j < 8 → e'.get j = e.get j) ∧ e'.get 8 = some (ik 0) ∧ s' = s := by
  simp only [c4i, a4_4, code4, params, wc_skip, wc_region, wc_draw, wc_seq, wc_cond, wc_block, wc_exit, wc_ret, next_normal, next_exit, next_ret, inBlock_normal, inBlock_ret, inBlock_exit, sq_apply, nrm_apply, drawnK_apply, boolV_bool, ccond_true, ccond_false, wo_nil, wo_cons, wo_guard, wop, bindP_some, cont_some, cont_none, guardV_bool, guardV_undef, gcont_true, gcont_false, gcont_false', ret_apply, aggK_apply, putK_apply, resK_apply, boolK_apply, ccont_apply, wd_nil, wd_cons, dvals_apply, dcont_some, dcont_none, AOp.vals, rd_tmp, rd_const, rd_func, get_cons, mapList, mapOpt, Option.bind_some, Option.map_some, Nat.reduceEqDiff, if_true, if_false, reduceIte, reduceCtorEq, wv_mov, wv_pick, wv_alloc, wv_box, wv_build, wv_load, wv_loadn, wv_store, wv_nilCheck, wv_bin, wv_eq, wv_un, wv_convInt, wv_convSame, wv_fieldAddr, wv_field, wv_fieldn, wv_extract, wv_lenSlice, wv_lenString, wv_mkMap, wv_call, callee_func, wv_indexAddr, wv_lookup, wv_mapUpdate, wv_mapEntry, wv_entryStore, wv_delete, wv_append, wv_slice, wv_mkSlice, wv_buildSlice, wv_index, wv_copy, wv_lenMap, Abs.cellAt, Abs.rowAt, Abs.storeAt, Heap.get_put, List.getElem?_cons_zero, List.getElem?_cons_succ, Nat.zero_add, Nat.reduceAdd, idx, and_self, Int.toNat_natCast, cellsAt, ne_eq, not_true_eq_false, not_false_eq_true, cellList, Value.cells, List.length_cons, List.length_nil, List.all_cons, List.all_nil, isCell, Bool.and_self, storeL, List.set_cons_zero, List.set_cons_succ, footOf, true_and, and_true, Nat.reduceLeDiff, Nat.le_refl, Nat.reduceMul, Nat.reduceLT, List.nil_append, List.cons_append, List.length_set, ends_normal, ends_ret, endK_apply, resV_tmp, tupleV, binV, unV, eqV, Bool.not_true, Bool.not_false, BEq.rfl, Bool.true_beq, Bool.false_beq, beq_true, beq_false, Nat.sub_self, List.range'_zero, decide_true, decide_false, List.not_mem_nil, false_implies, implies_true, Bool.true_and, Bool.and_true, drawn, pairOk, disj, quietAt, Bool.bne_false, Bool.bne_true, Bool.false_eq_true, applyUpd, Int.reduceEq, Int.reduceNeg]
  intro j hj
  simp (disch := omega) only [get_cons, if_neg]

theorem c4h_gen {i n : Nat} (g7 : e.get 7 = some (ik n)) (g8 : e.get 8 = some (ik i)) : WCode (fun k => call tbl ov k) c4h e s fun x e' s' => x = .normal ∧ (∀ j, j < 20 → e'.get j = e.get j) ∧ e'.get 26 = some (.bool (decide (i < n))) ∧ s' = s := by
  have d : decide ((i : Int) < (n : Int)) = decide (i < n) := by simp
  simp only [c4h, a4_4, code4, params, wc_skip, wc_region, wc_draw, wc_seq, wc_cond, wc_block, wc_exit, wc_ret, next_normal, next_exit, next_ret, inBlock_normal, inBlock_ret, inBlock_exit, sq_apply, nrm_apply, drawnK_apply, boolV_bool, ccond_true, ccond_false, wo_nil, wo_cons, wo_guard, wop, bindP_some, cont_some, cont_none, guardV_bool, guardV_undef, gcont_true, gcont_false, gcont_false', ret_apply, aggK_apply, putK_apply, resK_apply, boolK_apply, ccont_apply, wd_nil, wd_cons, dvals_apply, dcont_some, dcont_none, AOp.vals, rd_tmp, rd_const, rd_func, get_cons, mapList, mapOpt, Option.bind_some, Option.map_some, Nat.reduceEqDiff, if_true, if_false, reduceIte, reduceCtorEq, wv_mov, wv_pick, wv_alloc, wv_box, wv_build, wv_load, wv_loadn, wv_store, wv_nilCheck, wv_bin, wv_eq, wv_un, wv_convInt, wv_convSame, wv_fieldAddr, wv_field, wv_fieldn, wv_extract, wv_lenSlice, wv_lenString, wv_mkMap, wv_call, callee_func, wv_indexAddr, wv_lookup, wv_mapUpdate, wv_mapEntry, wv_entryStore, wv_delete, wv_append, wv_slice, wv_mkSlice, wv_buildSlice, wv_index, wv_copy, wv_lenMap, Abs.cellAt, Abs.rowAt, Abs.storeAt, Heap.get_put, List.getElem?_cons_zero, List.getElem?_cons_succ, Nat.zero_add, Nat.reduceAdd, idx, and_self, Int.toNat_natCast, cellsAt, ne_eq, not_true_eq_false, not_false_eq_true, cellList, Value.cells, List.length_cons, List.length_nil, List.all_cons, List.all_nil, isCell, Bool.and_self, storeL, List.set_cons_zero, List.set_cons_succ, footOf, true_and, and_true, Nat.reduceLeDiff, Nat.le_refl, Nat.reduceMul, Nat.reduceLT, List.nil_append, List.cons_append, List.length_set, ends_normal, ends_ret, endK_apply, resV_tmp, tupleV, binV, unV, eqV, Bool.not_true, Bool.not_false, BEq.rfl, Bool.true_beq, Bool.false_beq, beq_true, beq_false, Nat.sub_self, List.range'_zero, decide_true, decide_false, List.not_mem_nil, false_implies, implies_true, Bool.true_and, Bool.and_true, drawn, pairOk, disj, quietAt, Bool.bne_false, Bool.bne_true, Bool.false_eq_true, applyUpd, Int.reduceEq, Int.reduceNeg, g7, g8, d]
  intro j hj
  simp (disch := omega) only [get_cons, if_neg]

theorem c4b_gen (T : HeapTbl tbl) (h : Two s0 s pa pb Sa Sb La Lb) (hL : La.length < 2 ^ 30) (hk : KeysAt s av zs len) {i : Nat} (hi : i < len) (g0 : e.get 0 = some av) (g5 : e.get 5 = some (ptr pa)) (g8 : e.get 8 = some (ik i)) :
    WCode (fun k => call tbl ov k) c4b e s fun x e' s' => x = .normal ∧ (∀ j, j < 20 → e'.get j = e.get j) ∧ ∃ Sa' La' c, Two s0 s' pa pb Sa' Sb La' Lb ∧ SetTo La i (zs.getD i 0) La' c := by
  obtain ⟨a, cap, t, rfl, ha, hg⟩ := hk.row (by omega)
  have hz := hk.1
  have d2 : (0 : Int) ≤ i := by omega
  have d3 : (i : Int) < (len : Nat) := by omega
  have hgt := keys_get (zs := zs) (i := i) (by omega)
  simp only [c4b, a4_4, code4, params, wc_skip, wc_region, wc_draw, wc_seq, wc_cond, wc_block, wc_exit, wc_ret, next_normal, next_exit, next_ret, inBlock_normal, inBlock_ret, inBlock_exit, sq_apply, nrm_apply, drawnK_apply, boolV_bool, ccond_true, ccond_false, wo_nil, wo_cons, wo_guard, wop, bindP_some, cont_some, cont_none, guardV_bool, guardV_undef, gcont_true, gcont_false, gcont_false', ret_apply, aggK_apply, putK_apply, resK_apply, boolK_apply, ccont_apply, wd_nil, wd_cons, dvals_apply, dcont_some, dcont_none, AOp.vals, rd_tmp, rd_const, rd_func, get_cons, mapList, mapOpt, Option.bind_some, Option.map_some, Nat.reduceEqDiff, if_true, if_false, reduceIte, reduceCtorEq, wv_mov, wv_pick, wv_alloc, wv_box, wv_build, wv_load, wv_loadn, wv_store, wv_nilCheck, wv_bin, wv_eq, wv_un, wv_convInt, wv_convSame, wv_fieldAddr, wv_field, wv_fieldn, wv_extract, wv_lenSlice, wv_lenString, wv_mkMap, wv_call, callee_func, wv_indexAddr, wv_lookup, wv_mapUpdate, wv_mapEntry, wv_entryStore, wv_delete, wv_append, wv_slice, wv_mkSlice, wv_buildSlice, wv_index, wv_copy, wv_lenMap, Abs.cellAt, Abs.rowAt, Abs.storeAt, Heap.get_put, List.getElem?_cons_zero, List.getElem?_cons_succ, Nat.zero_add, Nat.reduceAdd, idx, and_self, Int.toNat_natCast, cellsAt, ne_eq, not_true_eq_false, not_false_eq_true, cellList, Value.cells, List.length_cons, List.length_nil, List.all_cons, List.all_nil, isCell, Bool.and_self, storeL, List.set_cons_zero, List.set_cons_succ, footOf, true_and, and_true, Nat.reduceLeDiff, Nat.le_refl, Nat.reduceMul, Nat.reduceLT, List.nil_append, List.cons_append, List.length_set, ends_normal, ends_ret, endK_apply, resV_tmp, tupleV, binV, unV, eqV, Bool.not_true, Bool.not_false, BEq.rfl, Bool.true_beq, Bool.false_beq, beq_true, beq_false, Nat.sub_self, List.range'_zero, decide_true, decide_false, List.not_mem_nil, false_implies, implies_true, Bool.true_and, Bool.and_true, drawn, pairOk, disj, quietAt, Bool.bne_false, Bool.bne_true, Bool.false_eq_true, applyUpd, Int.reduceEq, Int.reduceNeg, g0, g5, g8, d2, d3, Nat.mul_one, hg, hgt]
  refine WCall.mono (two_set T h hL _ _) ?_
  rintro v s1 ⟨S', L', c, hh, hset⟩
  simp only [params, wc_skip, wc_region, wc_draw, wc_seq, wc_cond, wc_block, wc_exit, wc_ret, next_normal, next_exit, next_ret, inBlock_normal, inBlock_ret, inBlock_exit, sq_apply, nrm_apply, drawnK_apply, boolV_bool, ccond_true, ccond_false, wo_nil, wo_cons, wo_guard, wop, bindP_some, cont_some, cont_none, guardV_bool, guardV_undef, gcont_true, gcont_false, gcont_false', ret_apply, aggK_apply, putK_apply, resK_apply, boolK_apply, ccont_apply, wd_nil, wd_cons, dvals_apply, dcont_some, dcont_none, AOp.vals, rd_tmp, rd_const, rd_func, get_cons, mapList, mapOpt, Option.bind_some, Option.map_some, Nat.reduceEqDiff, if_true, if_false, reduceIte, reduceCtorEq, wv_mov, wv_pick, wv_alloc, wv_box, wv_build, wv_load, wv_loadn, wv_store, wv_nilCheck, wv_bin, wv_eq, wv_un, wv_convInt, wv_convSame, wv_fieldAddr, wv_field, wv_fieldn, wv_extract, wv_lenSlice, wv_lenString, wv_mkMap, wv_call, callee_func, wv_indexAddr, wv_lookup, wv_mapUpdate, wv_mapEntry, wv_entryStore, wv_delete, wv_append, wv_slice, wv_mkSlice, wv_buildSlice, wv_index, wv_copy, wv_lenMap, Abs.cellAt, Abs.rowAt, Abs.storeAt, Heap.get_put, List.getElem?_cons_zero, List.getElem?_cons_succ, Nat.zero_add, Nat.reduceAdd, idx, and_self, Int.toNat_natCast, cellsAt, ne_eq, not_true_eq_false, not_false_eq_true, cellList, Value.cells, List.length_cons, List.length_nil, List.all_cons, List.all_nil, isCell, Bool.and_self, storeL, List.set_cons_zero, List.set_cons_succ, footOf, true_and, and_true, Nat.reduceLeDiff, Nat.le_refl, Nat.reduceMul, Nat.reduceLT, List.nil_append, List.cons_append, List.length_set, ends_normal, ends_ret, endK_apply, resV_tmp, tupleV, binV, unV, eqV, Bool.not_true, Bool.not_false, BEq.rfl, Bool.true_beq, Bool.false_beq, beq_true, beq_false, Nat.sub_self, List.range'_zero, decide_true, decide_false, List.not_mem_nil, false_implies, implies_true, Bool.true_and, Bool.and_true, drawn, pairOk, disj, quietAt, Bool.bne_false, Bool.bne_true, Bool.false_eq_true, applyUpd, Int.reduceEq, Int.reduceNeg]
  refine ⟨fun j hj => ?_, S', L', c, hh, hset⟩
  simp (disch := omega) only [get_cons, if_neg]

theorem c4n_gen {i : Nat} (hi : i < 2 ^ 60) (g8 : e.get 8 = some (ik i)) : WCode (fun k => call tbl ov k) c4n e s fun x e' s' => x = .normal ∧ (∀ j, j < 8 → e'.get j = e.get j) ∧ e'.get 8 = some (ik (i + 1 : Nat)) ∧ s' = s := by
  have w : IntKind.i64.wrap ((i : Int) + 1) = ((i + 1 : Nat) : Int) := by rw [wrap_in (by omega) (by omega)]; omega
  simp only [c4n, a4_4, code4, params, wc_skip, wc_region, wc_draw, wc_seq, wc_cond, wc_block, wc_exit, wc_ret, next_normal, next_exit, next_ret, inBlock_normal, inBlock_ret, inBlock_exit, sq_apply, nrm_apply, drawnK_apply, boolV_bool, ccond_true, ccond_false, wo_nil, wo_cons, wo_guard, wop, bindP_some, cont_some, cont_none, guardV_bool, guardV_undef, gcont_true, gcont_false, gcont_false', ret_apply, aggK_apply, putK_apply, resK_apply, boolK_apply, ccont_apply, wd_nil, wd_cons, dvals_apply, dcont_some, dcont_none, AOp.vals, rd_tmp, rd_const, rd_func, get_cons, mapList, mapOpt, Option.bind_some, Option.map_some, Nat.reduceEqDiff, if_true, if_false, reduceIte, reduceCtorEq, wv_mov, wv_pick, wv_alloc, wv_box, wv_build, wv_load, wv_loadn, wv_store, wv_nilCheck, wv_bin, wv_eq, wv_un, wv_convInt, wv_convSame, wv_fieldAddr, wv_field, wv_fieldn, wv_extract, wv_lenSlice, wv_lenString, wv_mkMap, wv_call, callee_func, wv_indexAddr, wv_lookup, wv_mapUpdate, wv_mapEntry, wv_entryStore, wv_delete, wv_append, wv_slice, wv_mkSlice, wv_buildSlice, wv_index, wv_copy, wv_lenMap, Abs.cellAt, Abs.rowAt, Abs.storeAt, Heap.get_put, List.getElem?_cons_zero, List.getElem?_cons_succ, Nat.zero_add, Nat.reduceAdd, idx, and_self, Int.toNat_natCast, cellsAt, ne_eq, not_true_eq_false, not_false_eq_true, cellList, Value.cells, List.length_cons, List.length_nil, List.all_cons, List.all_nil, isCell, Bool.and_self, storeL, List.set_cons_zero, List.set_cons_succ, footOf, true_and, and_true, Nat.reduceLeDiff, Nat.le_refl, Nat.reduceMul, Nat.reduceLT, List.nil_append, List.cons_append, List.length_set, ends_normal, ends_ret, endK_apply, resV_tmp, tupleV, binV, unV, eqV, Bool.not_true, Bool.not_false, BEq.rfl, Bool.true_beq, Bool.false_beq, beq_true, beq_false, Nat.sub_self, List.range'_zero, decide_true, decide_false, List.not_mem_nil, false_implies, implies_true, Bool.true_and, Bool.and_true, drawn, pairOk, disj, quietAt, Bool.bne_false, Bool.bne_true, Bool.false_eq_true, applyUpd, Int.reduceEq, Int.reduceNeg, g8, w]
  intro j hj
  simp (disch := omega) only [get_cons, if_neg]

theorem a4_4_gen (T : HeapTbl tbl) (hk : KeysAt s0 av zs len) {n : Nat} (hn : n ≤ len) (hn1 : n ≤ 60) (h : Two s0 s pa pb Sa Sb [] Lb)
    (g0 : e.get 0 = some av) (g1 : e.get 1 = some bv) (g5 : e.get 5 = some (ptr pa)) (g6 : e.get 6 = some (ptr pb)) (g7 : e.get 7 = some (ik n)) :
    WCode (fun k => call tbl ov k) a4_4 e s fun x e' s' => x = .normal ∧ (e'.get 0 = some av ∧ e'.get 1 = some bv ∧ e'.get 5 = some (ptr pa) ∧ e'.get 6 = some (ptr pb) ∧ e'.get 7 = some (ik n)) ∧ ∃ Sa' La', Two s0 s' pa pb Sa' Sb La' Lb ∧ First zs n La' := by
  rw [a4_4_eq]
  refine wc_for' (fun k e s => ∃ i L S, k = n - i ∧ i ≤ n ∧ (e.get 0 = some av ∧ e.get 1 = some bv ∧ e.get 5 = some (ptr pa) ∧ e.get 6 = some (ptr pb) ∧ e.get 7 = some (ik n)) ∧ e.get 8 = some (ik (i : Nat)) ∧ Two s0 s pa pb S Sb L Lb ∧ First zs i L) n ?_ ?_
  · refine WCode.mono ?_ c4i_gen
    rintro x e1 s1 ⟨rfl, k1, a8, rfl⟩
    exact ⟨rfl, 0, [], Sa, rfl, by omega, ⟨(k1 0 (by omega)).trans g0, (k1 1 (by omega)).trans g1, (k1 5 (by omega)).trans g5, (k1 6 (by omega)).trans g6, (k1 7 (by omega)).trans g7⟩, a8, h, ⟨rfl, fun m => by simp⟩⟩
  · rintro k e1 s1 E ⟨i, L, S, rfl, hi, ⟨b0, b1, b5, b6, b7⟩, b8, hh, hf⟩ hE
    have c0 := (hE 0 (by simp)).trans b0
    have c1 := (hE 1 (by simp)).trans b1
    have c5 := (hE 5 (by simp)).trans b5
    have c6 := (hE 6 (by simp)).trans b6
    have c7 := (hE 7 (by simp)).trans b7
    have c8 := (hE 8 (by simp)).trans b8
    refine WCode.mono ?_ (c4h_gen c7 c8)
    rintro x e2 s2 ⟨rfl, k2, a26, rfl⟩
    refine ⟨rfl, _, a26, fun hb => ?_, fun hb => ?_⟩
    · simp only [decide_eq_false_iff_not] at hb
      have : i = n := by omega
      subst this
      exact ⟨rfl, ⟨(k2 0 (by omega)).trans c0, (k2 1 (by omega)).trans c1, (k2 5 (by omega)).trans c5, (k2 6 (by omega)).trans c6, (k2 7 (by omega)).trans c7⟩, S, L, hh, hf⟩
    · simp only [decide_eq_true_eq] at hb
      refine WCode.mono ?_ (c4b_gen T hh (by rw [hf.1]; omega) (hk.chg hh.chg) (i := i) (by omega) ((k2 0 (by omega)).trans c0) ((k2 5 (by omega)).trans c5) ((k2 8 (by omega)).trans c8))
      rintro x e3 s3 ⟨rfl, k3, S', L', c, hh3, hset⟩
      refine .inl ⟨.inl rfl, ?_⟩
      refine WCode.mono ?_ (c4n_gen (i := i) (by omega) ((k3 8 (by omega)).trans ((k2 8 (by omega)).trans c8)))
      rintro x e4 s4 ⟨rfl, k4, d8, rfl⟩
      have kk : ∀ j, j < 8 → e4.get j = E.get j := fun j hj => (k4 j hj).trans ((k3 j (by omega)).trans (k2 j (by omega)))
      exact ⟨rfl, n - (i + 1), by omega, i + 1, L', S', rfl, by omega, ⟨(kk 0 (by omega)).trans c0, (kk 1 (by omega)).trans c1, (kk 5 (by omega)).trans c5, (kk 6 (by omega)).trans c6, (kk 7 (by omega)).trans c7⟩, d8, hh3, hf.step hset⟩

end
end Go.Proofs.Ytaigiehdnhehnaa
