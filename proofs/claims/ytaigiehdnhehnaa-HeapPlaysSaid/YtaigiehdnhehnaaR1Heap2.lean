/-
  The heap: up and down.
-/
import Derived.Test.YtaigiehdnhehnaaR1Heap
set_option maxRecDepth 100000
set_option linter.unusedVariables false
set_option linter.unusedSimpArgs false
namespace Go.Proofs.Ytaigiehdnhehnaa
open Go Go.Abs

theorem wrap_in {n : Int} (h1 : -9223372036854775808 ≤ n) (h2 : n ≤ 9223372036854775807) : IntKind.i64.wrap n = n := by
  have : IntKind.i64.wrap n = (if n % 18446744073709551616 ≥ 9223372036854775808 then n % 18446744073709551616 - 18446744073709551616 else n % 18446744073709551616) := by
    simp [IntKind.wrap, IntKind.signed, IntKind.bits]
  rw [this]
  split <;> omega

/-- Where the numbers are. -/
structure At (L : List Node) (es : List MapEntry) : Prop where
  at_ : ∀ i, i < L.length → mget es (ik (L.getD i (0, 0)).1) = some (ik i)
  none : ∀ id : Int, (∀ i, i < L.length → (L.getD i (0, 0)).1 ≠ id) → mget es (ik id) = none

theorem At.inj {L : List Node} {es : List MapEntry} (h : At L es) {i j : Nat} (hi : i < L.length) (hj : j < L.length) (he : (L.getD i (0, 0)).1 = (L.getD j (0, 0)).1) : i = j := by
  have h1 := h.at_ i hi
  have h2 := h.at_ j hj
  rw [he, h2] at h1
  simp only [Option.some.injEq, Value.int.injEq, true_and] at h1
  omega

theorem At.swap {L : List Node} {es : List MapEntry} {clock : Nat} (h : At L es) (hm : MOK IK es clock) {i k : Nat} (hi : i < L.length) (hk : k < L.length) :
    At (swapL L i k) (mset (mset es (ik (L.getD k (0, 0)).1) (ik i)) (ik (L.getD i (0, 0)).1) (ik k)) := by
  have K1 := kind_int .i64
  have hm1 := hm.mset (ik (L.getD k (0, 0)).1) (ik i)
  refine ⟨fun j hj => ?_, fun id hid => ?_⟩
  · rw [swapL_length] at hj
    rw [swapL_get L hi hk, mget_mset K1 hm1.kind ⟨_, rfl⟩ ⟨_, rfl⟩, mget_mset K1 hm.kind ⟨_, rfl⟩ ⟨_, rfl⟩, mget_mset K1 hm.kind ⟨_, rfl⟩ ⟨_, rfl⟩]
    by_cases h1 : j = k
    · subst h1
      rw [if_pos rfl, if_pos rfl]
      split
      · rw [h.at_ j hk]; rfl
      · rw [h.at_ i hi]; rfl
    · rw [if_neg h1]
      by_cases h2 : j = i
      · subst h2
        rw [if_pos rfl]
        have : ¬ ik (L.getD k (0, 0)).1 = ik (L.getD j (0, 0)).1 := fun he => h1 (h.inj hi hk (by simpa using he.symm))
        rw [if_neg this, if_pos rfl, h.at_ k hk]; rfl
      · rw [if_neg h2]
        have n1 : ¬ ik (L.getD j (0, 0)).1 = ik (L.getD i (0, 0)).1 := fun he => h2 (h.inj hj hi (by simpa using he))
        have n2 : ¬ ik (L.getD j (0, 0)).1 = ik (L.getD k (0, 0)).1 := fun he => h1 (h.inj hj hk (by simpa using he))
        rw [if_neg n1, if_neg n2]
        exact h.at_ j hj
  · have hno : ∀ j, j < L.length → (L.getD j (0, 0)).1 ≠ id := by
      intro j hj
      by_cases h1 : j = k
      · subst h1
        have := hid i (by rw [swapL_length]; exact hi)
        rw [swapL_get L hi hk] at this
        split at this
        · rename_i e; subst e; exact this
        · rw [if_pos rfl] at this; exact this
      · by_cases h2 : j = i
        · subst h2
          have := hid k (by rw [swapL_length]; exact hk)
          rw [swapL_get L hi hk, if_pos rfl] at this
          exact this
        · have := hid j (by rw [swapL_length]; exact hj)
          rw [swapL_get L hi hk, if_neg h1, if_neg h2] at this
          exact this
    have n1 : ¬ ik id = ik (L.getD i (0, 0)).1 := fun he => hno i hi (by simpa using he.symm)
    have n2 : ¬ ik id = ik (L.getD k (0, 0)).1 := fun he => hno k hk (by simpa using he.symm)
    rw [mget_mset K1 hm1.kind ⟨_, rfl⟩ ⟨_, rfl⟩, if_neg n1, mget_mset K1 hm.kind ⟨_, rfl⟩ ⟨_, rfl⟩, if_neg n2]
    exact h.none id hno

/-- The counter of comparisons, c times. -/
def addW : Nat → Int → Int
  | 0, w => w
  | c + 1, w => IntKind.i64.wrap (addW c w + 1)

theorem Chg.trans {S : List Nat} {a b c : St} (h : Chg S a b) (k : Chg S b c) : Chg S a c :=
  ⟨Nat.le_trans h.1 k.1, fun id hid hn => (k.2 id (Nat.lt_of_lt_of_le hid h.1) hn).trans (h.2 id hid hn)⟩
theorem Chg.sub {S T : List Nat} {a b : St} (h : Chg S a b) (hs : ∀ x ∈ S, x ∈ T) : Chg T a b := ⟨h.1, fun id hid hn => h.2 id hid fun hx => hn (hs id hx)⟩
theorem Chg.refl (S : List Nat) (a : St) : Chg S a a := ⟨Nat.le_refl _, fun _ _ _ => rfl⟩

/-- One goes up: the row, and how many comparisons. -/
def upL : Nat → List Node → Nat → List Node × Nat
  | 0, L, _ => (L, 0)
  | f + 1, L, i =>
    if i = 0 then (L, 0)
    else if lt (L.getD i (0, 0)) (L.getD ((i - 1) / 2) (0, 0)) = true then ((upL f (swapL L i ((i - 1) / 2)) ((i - 1) / 2)).1, (upL f (swapL L i ((i - 1) / 2)) ((i - 1) / 2)).2 + 1)
    else (L, 1)

theorem upL_length : ∀ (f : Nat) (L : List Node) (i : Nat), (upL f L i).1.length = L.length := by
  intro f
  induction f with
  | zero => intro L i; rfl
  | succ f ih =>
    intro L i
    simp only [upL]
    split
    · rfl
    · split
      · rw [ih, swapL_length]
      · rfl

theorem upL_fuel : ∀ (f g : Nat) (L : List Node) (i : Nat), i ≤ f → i ≤ g → upL f L i = upL g L i := by
  intro f
  induction f with
  | zero =>
    intro g L i h1 _
    have : i = 0 := by omega
    subst this
    cases g <;> simp [upL]
  | succ f ih =>
    intro g L i h1 h2
    cases g with
    | zero =>
      have : i = 0 := by omega
      subst this
      simp [upL]
    | succ g =>
      simp only [upL]
      by_cases h0 : i = 0
      · rw [if_pos h0, if_pos h0]
      · rw [if_neg h0, if_neg h0, ih g _ _ (by omega) (by omega)]

/-- The state of a heap: its row stands at some q. -/
def HeapAt (s0 s : St) (p m q : Nat) (L : List Node) (wk : Int) : Prop := ∃ es, Rep s p m q L es wk ∧ At L es ∧ Chg [p, m, q] s0 s

theorem addW_add (c d : Nat) (w : Int) : addW c (addW d w) = addW (c + d) w := by
  induction c with
  | zero => simp [addW]
  | succ c ih => rw [show c + 1 + d = (c + d) + 1 by omega]; simp only [addW, ih]

theorem up_spec {tbl : FuncId → Option AFun} {ov : CallSem} (h30 : tbl 30 = some fun30) (h32 : tbl 32 = some fun32) (h40 : tbl 40 = some fun40) {s0 s : St} {p m q : Nat} {L : List Node} {wk : Int} (hr : HeapAt s0 s p m q L wk) {i : Nat} (hi : i < L.length) (hL : L.length < 2 ^ 40) :
    WCall (fun k => call tbl ov k) 30 [.pointer (some ⟨p, 0, none⟩), .int .i64 i] s fun v s' =>
      HeapAt s0 s' p m q (upL i L i).1 (addW (upL i L i).2 wk) := by
  refine WCall.of h30 rfl ?_
  simp only [fun30, code30, wc_block, params]
  refine wc_loop (fun n e s => ∃ j L' c, n = j ∧ e.get 0 = some (.pointer (some ⟨p, 0, none⟩)) ∧ e.get 1 = some (.int .i64 (j : Nat)) ∧ HeapAt s0 s p m q L' (addW c wk) ∧ j < L'.length ∧ L'.length = L.length ∧
    (upL i L i).1 = (upL j L' j).1 ∧ (upL i L i).2 = (upL j L' j).2 + c) i ?_ ?_
  · exact ⟨i, L, 0, rfl, rfl, rfl, hr, hi, rfl, rfl, rfl⟩
  · rintro n e s ⟨j, L', c, rfl, g0, g1, hr, hj, hlen, hu1, hu2⟩
    have hre : restrict [0, 1] e = [(0, .pointer (some ⟨p, 0, none⟩)), (1, .int .i64 (n : Nat))] := by simp [restrict, g0, g1]
    rw [hre]
    by_cases h0 : n = 0
    · subst h0
      have d1 : decide (((0 : Nat) : Int) > 0) = false := by decide
      simp only [params, wc_skip, wc_region, wc_draw, wc_seq, wc_cond, wc_block, wc_exit, wc_ret, next_normal, next_exit, next_ret, inBlock_normal, inBlock_ret, inBlock_exit, sq_apply, nrm_apply, drawnK_apply, boolV_bool, ccond_true, ccond_false, wo_nil, wo_cons, wo_guard, wop, bindP_some, cont_some, cont_none, guardV_bool, guardV_undef, gcont_true, gcont_false, gcont_false', ret_apply, aggK_apply, putK_apply, resK_apply, boolK_apply, ccont_apply, wd_nil, wd_cons, dvals_apply, dcont_some, dcont_none, AOp.vals, rd_tmp, rd_const, rd_func, get_cons, mapList, mapOpt, Option.bind_some, Option.map_some, Nat.reduceEqDiff, if_true, if_false, reduceIte, reduceCtorEq, wv_mov, wv_pick, wv_alloc, wv_box, wv_build, wv_load, wv_loadn, wv_store, wv_nilCheck, wv_bin, wv_eq, wv_un, wv_convInt, wv_convSame, wv_fieldAddr, wv_field, wv_fieldn, wv_extract, wv_lenSlice, wv_lenString, wv_mkMap, wv_call, callee_func, wv_indexAddr, wv_lookup, wv_mapUpdate, wv_mapEntry, wv_entryStore, wv_delete, wv_append, wv_slice, wv_mkSlice, wv_buildSlice, wv_index, wv_copy, wv_lenMap, Abs.cellAt, Abs.rowAt, Abs.storeAt, Heap.get_put, List.getElem?_cons_zero, List.getElem?_cons_succ, Nat.zero_add, Nat.reduceAdd, idx, and_self, Int.toNat_natCast, cellsAt, ne_eq, not_true_eq_false, not_false_eq_true, cellList, Value.cells, List.length_cons, List.length_nil, List.all_cons, List.all_nil, isCell, Bool.and_self, storeL, List.set_cons_zero, List.set_cons_succ, footOf, true_and, and_true, Nat.reduceLeDiff, Nat.le_refl, Nat.reduceMul, Nat.reduceLT, List.nil_append, List.cons_append, List.length_set, ends_normal, ends_ret, endK_apply, resV_tmp, tupleV, binV, unV, eqV, Bool.not_true, Bool.not_false, BEq.rfl, Bool.true_beq, Bool.false_beq, beq_true, beq_false, Nat.sub_self, List.range'_zero, decide_true, decide_false, List.not_mem_nil, false_implies, implies_true, Bool.true_and, Bool.and_true, drawn, pairOk, disj, quietAt, Bool.bne_false, Bool.bne_true, Bool.false_eq_true, applyUpd, Int.reduceEq, Int.reduceNeg, d1]
      simp only [upL] at hu1 hu2
      rw [hu1, hu2]
      simpa using hr
    · obtain ⟨f, rfl⟩ : ∃ f, n = f + 1 := ⟨n - 1, by omega⟩
      have d1 : decide (((f + 1 : Nat) : Int) > 0) = true := decide_eq_true (by omega)
      have w1 : IntKind.i64.wrap (((f + 1 : Nat) : Int) - 1) = (f : Int) := by rw [wrap_in (by omega) (by omega)]; omega
      have w2 : IntKind.i64.wrap ((f : Int).tdiv 2) = ((f / 2 : Nat) : Int) := by
        have : (f : Int).tdiv 2 = ((f / 2 : Nat) : Int) := by rw [Int.tdiv_eq_ediv_of_nonneg (by omega)]; omega
        rw [this, wrap_in (by omega) (by omega)]
      obtain ⟨es, hrep, hat, hchg⟩ := hr
      have hpar : f / 2 < L'.length := by omega
      simp only [params, wc_skip, wc_region, wc_draw, wc_seq, wc_cond, wc_block, wc_exit, wc_ret, next_normal, next_exit, next_ret, inBlock_normal, inBlock_ret, inBlock_exit, sq_apply, nrm_apply, drawnK_apply, boolV_bool, ccond_true, ccond_false, wo_nil, wo_cons, wo_guard, wop, bindP_some, cont_some, cont_none, guardV_bool, guardV_undef, gcont_true, gcont_false, gcont_false', ret_apply, aggK_apply, putK_apply, resK_apply, boolK_apply, ccont_apply, wd_nil, wd_cons, dvals_apply, dcont_some, dcont_none, AOp.vals, rd_tmp, rd_const, rd_func, get_cons, mapList, mapOpt, Option.bind_some, Option.map_some, Nat.reduceEqDiff, if_true, if_false, reduceIte, reduceCtorEq, wv_mov, wv_pick, wv_alloc, wv_box, wv_build, wv_load, wv_loadn, wv_store, wv_nilCheck, wv_bin, wv_eq, wv_un, wv_convInt, wv_convSame, wv_fieldAddr, wv_field, wv_fieldn, wv_extract, wv_lenSlice, wv_lenString, wv_mkMap, wv_call, callee_func, wv_indexAddr, wv_lookup, wv_mapUpdate, wv_mapEntry, wv_entryStore, wv_delete, wv_append, wv_slice, wv_mkSlice, wv_buildSlice, wv_index, wv_copy, wv_lenMap, Abs.cellAt, Abs.rowAt, Abs.storeAt, Heap.get_put, List.getElem?_cons_zero, List.getElem?_cons_succ, Nat.zero_add, Nat.reduceAdd, idx, and_self, Int.toNat_natCast, cellsAt, ne_eq, not_true_eq_false, not_false_eq_true, cellList, Value.cells, List.length_cons, List.length_nil, List.all_cons, List.all_nil, isCell, Bool.and_self, storeL, List.set_cons_zero, List.set_cons_succ, footOf, true_and, and_true, Nat.reduceLeDiff, Nat.le_refl, Nat.reduceMul, Nat.reduceLT, List.nil_append, List.cons_append, List.length_set, ends_normal, ends_ret, endK_apply, resV_tmp, tupleV, binV, unV, eqV, Bool.not_true, Bool.not_false, BEq.rfl, Bool.true_beq, Bool.false_beq, beq_true, beq_false, Nat.sub_self, List.range'_zero, decide_true, decide_false, List.not_mem_nil, false_implies, implies_true, Bool.true_and, Bool.and_true, drawn, pairOk, disj, quietAt, Bool.bne_false, Bool.bne_true, Bool.false_eq_true, applyUpd, Int.reduceEq, Int.reduceNeg, d1, w1, w2]
      refine WCall.mono (less_spec h40 hrep hj hpar) ?_
      rintro v s1 ⟨rfl, hrep1, hchg1⟩
      have hst : upL (f + 1) L' (f + 1) = if lt (L'.getD (f + 1) (0, 0)) (L'.getD (f / 2) (0, 0)) = true then ((upL f (swapL L' (f + 1) (f / 2)) (f / 2)).1, (upL f (swapL L' (f + 1) (f / 2)) (f / 2)).2 + 1) else (L', 1) := by
        rw [upL, if_neg h0]; rfl
      have hch : Chg [p, m, q] s0 s1 := hchg.trans (hchg1.sub (by simp))
      cases hb : lt (L'.getD (f + 1) (0, 0)) (L'.getD (f / 2) (0, 0)) with
      | false =>
        rw [if_neg (by rw [hb]; simp)] at hst
        simp only [params, wc_skip, wc_region, wc_draw, wc_seq, wc_cond, wc_block, wc_exit, wc_ret, next_normal, next_exit, next_ret, inBlock_normal, inBlock_ret, inBlock_exit, sq_apply, nrm_apply, drawnK_apply, boolV_bool, ccond_true, ccond_false, wo_nil, wo_cons, wo_guard, wop, bindP_some, cont_some, cont_none, guardV_bool, guardV_undef, gcont_true, gcont_false, gcont_false', ret_apply, aggK_apply, putK_apply, resK_apply, boolK_apply, ccont_apply, wd_nil, wd_cons, dvals_apply, dcont_some, dcont_none, AOp.vals, rd_tmp, rd_const, rd_func, get_cons, mapList, mapOpt, Option.bind_some, Option.map_some, Nat.reduceEqDiff, if_true, if_false, reduceIte, reduceCtorEq, wv_mov, wv_pick, wv_alloc, wv_box, wv_build, wv_load, wv_loadn, wv_store, wv_nilCheck, wv_bin, wv_eq, wv_un, wv_convInt, wv_convSame, wv_fieldAddr, wv_field, wv_fieldn, wv_extract, wv_lenSlice, wv_lenString, wv_mkMap, wv_call, callee_func, wv_indexAddr, wv_lookup, wv_mapUpdate, wv_mapEntry, wv_entryStore, wv_delete, wv_append, wv_slice, wv_mkSlice, wv_buildSlice, wv_index, wv_copy, wv_lenMap, Abs.cellAt, Abs.rowAt, Abs.storeAt, Heap.get_put, List.getElem?_cons_zero, List.getElem?_cons_succ, Nat.zero_add, Nat.reduceAdd, idx, and_self, Int.toNat_natCast, cellsAt, ne_eq, not_true_eq_false, not_false_eq_true, cellList, Value.cells, List.length_cons, List.length_nil, List.all_cons, List.all_nil, isCell, Bool.and_self, storeL, List.set_cons_zero, List.set_cons_succ, footOf, true_and, and_true, Nat.reduceLeDiff, Nat.le_refl, Nat.reduceMul, Nat.reduceLT, List.nil_append, List.cons_append, List.length_set, ends_normal, ends_ret, endK_apply, resV_tmp, tupleV, binV, unV, eqV, Bool.not_true, Bool.not_false, BEq.rfl, Bool.true_beq, Bool.false_beq, beq_true, beq_false, Nat.sub_self, List.range'_zero, decide_true, decide_false, List.not_mem_nil, false_implies, implies_true, Bool.true_and, Bool.and_true, drawn, pairOk, disj, quietAt, Bool.bne_false, Bool.bne_true, Bool.false_eq_true, applyUpd, Int.reduceEq, Int.reduceNeg]
        rw [hu1, hu2, hst]
        exact ⟨es, by rw [Nat.add_comm]; exact hrep1, hat, hch⟩
      | true =>
        rw [if_pos hb] at hst
        simp only [params, wc_skip, wc_region, wc_draw, wc_seq, wc_cond, wc_block, wc_exit, wc_ret, next_normal, next_exit, next_ret, inBlock_normal, inBlock_ret, inBlock_exit, sq_apply, nrm_apply, drawnK_apply, boolV_bool, ccond_true, ccond_false, wo_nil, wo_cons, wo_guard, wop, bindP_some, cont_some, cont_none, guardV_bool, guardV_undef, gcont_true, gcont_false, gcont_false', ret_apply, aggK_apply, putK_apply, resK_apply, boolK_apply, ccont_apply, wd_nil, wd_cons, dvals_apply, dcont_some, dcont_none, AOp.vals, rd_tmp, rd_const, rd_func, get_cons, mapList, mapOpt, Option.bind_some, Option.map_some, Nat.reduceEqDiff, if_true, if_false, reduceIte, reduceCtorEq, wv_mov, wv_pick, wv_alloc, wv_box, wv_build, wv_load, wv_loadn, wv_store, wv_nilCheck, wv_bin, wv_eq, wv_un, wv_convInt, wv_convSame, wv_fieldAddr, wv_field, wv_fieldn, wv_extract, wv_lenSlice, wv_lenString, wv_mkMap, wv_call, callee_func, wv_indexAddr, wv_lookup, wv_mapUpdate, wv_mapEntry, wv_entryStore, wv_delete, wv_append, wv_slice, wv_mkSlice, wv_buildSlice, wv_index, wv_copy, wv_lenMap, Abs.cellAt, Abs.rowAt, Abs.storeAt, Heap.get_put, List.getElem?_cons_zero, List.getElem?_cons_succ, Nat.zero_add, Nat.reduceAdd, idx, and_self, Int.toNat_natCast, cellsAt, ne_eq, not_true_eq_false, not_false_eq_true, cellList, Value.cells, List.length_cons, List.length_nil, List.all_cons, List.all_nil, isCell, Bool.and_self, storeL, List.set_cons_zero, List.set_cons_succ, footOf, true_and, and_true, Nat.reduceLeDiff, Nat.le_refl, Nat.reduceMul, Nat.reduceLT, List.nil_append, List.cons_append, List.length_set, ends_normal, ends_ret, endK_apply, resV_tmp, tupleV, binV, unV, eqV, Bool.not_true, Bool.not_false, BEq.rfl, Bool.true_beq, Bool.false_beq, beq_true, beq_false, Nat.sub_self, List.range'_zero, decide_true, decide_false, List.not_mem_nil, false_implies, implies_true, Bool.true_and, Bool.and_true, drawn, pairOk, disj, quietAt, Bool.bne_false, Bool.bne_true, Bool.false_eq_true, applyUpd, Int.reduceEq, Int.reduceNeg, w1, w2]
        refine WCall.mono (swap_spec h32 hrep1 hj hpar (hat.at_ _ hj) (hat.at_ _ hpar)) ?_
        rintro v s2 ⟨hrep2, hchg2⟩
        obtain ⟨clock, _, hmok⟩ := hrep1.hm
        simp only [params, wc_skip, wc_region, wc_draw, wc_seq, wc_cond, wc_block, wc_exit, wc_ret, next_normal, next_exit, next_ret, inBlock_normal, inBlock_ret, inBlock_exit, sq_apply, nrm_apply, drawnK_apply, boolV_bool, ccond_true, ccond_false, wo_nil, wo_cons, wo_guard, wop, bindP_some, cont_some, cont_none, guardV_bool, guardV_undef, gcont_true, gcont_false, gcont_false', ret_apply, aggK_apply, putK_apply, resK_apply, boolK_apply, ccont_apply, wd_nil, wd_cons, dvals_apply, dcont_some, dcont_none, AOp.vals, rd_tmp, rd_const, rd_func, get_cons, mapList, mapOpt, Option.bind_some, Option.map_some, Nat.reduceEqDiff, if_true, if_false, reduceIte, reduceCtorEq, wv_mov, wv_pick, wv_alloc, wv_box, wv_build, wv_load, wv_loadn, wv_store, wv_nilCheck, wv_bin, wv_eq, wv_un, wv_convInt, wv_convSame, wv_fieldAddr, wv_field, wv_fieldn, wv_extract, wv_lenSlice, wv_lenString, wv_mkMap, wv_call, callee_func, wv_indexAddr, wv_lookup, wv_mapUpdate, wv_mapEntry, wv_entryStore, wv_delete, wv_append, wv_slice, wv_mkSlice, wv_buildSlice, wv_index, wv_copy, wv_lenMap, Abs.cellAt, Abs.rowAt, Abs.storeAt, Heap.get_put, List.getElem?_cons_zero, List.getElem?_cons_succ, Nat.zero_add, Nat.reduceAdd, idx, and_self, Int.toNat_natCast, cellsAt, ne_eq, not_true_eq_false, not_false_eq_true, cellList, Value.cells, List.length_cons, List.length_nil, List.all_cons, List.all_nil, isCell, Bool.and_self, storeL, List.set_cons_zero, List.set_cons_succ, footOf, true_and, and_true, Nat.reduceLeDiff, Nat.le_refl, Nat.reduceMul, Nat.reduceLT, List.nil_append, List.cons_append, List.length_set, ends_normal, ends_ret, endK_apply, resV_tmp, tupleV, binV, unV, eqV, Bool.not_true, Bool.not_false, BEq.rfl, Bool.true_beq, Bool.false_beq, beq_true, beq_false, Nat.sub_self, List.range'_zero, decide_true, decide_false, List.not_mem_nil, false_implies, implies_true, Bool.true_and, Bool.and_true, drawn, pairOk, disj, quietAt, Bool.bne_false, Bool.bne_true, Bool.false_eq_true, applyUpd, Int.reduceEq, Int.reduceNeg, w1, w2]
        have hfu := upL_fuel f (f / 2) (swapL L' (f + 1) (f / 2)) (f / 2) (by omega) (Nat.le_refl _)
        refine ⟨f / 2, by omega, f / 2, swapL L' (f + 1) (f / 2), c + 1, rfl, rfl, ⟨_, hrep2, hat.swap hmok hj hpar, hch.trans (hchg2.sub (by simp))⟩, by rw [swapL_length]; omega, by rw [swapL_length]; exact hlen, ?_, ?_⟩
        · rw [hu1, hst, ← hfu]
        · rw [hu2, hst, ← hfu]; simp only; omega

end Go.Proofs.Ytaigiehdnhehnaa
