/-
  The heap, abstractly: what its functions do to it.
-/
import Derived.Test.YtaigiehdnhehnaaR1A
import Derived.Test.YtaigiehdnhehnaaA25
set_option maxRecDepth 100000
set_option linter.unusedVariables false
set_option linter.unusedSimpArgs false
namespace Go.Proofs.Ytaigiehdnhehnaa
open Go Go.Abs

abbrev Node := Int × Int      -- a number and its key

def flat : List Node → List Value
  | [] => []
  | n :: l => .int .i64 n.1 :: .int .i64 n.2 :: flat l

theorem flat_length (l : List Node) : (flat l).length = 2 * l.length := by
  induction l with
  | nil => rfl
  | cons n l ih => simp only [flat, List.length_cons, ih]; omega

theorem flat_drop : ∀ (l : List Node) (r : List Value) (i : Nat), i < l.length → (((flat l ++ r).drop (i * 2)).take 2) = [.int .i64 (l.getD i (0, 0)).1, .int .i64 (l.getD i (0, 0)).2] := by
  intro l
  induction l with
  | nil => intro r i h; simp at h
  | cons n l ih =>
    intro r i h
    cases i with
    | zero => simp [flat]
    | succ i =>
      have : (i + 1) * 2 = i * 2 + 2 := by omega
      simp only [flat, this]
      simpa using ih r i (by simpa using h)

abbrev IK (v : Value) : Prop := ∃ n, v = .int .i64 n
abbrev ik (n : Int) : Value := .int .i64 n

/-- The blocks of a heap: its own p, its map m; its row q. -/
structure Rep (s : St) (p m q : Nat) (L : List Node) (es : List MapEntry) (wk : Int) : Prop where
  pm : p ≠ m
  pq : p ≠ q
  mq : m ≠ q
  lp : p < s.next
  lm : m < s.next
  lq : q < s.next
  hp : ∃ t cap, s.heap.get p = some (.cells [.slice (some ⟨q, 0, none⟩) L.length cap, .map (some m), .int .i64 wk] t 0 false) ∧ L.length ≤ cap ∧
    ∃ c r, s.heap.get q = some (.cells (flat L ++ r) c 2 false) ∧ 2 * cap = (flat L ++ r).length ∧ c = 73
  hm : ∃ clock, s.heap.get m = some (.map es clock) ∧ MOK IK es clock

/-- Nothing but the blocks in S has turned. -/
def Chg (S : List Nat) (s s' : St) : Prop := s.next ≤ s'.next ∧ ∀ id, id < s.next → id ∉ S → s'.heap.get id = s.heap.get id

def lt (a b : Node) : Bool := decide (a.2 < b.2) || (a.2 == b.2 && decide (a.1 < b.1))

theorem less_spec {tbl : FuncId → Option AFun} {ov : CallSem} (ht : tbl 40 = some fun40) {s : St} {p m q : Nat} {L : List Node} {es : List MapEntry} {wk : Int} (hr : Rep s p m q L es wk) {i k : Nat} (hi : i < L.length) (hk : k < L.length) :
    WCall (fun k => call tbl ov k) 40 [.pointer (some ⟨p, 0, none⟩), .int .i64 i, .int .i64 k] s fun v s' =>
      v = .bool (lt (L.getD i (0, 0)) (L.getD k (0, 0))) ∧ Rep s' p m q L es (IntKind.i64.wrap (wk + 1)) ∧ Chg [p] s s' := by
  obtain ⟨pm, pq, mq, lp, lm, lq, ⟨t, cap, hp, hcap, c, r, hq, hlen, hct⟩, clock, hm, hmok⟩ := hr
  have e1 : ¬ q = p := fun h => pq h.symm
  have e2 : ¬ p = s.next := by omega
  have e3 : ¬ p = s.next + 1 := by omega
  have e4 : ¬ q = s.next := by omega
  have e5 : ¬ q = s.next + 1 := by omega
  have hfl := flat_length L
  have i1 : i * 2 + 2 ≤ (flat L ++ r).length := by rw [List.length_append]; omega
  have k1 : k * 2 + 2 ≤ (flat L ++ r).length := by rw [List.length_append]; omega
  have i2 : (0 : Int) ≤ i := by omega
  have i3 : (i : Int) < (L.length : Nat) := by omega
  have k2 : (0 : Int) ≤ k := by omega
  have k3 : (k : Int) < (L.length : Nat) := by omega
  have e2' : ¬ s.next = p := by omega
  have e4' : ¬ s.next = q := by omega
  have n1 : ¬ s.next = s.next + 1 := by omega
  have n2 : ¬ s.next + 1 = s.next := by omega
  refine WCall.of ht rfl ?_
  generalize hA : L.getD i (0, 0) = A
  generalize hB : L.getD k (0, 0) = B
  have hpost : ∀ b, b = lt A B → ∀ h : Heap, h = ((((s.heap.put p (some (.cells [.slice (some ⟨q, 0, none⟩) L.length cap, .map (some m), .int .i64 (IntKind.i64.wrap (wk + 1))] t 0 false))).put s.next (some (.cells [.int .i64 0, .int .i64 0] 73 0 false))).put (s.next + 1) (some (.cells [.int .i64 0, .int .i64 0] 73 0 false))).put s.next (some (.cells [.int .i64 A.1, .int .i64 A.2] 73 0 false))).put (s.next + 1) (some (.cells [.int .i64 B.1, .int .i64 B.2] 73 0 false)) →
      (Value.bool b = .bool (lt A B) ∧ Rep ⟨h, s.next + 1 + 1⟩ p m q L es (IntKind.i64.wrap (wk + 1)) ∧ Chg [p] s ⟨h, s.next + 1 + 1⟩) := by
    intro b hb h hh
    subst hb; subst hh
    refine ⟨rfl, ⟨pm, pq, mq, by show p < s.next + 1 + 1; omega, by show m < s.next + 1 + 1; omega, by show q < s.next + 1 + 1; omega, ⟨t, cap, ?_, hcap, c, r, ?_, hlen, hct⟩, clock, ?_, hmok⟩, by show s.next ≤ s.next + 1 + 1; omega, fun id hid hn => ?_⟩
    · simp only [Heap.get_put, e2, e3, if_false, if_true]
    · simp only [Heap.get_put, e1, e4, e5, if_false]; exact hq
    · have m1 : ¬ m = s.next := by omega
      have m2 : ¬ m = s.next + 1 := by omega
      simp only [Heap.get_put, m1, m2, Ne.symm pm, if_false]; exact hm
    · have m1 : ¬ id = s.next := by omega
      have m2 : ¬ id = s.next + 1 := by omega
      have m3 : ¬ id = p := by simpa using hn
      simp only [Heap.get_put, m1, m2, m3, if_false]
  have key : ∀ b1 b2 b3 : Bool, decide (A.2 < B.2) = b1 → (A.2 == B.2) = b2 → decide (A.1 < B.1) = b3 → WCode (fun k => call tbl ov k) fun40.body (params 0 [.pointer (some ⟨p, 0, none⟩), .int .i64 i, .int .i64 k]) s (ends fun40.res fun v s' =>
      v = .bool (lt A B) ∧ Rep s' p m q L es (IntKind.i64.wrap (wk + 1)) ∧ Chg [p] s s') := by
    intro b1 b2 b3 h1 h2 h3
    have hl : lt A B = (b1 || (b2 && b3)) := by unfold lt; rw [h1, h2, h3]
    cases b1 <;> cases b2 <;> cases b3
    all_goals
      simp only [fun40, code40, params, wc_skip, wc_region, wc_draw, wc_seq, wc_cond, wc_block, wc_exit, wc_ret, next_normal, next_exit, next_ret, inBlock_normal, inBlock_ret, inBlock_exit, sq_apply, nrm_apply, drawnK_apply, boolV_bool, ccond_true, ccond_false, wo_nil, wo_cons, wo_guard, wop, bindP_some, cont_some, cont_none, guardV_bool, guardV_undef, gcont_true, gcont_false, gcont_false', ret_apply, aggK_apply, putK_apply, resK_apply, boolK_apply, ccont_apply, wd_nil, wd_cons, dvals_apply, dcont_some, dcont_none, AOp.vals, rd_tmp, rd_const, rd_func, get_cons, mapList, mapOpt, Option.bind_some, Option.map_some, Nat.reduceEqDiff, if_true, if_false, reduceIte, reduceCtorEq, wv_mov, wv_pick, wv_alloc, wv_box, wv_build, wv_load, wv_loadn, wv_store, wv_nilCheck, wv_bin, wv_eq, wv_un, wv_convInt, wv_convSame, wv_fieldAddr, wv_field, wv_fieldn, wv_extract, wv_lenSlice, wv_lenString, wv_mkMap, wv_call, callee_func, wv_indexAddr, wv_lookup, wv_mapUpdate, wv_mapEntry, wv_entryStore, wv_delete, wv_append, wv_slice, wv_mkSlice, wv_buildSlice, wv_index, wv_copy, wv_lenMap, Abs.cellAt, Abs.rowAt, Abs.storeAt, Heap.get_put, List.getElem?_cons_zero, List.getElem?_cons_succ, Nat.zero_add, Nat.reduceAdd, idx, and_self, Int.toNat_natCast, cellsAt, ne_eq, not_true_eq_false, not_false_eq_true, cellList, Value.cells, List.length_cons, List.length_nil, List.all_cons, List.all_nil, isCell, Bool.and_self, storeL, List.set_cons_zero, List.set_cons_succ, footOf, true_and, and_true, Nat.reduceLeDiff, Nat.le_refl, Nat.reduceMul, Nat.reduceLT, List.nil_append, List.cons_append, List.length_set, ends_normal, ends_ret, endK_apply, resV_tmp, tupleV, binV, unV, eqV, Bool.not_true, Bool.not_false, BEq.rfl, Bool.true_beq, Bool.false_beq, beq_true, beq_false, Nat.sub_self, List.range'_zero, decide_true, decide_false, List.not_mem_nil, false_implies, implies_true, Bool.true_and, Bool.and_true, drawn, pairOk, disj, quietAt, Bool.bne_false, Bool.bne_true, Bool.false_eq_true, applyUpd, Int.reduceEq, Int.reduceNeg, hp, hq, hm, e1, e2, e3, e4, e5, n1, n2, i2, i3, k2, k3, i1, k1, flat_drop, hi, hk, hA, hB, h1, h2, h3, e2', e4']
      exact hpost _ (by rw [hl]; rfl) _ rfl
  exact key _ _ _ rfl rfl rfl

theorem flat_get (L : List Node) (r : List Value) : ∀ (i : Nat), i < L.length → (flat L ++ r)[i * 2]? = some (.int .i64 (L.getD i (0, 0)).1) ∧ (flat L ++ r)[i * 2 + 1]? = some (.int .i64 (L.getD i (0, 0)).2) := by
  intro i h
  have := flat_drop L r i h
  have h1 : (((flat L ++ r).drop (i * 2)).take 2)[0]? = (flat L ++ r)[i * 2]? := by rw [List.getElem?_take_of_lt (by omega), List.getElem?_drop]; rfl
  have h2 : (((flat L ++ r).drop (i * 2)).take 2)[1]? = (flat L ++ r)[i * 2 + 1]? := by rw [List.getElem?_take_of_lt (by omega), List.getElem?_drop]
  rw [this] at h1 h2
  exact ⟨h1.symm, h2.symm⟩

theorem flat_set : ∀ (L : List Node) (r : List Value) (i : Nat) (a : Node), i < L.length → ((flat L ++ r).set (i * 2) (.int .i64 a.1)).set (i * 2 + 1) (.int .i64 a.2) = flat (L.set i a) ++ r := by
  intro L
  induction L with
  | nil => intro r i a h; simp at h
  | cons n L ih =>
    intro r i a h
    cases i with
    | zero => simp [flat]
    | succ i =>
      have : (i + 1) * 2 = i * 2 + 2 := by omega
      simp only [flat, this]
      simpa [flat] using ih r i a (by simpa using h)

def swapL (L : List Node) (i k : Nat) : List Node := (L.set i (L.getD k (0, 0))).set k (L.getD i (0, 0))

theorem swapL_length (L : List Node) (i k : Nat) : (swapL L i k).length = L.length := by simp [swapL]

theorem swapL_get (L : List Node) {i k : Nat} (hi : i < L.length) (hk : k < L.length) (j : Nat) : (swapL L i k).getD j (0, 0) = if j = k then L.getD i (0, 0) else if j = i then L.getD k (0, 0) else L.getD j (0, 0) := by
  simp only [swapL, List.getD_eq_getElem?_getD, List.getElem?_set, List.length_set]
  by_cases h1 : j = k
  · subst h1; simp [hk]
  · have : ¬ k = j := fun h => h1 h.symm
    simp only [this, h1, if_false]
    by_cases h2 : j = i
    · subst h2; simp [hi]
    · have : ¬ i = j := fun h => h2 h.symm
      simp [this, h2]

theorem swap_spec {tbl : FuncId → Option AFun} {ov : CallSem} (ht : tbl 32 = some fun32) {s : St} {p m q : Nat} {L : List Node} {es : List MapEntry} {wk : Int} (hr : Rep s p m q L es wk) {i k : Nat} (hi : i < L.length) (hk : k < L.length)
    {vi vk : Value} (gi : mget es (ik (L.getD i (0, 0)).1) = some vi) (gk : mget es (ik (L.getD k (0, 0)).1) = some vk) :
    WCall (fun k => call tbl ov k) 32 [.pointer (some ⟨p, 0, none⟩), .int .i64 i, .int .i64 k] s fun v s' =>
      Rep s' p m q (swapL L i k) (mset (mset es (ik (L.getD k (0, 0)).1) (ik i)) (ik (L.getD i (0, 0)).1) (ik k)) wk ∧ Chg [m, q] s s' := by
  obtain ⟨pm, pq, mq, lp, lm, lq, ⟨t, cap, hp, hcap, c, r, hq, hlen, hct⟩, clock, hm, hmok⟩ := hr
  have e1 : ¬ q = p := fun h => pq h.symm
  have e2 : ¬ q = m := fun h => mq h.symm
  have e3 : ¬ m = p := fun h => pm h.symm
  have hfl := flat_length L
  have i1 : i * 2 + 2 ≤ (flat L ++ r).length := by rw [List.length_append]; omega
  have k1 : k * 2 + 2 ≤ (flat L ++ r).length := by rw [List.length_append]; omega
  have i2 : (0 : Int) ≤ i := by omega
  have i3 : (i : Int) < (L.length : Nat) := by omega
  have k2 : (0 : Int) ≤ k := by omega
  have k3 : (k : Int) < (L.length : Nat) := by omega
  have fi := flat_set L r i (L.getD k (0, 0)) hi
  have hk' : k < (L.set i (L.getD k (0, 0))).length := by simpa using hk
  have fk := flat_set (L.set i (L.getD k (0, 0))) r k (L.getD i (0, 0)) hk'
  have k1' : k * 2 + 2 ≤ (flat (L.set i (L.getD k (0, 0))) ++ r).length := by rw [List.length_append, flat_length, List.length_set]; rw [List.length_append] at hlen; omega
  have hsw : (L.set i (L.getD k (0, 0))).set k (L.getD i (0, 0)) = swapL L i k := rfl
  rw [hsw] at fk
  have hi'' : i < (swapL L i k).length := by rw [swapL_length]; exact hi
  have hk'' : k < (swapL L i k).length := by rw [swapL_length]; exact hk
  have gti := (flat_get (swapL L i k) r i hi'').1
  have gtk := (flat_get (swapL L i k) r k hk'').1
  have gA : (swapL L i k).getD k (0, 0) = L.getD i (0, 0) := by rw [swapL_get L hi hk, if_pos rfl]
  have gB : (swapL L i k).getD i (0, 0) = L.getD k (0, 0) := by
    rw [swapL_get L hi hk]
    by_cases h : i = k
    · rw [if_pos h, h]
    · rw [if_neg h, if_pos rfl]
  rw [gB] at gti
  rw [gA] at gtk
  have hlen2 := swapL_length L i k
  generalize hA : L.getD i (0, 0) = A at *
  generalize hB : L.getD k (0, 0) = B at *
  generalize swapL L i k = L2 at *
  have K1 := kind_int .i64
  have x1 := fun g nx (h : g m = some (.map es clock)) => ev_mapEntry (g := g) (nx := nx) (z := .int .i64 0) K1 hmok h ⟨B.1, rfl⟩ gk
  have x2 := fun g nx (h : g m = some (.map es clock)) => ev_entryStore (g := g) (nx := nx) (v := ik i) K1 hmok h ⟨B.1, rfl⟩ gk
  have hmok1 := hmok.mset (ik B.1) (ik i)
  obtain ⟨va, ga⟩ : ∃ va, mget (mset es (ik B.1) (ik i)) (ik A.1) = some va := by
    rw [mget_mset K1 hmok.kind ⟨B.1, rfl⟩ ⟨A.1, rfl⟩]
    split
    · exact ⟨_, by rw [gk]; rfl⟩
    · exact ⟨_, gi⟩
  have hmok2 := hmok1.mset (ik A.1) (ik k)
  have x3 := fun g nx (h : g m = some (.map (mset es (ik B.1) (ik i)) clock)) => ev_mapEntry (g := g) (nx := nx) (z := .int .i64 0) K1 hmok1 h ⟨A.1, rfl⟩ ga
  have x4 := fun g nx (h : g m = some (.map (mset es (ik B.1) (ik i)) clock)) => ev_entryStore (g := g) (nx := nx) (v := ik k) K1 hmok1 h ⟨A.1, rfl⟩ ga
  refine WCall.of ht rfl ?_
  simp only [fun32, code32, params, wc_skip, wc_region, wc_draw, wc_seq, wc_cond, wc_block, wc_exit, wc_ret, next_normal, next_exit, next_ret, inBlock_normal, inBlock_ret, inBlock_exit, sq_apply, nrm_apply, drawnK_apply, boolV_bool, ccond_true, ccond_false, wo_nil, wo_cons, wo_guard, wop, bindP_some, cont_some, cont_none, guardV_bool, guardV_undef, gcont_true, gcont_false, gcont_false', ret_apply, aggK_apply, putK_apply, resK_apply, boolK_apply, ccont_apply, wd_nil, wd_cons, dvals_apply, dcont_some, dcont_none, AOp.vals, rd_tmp, rd_const, rd_func, get_cons, mapList, mapOpt, Option.bind_some, Option.map_some, Nat.reduceEqDiff, if_true, if_false, reduceIte, reduceCtorEq, wv_mov, wv_pick, wv_alloc, wv_box, wv_build, wv_load, wv_loadn, wv_store, wv_nilCheck, wv_bin, wv_eq, wv_un, wv_convInt, wv_convSame, wv_fieldAddr, wv_field, wv_fieldn, wv_extract, wv_lenSlice, wv_lenString, wv_mkMap, wv_call, callee_func, wv_indexAddr, wv_lookup, wv_mapUpdate, wv_mapEntry, wv_entryStore, wv_delete, wv_append, wv_slice, wv_mkSlice, wv_buildSlice, wv_index, wv_copy, wv_lenMap, Abs.cellAt, Abs.rowAt, Abs.storeAt, Heap.get_put, List.getElem?_cons_zero, List.getElem?_cons_succ, Nat.zero_add, Nat.reduceAdd, idx, and_self, Int.toNat_natCast, cellsAt, ne_eq, not_true_eq_false, not_false_eq_true, cellList, Value.cells, List.length_cons, List.length_nil, List.all_cons, List.all_nil, isCell, Bool.and_self, storeL, List.set_cons_zero, List.set_cons_succ, footOf, true_and, and_true, Nat.reduceLeDiff, Nat.le_refl, Nat.reduceMul, Nat.reduceLT, List.nil_append, List.cons_append, List.length_set, ends_normal, ends_ret, endK_apply, resV_tmp, tupleV, binV, unV, eqV, Bool.not_true, Bool.not_false, BEq.rfl, Bool.true_beq, Bool.false_beq, beq_true, beq_false, Nat.sub_self, List.range'_zero, decide_true, decide_false, List.not_mem_nil, false_implies, implies_true, Bool.true_and, Bool.and_true, drawn, pairOk, disj, quietAt, Bool.bne_false, Bool.bne_true, Bool.false_eq_true, applyUpd, Int.reduceEq, Int.reduceNeg, hp, hq, hm, e1, e2, e3, pm, pq, mq, i2, i3, k2, k3, i1, k1, k1', flat_drop, hi, hk, hA, hB, fi, fk, gti, gtk, Nat.add_zero, x1, x2, x3, x4]
  refine ⟨⟨pm, pq, mq, lp, lm, lq, ⟨t, cap, ?_, by rw [hlen2]; exact hcap, c, r, ?_, ?_, hct⟩, clock, ?_, hmok2⟩, Nat.le_refl _, fun id hid hn => ?_⟩
  · simp only [Heap.get_put, pm, pq, if_false, hlen2]; exact hp
  · simp only [Heap.get_put, e2, if_false, if_true]
  · rw [hlen]; simp only [List.length_append, flat_length, hlen2]
  · simp only [Heap.get_put, if_true]
  · simp only [List.mem_cons, List.not_mem_nil, or_false, not_or] at hn
    simp only [Heap.get_put, hn.1, hn.2, if_false]

end Go.Proofs.Ytaigiehdnhehnaa
