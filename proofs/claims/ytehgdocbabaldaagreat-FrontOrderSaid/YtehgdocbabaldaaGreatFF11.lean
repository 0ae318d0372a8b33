/-
  decode.
-/
import Derived.Test.YtehgdocbabaldaaGreatFF8
set_option maxRecDepth 100000
set_option linter.unusedVariables false
set_option linter.unusedSimpArgs false
namespace Go.Proofs.YtehgdocbabaldaaGreat
open Go Go.Abs

def i64w (n : Nat) : Int := IntKind.i64.wrap (n : Int)

def hostN (zs : List Int) : Nat := valL ((zs.take 20).drop 18)

def recOf (zs : List Int) : FRec := ⟨zs.getD 0 0, i64w (valL ((zs.take 10).drop 2)), toB ((zs.take (20 + hostN zs)).drop 20), toB (zs.drop (20 + hostN zs)), zs.getD 1 0, i64w (valL ((zs.take 18).drop 10))⟩

def decL (zs : List Int) : Option FRec := if 20 ≤ zs.length ∧ hostN zs ≤ zs.length - 20 then some (recOf zs) else none

def t_0 : ACode := match code46 with | .seq x _ => x | _ => .skip
def t_1 : ACode := match code46 with | .seq _ (.seq (.seq x _) _) => x | _ => .skip
def t_1n : ACode := match code46 with | .seq _ (.seq (.seq _ (.cond _ x _)) _) => x | _ => .skip
def t_2 : ACode := match code46 with | .seq _ (.seq _ (.seq x _)) => x | _ => .skip
def t_3 : ACode := match code46 with | .seq _ (.seq _ (.seq _ (.seq (.seq x _) _))) => x | _ => .skip
def t_3n : ACode := match code46 with | .seq _ (.seq _ (.seq _ (.seq (.seq _ (.cond _ x _)) _))) => x | _ => .skip
def t_4 : ACode := match code46 with | .seq _ (.seq _ (.seq _ (.seq _ (.seq x _)))) => x | _ => .skip
def t_5 : ACode := match code46 with | .seq _ (.seq _ (.seq _ (.seq _ (.seq _ (.seq x _))))) => x | _ => .skip
def t_6 : ACode := match code46 with | .seq _ (.seq _ (.seq _ (.seq _ (.seq _ (.seq _ x))))) => x | _ => .skip
theorem code46_eq : code46 = .seq t_0 (.seq (.seq t_1 (.cond (.tmp 8) t_1n .skip)) (.seq t_2 (.seq (.seq t_3 (.cond (.tmp 18) t_3n .skip)) (.seq t_4 (.seq t_5 t_6))))) := rfl
def t4ops : List AOper := opsOf t_4
theorem t_4_eq : t_4 = .region t4ops (some ⟨[], [6, 14], []⟩) := rfl

section
variable {tbl : FuncId → Option AFun} {ov : CallSem} {s s1 : St} {e : Env} {v : Value} {zs : List Int} {p q : Nat}

def zeroCells6 : List Value := [in64 0, in64 0, .string ⟨#[]⟩, .string ⟨#[]⟩, in64 0, in64 0]

theorem t_0_gen (g0 : e.get 0 = some v) : WCode (fun k => call tbl ov k) t_0 e s fun x e' s' => x = .normal ∧ e'.get 0 = some v ∧ e'.get 2 = some (.pointer (some ⟨s.next, 0, none⟩)) ∧ e'.get 3 = some (.bool false) ∧ s' = ⟨s.heap.put s.next (some (.cells zeroCells6 70 0 false)), s.next + 1⟩ := by
  simp only [t_0, code46, K.R, K.o, K.ff, K.v, K.i, K.on, K.D, wc_region, wo_cons, wop, AOp.vals, bindP_some, wv_alloc, cont_some, rd_const, Option.map_some, wv_mov, wo_nil, nrm_apply, get_cons, reduceCtorEq, g0, if_false, Nat.reduceEqDiff, if_true, true_and]
  rfl

theorem t_1_gen (hb : BytesV s v zs) (g0 : e.get 0 = some v) : WCode (fun k => call tbl ov k) t_1 e s fun x e' s' => x = .normal ∧ e'.get 0 = e.get 0 ∧ e'.get 2 = e.get 2 ∧ e'.get 8 = some (.bool (decide (zs.length < 20))) ∧ s' = s := by
  obtain ⟨ad, cap, rfl⟩ := hb.len
  have d : decide ((zs.length : Int) < 20) = decide (zs.length < 20) := by
    have : ((zs.length : Int) < 20) ↔ zs.length < 20 := by omega
    simp only [this]
  simp only [t_1, code46, K.R, K.o, K.ff, K.v, K.i, K.on, K.D, g0, wc_region, wo_cons, wop, AOp.vals, rd_tmp, Option.map_some, bindP_some, wv_mov, cont_some, get_cons, if_true, wv_lenSlice, Nat.reduceEqDiff, if_false, rd_const, Option.bind_some, wv_bin, bin_lss, d, ret_apply, wo_nil, nrm_apply, reduceCtorEq, and_self]

theorem t_1n_gen (hp : s.heap.get p = some (.cells zeroCells6 70 0 false)) (g2 : e.get 2 = some (.pointer (some ⟨p, 0, none⟩))) : WCode (fun k => call tbl ov k) t_1n e s fun x e' s' => x = .ret ∧ e'.get 2 = some (.pointer (some ⟨p, 0, none⟩)) ∧ e'.get 3 = some (.bool false) ∧ s' = ⟨s.heap.put p (some (.cells zeroCells6 70 0 false)), s.next⟩ := by
  have hl : zeroCells6.length = 6 := rfl
  simp only [t_1n, code46, K.R, K.o, K.ff, K.v, K.i, K.on, K.D, wc_seq, wc_region, wo_cons, wop, AOp.vals, mapParts, Option.map_some, bindP_some, wv_build, fillL, aggK_apply, cont_some, rd_tmp, get_cons, Nat.reduceEqDiff, g2, if_false, if_true, Option.bind_some, wv_store, storeAt, hp, cellList, Value.cells, List.length_cons, List.length_nil, Nat.zero_add, Nat.reduceAdd, List.all_cons, isCell, List.all_nil, Bool.and_self, hl, Nat.le_refl, and_self, storeL, putK_apply, cont_none, rd_const, wv_mov, wo_nil, nrm_apply, next_normal, sq_apply, wc_ret, true_and]
  rfl

theorem t_3n_gen (hp : s.heap.get p = some (.cells zeroCells6 70 0 false)) (g2 : e.get 2 = some (.pointer (some ⟨p, 0, none⟩))) : WCode (fun k => call tbl ov k) t_3n e s fun x e' s' => x = .ret ∧ e'.get 2 = some (.pointer (some ⟨p, 0, none⟩)) ∧ e'.get 3 = some (.bool false) ∧ s' = ⟨s.heap.put p (some (.cells zeroCells6 70 0 false)), s.next⟩ := by
  have hl : zeroCells6.length = 6 := rfl
  simp only [t_3n, code46, K.R, K.o, K.ff, K.v, K.i, K.on, K.D, wc_seq, wc_region, wo_cons, wop, AOp.vals, mapParts, Option.map_some, bindP_some, wv_build, fillL, aggK_apply, cont_some, rd_tmp, get_cons, Nat.reduceEqDiff, g2, if_false, if_true, Option.bind_some, wv_store, storeAt, hp, cellList, Value.cells, List.length_cons, List.length_nil, Nat.zero_add, Nat.reduceAdd, List.all_cons, isCell, List.all_nil, Bool.and_self, hl, Nat.le_refl, and_self, storeL, putK_apply, cont_none, rd_const, wv_mov, wo_nil, nrm_apply, next_normal, sq_apply, wc_ret, true_and]
  rfl

theorem t_2_gen (h45 : tbl 45 = some fun45) (hb : BytesV s v zs) (hz : 20 ≤ zs.length) (g0 : e.get 0 = some v) : WCode (fun k => call tbl ov k) t_2 e s fun x e' s' => x = .normal ∧ e'.get 0 = e.get 0 ∧ e'.get 2 = e.get 2 ∧ e'.get 4 = some (in64 (hostN zs)) ∧ s' = s := by
  obtain ⟨v', hb', he⟩ := hb.cut (m := 18) (n := 20) (by omega) hz
  have he : evP s.heap.get s.next (.slice (.slice 1) v (some (.int .i64 18)) (some (.int .i64 20)) none) = some ⟨v', [], s.next⟩ := he .i64 .i64
  have hln : ((zs.take 20).drop 18).length = 2 := by rw [List.length_drop, List.length_take]; omega
  have hlt := valL_lt hb'.1
  rw [hln] at hlt
  have w : IntKind.i64.wrap ((hostN zs : Nat) : Int) = (hostN zs : Nat) := wrap64 (by unfold hostN; omega) (by unfold hostN; omega)
  simp only [t_2, code46, K.R, K.o, K.ff, K.v, K.i, K.on, K.D, g0, wc_region, wo_cons, wop, AOp.vals, rd_tmp, Option.map_some, bindP_some, wv_mov, cont_some, get_cons, if_true, mapOpt, rd_const, Option.bind_some, wv_slice, he, resK_apply, applyUpd, rd_func, mapList, Nat.reduceEqDiff, if_false, wv_call, callee_func, ccont_apply]
  refine WCall.mono (read_spec h45 hb' (by omega)) ?_
  rintro u s1 ⟨rfl, rfl⟩
  have w' : IntKind.i64.wrap ((valL ((zs.take 20).drop 18) : Nat) : Int) = (hostN zs : Nat) := w
  simp only [cont_some, wo_cons, wop, AOp.vals, rd_tmp, get_cons, Nat.reduceEqDiff, if_false, if_true, Option.map_some, bindP_some, wv_convInt, w', wv_mov, wo_nil, nrm_apply, reduceCtorEq, g0, and_self]

theorem t_3_gen (hb : BytesV s v zs) (hz : 20 ≤ zs.length) (hz2 : zs.length < 2 ^ 40) {n : Nat} (g0 : e.get 0 = some v) (g4 : e.get 4 = some (in64 n)) : WCode (fun k => call tbl ov k) t_3 e s fun x e' s' => x = .normal ∧ e'.get 0 = e.get 0 ∧ e'.get 2 = e.get 2 ∧ e'.get 4 = e.get 4 ∧ e'.get 18 = some (.bool (decide (zs.length - 20 < n))) ∧ s' = s := by
  obtain ⟨ad, cap, rfl⟩ := hb.len
  have w : IntKind.i64.wrap ((zs.length : Int) - 20) = ((zs.length - 20 : Nat) : Int) := by rw [wrap64 (by omega) (by omega)]; omega
  have d : decide ((n : Int) > ((zs.length - 20 : Nat) : Int)) = decide (zs.length - 20 < n) := by
    have : ((n : Int) > ((zs.length - 20 : Nat) : Int)) ↔ zs.length - 20 < n := by omega
    simp only [this]
  simp only [t_3, code46, K.R, K.o, K.ff, K.v, K.i, K.on, K.D, g0, g4, wc_region, wo_cons, wop, AOp.vals, rd_tmp, Option.map_some, bindP_some, wv_mov, cont_some, get_cons, reduceCtorEq, if_false, Nat.reduceEqDiff, if_true, wv_lenSlice, rd_const, Option.bind_some, wv_bin, bin_sub, w, ret_apply, bin_gtr, d, wo_nil, nrm_apply, and_self]

theorem t4A_gen (h45 : tbl 45 = some fun45) (hb : BytesV s v zs) (hz : 20 ≤ zs.length) (g0 : e.get 0 = some v) {Q : Env → St → Prop}
    (hq : ∀ e' : Env, (∀ j, j < 6 → e'.get j = e.get j) → e'.get 23 = some (in64 (zs.getD 0 0)) → e'.get 27 = some (in64 (i64w (valL ((zs.take 10).drop 2)))) → Q e' s) : WQ (fun k => call tbl ov k) [6, 14] 0 (t4ops.take 8) e s Q := by
  obtain ⟨v', hb', he⟩ := hb.cut (m := 2) (n := 10) (by omega) (by omega)
  have he : evP s.heap.get s.next (.slice (.slice 1) v (some (.int .i64 2)) (some (.int .i64 10)) none) = some ⟨v', [], s.next⟩ := he .i64 .i64
  have hln : ((zs.take 10).drop 2).length = 8 := by rw [List.length_drop, List.length_take]; omega
  have hz0 := hb.1 _ (getD_memI (i := 0) (by omega))
  have w0 : IntKind.i64.wrap (zs.getD 0 0) = zs.getD 0 0 := wrap64 (by omega) (by omega)
  obtain ⟨id, o, cap, c, t, sz, ro, rfl, h1, h2, h3, h4, h5⟩ := hb.row (by omega)
  have d2 : (0 : Int) ≤ 0 := by omega
  have d3 : (0 : Int) < (zs.length : Nat) := by omega
  have hg := h5 0 (by omega)
  rw [Nat.add_zero] at hg
  simp only [t4ops, opsOf, t_4, code46, List.take_succ_cons, List.take_zero, wq_cons, wop, AOp.vals, rd_tmp, g0, Option.map_some, bindP_some, wv_mov, qcont_some, List.mem_cons, reduceCtorEq, List.not_mem_nil, or_self, false_implies, Nat.zero_add, get_cons, if_true, rd_const, Option.bind_some, wv_indexAddr, idx, d2, d3, and_self, Int.toNat_zero, Nat.zero_mul, Nat.add_zero, ret_apply, Nat.reduceEqDiff, Nat.reduceAdd, if_false, wv_load, cellAt, h3, hg, wv_convInt, w0, mapOpt, wv_slice, he, resK_apply, applyUpd, rd_func, mapList, wv_call, callee_func, ccont_apply, true_and]
  refine WCall.mono (read_spec h45 hb' (by omega)) ?_
  rintro u s1 ⟨rfl, rfl⟩
  simp only [qcont_some, List.mem_cons, Nat.reduceEqDiff, List.not_mem_nil, or_self, or_false, Quiet.refl, implies_true, Nat.reduceAdd, wq_cons, wop, AOp.vals, rd_tmp, get_cons, if_false, if_true, Option.map_some, bindP_some, wv_convInt, wq_nil, true_and]
  refine hq _ (fun j hj => ?_) ?_ ?_
  · simp (disch := omega) only [get_cons, if_neg]
  · simp only [get_cons, Nat.reduceEqDiff, reduceIte]
  · simp only [get_cons, Nat.reduceEqDiff, reduceIte]; rfl

theorem t4B_gen (h45 : tbl 45 = some fun45) (hb : BytesV s v zs) (hz : 20 ≤ zs.length) (g0 : e.get 0 = some v) {Q : Env → St → Prop}
    (hq : ∀ e' : Env, (∀ j, j < 6 → e'.get j = e.get j) → e'.get 23 = e.get 23 → e'.get 27 = e.get 27 → e'.get 31 = some (in64 (zs.getD 1 0)) → e'.get 35 = some (in64 (i64w (valL ((zs.take 18).drop 10)))) → Q e' s) : WQ (fun k => call tbl ov k) [6, 14] 8 ((t4ops.drop 8).take 8) e s Q := by
  obtain ⟨v', hb', he⟩ := hb.cut (m := 10) (n := 18) (by omega) (by omega)
  have he : evP s.heap.get s.next (.slice (.slice 1) v (some (.int .i64 10)) (some (.int .i64 18)) none) = some ⟨v', [], s.next⟩ := he .i64 .i64
  have hln : ((zs.take 18).drop 10).length = 8 := by rw [List.length_drop, List.length_take]; omega
  have hz0 := hb.1 _ (getD_memI (i := 1) (by omega))
  have w0 : IntKind.i64.wrap (zs.getD 1 0) = zs.getD 1 0 := wrap64 (by omega) (by omega)
  obtain ⟨id, o, cap, c, t, sz, ro, rfl, h1, h2, h3, h4, h5⟩ := hb.row (by omega)
  have d2 : (0 : Int) ≤ 1 := by omega
  have d3 : (1 : Int) < (zs.length : Nat) := by omega
  have hg := h5 1 (by omega)
  have ht : Int.toNat 1 = 1 := rfl
  simp only [t4ops, opsOf, t_4, code46, List.drop_succ_cons, List.drop_zero, List.take_succ_cons, List.take_zero, wq_cons, wop, AOp.vals, rd_tmp, g0, Option.map_some, bindP_some, wv_mov, qcont_some, List.mem_cons, Nat.reduceEqDiff, List.not_mem_nil, or_self, false_implies, Nat.reduceAdd, get_cons, if_true, rd_const, Option.bind_some, wv_indexAddr, idx, d2, d3, and_self, ht, Nat.mul_one, ret_apply, if_false, wv_load, cellAt, h3, hg, wv_convInt, w0, reduceCtorEq, mapOpt, wv_slice, he, resK_apply, applyUpd, rd_func, mapList, wv_call, callee_func, ccont_apply, true_and]
  refine WCall.mono (read_spec h45 hb' (by omega)) ?_
  rintro u s1 ⟨rfl, rfl⟩
  simp only [qcont_some, List.mem_cons, Nat.reduceEqDiff, List.not_mem_nil, or_false, false_or, Quiet.refl, implies_true, Nat.reduceAdd, wq_cons, wop, AOp.vals, rd_tmp, get_cons, if_false, if_true, Option.map_some, bindP_some, wv_convInt, or_self, wq_nil, true_and]
  refine hq _ (fun j hj => ?_) ?_ ?_ ?_ ?_
  · simp (disch := omega) only [get_cons, if_neg]
  · simp only [get_cons, Nat.reduceEqDiff, reduceIte]
  · simp only [get_cons, Nat.reduceEqDiff, reduceIte]
  · simp only [get_cons, Nat.reduceEqDiff, reduceIte]
  · simp only [get_cons, Nat.reduceEqDiff, reduceIte]; rfl

theorem t4C_gen (hb : BytesV s v zs) (hz : 20 ≤ zs.length) (hz2 : zs.length < 2 ^ 40) {n : Nat} (hn : n ≤ zs.length - 20) (g0 : e.get 0 = some v) (g4 : e.get 4 = some (in64 n)) {Q : Env → St → Prop}
    (hq : ∀ e' : Env, (∀ j, j < 6 → e'.get j = e.get j) → e'.get 23 = e.get 23 → e'.get 27 = e.get 27 → e'.get 31 = e.get 31 → e'.get 35 = e.get 35 → e'.get 40 = some (.string (toB ((zs.take (20 + n)).drop 20))) → e'.get 45 = some (.string (toB (zs.drop (20 + n)))) → Q e' s) : WQ (fun k => call tbl ov k) [6, 14] 16 (((t4ops.drop 8).drop 8).take 10) e s Q := by
  obtain ⟨v1, hb1, he1⟩ := hb.cut (m := 20) (n := 20 + n) (by omega) (by omega)
  have he1 : evP s.heap.get s.next (.slice (.slice 1) v (some (.int .i64 20)) (some (.int .i64 (20 + n : Nat))) none) = some ⟨v1, [], s.next⟩ := he1 .i64 .i64
  obtain ⟨v2, hb2, he2⟩ := hb.drop (n := 20 + n) (by omega)
  have he2 : evP s.heap.get s.next (.slice (.slice 1) v (some (.int .i64 (20 + n : Nat))) none none) = some ⟨v2, [], s.next⟩ := he2 .i64
  have w : IntKind.i64.wrap (20 + (n : Int)) = ((20 + n : Nat) : Int) := by rw [wrap64 (by omega) (by omega)]; omega
  have ht1 := ev_toString hb1
  have ht2 := ev_toString hb2
  simp only [t4ops, opsOf, t_4, code46, List.drop_succ_cons, List.drop_zero, List.take_succ_cons, List.take_zero, wq_cons, wop, AOp.vals, rd_tmp, g0, Option.map_some, bindP_some, wv_mov, qcont_some, List.mem_cons, Nat.reduceEqDiff, List.not_mem_nil, or_self, false_implies, Nat.reduceAdd, get_cons, g4, if_false, rd_const, if_true, Option.bind_some, wv_bin, bin_add, w, ret_apply, mapOpt, wv_slice, he1, resK_apply, applyUpd, wv_toString, ht1, reduceCtorEq, he2, ht2, wq_nil, true_and]
  refine hq _ (fun j hj => ?_) ?_ ?_ ?_ ?_ ?_ ?_
  · simp (disch := omega) only [get_cons, if_neg]
  all_goals simp only [get_cons, Nat.reduceEqDiff, reduceIte]

theorem t4D_gen {r : FRec} (g23 : e.get 23 = some (in64 r.kind)) (g27 : e.get 27 = some (in64 r.id)) (g31 : e.get 31 = some (in64 r.prio)) (g35 : e.get 35 = some (in64 r.till)) (g40 : e.get 40 = some (.string r.host)) (g45 : e.get 45 = some (.string r.path)) {Q : Env → St → Prop}
    (hq : ∀ e' : Env, e'.get 2 = e.get 2 → e'.get 5 = some (.pointer (some ⟨s.next, 0, none⟩)) → ∀ s' : St, s'.next = s.next + 1 → s'.heap.get s.next = some (.cells r.cells 70 0 false) → (∀ id, id < s.next → s'.heap.get id = s.heap.get id) → Q e' s') : WQ (fun k => call tbl ov k) [6, 14] 26 (((t4ops.drop 8).drop 8).drop 10) e s Q := by
  have hf : fillL [in64 0, .string ⟨#[]⟩, .string ⟨#[]⟩, in64 0, in64 0] [(0, 1, in64 r.id), (3, 1, in64 r.prio), (4, 1, in64 r.till), (1, 1, .string r.host), (2, 1, .string r.path)] = some r.req := rfl
  have hf2 : fillL [in64 0, in64 0, .string ⟨#[]⟩, .string ⟨#[]⟩, in64 0, in64 0] [(0, 1, in64 r.kind), (1, 5, .agg r.req.toArray)] = some r.cells := by
    simp [fillL, FRec.req, FRec.cells, cellList, Value.cells, storeL]
  have hst : storeL [in64 0, in64 0, .string ⟨#[]⟩, .string ⟨#[]⟩, in64 0, in64 0] 0 r.cells = r.cells := rfl
  have hl := rec_len r
  have hall : r.cells.all isCell = true := rfl
  simp only [t4ops, opsOf, t_4, code46, List.drop_succ_cons, List.drop_zero, wq_cons, wop, AOp.vals, mapParts, rd_tmp, g27, g31, g35, g40, g45, Option.map_some, Option.bind_some, bindP_some, wv_build, hf, aggK_apply, qcont_some, List.mem_cons, Nat.reduceEqDiff, List.not_mem_nil, or_self, false_implies, Nat.reduceAdd, get_cons, g23, if_false, if_true, hf2, wv_alloc, wv_store, storeAt, Heap.get_put, cellList, Value.cells, List.toList_toArray, hl, hall, Nat.zero_add, List.length_cons, List.length_nil, Nat.le_refl, and_self, hst, putK_apply, qcont_none, wq_nil, true_and]
  refine hq _ ?_ ?_ _ rfl ?_ ?_
  · simp only [get_cons, Nat.reduceEqDiff, reduceIte]
  · simp only [get_cons, Nat.reduceEqDiff, reduceIte]
  · simp only [Heap.get_put, if_true]
  · intro id hid
    have : ¬ id = s.next := by omega
    simp only [Heap.get_put, this, if_false]

def t5ops : List AOper := opsOf t_5
theorem t_5_eq : t_5 = .region t5ops (some ⟨[], [2], []⟩) := rfl

theorem t5_gen (h67 : tbl 67 = some fun67) {r : FRec} {c0 : List Value} (hc : c0.length = 6) (hqc : s.heap.get q = some (.cells r.cells 70 0 false)) (hp : s.heap.get p = some (.cells c0 70 0 false)) (hpn : p < s.next) (g2 : e.get 2 = some (.pointer (some ⟨p, 0, none⟩))) (g5 : e.get 5 = some (.pointer (some ⟨q, 0, none⟩))) {Q : Env → St → Prop}
    (hq : ∀ (e' : Env) (s1 : St), e'.get 2 = e.get 2 → e'.get 3 = some (.bool r.sound) → Kept [] s s1 → Q e' ⟨s1.heap.put p (some (.cells r.cells 70 0 false)), s1.next⟩) : WQ (fun k => call tbl ov k) [2] 0 t5ops e s Q := by
  have hl := rec_len r
  have ha := rec_all r
  have hall : r.cells.all isCell = true := rfl
  have hst : storeL c0 0 r.cells = r.cells := by
    match c0, hc with
    | [_, _, _, _, _, _], _ => rfl
  simp only [t5ops, opsOf, t_5, code46, wq_cons, wop, AOp.vals, rd_tmp, g5, Option.map_some, bindP_some, wv_loadn, Abs.rowAt, cellsAt, hqc, Nat.zero_add, hl, Nat.le_refl, ha, if_true, aggK_apply, qcont_some, List.mem_cons, reduceCtorEq, List.not_mem_nil, or_self, false_implies, get_cons, Nat.reduceEqDiff, if_false, Nat.reduceAdd, rd_func, mapList, Option.bind_some, wv_call, callee_func, ccont_apply, true_and]
  refine WCall.mono (sound_spec h67) ?_
  rintro v s1 ⟨rfl, hk, hqt⟩
  have hp1 : s1.heap.get p = some (.cells c0 70 0 false) := by rw [hk.2 p hpn (by simp)]; exact hp
  simp only [qcont_some, List.mem_cons, List.not_mem_nil, or_false, hqt, implies_true, Nat.reduceAdd, wq_cons, wop, AOp.vals, rd_tmp, get_cons, Nat.reduceEqDiff, g2, if_false, if_true, Option.map_some, Option.bind_some, bindP_some, wv_store, storeAt, hp1, cellList, Value.cells, List.toList_toArray, hl, hall, Nat.zero_add, hc, Nat.le_refl, and_self, hst, putK_apply, qcont_none, or_self, false_implies, wv_mov, wq_nil, true_and]
  refine hq _ s1 ?_ ?_ hk
  · simp only [get_cons, Nat.reduceEqDiff, reduceIte, g2]
  · simp only [get_cons, Nat.reduceEqDiff, reduceIte]

theorem load_cells (s : St) {p : Nat} {c : List Value} {t : TypeId} (hp : s.heap.get p = some (.cells c t 0 false)) (hc : c.length = 6) : loadA s (some 6) (.pointer (some ⟨p, 0, none⟩)) = some (.agg c.toArray) := by
  simp only [loadA, evP, cellsAt, hp, Nat.zero_add, hc, Nat.le_refl, if_true, List.drop_zero, Option.map_some]
  rw [List.take_of_length_le (by omega)]

def DecV (zs : List Int) (u : Value) : Prop := ∃ (c : List Value) (b : Bool), u = .tuple #[.agg c.toArray, .bool b] ∧ c.length = 6 ∧ c.all isCell = true ∧ ((decL zs = none ∧ b = false) ∨ ∃ r, decL zs = some r ∧ b = r.sound ∧ c = r.cells)

theorem decode_spec (h46 : tbl 46 = some fun46) (h45 : tbl 45 = some fun45) (h67 : tbl 67 = some fun67) (hb : BytesV s v zs) (hz2 : zs.length < 2 ^ 40) : WCall (fun k => call tbl ov k) 46 [v] s fun u s' => Kept [] s s' ∧ DecV zs u := by
  refine WCall.of h46 rfl ?_
  simp only [fun46, code46_eq, params]
  have hzc : zeroCells6.length = 6 := rfl
  refine wc_then (t_0_gen rfl) ?_
  rintro e1 s1 ⟨a0, a2, a3, rfl⟩
  have hk1 : Kept [] s ⟨s.heap.put s.next (some (.cells zeroCells6 70 0 false)), s.next + 1⟩ := ⟨Nat.le_succ _, fun id hid _ => by
    have : ¬ id = s.next := by omega
    simp only [Heap.get_put, this, if_false]⟩
  have hb1 := hb.kept hk1
  have hp1 : (⟨s.heap.put s.next (some (.cells zeroCells6 70 0 false)), s.next + 1⟩ : St).heap.get s.next = some (.cells zeroCells6 70 0 false) := by simp only [Heap.get_put, if_true]
  generalize hS : (⟨s.heap.put s.next (some (.cells zeroCells6 70 0 false)), s.next + 1⟩ : St) = s1 at *
  have hpn : s.next < s1.next := by rw [← hS]; exact Nat.lt_succ_self _
  -- the branch that refuses
  have hno : ∀ (x : AExit) (e' : Env) (s' : St), decL zs = none → (x = .ret ∧ e'.get 2 = some (.pointer (some ⟨s.next, 0, none⟩)) ∧ e'.get 3 = some (.bool false) ∧ s' = ⟨s1.heap.put s.next (some (.cells zeroCells6 70 0 false)), s1.next⟩) →
      ends [.cell 2 (some 6), .tmp 3] (fun u s' => Kept [] s s' ∧ DecV zs u) x e' s' := by
    rintro x e' s' hd ⟨rfl, g2, g3, rfl⟩
    rw [ends_ret]
    have hload := load_cells ⟨s1.heap.put s.next (some (.cells zeroCells6 70 0 false)), s1.next⟩ (p := s.next) (c := zeroCells6) (t := 70) (by simp only [Heap.get_put, if_true]) rfl
    simp only [mapList, resV, g2, g3, hload, bindP_some, Option.bind_some, Option.map_some, endK_apply, tupleV]
    refine ⟨⟨hk1.1, fun id hid _ => ?_⟩, zeroCells6, false, rfl, rfl, rfl, .inl ⟨hd, rfl⟩⟩
    have : ¬ id = s.next := by omega
    simp only [Heap.get_put, this, if_false]
    exact hk1.2 id hid (by simp)
  rw [wc_seq]
  refine wc_if ?_
  refine WCode.mono ?_ (t_1_gen hb1 a0)
  rintro x e2 s2 ⟨rfl, b0, b2, b8, rfl⟩
  refine ⟨rfl, _, b8, fun ht => ?_, fun hf => ?_⟩
  · simp only [decide_eq_true_eq] at ht
    refine WCode.mono ?_ (t_1n_gen hp1 (b2.trans a2))
    rintro x e3 s3 hx
    have := hno x e3 s3 (by unfold decL; rw [if_neg (by omega)]) hx
    obtain ⟨rfl, _⟩ := hx
    exact this
  simp only [decide_eq_false_iff_not] at hf
  rw [wc_skip, next_normal, sq_apply]
  refine wc_then (t_2_gen h45 hb1 (by omega) (b0.trans a0)) ?_
  rintro e3 s3 ⟨c0, c2, c4, rfl⟩
  rw [wc_seq]
  refine wc_if ?_
  refine WCode.mono ?_ (t_3_gen hb1 (by omega) hz2 (c0.trans (b0.trans a0)) c4)
  rintro x e4 s4 ⟨rfl, d0, d2, d4, d18, rfl⟩
  refine ⟨rfl, _, d18, fun ht => ?_, fun hf2 => ?_⟩
  · simp only [decide_eq_true_eq] at ht
    refine WCode.mono ?_ (t_3n_gen hp1 (d2.trans (c2.trans (b2.trans a2))))
    rintro x e5 s5 hx
    have := hno x e5 s5 (by unfold decL; rw [if_neg (by omega)]) hx
    obtain ⟨rfl, _⟩ := hx
    exact this
  simp only [decide_eq_false_iff_not] at hf2
  have hdec : decL zs = some (recOf zs) := by unfold decL; rw [if_pos ⟨by omega, by omega⟩]
  rw [wc_skip, next_normal, sq_apply]
  have f0 := d0.trans (c0.trans (b0.trans a0))
  have f2 := d2.trans (c2.trans (b2.trans a2))
  have f4 := d4.trans c4
  refine wc_then (R := fun e' s' => e'.get 2 = some (.pointer (some ⟨s.next, 0, none⟩)) ∧ ∃ q, e'.get 5 = some (.pointer (some ⟨q, 0, none⟩)) ∧ s'.heap.get q = some (.cells (recOf zs).cells 70 0 false) ∧ s'.heap.get s.next = some (.cells zeroCells6 70 0 false) ∧ s.next < s'.next ∧ Kept [] s4 s') ?_ ?_
  · rw [t_4_eq]
    refine wc_quiet ?_
    rw [wq_cut _ _ t4ops 8 0 _ _ _ (by decide)]
    refine t4A_gen h45 hb1 (by omega) f0 fun ea ka a23 a27 => ?_
    rw [wq_cut _ _ (t4ops.drop 8) 8 _ _ _ _ (by decide)]
    refine t4B_gen h45 hb1 (by omega) ((ka 0 (by omega)).trans f0) fun eb kb b23 b27 b74 b35 => ?_
    rw [wq_cut _ _ ((t4ops.drop 8).drop 8) 10 _ _ _ _ (by decide)]
    refine t4C_gen hb1 (by omega) hz2 (n := hostN zs) (by omega) ((kb 0 (by omega)).trans ((ka 0 (by omega)).trans f0)) ((kb 4 (by omega)).trans ((ka 4 (by omega)).trans f4)) fun ec kc c23 c27 c74 c35 c40 c45 => ?_
    refine t4D_gen (r := recOf zs) (c23.trans (b23.trans a23)) (c27.trans (b27.trans a27)) (c74.trans b74) (c35.trans b35) c40 c45 fun ed d2' d5 s' hnx hg hold => ?_
    refine ⟨rfl, d2'.trans ((kc 2 (by omega)).trans ((kb 2 (by omega)).trans ((ka 2 (by omega)).trans f2))), s4.next, d5, hg, by rw [hold s.next hpn]; exact hp1, by omega, ⟨by omega, fun id hid _ => hold id hid⟩⟩
  rintro e5 s5 ⟨g2, q, g5, hq5, hp5, hpn5, hk5⟩
  refine wc_then (R := fun e' s' => e'.get 2 = some (.pointer (some ⟨s.next, 0, none⟩)) ∧ e'.get 3 = some (.bool (recOf zs).sound) ∧ s'.heap.get s.next = some (.cells (recOf zs).cells 70 0 false) ∧ Kept [] s s') ?_ ?_
  · rw [t_5_eq]
    refine wc_quiet ?_
    refine t5_gen h67 (r := recOf zs) hzc hq5 hp5 hpn5 g2 g5 fun e6 s6 h2 h3 hk6 => ?_
    refine ⟨rfl, h2.trans g2, h3, by simp only [Heap.get_put, if_true], ⟨Nat.le_trans hk1.1 (Nat.le_trans hk5.1 hk6.1), fun id hid _ => ?_⟩⟩
    have : ¬ id = s.next := by omega
    simp only [Heap.get_put, this, if_false]
    exact ((hk1.trans hk5).trans hk6).2 id hid (by simp)
  rintro e6 s6 ⟨h2, h3, h6, hk6⟩
  have hload := load_cells s6 h6 (rec_len _)
  simp only [t_6, code46, K.R, K.o, K.ff, K.v, K.i, K.on, K.D, wc_ret, ends_ret, mapList, resV, h2, Option.bind_some, hload, h3, Option.map_some, bindP_some, endK_apply, tupleV]
  exact ⟨hk6, _, _, rfl, rfl, rfl, .inr ⟨_, hdec, rfl, rfl⟩⟩

end
end Go.Proofs.YtehgdocbabaldaaGreat


/-
  Scan.
-/
set_option maxRecDepth 100000
set_option linter.unusedVariables false
set_option linter.unusedSimpArgs false
namespace Go.Proofs.YtehgdocbabaldaaGreat
open Go Go.Abs

def lenAt (zs : List Int) (i : Nat) : Nat := valL ((zs.take (i + 2)).drop i)
def sumAt (zs : List Int) (i : Nat) : Nat := valL ((zs.take (i + 6)).drop (i + 2))
def partAt (zs : List Int) (i : Nat) : List Int := (zs.take (i + 6 + lenAt zs i)).drop (i + 6)

def stepL (zs : List Int) (i : Nat) : Option (FRec × Nat) :=
  if i + 6 ≤ zs.length ∧ i + 6 + lenAt zs i ≤ zs.length then
    match decL (partAt zs i) with
    | some r => if (sumL (partAt zs i)).toNat = sumAt zs i ∧ r.sound = true then some (r, i + 6 + lenAt zs i) else none
    | none => none
  else none

def scanL : Nat → List Int → Nat → List FRec × Nat
  | 0, _, i => ([], i)
  | f + 1, zs, i =>
    match stepL zs i with
    | none => ([], i)
    | some p => (p.1 :: (scanL f zs p.2).1, (scanL f zs p.2).2)

theorem stepL_bound {zs : List Int} {i : Nat} {p : FRec × Nat} (h : stepL zs i = some p) : p.2 = i + 6 + lenAt zs i ∧ p.2 ≤ zs.length ∧ i + 6 ≤ p.2 := by
  unfold stepL at h
  split at h
  · split at h
    · split at h
      · cases h; refine ⟨rfl, ?_, ?_⟩ <;> simp only <;> omega
      · cases h
    · cases h
  · cases h

theorem scanL_fuel : ∀ (f g : Nat) (zs : List Int) (i : Nat), zs.length ≤ i + f → zs.length ≤ i + g → scanL f zs i = scanL g zs i := by
  intro f
  induction f with
  | zero =>
    intro g zs i h1 h2
    cases g with
    | zero => rfl
    | succ g =>
      have : stepL zs i = none := by
        cases h : stepL zs i with
        | none => rfl
        | some p => have := stepL_bound h; omega
      simp only [scanL, this]
  | succ f ih =>
    intro g zs i h1 h2
    cases g with
    | zero =>
      have : stepL zs i = none := by
        cases h : stepL zs i with
        | none => rfl
        | some p => have := stepL_bound h; omega
      simp only [scanL, this]
    | succ g =>
      cases h : stepL zs i with
      | none => simp only [scanL, h]
      | some p =>
        have hb := stepL_bound h
        simp only [scanL, h, ih g zs p.2 (by omega) (by omega)]

def r_0 : ACode := match code26 with | .seq x _ => x | _ => .skip
def r_1 : ACode := match code26 with | .seq _ (.seq x _) => x | _ => .skip
def r_2 : ACode := match code26 with | .seq _ (.seq _ (.seq x _)) => x | _ => .skip
def r_3 : ACode := match code26 with | .seq _ (.seq _ (.seq _ (.seq x _))) => x | _ => .skip
def r_4 : ACode := match code26 with | .seq _ (.seq _ (.seq _ (.seq _ x))) => x | _ => .skip
def r3h : ACode := match r_3 with | .block _ (.loop _ (.seq (.seq x _) _)) => x | _ => .skip
def r3b : ACode := match r_3 with | .block _ (.loop _ (.seq _ (.block _ x))) => x | _ => .skip
def m_1 : ACode := match r3b with | .seq x _ => x | _ => .skip
def m_2 : ACode := match r3b with | .seq _ (.seq (.seq x _) _) => x | _ => .skip
def m_3 : ACode := match r3b with | .seq _ (.seq _ (.seq x _)) => x | _ => .skip
def m_4 : ACode := match r3b with | .seq _ (.seq _ (.seq _ (.seq x _))) => x | _ => .skip
def m_5 : ACode := match r3b with | .seq _ (.seq _ (.seq _ (.seq _ (.seq (.seq x _) _)))) => x | _ => .skip
def m_6 : ACode := match r3b with | .seq _ (.seq _ (.seq _ (.seq _ (.seq _ (.seq x _))))) => x | _ => .skip
def m_7 : ACode := match r3b with | .seq _ (.seq _ (.seq _ (.seq _ (.seq _ (.seq _ x))))) => x | _ => .skip
theorem code26_eq : code26 = .seq r_0 (.seq r_1 (.seq r_2 (.seq r_3 r_4))) := rfl
theorem r_3_eq : r_3 = .block 0 (.loop [0, 4, 5] (.seq (.seq r3h (.cond (.tmp 14) .skip (.exit 0))) (.block 1 (.seq m_1 (.seq (.seq m_2 (.cond (.tmp 28) (.exit 0) .skip)) (.seq m_3 (.seq m_4 (.seq (.seq m_5 (.cond (.tmp 56) (.exit 0) .skip)) (.seq m_6 m_7))))))))) := rfl
def m5ops : List AOper := opsOf m_5
theorem m_5_eq : m_5 = .region m5ops (some ⟨[], [1], []⟩) := rfl

section
variable {tbl : FuncId → Option AFun} {ov : CallSem} {s s1 : St} {e : Env} {v w : Value} {zs : List Int} {p q i n : Nat}

theorem r3h_gen (hb : BytesV s v zs) (hz2 : zs.length < 2 ^ 40) (hi : i ≤ zs.length) (g0 : e.get 0 = some v) (g5 : e.get 5 = some (in64 i)) : WCode (fun k => call tbl ov k) r3h e s fun x e' s' => x = .normal ∧ (∀ j, j < 6 → e'.get j = e.get j) ∧ e'.get 14 = some (.bool (decide (i + 6 ≤ zs.length))) ∧ s' = s := by
  obtain ⟨ad, cap, rfl⟩ := hb.len
  have w1 : IntKind.i64.wrap ((zs.length : Int) - (i : Int)) = ((zs.length - i : Nat) : Int) := by rw [wrap64 (by omega) (by omega)]; omega
  have d : decide (((zs.length - i : Nat) : Int) ≥ 6) = decide (i + 6 ≤ zs.length) := by
    have : (((zs.length - i : Nat) : Int) ≥ 6) ↔ i + 6 ≤ zs.length := by omega
    simp only [this]
  simp only [r3h, r_3, code26, K.R, K.o, K.i, K.v, K.on, K.D, K.of, K.tt, wc_region, wo_cons, wop, AOp.vals, rd_tmp, g0, Option.map_some, bindP_some, wv_mov, cont_some, get_cons, if_true, wv_lenSlice, Nat.reduceEqDiff, g5, if_false, Option.bind_some, wv_bin, bin_sub, w1, ret_apply, rd_const, bin_geq, d, wo_nil, nrm_apply, and_self, and_true, true_and]
  intro j hj
  simp (disch := omega) only [get_cons, if_neg]

theorem m_1_gen (h45 : tbl 45 = some fun45) (hb : BytesV s v zs) (hz2 : zs.length < 2 ^ 40) (hi : i + 6 ≤ zs.length) (g0 : e.get 0 = some v) (g5 : e.get 5 = some (in64 i)) : WCode (fun k => call tbl ov k) m_1 e s fun x e' s' => x = .normal ∧ (∀ j, j < 6 → e'.get j = e.get j) ∧ e'.get 6 = some (in64 (lenAt zs i)) ∧ s' = s := by
  obtain ⟨v', hb', he⟩ := hb.cut (m := i) (n := i + 2) (by omega) (by omega)
  have he := he .i64 .i64
  have hln : ((zs.take (i + 2)).drop i).length = 2 := by rw [List.length_drop, List.length_take]; omega
  have hlt := valL_lt hb'.1
  rw [hln] at hlt
  have w1 : IntKind.i64.wrap ((i : Int) + 2) = ((i + 2 : Nat) : Int) := by rw [wrap64 (by omega) (by omega)]; omega
  have w2 : IntKind.i64.wrap ((valL ((zs.take (i + 2)).drop i) : Nat) : Int) = (lenAt zs i : Nat) := wrap64 (by omega) (by omega)
  simp only [m_1, r3b, r_3, code26, K.R, K.o, K.i, K.v, K.on, K.D, K.of, K.tt, wc_region, wo_cons, wop, AOp.vals, rd_tmp, g0, Option.map_some, bindP_some, wv_mov, cont_some, get_cons, Nat.reduceEqDiff, g5, if_false, if_true, rd_const, Option.bind_some, wv_bin, bin_add, w1, ret_apply, mapOpt, wv_slice, he, resK_apply, applyUpd, rd_func, mapList, wv_call, callee_func, ccont_apply]
  refine WCall.mono (read_spec h45 hb' (by omega)) ?_
  rintro u s1 ⟨rfl, rfl⟩
  simp only [cont_some, wo_cons, wop, AOp.vals, rd_tmp, get_cons, Nat.reduceEqDiff, if_false, if_true, Option.map_some, bindP_some, wv_convInt, w2, wv_mov, wo_nil, nrm_apply, and_self, and_true, true_and]
  intro j hj
  simp (disch := omega) only [get_cons, if_neg]

theorem lenAt_lt (hz : ∀ z ∈ zs, 0 ≤ z ∧ z ≤ 255) (hi : i + 6 ≤ zs.length) : lenAt zs i < 65536 := by
  have hln : ((zs.take (i + 2)).drop i).length = 2 := by rw [List.length_drop, List.length_take]; omega
  have := valL_lt (zs := (zs.take (i + 2)).drop i) (fun z h => hz z (List.mem_of_mem_take (List.mem_of_mem_drop h)))
  rw [hln] at this
  exact this

theorem m_2_gen (hb : BytesV s v zs) (hz2 : zs.length < 2 ^ 40) (hi : i + 6 ≤ zs.length) (g0 : e.get 0 = some v) (g5 : e.get 5 = some (in64 i)) (g6 : e.get 6 = some (in64 n)) : WCode (fun k => call tbl ov k) m_2 e s fun x e' s' => x = .normal ∧ (∀ j, j < 7 → e'.get j = e.get j) ∧ e'.get 28 = some (.bool (decide (zs.length < i + 6 + n))) ∧ s' = s := by
  obtain ⟨ad, cap, rfl⟩ := hb.len
  have w1 : IntKind.i64.wrap ((zs.length : Int) - (i : Int)) = ((zs.length - i : Nat) : Int) := by rw [wrap64 (by omega) (by omega)]; omega
  have w2 : IntKind.i64.wrap (((zs.length - i : Nat) : Int) - 6) = ((zs.length - i - 6 : Nat) : Int) := by rw [wrap64 (by omega) (by omega)]; omega
  have d : decide ((n : Int) > ((zs.length - i - 6 : Nat) : Int)) = decide (zs.length < i + 6 + n) := by
    have : ((n : Int) > ((zs.length - i - 6 : Nat) : Int)) ↔ zs.length < i + 6 + n := by omega
    simp only [this]
  simp only [m_2, r3b, r_3, code26, K.R, K.o, K.i, K.v, K.on, K.D, K.of, K.tt, wc_region, wo_cons, wop, AOp.vals, rd_tmp, g6, Option.map_some, bindP_some, wv_mov, cont_some, get_cons, reduceCtorEq, g0, if_false, Nat.reduceEqDiff, if_true, wv_lenSlice, g5, Option.bind_some, wv_bin, bin_sub, w1, ret_apply, rd_const, w2, bin_gtr, d, wo_nil, nrm_apply, and_self, and_true, true_and]
  intro j hj
  simp (disch := omega) only [get_cons, if_neg]

theorem m_3_gen (hb : BytesV s v zs) (hz2 : zs.length < 2 ^ 40) (hi : i + 6 + n ≤ zs.length) (g0 : e.get 0 = some v) (g5 : e.get 5 = some (in64 i)) (g6 : e.get 6 = some (in64 n)) : WCode (fun k => call tbl ov k) m_3 e s fun x e' s' => x = .normal ∧ (∀ j, j < 7 → e'.get j = e.get j) ∧ (∃ w, e'.get 7 = some w ∧ BytesV s w ((zs.take (i + 6 + n)).drop (i + 6))) ∧ s' = s := by
  obtain ⟨v', hb', he⟩ := hb.cut (m := i + 6) (n := i + 6 + n) (by omega) hi
  have he := he .i64 .i64
  have w1 : IntKind.i64.wrap ((i : Int) + 6) = ((i + 6 : Nat) : Int) := by rw [wrap64 (by omega) (by omega)]; omega
  have w2 : IntKind.i64.wrap (((i + 6 : Nat) : Int) + (n : Int)) = ((i + 6 + n : Nat) : Int) := by rw [wrap64 (by omega) (by omega)]; omega
  simp only [m_3, r3b, r_3, code26, K.R, K.o, K.i, K.v, K.on, K.D, K.of, K.tt, wc_region, wo_cons, wop, AOp.vals, rd_tmp, g0, Option.map_some, bindP_some, wv_mov, cont_some, get_cons, Nat.reduceEqDiff, g5, if_false, if_true, rd_const, Option.bind_some, wv_bin, bin_add, w1, ret_apply, g6, w2, mapOpt, wv_slice, he, resK_apply, applyUpd, wo_nil, nrm_apply, and_true, true_and]
  refine ⟨fun j hj => ?_, v', rfl, hb'⟩
  simp (disch := omega) only [get_cons, if_neg]

theorem m_4_gen (h46 : tbl 46 = some fun46) (h45 : tbl 45 = some fun45) (h67 : tbl 67 = some fun67) (hb : BytesV s w zs) (hz2 : zs.length < 2 ^ 40) (g7 : e.get 7 = some w) : WCode (fun k => call tbl ov k) m_4 e s fun x e' s' => x = .normal ∧ (∀ j, j < 8 → e'.get j = e.get j) ∧ Kept [] s s' ∧ ∃ q c b, e'.get 8 = some (.pointer (some ⟨q, 0, none⟩)) ∧ e'.get 9 = some (.bool b) ∧ s.next ≤ q ∧ q < s'.next ∧ s'.heap.get q = some (.cells c 70 0 false) ∧ c.length = 6 ∧ c.all isCell = true ∧ ((decL zs = none ∧ b = false) ∨ ∃ r, decL zs = some r ∧ b = r.sound ∧ c = r.cells) := by
  simp only [m_4, r3b, r_3, code26, K.R, K.o, K.i, K.v, K.on, K.D, K.of, K.tt, wc_region, wo_cons, wop, AOp.vals, rd_tmp, g7, Option.map_some, bindP_some, wv_mov, cont_some, rd_func, mapList, get_cons, if_true, Option.bind_some, wv_call, callee_func, ccont_apply]
  refine WCall.mono (decode_spec h46 h45 h67 hb hz2) ?_
  rintro u s1 ⟨hk, c, b, rfl, hc6, hall, hdec⟩
  have hst : storeL [in64 0, in64 0, .string ⟨#[]⟩, .string ⟨#[]⟩, in64 0, in64 0] 0 c = c := by
    match c, hc6 with
    | [_, _, _, _, _, _], _ => rfl
  simp only [cont_some, wo_cons, wop, AOp.vals, rd_tmp, get_cons, Nat.reduceEqDiff, if_false, if_true, Option.map_some, bindP_some, wv_mov, wv_extract, List.getElem?_cons_zero, ret_apply, List.getElem?_cons_succ, wv_alloc, Option.bind_some, wv_store, storeAt, Heap.get_put, cellList, Value.cells, List.toList_toArray, hc6, hall, Nat.zero_add, List.length_cons, List.length_nil, Nat.reduceAdd, Nat.le_refl, and_self, hst, putK_apply, cont_none, wo_nil, nrm_apply, true_and]
  refine ⟨fun j hj => ?_, ⟨Nat.le_trans hk.1 (Nat.le_succ _), fun id hid _ => ?_⟩, s1.next, c, b, rfl, rfl, hk.1, Nat.lt_succ_self _, ?_, hc6, hall, hdec⟩
  · simp (disch := omega) only [get_cons, if_neg]
  · have : ¬ id = s1.next := by have := hk.1; omega
    simp only [Heap.get_put, this, if_false]
    exact hk.2 id hid (by simp)
  · simp only [Heap.get_put, if_true]

theorem m_5_gen (h47 : tbl 47 = some fun47) (h45 : tbl 45 = some fun45) (hb : BytesV s v zs) (hz2 : zs.length < 2 ^ 40) (hi : i + 6 ≤ zs.length) {part : List Int} (hw : BytesV s w part) (hp2 : part.length < 2 ^ 40) {b : Bool} (g0 : e.get 0 = some v) (g5 : e.get 5 = some (in64 i)) (g7 : e.get 7 = some w) (g9 : e.get 9 = some (.bool b)) :
    WCode (fun k => call tbl ov k) m_5 e s fun x e' s' => x = .normal ∧ (∀ j, j < 10 → e'.get j = e.get j) ∧ e'.get 56 = some (.bool (!(decide ((sumL part).toNat = sumAt zs i) && b))) ∧ s' = s := by
  obtain ⟨v', hb', he⟩ := hb.cut (m := i + 2) (n := i + 6) (by omega) (by omega)
  have he := he .i64 .i64
  have hln : ((zs.take (i + 6)).drop (i + 2)).length = 4 := by rw [List.length_drop, List.length_take]; omega
  have w1 : IntKind.i64.wrap ((i : Int) + 2) = ((i + 2 : Nat) : Int) := by rw [wrap64 (by omega) (by omega)]; omega
  have w2 : IntKind.i64.wrap ((i : Int) + 6) = ((i + 6 : Nat) : Int) := by rw [wrap64 (by omega) (by omega)]; omega
  have hlt := (sumL part).isLt
  have w3 := wrap_u64 (n := ((sumL part).toNat : Int)) (by omega)
  rw [m_5_eq]
  refine wc_quiet ?_
  simp only [m5ops, opsOf, m_5, r3b, r_3, code26, true_and, wq_cons, wop, AOp.vals, rd_tmp, g7, Option.map_some, bindP_some, wv_mov, qcont_some, List.mem_cons, reduceCtorEq, List.not_mem_nil, or_self, false_implies, Nat.zero_add, rd_func, mapList, get_cons, if_true, Option.bind_some, wv_call, callee_func, ccont_apply]
  refine WCall.mono (sum_spec h47 hw (by omega)) ?_
  rintro u s1 ⟨rfl, rfl⟩
  simp only [qcont_some, List.mem_cons, List.not_mem_nil, or_false, Quiet.refl, implies_true, Nat.reduceAdd, wq_cons, wop, AOp.vals, rd_tmp, get_cons, Nat.reduceEqDiff, if_false, if_true, Option.map_some, bindP_some, wv_convInt, w3, or_self, reduceCtorEq, g0, wv_mov, g5, rd_const, Option.bind_some, wv_bin, bin_add, w1, ret_apply, w2, mapOpt, wv_slice, he, resK_apply, applyUpd, rd_func, mapList, wv_call, callee_func, ccont_apply, true_and]
  refine WCall.mono (read_spec h45 hb' (by omega)) ?_
  rintro u s2 ⟨rfl, rfl⟩
  have d : (((sumL part).toNat : Int) != ((valL ((zs.take (i + 6)).drop (i + 2)) : Nat) : Int)) = !decide ((sumL part).toNat = sumAt zs i) := by
    show _ = !decide ((sumL part).toNat = valL ((zs.take (i + 6)).drop (i + 2)))
    generalize (sumL part).toNat = x
    generalize valL ((zs.take (i + 6)).drop (i + 2)) = y
    by_cases h : x = y
    · subst h; simp
    · have h2 : ¬ (x : Int) = (y : Int) := by omega
      simp [h, h2]
  cases hd : decide ((sumL part).toNat = sumAt zs i) with
  | false =>
    rw [hd] at d
    simp only [Bool.false_and, Bool.not_false, qcont_some, List.mem_cons, Nat.reduceEqDiff, List.not_mem_nil, or_self, Quiet.refl, implies_true, Nat.reduceAdd, wq_cons, wop, AOp.vals, rd_tmp, get_cons, if_false, if_true, Option.map_some, Option.bind_some, bindP_some, wv_bin, bin_neq, d, ret_apply, wv_mov, wq_guard, guardV_bool, beq_false, Bool.not_true, qgcont_false, rd_const, wv_pick, wq_nil, and_self, and_true, true_and]
    intro j hj
    simp (disch := omega) only [get_cons, if_neg]
  | true =>
    rw [hd] at d
    simp only [Bool.true_and, qcont_some, List.mem_cons, Nat.reduceEqDiff, List.not_mem_nil, or_self, Quiet.refl, implies_true, Nat.reduceAdd, wq_cons, wop, AOp.vals, rd_tmp, get_cons, if_false, if_true, Option.map_some, Option.bind_some, bindP_some, wv_bin, bin_neq, d, Bool.not_true, ret_apply, wv_mov, wq_guard, guardV_bool, BEq.rfl, qgcont_true, g9, wv_un, un_not, rd_const, wv_pick, Bool.false_eq_true, wq_nil, and_self, and_true, true_and]
    intro j hj
    simp (disch := omega) only [get_cons, if_neg]

theorem m_6_gen {L : List (List Value)} {S : List Nat} (ho : RowsO 70 6 s v L S) (hL : L.length < 2 ^ 39) {c : List Value} (hc : c.length = 6) (hall : c.all isCell = true) (hq : s.heap.get q = some (.cells c 70 0 false)) (hqn : q < s.next) (g4 : e.get 4 = some v) (g8 : e.get 8 = some (.pointer (some ⟨q, 0, none⟩))) :
    WCode (fun k => call tbl ov k) m_6 e s fun x e' s' => x = .normal ∧ e'.get 0 = e.get 0 ∧ e'.get 5 = e.get 5 ∧ e'.get 6 = e.get 6 ∧ ∃ v' S', e'.get 4 = some v' ∧ RowsO 70 6 s' v' (L ++ [c]) S' ∧ Kept S s s' ∧ ∀ x ∈ S', x ∈ S ∨ s.next ≤ x := by
  have hst : storeL [in64 0, in64 0, .string ⟨#[]⟩, .string ⟨#[]⟩, in64 0, in64 0] 0 c = c := by
    match c, hc with
    | [_, _, _, _, _, _], _ => rfl
  have htk : (c.drop 0).take 6 = c := by rw [List.drop_zero, List.take_of_length_le (by omega)]
  have hk1 : Kept [] s ⟨s.heap.put s.next (some (.cells c 70 6 false)), s.next + 1⟩ := ⟨Nat.le_succ _, fun id hid _ => by
    have : ¬ id = s.next := by omega
    simp only [Heap.get_put, this, if_false]⟩
  have ho1 := ho.kept hk1 (fun _ _ => by simp)
  obtain ⟨val, upd, nx, S', he, ho2, hk2, hS⟩ := ho1.append1 (b := 64) (c1 := c) (m := s.next) (t' := 70) (sz' := 6) (ro := false) hc hall (by simp only [Heap.get_put, if_true]) (by simp [tooBig]; omega) (by simp [tooBig])
  simp only [m_6, r3b, r_3, code26, K.R, K.o, K.i, K.v, K.on, K.D, K.of, K.tt, wc_region, wo_cons, wop, AOp.vals, rd_tmp, g4, Option.map_some, bindP_some, wv_mov, cont_some, get_cons, Nat.reduceEqDiff, g8, if_false, wv_loadn, Abs.rowAt, cellsAt, hq, Nat.zero_add, hc, Nat.le_refl, htk, if_true, aggK_apply, mapParts, Option.bind_some, wv_buildSlice, ev_buildSlice, fillL, cellList, Value.cells, List.toList_toArray, List.length_cons, List.length_nil, Nat.reduceAdd, and_self, hst, resK_apply, applyUpd, wv_append, he, wo_nil, nrm_apply, reduceCtorEq, true_and]
  refine ⟨val, S', rfl, ho2, ⟨Nat.le_trans hk1.1 hk2.1, fun id hid hn => ?_⟩, fun x hx => ?_⟩
  · have h1 := hk2.2 id (Nat.lt_of_lt_of_le hid hk1.1) hn
    have h2 := hk1.2 id hid (by simp)
    exact h1.trans h2
  · rcases hS x hx with h | h
    · exact .inl h
    · exact .inr (by have := hk1.1; omega)

theorem m_7_gen (hi : i < 2 ^ 40) (hn : n < 2 ^ 40) (g5 : e.get 5 = some (in64 i)) (g6 : e.get 6 = some (in64 n)) : WCode (fun k => call tbl ov k) m_7 e s fun x e' s' => x = .normal ∧ (∀ j, j < 5 → e'.get j = e.get j) ∧ e'.get 5 = some (in64 (i + 6 + n : Nat)) ∧ s' = s := by
  have w1 : IntKind.i64.wrap (6 + (n : Int)) = ((6 + n : Nat) : Int) := by rw [wrap64 (by omega) (by omega)]; omega
  have w2 : IntKind.i64.wrap ((i : Int) + ((6 + n : Nat) : Int)) = ((i + 6 + n : Nat) : Int) := by rw [wrap64 (by omega) (by omega)]; omega
  simp only [m_7, r3b, r_3, code26, K.R, K.o, K.i, K.v, K.on, K.D, K.of, K.tt, wc_region, wo_cons, wop, AOp.vals, rd_tmp, g5, Option.map_some, bindP_some, wv_mov, cont_some, get_cons, Nat.reduceEqDiff, g6, if_false, rd_const, if_true, Option.bind_some, wv_bin, bin_add, w1, ret_apply, w2, wo_nil, nrm_apply, and_self, and_true, true_and]
  intro j hj
  simp (disch := omega) only [get_cons, if_neg]

theorem scan_spec (T : FrameTbl tbl) (hb : BytesV s v zs) (hz2 : zs.length < 2 ^ 30) : WCall (fun k => call tbl ov k) 26 [v] s fun u s' => Kept [] s s' ∧ ∃ w S, u = .tuple #[w, in64 (scanL zs.length zs 0).2] ∧ RowsO 70 6 s' w ((scanL zs.length zs 0).1.map FRec.cells) S ∧ ∀ x ∈ S, s.next ≤ x := by
  refine WCall.of T.h26 rfl ?_
  simp only [fun26, code26_eq, params]
  have h0 : WCode (fun k => call tbl ov k) (.seq (.seq r_0 r_1) r_2) [(0, v)] s fun x e' s' => x = .normal ∧ e'.get 0 = some v ∧ e'.get 4 = some (.slice none 0 0) ∧ e'.get 5 = some (in64 0) ∧ s' = s := by
    simp only [r_0, code26, K.R, K.o, K.i, K.v, K.on, K.D, K.of, K.tt, r_1, r_2, wc_seq, wc_region, wo_cons, wop, AOp.vals, rd_const, Option.map_some, bindP_some, wv_mov, cont_some, wo_nil, nrm_apply, next_normal, sq_apply, get_cons, reduceCtorEq, if_true, if_false, Nat.reduceEqDiff, and_self]
  rw [wc_assoc, wc_assoc]
  refine wc_then h0 ?_
  rintro e1 s1 ⟨a0, a4, a5, rfl⟩
  refine wc_then (R := fun e' s' => ∃ w S, e'.get 4 = some w ∧ e'.get 5 = some (in64 (scanL zs.length zs 0).2) ∧ RowsO 70 6 s' w ((scanL zs.length zs 0).1.map FRec.cells) S ∧ Kept [] s1 s' ∧ ∀ x ∈ S, s1.next ≤ x) ?_ ?_
  · rw [r_3_eq]
    refine wc_while (fun m e' s' => ∃ i L w S, m = zs.length - i ∧ i ≤ zs.length ∧ e'.get 0 = some v ∧ e'.get 4 = some w ∧ e'.get 5 = some (in64 (i : Nat)) ∧ RowsO 70 6 s' w (L.map FRec.cells) S ∧ Kept [] s1 s' ∧ (∀ x ∈ S, s1.next ≤ x) ∧ L.length ≤ i ∧ scanL zs.length zs 0 = (L ++ (scanL (zs.length - i) zs i).1, (scanL (zs.length - i) zs i).2)) zs.length ?_ ?_
    · exact ⟨0, [], _, [], rfl, by omega, a0, a4, a5, ⟨by simp, .inl ⟨rfl, rfl, rfl⟩⟩, Kept.refl _ _, by simp, Nat.le_refl _, rfl⟩
    · rintro m e2 s2 E ⟨i, L, w, S, rfl, hi, b0, b4, b5, ho, hk, hS, hLi, hscan⟩ hE
      have c0 := (hE 0 (by simp)).trans b0
      have c4 := (hE 4 (by simp)).trans b4
      have c5 := (hE 5 (by simp)).trans b5
      have hb2 := hb.kept hk
      have hstop : stepL zs i = none → ∀ (e' : Env) s', e'.get 4 = some w → e'.get 5 = some (in64 i) → RowsO 70 6 s' w (L.map FRec.cells) S → Kept [] s1 s' →
          ∃ w S, e'.get 4 = some w ∧ e'.get 5 = some (in64 (scanL zs.length zs 0).2) ∧ RowsO 70 6 s' w ((scanL zs.length zs 0).1.map FRec.cells) S ∧ Kept [] s1 s' ∧ ∀ x ∈ S, s1.next ≤ x := by
        intro hn e' s' h4 h5 ho' hk'
        have h1 : scanL (zs.length - i) zs i = ([], i) := by
          cases hq : zs.length - i with
          | zero => rfl
          | succ f => simp only [scanL, hn]
        rw [h1] at hscan
        simp only [List.append_nil] at hscan
        refine ⟨w, S, h4, ?_, ?_, hk', hS⟩
        · rw [hscan]; exact h5
        · rw [hscan]; exact ho'
      refine WCode.mono ?_ (r3h_gen hb2 (by omega) hi c0 c5)
      rintro y e3 s3 ⟨rfl, k3, a14, rfl⟩
      refine ⟨rfl, _, a14, fun hbb => ?_, fun hbb => ?_⟩
      · simp only [decide_eq_false_iff_not] at hbb
        exact ⟨rfl, hstop (by unfold stepL; rw [if_neg (by omega)]) e3 s3 ((k3 4 (by omega)).trans c4) ((k3 5 (by omega)).trans c5) ho hk⟩
      simp only [decide_eq_true_eq] at hbb
      have hlt := lenAt_lt hb.1 hbb
      rw [wc_seq]
      refine WCode.mono ?_ (m_1_gen T.h45 hb2 (by omega) hbb ((k3 0 (by omega)).trans c0) ((k3 5 (by omega)).trans c5))
      rintro y e4 s4 ⟨rfl, k4, a6, rfl⟩
      rw [next_normal, sq_apply, wc_seq]
      refine wc_if ?_
      have d0 := (k4 0 (by omega)).trans ((k3 0 (by omega)).trans c0)
      have d4 := (k4 4 (by omega)).trans ((k3 4 (by omega)).trans c4)
      have d5 := (k4 5 (by omega)).trans ((k3 5 (by omega)).trans c5)
      refine WCode.mono ?_ (m_2_gen hb2 (by omega) hbb d0 d5 a6)
      rintro y e5 s5 ⟨rfl, k5, a28, rfl⟩
      refine ⟨rfl, _, a28, fun ht => ?_, fun hf => ?_⟩
      · simp only [decide_eq_true_eq] at ht
        rw [wc_exit, next_exit]
        exact .inr (.inl ⟨rfl, by decide, rfl, hstop (by unfold stepL; rw [if_neg (by omega)]) e5 s5 ((k5 4 (by omega)).trans d4) ((k5 5 (by omega)).trans d5) ho hk⟩)
      simp only [decide_eq_false_iff_not] at hf
      rw [wc_skip, next_normal, sq_apply, wc_seq]
      refine WCode.mono ?_ (m_3_gen hb2 (by omega) (n := lenAt zs i) (by omega) ((k5 0 (by omega)).trans d0) ((k5 5 (by omega)).trans d5) ((k5 6 (by omega)).trans a6))
      rintro y e6 s6 ⟨rfl, k6, ⟨pv, a7, hpv⟩, rfl⟩
      rw [next_normal, sq_apply, wc_seq]
      have hpv : BytesV s6 pv (partAt zs i) := hpv
      have hpl : (partAt zs i).length < 2 ^ 40 := by unfold partAt; rw [List.length_drop, List.length_take]; omega
      refine WCode.mono ?_ (m_4_gen T.h46 T.h45 T.h67 (zs := partAt zs i) hpv hpl a7)
      rintro y e7 s7 ⟨rfl, k7, hk7, q, c, b, a8, a9, hq1, hq2, hqc, hc6, hall, hdec⟩
      rw [next_normal, sq_apply, wc_seq]
      refine wc_if ?_
      have f0 := (k7 0 (by omega)).trans ((k6 0 (by omega)).trans ((k5 0 (by omega)).trans d0))
      have f4 := (k7 4 (by omega)).trans ((k6 4 (by omega)).trans ((k5 4 (by omega)).trans d4))
      have f5 := (k7 5 (by omega)).trans ((k6 5 (by omega)).trans ((k5 5 (by omega)).trans d5))
      have f6 := (k7 6 (by omega)).trans ((k6 6 (by omega)).trans ((k5 6 (by omega)).trans a6))
      have f7 := (k7 7 (by omega)).trans a7
      have hb7 := hb2.kept hk7
      have ho7 := ho.kept hk7 (fun _ _ => by simp)
      refine WCode.mono ?_ (m_5_gen T.h47 T.h45 hb7 (by omega) hbb (hpv.kept hk7) hpl f0 f5 f7 a9)
      rintro y e8 s7 ⟨rfl, k8, a56, rfl⟩
      refine ⟨rfl, _, a56, fun ht => ?_, fun hf2 => ?_⟩
      · have hn : stepL zs i = none := by
          unfold stepL
          rw [if_pos ⟨hbb, by omega⟩]
          rcases hdec with ⟨hd, rfl⟩ | ⟨r, hd, rfl, rfl⟩
          · rw [hd]
          · rw [hd]
            simp only
            rw [if_neg]
            rintro ⟨h1, h2⟩
            rw [h2, decide_eq_true h1] at ht
            simp at ht
        rw [wc_exit, next_exit]
        exact .inr (.inl ⟨rfl, by decide, rfl, hstop hn e8 s7 ((k8 4 (by omega)).trans f4) ((k8 5 (by omega)).trans f5) ho7 (hk.trans hk7)⟩)
      · simp only [Bool.not_eq_false', Bool.and_eq_true, decide_eq_true_eq] at hf2
        obtain ⟨r, hd, hbr, rfl⟩ : ∃ r, decL (partAt zs i) = some r ∧ b = r.sound ∧ c = r.cells := by
          rcases hdec with ⟨_, h⟩ | h
          · rw [h] at hf2; simp at hf2
          · exact h
        have hstep : stepL zs i = some (r, i + 6 + lenAt zs i) := by
          unfold stepL
          rw [if_pos ⟨hbb, by omega⟩, hd]
          simp only
          rw [if_pos ⟨hf2.1, by rw [← hbr]; exact hf2.2⟩]
        rw [wc_skip, next_normal, sq_apply, wc_seq]
        refine WCode.mono ?_ (m_6_gen ho7 (by rw [List.length_map]; omega) hc6 hall hqc hq2 ((k8 4 (by omega)).trans f4) ((k8 8 (by omega)).trans a8))
        rintro y e9 s9 ⟨rfl, h0', h5', h6', v', S', h4', ho9, hk9, hS9⟩
        rw [next_normal, sq_apply]
        refine WCode.mono ?_ (m_7_gen (i := i) (n := lenAt zs i) (by omega) (by omega) (h5'.trans ((k8 5 (by omega)).trans f5)) (h6'.trans ((k8 6 (by omega)).trans f6)))
        rintro y e10 s10 ⟨rfl, k10, a5', rfl⟩
        refine .inl ⟨.inl rfl, zs.length - (i + 6 + lenAt zs i), by omega, i + 6 + lenAt zs i, L ++ [r], v', S', rfl, by omega, (k10 0 (by omega)).trans (h0'.trans ((k8 0 (by omega)).trans f0)), (k10 4 (by omega)).trans h4', a5', by simpa using ho9, (hk.trans hk7).comp hk9 (fun x hx => .inr (hS x hx)), fun x hx => ?_, by simp; omega, ?_⟩
        · rcases hS9 x hx with h | h
          · exact hS x h
          · have := (hk.trans hk7).1; omega
        · rw [hscan]
          obtain ⟨f, hfu⟩ : ∃ f, zs.length - i = f + 1 := ⟨zs.length - i - 1, by omega⟩
          rw [hfu]
          simp only [scanL, hstep]
          rw [scanL_fuel f (zs.length - (i + 6 + lenAt zs i)) zs (i + 6 + lenAt zs i) (by omega) (by omega)]
          simp
  · rintro e2 s2 ⟨w, S, b4, b5, ho, hk, hS⟩
    simp only [r_4, code26, K.R, K.o, K.i, K.v, K.on, K.D, K.of, K.tt, wc_seq, wc_region, wo_cons, wop, AOp.vals, rd_tmp, b4, Option.map_some, bindP_some, wv_mov, cont_some, get_cons, Nat.reduceEqDiff, b5, if_false, if_true, wo_nil, nrm_apply, next_normal, sq_apply, wc_ret, ends_ret, mapList, resV_tmp, Option.bind_some, endK_apply, tupleV]
    exact ⟨hk, w, S, rfl, ho, hS⟩

end
end Go.Proofs.YtehgdocbabaldaaGreat


/-
  Scan of records, in plain terms.
-/
set_option maxRecDepth 100000
set_option linter.unusedVariables false
set_option linter.unusedSimpArgs false
namespace Go.Proofs.YtehgdocbabaldaaGreat
open Go Go.Abs

/-! ### read again -/
end Go.Proofs.YtehgdocbabaldaaGreat
