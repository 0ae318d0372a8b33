/-
  Joined pieces.
-/
import Derived.Test.YtehgdocbabaldaaGreatFF4
set_option maxRecDepth 100000
set_option linter.unusedVariables false
set_option linter.unusedSimpArgs false
namespace Go.Proofs.YtehgdocbabaldaaGreat
open Go Go.Abs

def q_0 : ACode := match code86 with | .seq x _ => x | _ => .skip
def q_1 : ACode := match code86 with | .seq _ (.seq (.seq x _) _) => x | _ => .skip
def q_2 : ACode := match code86 with | .seq _ (.seq _ (.seq (.seq x _) _)) => x | _ => .skip
def q_3 : ACode := match code86 with | .seq _ (.seq _ (.seq (.seq _ (.seq x _)) _)) => x | _ => .skip
def q_4 : ACode := match code86 with | .seq _ (.seq _ (.seq (.seq _ (.seq _ (.cond _ x _))) _)) => x | _ => .skip
def q_5 : ACode := match code86 with | .seq _ (.seq _ (.seq _ x)) => x | _ => .skip
def z_0 : ACode := match code69 with | .seq x _ => x | _ => .skip
def z_1 : ACode := match code69 with | .seq _ (.seq x _) => x | _ => .skip
def z_2 : ACode := match code69 with | .seq _ (.seq _ (.seq x _)) => x | _ => .skip
def z_3 : ACode := match code69 with | .seq _ (.seq _ (.seq _ (.seq x _))) => x | _ => .skip
def z_4 : ACode := match code69 with | .seq _ (.seq _ (.seq _ (.seq _ (.seq x _)))) => x | _ => .skip
def z_5 : ACode := match code69 with | .seq _ (.seq _ (.seq _ (.seq _ (.seq _ x)))) => x | _ => .skip
def z2i : ACode := match z_2 with | .seq x _ => x | _ => .skip
def z2h : ACode := match z_2 with | .seq _ (.block _ (.loop _ (.seq x _))) => x | _ => .skip
def z2b : ACode := match z_2 with | .seq _ (.block _ (.loop _ (.seq _ (.seq _ (.seq (.block _ x) _))))) => x | _ => .skip
def z2n : ACode := match z_2 with | .seq _ (.block _ (.loop _ (.seq _ (.seq _ (.seq _ x))))) => x | _ => .skip
def z2ba : ACode := match z2b with | .seq x _ => x | _ => .skip
def z2bb : ACode := match z2b with | .seq _ (.seq x _) => x | _ => .skip
def z2bc : ACode := match z2b with | .seq _ (.seq _ (.seq x _)) => x | _ => .skip
def z4i : ACode := match z_4 with | .seq x _ => x | _ => .skip
def z4h : ACode := match z_4 with | .seq _ (.block _ (.loop _ (.seq x _))) => x | _ => .skip
def z4b : ACode := match z_4 with | .seq _ (.block _ (.loop _ (.seq _ (.seq _ (.seq (.block _ x) _))))) => x | _ => .skip
def z4n : ACode := match z_4 with | .seq _ (.block _ (.loop _ (.seq _ (.seq _ (.seq _ x))))) => x | _ => .skip
def q_1p : ACode := match code86 with | .seq _ (.seq (.seq _ (.cond _ x _)) _) => x | _ => .skip
def z_2p : ACode := match z2b with | .seq _ (.seq _ (.seq _ (.cond _ x _))) => x | _ => .skip
theorem code86_eq : code86 = .seq q_0 (.seq (.seq q_1 (.cond (.tmp 6) q_1p .skip)) (.seq (.seq q_2 (.seq q_3 (.cond (.tmp 16) q_4 .skip))) q_5)) := rfl
theorem code69_eq : code69 = .seq z_0 (.seq z_1 (.seq z_2 (.seq z_3 (.seq z_4 z_5)))) := rfl
theorem z_2_eq : z_2 = .seq z2i (.block 0 (.loop [0, 3, 9, 10, 11] (.seq z2h (.seq (.cond (.tmp 12) .skip (.exit 0)) (.seq (.block 1 (.seq z2ba (.seq z2bb (.seq z2bc (.cond (.tmp 20) z_2p .skip))))) z2n))))) := rfl
theorem z_4_eq : z_4 = .seq z4i (.block 2 (.loop [6, 25, 26, 27] (.seq z4h (.seq (.cond (.tmp 28) .skip (.exit 2)) (.seq (.block 3 z4b) z4n))))) := rfl

section
variable {tbl : FuncId → Option AFun} {ov : CallSem} {s s1 : St} {e : Env} {v : Value} {zs : List Int} {r : FRec} {p q : Nat}

theorem grow_spec (h86 : tbl 86 = some fun86) {n : Nat} (hn : 0 < n) (hn1 : n < 2 ^ 30) : WCall (fun k => call tbl ov k) 86 [.slice none 0 0, in64 n] s fun v s' => Grown s s' v [] := by
  refine WCall.of h86 rfl ?_
  simp only [fun86, code86_eq, params]
  have d1 : decide ((n : Int) < 0) = false := decide_eq_false (by omega)
  have d2 : decide ((n : Int) > 0) = true := decide_eq_true (by omega)
  have w0 : IntKind.i64.wrap ((0 : Nat) - (0 : Nat) : Int) = 0 := by rw [wrap64 (by omega) (by omega)]; omega
  have w1 : IntKind.i64.wrap ((n : Int) - 0) = n := by rw [wrap64 (by omega) (by omega)]; omega
  have h1 : WCode (fun k => call tbl ov k) (.seq q_0 (.seq q_1 (.cond (.tmp 6) q_1p .skip))) [(0, .slice none 0 0), (0 + 1, in64 n)] s fun x e' s' => x = .normal ∧ e'.get 0 = some (.slice none 0 0) ∧ e'.get 1 = some (in64 n) ∧ s' = s := by
    simp only [q_0, code86, K.R, K.o, K.v, K.i, K.on, K.ff, q_1, Nat.zero_add, wc_seq, wc_region, wo_cons, wop, AOp.vals, rd_const, Option.map_some, bindP_some, wv_mov, cont_some, wo_nil, nrm_apply, next_normal, sq_apply, rd_tmp, get_cons, Nat.reduceEqDiff, reduceCtorEq, if_true, if_false, Option.bind_some, wv_bin, bin_lss, d1, ret_apply, wc_cond, boolV_bool, ccond_false, wc_skip, and_self]
  have hc : ∀ g nx, evP g nx (.cap (.slice none 0 0)) = some ⟨.int .i64 ((0 : Nat) : Int), [], nx⟩ := fun g nx => rfl
  have h2 : ∀ e, e.get 0 = some (.slice none 0 0) → e.get 1 = some (in64 n) → WCode (fun k => call tbl ov k) (.seq q_2 q_3) e s fun x e' s' => x = .normal ∧ e'.get 0 = some (.slice none 0 0) ∧ e'.get 1 = some (in64 n) ∧ e'.get 16 = some (.bool true) ∧ s' = s := by
    intro e g0 g1
    simp only [q_2, code86, K.R, K.o, K.v, K.i, K.on, K.ff, q_3, wc_seq, wc_region, wo_cons, wop, AOp.vals, rd_tmp, g1, Option.map_some, bindP_some, wv_mov, cont_some, get_cons, reduceCtorEq, g0, if_false, Nat.reduceEqDiff, if_true, wv_cap, hc, resK_apply, applyUpd, wv_lenSlice, Option.bind_some, wv_bin, bin_sub, w0, ret_apply, w1, wo_nil, nrm_apply, next_normal, sq_apply, rd_const, bin_gtr, d2, and_self]
  have hs : ∀ g nx, evP g nx (.slice (.slice 1) (.slice none 0 0) none (some (.int .i64 ((0 : Nat) : Int))) none) = some ⟨.slice none 0 0, [], nx⟩ := fun g nx => by simp [evP, boundsV, boundV]
  have hm : ∀ g nx, evP g nx (.appendMake 5 1 1 [.int .u8 0] (.slice none 0 0) (.int .i64 (n : Int))) = some ⟨.slice (some ⟨nx, 0, none⟩) n n, [(nx, some (.cells (List.replicate n [Value.int .u8 0]).flatten 5 1 false))], nx + 1⟩ := fun g nx => by
    have h3 : (0 : Int) < n := by omega
    have h4 : tooBig n 1 = false := by simp [tooBig]; omega
    simp [evP, hn, h4]
  have hln : ((List.replicate n [Value.int .u8 0]).flatten).length = n := by simp
  have hs2 := fun g nx (h : g s.next = some (.cells (List.replicate n [Value.int .u8 0]).flatten 5 1 false)) => ev_sliceH (g := g) (nx := nx) (o := 0) (len := n) (cap := n) (hi := 0) (k' := .i64) (sz := 1) h (.inr (.inl rfl)) (by omega)
  have h3 : ∀ e, e.get 0 = some (.slice none 0 0) → e.get 1 = some (in64 n) → WCode (fun k => call tbl ov k) (.seq q_4 q_5) e s fun x e' s' => x = .ret ∧ e'.get 4 = some (.slice (some ⟨s.next, 0, none⟩) 0 n) ∧ s' = ⟨s.heap.put s.next (some (.cells (List.replicate n [Value.int .u8 0]).flatten 5 1 false)), s.next + 1⟩ := by
    intro e g0 g1
    simp only [q_4, code86, K.R, K.o, K.v, K.i, K.on, K.ff, q_5, wc_seq, wc_region, wo_cons, wop, AOp.vals, rd_tmp, g0, Option.map_some, bindP_some, wv_mov, cont_some, get_cons, reduceCtorEq, if_false, Nat.reduceEqDiff, if_true, wv_cap, hc, resK_apply, applyUpd, mapOpt, Option.bind_some, wv_slice, hs, g1, wv_appendMake, hm, wv_lenSlice, Heap.get_put, hs2, wo_nil, nrm_apply, next_normal, sq_apply, wc_ret, and_self]
  rw [wc_assoc]
  refine wc_then h1 ?_
  rintro e1 s1 ⟨a0, a1, rfl⟩
  rw [wc_regroup]
  refine wc_then (h2 e1 a0 a1) ?_
  rintro e2 s2 ⟨b0, b1, b16, rfl⟩
  rw [wc_seq, wc_cond, rd_tmp, b16, boolV_bool, bindP_some, ccond_true, ← wc_seq]
  refine WCode.mono ?_ (h3 e2 b0 b1)
  rintro x e3 s3 ⟨rfl, g4, rfl⟩
  rw [ends_ret]
  simp only [mapList, resV_tmp, g4, bindP_some, Option.bind_some, Option.map_some, endK_apply, tupleV]
  refine ⟨[s2.next], ⟨by simp, .inr ⟨s2.next, 0, n, _, rfl, rfl, by simp, Nat.lt_succ_self _, ?_, by rw [hln]; omega, by simp⟩⟩, ⟨Nat.le_succ _, fun id hid _ => ?_⟩, by simp⟩
  · simp only [Heap.get_put, if_true]
  · have : ¬ id = s2.next := by omega
    simp only [Heap.get_put, this, if_false]

/-! ### joined -/
structure Rows (s : St) (a : Nat) (vs : List Value) (zss : List (List Int)) : Prop where
  lt : a < s.next
  get : ∃ t, s.heap.get a = some (.cells vs t 1 false)
  len : zss.length = vs.length
  each : ∀ i, i < vs.length → BytesV s (vs.getD i undefV) (zss.getD i [])

theorem Rows.kept {s s' : St} {a : Nat} {vs : List Value} {zss : List (List Int)} (h : Rows s a vs zss) (hk : Kept [] s s') : Rows s' a vs zss :=
  ⟨Nat.lt_of_lt_of_le h.lt hk.1, by obtain ⟨t, ht⟩ := h.get; exact ⟨t, by rw [hk.2 a h.lt (by simp)]; exact ht⟩, h.len, fun i hi => (h.each i hi).kept hk⟩

def upTo (zss : List (List Int)) (i : Nat) : List Int := (zss.take i).flatten

theorem upTo_succ {zss : List (List Int)} {i : Nat} (hi : i < zss.length) : upTo zss (i + 1) = upTo zss i ++ zss.getD i [] := by
  unfold upTo
  rw [List.take_add_one, List.getElem?_eq_getElem hi, List.flatten_append]
  simp [List.getD_eq_getElem?_getD, hi]

theorem upTo_le (zss : List (List Int)) (i : Nat) : (upTo zss i).length ≤ zss.flatten.length := by
  unfold upTo
  conv => rhs; rw [← List.take_append_drop i zss]
  rw [List.flatten_append, List.length_append]; omega

theorem upTo_all (zss : List (List Int)) : upTo zss zss.length = zss.flatten := by
  unfold upTo; rw [List.take_length]

section
variable {a : Nat} {vs : List Value} {zss : List (List Int)}

theorem getD_some {i : Nat} (hi : i < vs.length) : vs[i]? = some (vs.getD i undefV) := by
  rw [List.getD_eq_getElem?_getD, List.getElem?_eq_getElem hi, Option.getD_some]

theorem z2h_gen {i n : Nat} (g10 : e.get 10 = some (in64 n)) (g11 : e.get 11 = some (in64 i)) : WCode (fun k => call tbl ov k) z2h e s fun x e' s' => x = .normal ∧ (∀ j, j < 12 → e'.get j = e.get j) ∧ e'.get 12 = some (.bool (decide (i < n))) ∧ s' = s := by
  have d : decide ((i : Int) < (n : Int)) = decide (i < n) := by simp
  simp only [z2h, z_2, code69, K.R, K.o, K.i, K.v, K.on, K.ff, wc_region, wo_cons, wop, AOp.vals, rd_tmp, g11, g10, Option.map_some, Option.bind_some, bindP_some, wv_bin, bin_lss, d, ret_apply, cont_some, wo_nil, nrm_apply, get_cons, if_true, and_self, and_true, true_and]
  intro j hj
  simp (disch := omega) only [get_cons, if_neg]

theorem z2b_gen (hR : Rows s a vs zss) {i : Nat} (hi : i < vs.length) {m : Nat} (hm : m + (zss.getD i []).length < 2 ^ 40) (g3 : e.get 3 = some (in64 m)) (g9 : e.get 9 = some (.slice (some ⟨a, 0, none⟩) vs.length vs.length)) (g11 : e.get 11 = some (in64 i)) :
    WCode (fun k => call tbl ov k) (.seq z2ba (.seq z2bb z2bc)) e s fun x e' s' => x = .normal ∧ e'.get 0 = e.get 0 ∧ e'.get 9 = e.get 9 ∧ e'.get 10 = e.get 10 ∧ e'.get 11 = e.get 11 ∧ e'.get 3 = some (in64 (m + (zss.getD i []).length : Nat)) ∧ e'.get 20 = some (.bool false) ∧ s' = s := by
  obtain ⟨t, hg⟩ := hR.get
  obtain ⟨ad, cap, hv⟩ := (hR.each i hi).len
  have hgi := getD_some hi
  rw [hv] at hgi
  have d2 : (0 : Int) ≤ i := by omega
  have d3 : (i : Int) < (vs.length : Nat) := by omega
  have w : IntKind.i64.wrap ((m : Int) + ((zss.getD i []).length : Nat)) = ((m + (zss.getD i []).length : Nat) : Int) := by rw [wrap64 (by omega) (by omega)]; omega
  have d4 : decide (((m + (zss.getD i []).length : Nat) : Int) < 0) = false := decide_eq_false (by omega)
  simp only [z2ba, z2b, z_2, code69, K.R, K.o, K.i, K.v, K.on, K.ff, z2bb, z2bc, g9, g11, wc_seq, wc_region, wo_cons, wop, AOp.vals, rd_tmp, Option.map_some, Option.bind_some, bindP_some, wv_indexAddr, idx, d2, d3, and_self, Int.toNat_natCast, Nat.mul_one, Nat.zero_add, if_true, ret_apply, cont_some, get_cons, wv_load, cellAt, hg, hgi, Nat.reduceEqDiff, if_false, wv_mov, wo_nil, nrm_apply, next_normal, sq_apply, g3, wv_lenSlice, wv_bin, bin_add, w, rd_const, bin_lss, d4, reduceCtorEq]

theorem z2n_gen {i : Nat} (hi : i < 2 ^ 62) (g11 : e.get 11 = some (in64 i)) : WCode (fun k => call tbl ov k) z2n e s fun x e' s' => x = .normal ∧ (∀ j, j < 11 → e'.get j = e.get j) ∧ e'.get 11 = some (in64 (i + 1 : Nat)) ∧ s' = s := by
  have w : IntKind.i64.wrap ((i : Int) + 1) = ((i + 1 : Nat) : Int) := by rw [wrap64 (by omega) (by omega)]; omega
  simp only [z2n, z_2, code69, K.R, K.o, K.i, K.v, K.on, K.ff, wc_region, wo_cons, wop, AOp.vals, rd_tmp, g11, rd_const, Option.map_some, Option.bind_some, bindP_some, wv_bin, bin_add, w, ret_apply, cont_some, get_cons, if_true, wv_mov, wo_nil, nrm_apply, Nat.reduceEqDiff, if_false, and_self, and_true, true_and]
  intro j hj
  simp (disch := omega) only [get_cons, if_neg]

theorem z_2_gen (hR : Rows s a vs zss) (hlen : zss.flatten.length < 2 ^ 30) (hn : vs.length < 2 ^ 30) (g0 : e.get 0 = some (.slice (some ⟨a, 0, none⟩) vs.length vs.length)) (g3 : e.get 3 = some (in64 0)) :
    WCode (fun k => call tbl ov k) z_2 e s fun x e' s' => x = .normal ∧ e'.get 0 = some (.slice (some ⟨a, 0, none⟩) vs.length vs.length) ∧ e'.get 3 = some (in64 zss.flatten.length) ∧ s' = s := by
  rw [z_2_eq]
  have h0 : WCode (fun k => call tbl ov k) z2i e s fun x e' s' => x = .normal ∧ (∀ j, j < 4 → e'.get j = e.get j) ∧ e'.get 9 = some (.slice (some ⟨a, 0, none⟩) vs.length vs.length) ∧ e'.get 10 = some (in64 vs.length) ∧ e'.get 11 = some (in64 0) ∧ s' = s := by
    simp only [z2i, z_2, code69, K.R, K.o, K.i, K.v, K.on, K.ff, wc_region, wo_cons, wop, AOp.vals, rd_tmp, g0, Option.map_some, bindP_some, wv_mov, cont_some, get_cons, if_true, wv_lenSlice, rd_const, wo_nil, nrm_apply, Nat.reduceEqDiff, if_false, and_self, and_true, true_and]
    intro j hj
    simp (disch := omega) only [get_cons, if_neg]
  refine wc_then h0 ?_
  rintro e1 s1 ⟨k1, a9, a10, a11, rfl⟩
  refine wc_range (fun m e' s' => ∃ i, m = vs.length - i ∧ i ≤ vs.length ∧ e'.get 0 = some (.slice (some ⟨a, 0, none⟩) vs.length vs.length) ∧ e'.get 3 = some (in64 (upTo zss i).length) ∧ e'.get 9 = some (.slice (some ⟨a, 0, none⟩) vs.length vs.length) ∧ e'.get 10 = some (in64 vs.length) ∧ e'.get 11 = some (in64 (i : Nat)) ∧ s' = s1) vs.length ?_ ?_
  · exact ⟨0, rfl, by omega, (k1 0 (by omega)).trans g0, (k1 3 (by omega)).trans g3, a9, a10, a11, rfl⟩
  · rintro m e3 s3 E ⟨i, rfl, hi, c0, c3, c9, c10, c11, rfl⟩ hE
    have d0 := (hE 0 (by simp)).trans c0
    have d3 := (hE 3 (by simp)).trans c3
    have d9 := (hE 9 (by simp)).trans c9
    have d10 := (hE 10 (by simp)).trans c10
    have d11 := (hE 11 (by simp)).trans c11
    refine WCode.mono ?_ (z2h_gen d10 d11)
    rintro y e4 s4 ⟨rfl, k4, a12, rfl⟩
    refine ⟨rfl, _, a12, fun hbb => ?_, fun hbb => ?_⟩
    · simp only [decide_eq_false_iff_not] at hbb
      have : i = vs.length := by omega
      subst this
      refine ⟨rfl, (k4 0 (by omega)).trans d0, (k4 3 (by omega)).trans (d3.trans ?_), rfl⟩
      rw [← hR.len, upTo_all]
    · simp only [decide_eq_true_eq] at hbb
      have hsu := upTo_succ (zss := zss) (i := i) (by rw [hR.len]; exact hbb)
      have hle := upTo_le zss (i + 1)
      rw [hsu, List.length_append] at hle
      have h2 := z2b_gen (tbl := tbl) (ov := ov) hR hbb (m := (upTo zss i).length) (by omega) ((k4 3 (by omega)).trans d3) ((k4 9 (by omega)).trans d9) ((k4 11 (by omega)).trans d11)
      rw [wc_assoc] at h2
      rw [wc_assoc, wc_assoc]
      refine wc_then h2 ?_
      rintro e5 s5 ⟨f0, f9, f10, f11, f3, f20, rfl⟩
      rw [wc_cond, rd_tmp, f20, boolV_bool, bindP_some, ccond_false, wc_skip]
      refine .inl ⟨.inl rfl, ?_⟩
      refine WCode.mono ?_ (z2n_gen (i := i) (by omega) (f11.trans ((k4 11 (by omega)).trans d11)))
      rintro y e6 s6 ⟨rfl, k6, i11, rfl⟩
      refine ⟨rfl, vs.length - (i + 1), by omega, i + 1, rfl, by omega, (k6 0 (by omega)).trans (f0.trans ((k4 0 (by omega)).trans d0)), ?_, (k6 9 (by omega)).trans (f9.trans ((k4 9 (by omega)).trans d9)), (k6 10 (by omega)).trans (f10.trans ((k4 10 (by omega)).trans d10)), i11, rfl⟩
      rw [k6 3 (by omega), f3, hsu, List.length_append]

theorem z4h_gen {i n : Nat} (g26 : e.get 26 = some (in64 n)) (g27 : e.get 27 = some (in64 i)) : WCode (fun k => call tbl ov k) z4h e s fun x e' s' => x = .normal ∧ (∀ j, j < 28 → e'.get j = e.get j) ∧ e'.get 28 = some (.bool (decide (i < n))) ∧ s' = s := by
  have d : decide ((i : Int) < (n : Int)) = decide (i < n) := by simp
  simp only [z4h, z_4, code69, K.R, K.o, K.i, K.v, K.on, K.ff, wc_region, wo_cons, wop, AOp.vals, rd_tmp, g27, g26, Option.map_some, Option.bind_some, bindP_some, wv_bin, bin_lss, d, ret_apply, cont_some, wo_nil, nrm_apply, get_cons, if_true, and_self, and_true, true_and]
  intro j hj
  simp (disch := omega) only [get_cons, if_neg]

theorem z4b_gen (hR : Rows s a vs zss) (hg : Grown s1 s v zs) {i : Nat} (hi : i < vs.length) (hm : zs.length + (zss.getD i []).length < 2 ^ 40) (g6 : e.get 6 = some v) (g25 : e.get 25 = some (.slice (some ⟨a, 0, none⟩) vs.length vs.length)) (g27 : e.get 27 = some (in64 i)) :
    WCode (fun k => call tbl ov k) z4b e s fun x e' s' => x = .normal ∧ e'.get 25 = e.get 25 ∧ e'.get 26 = e.get 26 ∧ e'.get 27 = e.get 27 ∧ ∃ v', e'.get 6 = some v' ∧ Grown s1 s' v' (zs ++ zss.getD i []) := by
  obtain ⟨t, hgt⟩ := hR.get
  have hgi := getD_some hi
  have d2 : (0 : Int) ≤ i := by omega
  have d3 : (i : Int) < (vs.length : Nat) := by omega
  obtain ⟨val, upd, nx, he, hg2⟩ := hg.append (.inl (hR.each i hi)) hm
  simp only [z4b, z_4, code69, K.R, K.o, K.i, K.v, K.on, K.ff, g25, g27, wc_seq, wc_region, wo_cons, wop, AOp.vals, rd_tmp, Option.map_some, Option.bind_some, bindP_some, wv_indexAddr, idx, d2, d3, and_self, Int.toNat_natCast, Nat.mul_one, Nat.zero_add, if_true, ret_apply, cont_some, get_cons, wv_load, cellAt, hgt, hgi, Nat.reduceEqDiff, if_false, wv_mov, wo_nil, nrm_apply, next_normal, sq_apply, g6, wv_append, he, resK_apply, true_and]
  exact ⟨_, rfl, hg2⟩

theorem z4n_gen {i : Nat} (hi : i < 2 ^ 62) (g27 : e.get 27 = some (in64 i)) : WCode (fun k => call tbl ov k) z4n e s fun x e' s' => x = .normal ∧ (∀ j, j < 27 → e'.get j = e.get j) ∧ e'.get 27 = some (in64 (i + 1 : Nat)) ∧ s' = s := by
  have w : IntKind.i64.wrap ((i : Int) + 1) = ((i + 1 : Nat) : Int) := by rw [wrap64 (by omega) (by omega)]; omega
  simp only [z4n, z_4, code69, K.R, K.o, K.i, K.v, K.on, K.ff, wc_region, wo_cons, wop, AOp.vals, rd_tmp, g27, rd_const, Option.map_some, Option.bind_some, bindP_some, wv_bin, bin_add, w, ret_apply, cont_some, get_cons, if_true, wv_mov, wo_nil, nrm_apply, Nat.reduceEqDiff, if_false, and_self, and_true, true_and]
  intro j hj
  simp (disch := omega) only [get_cons, if_neg]

theorem concat_spec (h69 : tbl 69 = some fun69) (h86 : tbl 86 = some fun86) (hR : Rows s a vs zss) (h0 : 0 < zss.flatten.length) (hlen : zss.flatten.length < 2 ^ 30) (hn : vs.length < 2 ^ 30) :
    WCall (fun k => call tbl ov k) 69 [.slice (some ⟨a, 0, none⟩) vs.length vs.length] s fun v s' => Grown s s' v zss.flatten := by
  refine WCall.of h69 rfl ?_
  simp only [fun69, code69_eq, params]
  have hA : WCode (fun k => call tbl ov k) (.seq z_0 z_1) [(0, .slice (some ⟨a, 0, none⟩) vs.length vs.length)] s fun x e' s' => x = .normal ∧ e'.get 0 = some (.slice (some ⟨a, 0, none⟩) vs.length vs.length) ∧ e'.get 3 = some (in64 0) ∧ s' = s := by
    simp only [z_0, code69, K.R, K.o, K.i, K.v, K.on, K.ff, z_1, wc_seq, wc_region, wo_cons, wop, AOp.vals, rd_const, Option.map_some, bindP_some, wv_mov, cont_some, wo_nil, nrm_apply, next_normal, sq_apply, get_cons, reduceCtorEq, if_true, if_false, Nat.reduceEqDiff, and_self]
  rw [wc_assoc]
  refine wc_then hA ?_
  rintro e1 s1 ⟨a0, a3, rfl⟩
  refine wc_then (z_2_gen hR hlen hn a0 a3) ?_
  rintro e2 s2 ⟨b0, b3, rfl⟩
  refine wc_then (R := fun e' s' => e'.get 0 = some (.slice (some ⟨a, 0, none⟩) vs.length vs.length) ∧ ∃ v, e'.get 6 = some v ∧ Grown s2 s' v []) ?_ ?_
  · simp only [z_3, code69, K.R, K.o, K.i, K.v, K.on, K.ff, wc_region, wo_cons, wop, AOp.vals, rd_tmp, b3, Option.map_some, bindP_some, wv_mov, cont_some, rd_func, mapList, rd_const, get_cons, if_true, Option.bind_some, wv_call, callee_func, ccont_apply]
    refine WCall.mono (grow_spec h86 h0 hlen) ?_
    intro v s3 hg
    simp only [cont_some, wo_cons, wop, AOp.vals, rd_tmp, get_cons, Nat.reduceEqDiff, if_false, if_true, Option.map_some, bindP_some, wv_mov, wo_nil, nrm_apply, reduceCtorEq, b0, true_and]
    exact ⟨v, rfl, hg⟩
  rintro e3 s3 ⟨c0, v3, c6, hg3⟩
  refine wc_then (R := fun e' s' => ∃ v, e'.get 6 = some v ∧ Grown s2 s' v zss.flatten) ?_ ?_
  · rw [z_4_eq]
    have h0 : WCode (fun k => call tbl ov k) z4i e3 s3 fun x e' s' => x = .normal ∧ e'.get 6 = e3.get 6 ∧ e'.get 25 = some (.slice (some ⟨a, 0, none⟩) vs.length vs.length) ∧ e'.get 26 = some (in64 vs.length) ∧ e'.get 27 = some (in64 0) ∧ s' = s3 := by
      simp only [z4i, z_4, code69, K.R, K.o, K.i, K.v, K.on, K.ff, wc_region, wo_cons, wop, AOp.vals, rd_tmp, c0, Option.map_some, bindP_some, wv_mov, cont_some, get_cons, if_true, wv_lenSlice, rd_const, wo_nil, nrm_apply, Nat.reduceEqDiff, if_false, and_self]
    refine wc_then h0 ?_
    rintro e4 s4 ⟨d6, d25, d26, d27, rfl⟩
    refine wc_range (fun m e' s' => ∃ i v, m = vs.length - i ∧ i ≤ vs.length ∧ e'.get 6 = some v ∧ e'.get 25 = some (.slice (some ⟨a, 0, none⟩) vs.length vs.length) ∧ e'.get 26 = some (in64 vs.length) ∧ e'.get 27 = some (in64 (i : Nat)) ∧ Grown s2 s' v (upTo zss i)) vs.length ?_ ?_
    · exact ⟨0, v3, rfl, by omega, d6.trans c6, d25, d26, d27, hg3⟩
    · rintro m e5 s5 E ⟨i, v, rfl, hi, f6, f25, f26, f27, hg⟩ hE
      have i6 := (hE 6 (by simp)).trans f6
      have i25 := (hE 25 (by simp)).trans f25
      have i26 := (hE 26 (by simp)).trans f26
      have i27 := (hE 27 (by simp)).trans f27
      refine WCode.mono ?_ (z4h_gen i26 i27)
      rintro y e6 s6 ⟨rfl, k6, a28, rfl⟩
      refine ⟨rfl, _, a28, fun hbb => ?_, fun hbb => ?_⟩
      · simp only [decide_eq_false_iff_not] at hbb
        have : i = vs.length := by omega
        subst this
        refine ⟨rfl, v, (k6 6 (by omega)).trans i6, ?_⟩
        rw [← upTo_all, hR.len]; exact hg
      · simp only [decide_eq_true_eq] at hbb
        have hsu := upTo_succ (zss := zss) (i := i) (by rw [hR.len]; exact hbb)
        have hle := upTo_le zss (i + 1)
        rw [hsu, List.length_append] at hle
        have hRk : Rows s6 a vs zss := by
          obtain ⟨S, _, hk, _⟩ := hg
          exact hR.kept hk
        refine WCode.mono ?_ (z4b_gen hRk hg hbb (by omega) ((k6 6 (by omega)).trans i6) ((k6 25 (by omega)).trans i25) ((k6 27 (by omega)).trans i27))
        rintro y e7 s7 ⟨rfl, j25, j26, j27, v', j6, hg7⟩
        refine .inl ⟨.inl rfl, ?_⟩
        refine WCode.mono ?_ (z4n_gen (i := i) (by omega) (j27.trans ((k6 27 (by omega)).trans i27)))
        rintro y e8 s7 ⟨rfl, k8, l27, rfl⟩
        exact ⟨rfl, vs.length - (i + 1), by omega, i + 1, v', rfl, by omega, (k8 6 (by omega)).trans j6, (k8 25 (by omega)).trans (j25.trans ((k6 25 (by omega)).trans i25)), (k8 26 (by omega)).trans (j26.trans ((k6 26 (by omega)).trans i26)), l27, by rw [hsu]; exact hg7⟩
  rintro e4 s4 ⟨v4, d6, hg4⟩
  simp only [z_5, code69, K.R, K.o, K.i, K.v, K.on, K.ff, wc_seq, wc_region, wo_cons, wop, AOp.vals, rd_tmp, d6, Option.map_some, bindP_some, wv_mov, cont_some, get_cons, if_true, wo_nil, nrm_apply, next_normal, sq_apply, wc_ret, ends_ret, mapList, resV_tmp, Nat.reduceEqDiff, if_false, Option.bind_some, endK_apply, tupleV]
  exact hg4

end
end
end Go.Proofs.YtehgdocbabaldaaGreat


/-
  Encode.
-/
set_option maxRecDepth 100000
set_option linter.unusedVariables false
set_option linter.unusedSimpArgs false
namespace Go.Proofs.YtehgdocbabaldaaGreat
open Go Go.Abs

def recL (r : FRec) : List Int := beL (bodyL r).length 2 ++ (beL (sumL (bodyL r)).toNat 4 ++ bodyL r)

theorem recL_length (r : FRec) : (recL r).length = 6 + (bodyL r).length := by
  simp [recL, beL_length]; omega

def e_0 : ACode := match code48 with | .seq x _ => x | _ => .skip
def e_1 : ACode := match code48 with | .seq _ (.seq (.seq x _) _) => x | _ => .skip
def e_1n : ACode := match code48 with | .seq _ (.seq (.seq _ (.cond _ x _)) _) => x | _ => .skip
def e_2 : ACode := match code48 with | .seq _ (.seq _ (.seq x _)) => x | _ => .skip
def e_3 : ACode := match code48 with | .seq _ (.seq _ (.seq _ (.seq x _))) => x | _ => .skip
def e_4 : ACode := match code48 with | .seq _ (.seq _ (.seq _ (.seq _ x))) => x | _ => .skip
theorem code48_eq : code48 = .seq e_0 (.seq (.seq e_1 (.cond (.tmp 7) e_1n .skip)) (.seq e_2 (.seq e_3 e_4))) := rfl

structure FrameTbl (tbl : FuncId → Option AFun) : Prop where
  h48 : tbl 48 = some fun48
  h26 : tbl 26 = some fun26
  h47 : tbl 47 = some fun47
  h67 : tbl 67 = some fun67
  h68 : tbl 68 = some fun68
  h69 : tbl 69 = some fun69
  h70 : tbl 70 = some fun70
  h45 : tbl 45 = some fun45
  h46 : tbl 46 = some fun46
  h86 : tbl 86 = some fun86

section
variable {tbl : FuncId → Option AFun} {ov : CallSem} {s s1 : St} {e : Env} {v : Value} {zs : List Int} {r : FRec} {p q : Nat}

theorem e_0_gen (g0 : e.get 0 = some r.val) : WCode (fun k => call tbl ov k) e_0 e s fun x e' s' => x = .normal ∧ ∃ p, e'.get 1 = some (.pointer (some ⟨p, 0, none⟩)) ∧ s'.heap.get p = some (.cells r.cells 70 0 false) ∧ p < s'.next ∧ Kept [] s s' := by
  simp only [e_0, code48, K.R, K.o, K.v, K.i, wc_region, wo_cons, wop, AOp.vals, rd_tmp, g0, Option.map_some, bindP_some, wv_box, cellList, Value.cells, List.toList_toArray, cont_some, rd_const, wv_mov, wo_nil, nrm_apply, get_cons, Nat.reduceEqDiff, if_true, if_false, Heap.get_put, true_and]
  refine ⟨s.next, rfl, ?_, Nat.lt_succ_self _, Nat.le_succ _, fun id hid _ => ?_⟩
  · simp only [Heap.get_put, if_true]
  · have : ¬ id = s.next := by omega
    simp only [Heap.get_put, this, if_false]

theorem rec_len (r : FRec) : r.cells.length = 6 := rfl
theorem rec_all (r : FRec) : ((r.cells.drop 0).take 6) = r.cells := rfl

theorem e_1_gen (T : FrameTbl tbl) (hp : s.heap.get p = some (.cells r.cells 70 0 false)) (hp1 : p < s.next) (g1 : e.get 1 = some (.pointer (some ⟨p, 0, none⟩))) :
    WCode (fun k => call tbl ov k) e_1 e s fun x e' s' => x = .normal ∧ e'.get 1 = e.get 1 ∧ e'.get 7 = some (.bool (!r.sound)) ∧ Kept [] s s' := by
  have hl := rec_len r
  have ha := rec_all r
  simp only [e_1, code48, K.R, K.o, K.v, K.i, g1, wc_region, wo_cons, wop, AOp.vals, rd_tmp, Option.map_some, bindP_some, wv_loadn, Abs.rowAt, cellsAt, hp, Nat.zero_add, hl, Nat.le_refl, ha, if_true, aggK_apply, cont_some, rd_func, mapList, get_cons, Option.bind_some, wv_call, callee_func, ccont_apply]
  refine WCall.mono (sound_spec T.h67) ?_
  rintro v s1 ⟨rfl, hk, _⟩
  simp only [cont_some, wo_cons, wop, AOp.vals, rd_tmp, get_cons, Nat.reduceEqDiff, if_false, if_true, Option.map_some, bindP_some, wv_un, un_not, ret_apply, wo_nil, nrm_apply, g1, true_and]
  exact hk

theorem e_2_gen (T : FrameTbl tbl) (hr : r.sound = true) (hw : r.Wide) (hp : s.heap.get p = some (.cells r.cells 70 0 false)) (hp1 : p < s.next) (g1 : e.get 1 = some (.pointer (some ⟨p, 0, none⟩))) :
    WCode (fun k => call tbl ov k) e_2 e s fun x e' s' => x = .normal ∧ ∃ v, e'.get 4 = some v ∧ BytesV s' v (bodyL r) ∧ Kept [] s s' := by
  have hl := rec_len r
  have ha := rec_all r
  simp only [e_2, code48, K.R, K.o, K.v, K.i, wc_region, wo_cons, wop, AOp.vals, rd_tmp, g1, Option.map_some, bindP_some, wv_loadn, Abs.rowAt, cellsAt, hp, Nat.zero_add, hl, Nat.le_refl, ha, if_true, aggK_apply, cont_some, rd_func, mapList, get_cons, Option.bind_some, wv_call, callee_func, ccont_apply]
  refine WCall.mono (body_spec T.h68 T.h70 hr hw) ?_
  rintro v s2 ⟨s1, hk, hg⟩
  simp only [cont_some, wo_cons, wop, AOp.vals, rd_tmp, get_cons, Nat.reduceEqDiff, if_false, if_true, Option.map_some, bindP_some, wv_mov, wo_nil, nrm_apply, true_and]
  obtain ⟨S, ho, hk2, _⟩ := hg
  exact ⟨v, rfl, ho.toV, hk.trans hk2⟩

theorem e_34_gen (T : FrameTbl tbl) (hr : r.sound = true) (hb : BytesV s v (bodyL r)) (g4 : e.get 4 = some v) :
    WCode (fun k => call tbl ov k) (.seq e_3 e_4) e s fun x e' s' => x = .ret ∧ ∃ w, e'.get 2 = some w ∧ e'.get 3 = some (in64 0) ∧ BytesV s' w (recL r) ∧ Kept [] s s' ∧ ∃ S, BytesO 5 s' w (recL r) S ∧ ∀ x ∈ S, s.next ≤ x := by
  obtain ⟨h1, h2, _⟩ := r.of_sound hr
  have hbl := bodyL_length r
  obtain ⟨ad, cap, hv⟩ := hb.len
  subst hv
  have w1 := wrap_u64 (n := ((bodyL r).length : Int)) (by omega)
  have hlt := (sumL (bodyL r)).isLt
  have w2 := wrap_u64 (n := ((sumL (bodyL r)).toNat : Int)) (by omega)
  simp only [e_3, code48, K.R, K.o, K.v, K.i, e_4, wc_seq, wc_region, wo_cons, wop, AOp.vals, rd_tmp, g4, Option.map_some, bindP_some, wv_mov, cont_some, get_cons, if_true, wv_lenSlice, Nat.reduceEqDiff, if_false, wv_convInt, w1, rd_func, mapList, rd_const, Option.bind_some, wv_call, callee_func, ccont_apply]
  refine WCall.mono (number_spec T.h70 (n := (bodyL r).length) (size := 2) (by omega)) ?_
  rintro v1 s1 ⟨S1, ho1, hk1, hS1⟩
  simp only [cont_some, wo_cons, wop, AOp.vals, rd_tmp, get_cons, Nat.reduceEqDiff, g4, if_false, Option.map_some, bindP_some, wv_mov, rd_func, mapList, if_true, Option.bind_some, wv_call, callee_func, ccont_apply]
  refine WCall.mono (sum_spec T.h47 (hb.kept hk1) (by omega)) ?_
  rintro v2 s2 ⟨rfl, rfl⟩
  simp only [cont_some, wo_cons, wop, AOp.vals, rd_tmp, get_cons, Nat.reduceEqDiff, if_false, if_true, Option.map_some, bindP_some, wv_convInt, w2, rd_func, mapList, rd_const, Option.bind_some, wv_call, callee_func, ccont_apply]
  refine WCall.mono (number_spec T.h70 (n := (sumL (bodyL r)).toNat) (size := 4) (by omega)) ?_
  rintro v3 s3 ⟨S3, ho3, hk3, hS3⟩
  have c1 : ∃ x1 x2 x3, v1 = .slice x1 x2 x3 := by obtain ⟨_, _, h⟩ := ho1.toV.len; exact ⟨_, _, _, h⟩
  have c3 : ∃ x1 x2 x3, v3 = .slice x1 x2 x3 := by obtain ⟨_, _, h⟩ := ho3.toV.len; exact ⟨_, _, _, h⟩
  obtain ⟨x1, x2, x3, rfl⟩ := c1
  obtain ⟨y1, y2, y3, rfl⟩ := c3
  simp only [cont_some, wo_cons, wop, AOp.vals, rd_tmp, get_cons, Nat.reduceEqDiff, g4, if_false, Option.map_some, bindP_some, wv_mov, mapParts, if_true, Option.bind_some, wv_buildSlice, ev_buildSlice, fillL, cellList, Value.cells, List.length_cons, List.length_nil, Nat.zero_add, Nat.reduceAdd, Nat.reduceLeDiff, and_self, storeL, List.set_cons_zero, List.set_cons_succ, Nat.le_refl, resK_apply, applyUpd, rd_func, mapList, wv_call, callee_func, ccont_apply]
  have hk4 : Kept [] s3 ⟨s3.heap.put s3.next (some (.cells [.slice x1 x2 x3, .slice y1 y2 y3, .slice ad (bodyL r).length cap] 23 1 false)), s3.next + 1⟩ := ⟨Nat.le_succ _, fun id hid _ => by
    have : ¬ id = s3.next := by omega
    simp only [Heap.get_put, this, if_false]⟩
  have hR : Rows ⟨s3.heap.put s3.next (some (.cells [.slice x1 x2 x3, .slice y1 y2 y3, .slice ad (bodyL r).length cap] 23 1 false)), s3.next + 1⟩ s3.next [.slice x1 x2 x3, .slice y1 y2 y3, .slice ad (bodyL r).length cap] [beL (bodyL r).length 2, beL (sumL (bodyL r)).toNat 4, bodyL r] := by
    refine ⟨Nat.lt_succ_self _, ⟨23, ?_⟩, rfl, fun i hi => ?_⟩
    · simp only [Heap.get_put, if_true]
    · have : i = 0 ∨ i = 1 ∨ i = 2 := by simp only [List.length_cons, List.length_nil] at hi; omega
      rcases this with rfl | rfl | rfl
      · exact (ho1.toV.kept hk3).kept hk4
      · exact ho3.toV.kept hk4
      · exact ((hb.kept hk1).kept hk3).kept hk4
  have hfl : [beL (bodyL r).length 2, beL (sumL (bodyL r)).toNat 4, bodyL r].flatten = recL r := by simp [recL]
  refine WCall.mono (concat_spec T.h69 T.h86 hR (by rw [hfl, recL_length]; omega) (by rw [hfl, recL_length]; omega) (by simp)) ?_
  rintro w s5 hg
  rw [hfl] at hg
  obtain ⟨S, ho, hk5, hS⟩ := hg
  simp only [cont_some, wo_cons, wop, AOp.vals, rd_tmp, get_cons, Nat.reduceEqDiff, if_false, if_true, Option.map_some, bindP_some, wv_mov, rd_const, wo_nil, nrm_apply, next_normal, sq_apply, wc_ret, true_and]
  exact ⟨w, rfl, ho.toV, ((hk1.trans hk3).trans hk4).trans hk5, S, ho, fun x hx => by have := hS x hx; have := ((hk1.trans hk3).trans hk4).1; omega⟩

theorem encode_spec (T : FrameTbl tbl) (hw : r.Wide) : WCall (fun k => call tbl ov k) 48 [r.val] s fun v s' => Kept [] s s' ∧
    (r.sound = false → v = .tuple #[.slice none 0 0, in64 2]) ∧ (r.sound = true → ∃ w, v = .tuple #[w, in64 0] ∧ BytesV s' w (recL r) ∧ ∃ S, BytesO 5 s' w (recL r) S ∧ ∀ x ∈ S, s.next ≤ x) := by
  refine WCall.of T.h48 rfl ?_
  simp only [fun48, code48_eq, params]
  refine wc_then (e_0_gen rfl) ?_
  rintro e1 s1 ⟨p, a1, hp, hp1, hk1⟩
  rw [wc_seq]
  refine wc_if ?_
  refine WCode.mono ?_ (e_1_gen T hp hp1 a1)
  rintro x e2 s2 ⟨rfl, b1, b7, hk2⟩
  have hp2 : s2.heap.get p = some (.cells r.cells 70 0 false) := by rw [hk2.2 p hp1 (by simp)]; exact hp
  refine ⟨rfl, _, b7, fun ht => ?_, fun hf => ?_⟩
  · have hs : r.sound = false := by simpa using ht
    simp only [e_1n, code48, K.R, K.o, K.v, K.i, wc_seq, wc_region, wo_cons, wop, AOp.vals, rd_const, Option.map_some, bindP_some, wv_mov, cont_some, wo_nil, nrm_apply, next_normal, sq_apply, wc_ret, next_ret, ends_ret, mapList, resV_tmp, get_cons, Nat.reduceEqDiff, if_true, if_false, Option.bind_some, endK_apply, tupleV, implies_true, true_and]
    exact ⟨hk1.trans hk2, fun h => by rw [hs] at h; cases h⟩
  · have hs : r.sound = true := by simpa using hf
    rw [wc_skip, next_normal, sq_apply]
    refine wc_then (e_2_gen T hs hw hp2 (Nat.lt_of_lt_of_le hp1 hk2.1) (b1.trans a1)) ?_
    rintro e3 s3 ⟨v, c4, hb, hk3⟩
    refine WCode.mono ?_ (e_34_gen T hs hb c4)
    rintro x e4 s4 ⟨rfl, w, d2, d3, hw4, hk4, S, ho4, hS4⟩
    rw [ends_ret]
    simp only [mapList, resV_tmp, d2, d3, bindP_some, Option.bind_some, Option.map_some, endK_apply, tupleV]
    exact ⟨((hk1.trans hk2).trans hk3).trans hk4, (fun h => by rw [hs] at h; cases h), fun _ => ⟨w, rfl, hw4, S, ho4, fun x hx => by have := hS4 x hx; have := ((hk1.trans hk2).trans hk3).1; omega⟩⟩

end
end Go.Proofs.YtehgdocbabaldaaGreat


/-
  Encode, as it is used.
-/
set_option maxRecDepth 100000
set_option linter.unusedVariables false
set_option linter.unusedSimpArgs false
namespace Go.Proofs.YtehgdocbabaldaaGreat
open Go Go.Abs

section
variable {tbl : FuncId → Option AFun} {ov : CallSem} {s s1 : St} {e : Env} {v : Value} {zs : List Int} {a b : FRec} {p q : Nat}

def EncV (s : St) (r : FRec) (x : Value) (er : Int) : Prop := (r.sound = false → x = .slice none 0 0 ∧ er = 2) ∧ (r.sound = true → er = 0 ∧ BytesV s x (recL r))

theorem EncV.kept {s s' : St} {r : FRec} {x : Value} {er : Int} (h : EncV s r x er) (hk : Kept [] s s') : EncV s' r x er :=
  ⟨h.1, fun hs => ⟨(h.2 hs).1, (h.2 hs).2.kept hk⟩⟩

end
end Go.Proofs.YtehgdocbabaldaaGreat


/-
  Bytes as a number.
-/
set_option maxRecDepth 100000
set_option linter.unusedVariables false
set_option linter.unusedSimpArgs false
namespace Go.Proofs.YtehgdocbabaldaaGreat
open Go Go.Abs

section
variable {tbl : FuncId → Option AFun} {ov : CallSem} {s s1 : St} {e : Env} {v : Value} {zs : List Int}

end
end Go.Proofs.YtehgdocbabaldaaGreat
