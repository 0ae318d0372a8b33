/-
  The sum of bytes.
-/
import Derived.Test.YtehgdocbabaldaaGreatFD8
set_option maxRecDepth 100000
set_option linter.unusedVariables false
set_option linter.unusedSimpArgs false
namespace Go.Proofs.YtehgdocbabaldaaGreat
open Go Go.Abs

theorem wrap64 {n : Int} (h1 : -9223372036854775808 ≤ n) (h2 : n ≤ 9223372036854775807) : IntKind.i64.wrap n = n := by
  have : IntKind.i64.wrap n = (if n % 18446744073709551616 ≥ 9223372036854775808 then n % 18446744073709551616 - 18446744073709551616 else n % 18446744073709551616) := by
    simp [IntKind.wrap, IntKind.signed, IntKind.bits]
  rw [this]
  split <;> omega

abbrev in64 (n : Int) : Value := .int .i64 n

def poly : BitVec 32 := 0xedb88320#32

theorem and_poly (y : BitVec 32) : binV .and (.int .u32 3988292384) (u32 y) = some (u32 (poly &&& y)) := bin_and poly y
def s1 (x : BitVec 32) : BitVec 32 := (x >>> 1) ^^^ (poly &&& -(x &&& 1#32))
def s7 : Nat → BitVec 32 → BitVec 32
  | 0, x => x
  | n + 1, x => s7 n (s1 x)
def crcL : List Int → BitVec 32 → BitVec 32
  | [], c => c
  | z :: zs, c => crcL zs (s7 8 (c ^^^ BitVec.ofInt 32 z))
def sumL (zs : List Int) : BitVec 32 := ~~~ crcL zs (BitVec.allOnes 32)

theorem crcL_append (a b : List Int) (c : BitVec 32) : crcL (a ++ b) c = crcL b (crcL a c) := by
  induction a generalizing c with
  | nil => rfl
  | cons z a ih => exact ih _

theorem crcL_take {zs : List Int} {i : Nat} (hi : i < zs.length) (c : BitVec 32) : crcL (zs.take (i + 1)) c = s7 8 (crcL (zs.take i) c ^^^ BitVec.ofInt 32 (zs.getD i 0)) := by
  have h : zs.take (i + 1) = zs.take i ++ [zs.getD i 0] := by
    rw [List.take_add_one, List.getElem?_eq_getElem hi]
    simp [List.getD_eq_getElem?_getD, hi]
  rw [h, crcL_append]; rfl

def u_0 : ACode := match code47 with | .seq x _ => x | _ => .skip
def u_1 : ACode := match code47 with | .seq _ (.seq x _) => x | _ => .skip
def u_2 : ACode := match code47 with | .seq _ (.seq _ (.seq x _)) => x | _ => .skip
def u_3 : ACode := match code47 with | .seq _ (.seq _ (.seq _ x)) => x | _ => .skip
def u2i : ACode := match u_2 with | .seq x _ => x | _ => .skip
def u2h : ACode := match u_2 with | .seq _ (.block _ (.loop _ (.seq x _))) => x | _ => .skip
def u2b : ACode := match u_2 with | .seq _ (.block _ (.loop _ (.seq _ (.seq _ (.seq (.block _ x) _))))) => x | _ => .skip
def u2n : ACode := match u_2 with | .seq _ (.block _ (.loop _ (.seq _ (.seq _ (.seq _ x))))) => x | _ => .skip
def u2ba : ACode := match u2b with | .seq x _ => x | _ => .skip
def u2bb : ACode := match u2b with | .seq _ (.seq x _) => x | _ => .skip
def u2bc : ACode := match u2b with | .seq _ (.seq _ x) => x | _ => .skip
def u3i : ACode := match u2bc with | .seq x _ => x | _ => .skip
def u3h : ACode := match u2bc with | .seq _ (.block _ (.loop _ (.seq x _))) => x | _ => .skip
def u3b : ACode := match u2bc with | .seq _ (.block _ (.loop _ (.seq _ (.seq _ (.seq (.block _ x) _))))) => x | _ => .skip
def u3n : ACode := match u2bc with | .seq _ (.block _ (.loop _ (.seq _ (.seq _ (.seq _ x))))) => x | _ => .skip
theorem code47_eq : code47 = .seq u_0 (.seq u_1 (.seq u_2 u_3)) := rfl
def u3L : ACode := .block 2 (.loop [3, 6, 7, 8, 16] (.seq u3h (.seq (.cond (.tmp 17) .skip (.exit 2)) (.seq (.block 3 u3b) u3n))))
theorem u_2_eq : u_2 = .seq u2i (.block 0 (.loop [3, 6, 7, 8] (.seq u2h (.seq (.cond (.tmp 9) .skip (.exit 0)) (.seq (.block 1 (.seq u2ba (.seq u2bb (.seq u3i u3L)))) u2n))))) := rfl

section
variable {tbl : FuncId → Option AFun} {ov : CallSem} {s s0 : St} {e : Env} {v : Value} {zs : List Int}

theorem u2i_gen (hb : BytesV s v zs) (g0 : e.get 0 = some v) : WCode (fun k => call tbl ov k) u2i e s fun x e' s' => x = .normal ∧ e'.get 3 = e.get 3 ∧ e'.get 6 = some v ∧ e'.get 7 = some (in64 zs.length) ∧ e'.get 8 = some (in64 0) ∧ s' = s := by
  obtain ⟨a, cap, rfl⟩ := hb.len
  simp only [u2i, u_2, code47, K.R, K.o, K.v, K.i, wc_region, wo_cons, wop, AOp.vals, rd_tmp, g0, Option.map_some, bindP_some, wv_mov, cont_some, get_cons, if_true, wv_lenSlice, rd_const, wo_nil, nrm_apply, Nat.reduceEqDiff, if_false, and_self]

theorem u2h_gen {i n : Nat} (g7 : e.get 7 = some (in64 n)) (g8 : e.get 8 = some (in64 i)) : WCode (fun k => call tbl ov k) u2h e s fun x e' s' => x = .normal ∧ (∀ j, j < 9 → e'.get j = e.get j) ∧ e'.get 9 = some (.bool (decide (i < n))) ∧ s' = s := by
  have d : decide ((i : Int) < (n : Int)) = decide (i < n) := by simp
  simp only [u2h, u_2, code47, K.R, K.o, K.v, K.i, wc_region, wo_cons, wop, AOp.vals, rd_tmp, g8, g7, Option.map_some, Option.bind_some, bindP_some, wv_bin, bin_lss, d, ret_apply, cont_some, wo_nil, nrm_apply, get_cons, if_true, and_self, and_true, true_and]
  intro j hj
  simp (disch := omega) only [get_cons, if_neg]

theorem u2b_gen (hb : BytesV s v zs) {i : Nat} (hi : i < zs.length) {x : BitVec 32} (g3 : e.get 3 = some (u32 x)) (g6 : e.get 6 = some v) (g8 : e.get 8 = some (in64 i)) :
    WCode (fun k => call tbl ov k) (.seq u2ba u2bb) e s fun y e' s' => y = .normal ∧ e'.get 3 = some (u32 (x ^^^ BitVec.ofInt 32 (zs.getD i 0))) ∧ e'.get 6 = e.get 6 ∧ e'.get 7 = e.get 7 ∧ e'.get 8 = e.get 8 ∧ s' = s := by
  obtain ⟨id, o, cap, c, t, sz, ro, rfl, h1, h2, h3, h4, h5⟩ := hb.row (by omega)
  have hz := hb.1 (zs.getD i 0) (by
    rw [List.getD_eq_getElem?_getD, List.getElem?_eq_getElem hi, Option.getD_some]
    exact List.getElem_mem hi)
  have d2 : (0 : Int) ≤ i := by omega
  have d3 : (i : Int) < (zs.length : Nat) := by omega
  have hg := h5 i hi
  have hx := bin_xor x (BitVec.ofInt 32 (zs.getD i 0))
  simp only [u2ba, u2b, u_2, code47, K.R, K.o, K.v, K.i, u2bb, g6, g8, wc_seq, wc_region, wo_cons, wop, AOp.vals, rd_tmp, Option.map_some, Option.bind_some, bindP_some, wv_indexAddr, idx, d2, d3, and_self, Int.toNat_natCast, Nat.mul_one, if_true, ret_apply, cont_some, get_cons, wv_load, cellAt, h3, hg, Nat.reduceEqDiff, if_false, wv_mov, wo_nil, nrm_apply, next_normal, sq_apply, g3, wv_convInt, conv_u8_u32 hz, wv_bin, hx]

theorem u3h_gen {k : Nat} (g16 : e.get 16 = some (in64 k)) : WCode (fun k => call tbl ov k) u3h e s fun x e' s' => x = .normal ∧ (∀ j, j < 17 → e'.get j = e.get j) ∧ e'.get 17 = some (.bool (decide (k < 8))) ∧ s' = s := by
  have d : decide ((k : Int) < 8) = decide (k < 8) := by
    have : ((k : Int) < 8) ↔ k < 8 := by omega
    simp only [this]
  simp only [u3h, u2bc, u2b, u_2, code47, K.R, K.o, K.v, K.i, wc_region, wo_cons, wop, AOp.vals, rd_tmp, g16, rd_const, Option.map_some, Option.bind_some, bindP_some, wv_bin, bin_lss, d, ret_apply, cont_some, wo_nil, nrm_apply, get_cons, if_true, and_self, and_true, true_and]
  intro j hj
  simp (disch := omega) only [get_cons, if_neg]

theorem u3b_gen {x : BitVec 32} (g3 : e.get 3 = some (u32 x)) :
    WCode (fun k => call tbl ov k) u3b e s fun y e' s' => y = .normal ∧ e'.get 3 = some (u32 (s1 x)) ∧ e'.get 6 = e.get 6 ∧ e'.get 7 = e.get 7 ∧ e'.get 8 = e.get 8 ∧ e'.get 16 = e.get 16 ∧ s' = s := by
  simp only [u3b, u2bc, u2b, u_2, code47, K.R, K.o, K.v, K.i, wc_region, wo_cons, wop, AOp.vals, rd_tmp, g3, Option.map_some, bindP_some, wv_mov, cont_some, get_cons, if_true, rd_const, Option.bind_some, wv_bin, bin_shr1, ret_apply, Nat.reduceEqDiff, if_false, bin_and_1, wv_un, un_neg, and_poly, bin_xor, wo_nil, nrm_apply, and_self, and_true, true_and]
  rfl

theorem u3n_gen {k : Nat} (hk : k < 100) (g16 : e.get 16 = some (in64 k)) : WCode (fun k => call tbl ov k) u3n e s fun x e' s' => x = .normal ∧ (∀ j, j < 9 → e'.get j = e.get j) ∧ e'.get 16 = some (in64 (k + 1 : Nat)) ∧ s' = s := by
  have w : IntKind.i64.wrap ((k : Int) + 1) = ((k + 1 : Nat) : Int) := by rw [wrap64 (by omega) (by omega)]; omega
  simp only [u3n, u2bc, u2b, u_2, code47, K.R, K.o, K.v, K.i, wc_region, wo_cons, wop, AOp.vals, rd_tmp, g16, rd_const, Option.map_some, Option.bind_some, bindP_some, wv_bin, bin_add, w, ret_apply, cont_some, get_cons, if_true, wv_mov, wo_nil, nrm_apply, Nat.reduceEqDiff, if_false, and_self, and_true, true_and]
  intro j hj
  simp (disch := omega) only [get_cons, if_neg]

theorem u2n_gen {i : Nat} (hi : i < 2 ^ 62) (g8 : e.get 8 = some (in64 i)) : WCode (fun k => call tbl ov k) u2n e s fun x e' s' => x = .normal ∧ (∀ j, j < 8 → e'.get j = e.get j) ∧ e'.get 8 = some (in64 (i + 1 : Nat)) ∧ s' = s := by
  have w : IntKind.i64.wrap ((i : Int) + 1) = ((i + 1 : Nat) : Int) := by rw [wrap64 (by omega) (by omega)]; omega
  simp only [u2n, u_2, code47, K.R, K.o, K.v, K.i, wc_region, wo_cons, wop, AOp.vals, rd_tmp, g8, rd_const, Option.map_some, Option.bind_some, bindP_some, wv_bin, bin_add, w, ret_apply, cont_some, get_cons, if_true, wv_mov, wo_nil, nrm_apply, Nat.reduceEqDiff, if_false, and_self, and_true, true_and]
  intro j hj
  simp (disch := omega) only [get_cons, if_neg]

theorem u3_gen {x : BitVec 32} (g3 : e.get 3 = some (u32 x)) :
    WCode (fun k => call tbl ov k) (.seq u3i u3L) e s fun y e' s' =>
      y = .normal ∧ e'.get 3 = some (u32 (s7 8 x)) ∧ e'.get 6 = e.get 6 ∧ e'.get 7 = e.get 7 ∧ e'.get 8 = e.get 8 ∧ s' = s := by
  have h0 : WCode (fun k => call tbl ov k) u3i e s fun y e' s' => y = .normal ∧ (∀ j, j < 9 → e'.get j = e.get j) ∧ e'.get 16 = some (in64 0) ∧ s' = s := by
    simp only [u3i, u2bc, u2b, u_2, code47, K.R, K.o, K.v, K.i, wc_region, wo_cons, wop, AOp.vals, rd_const, Option.map_some, bindP_some, wv_mov, cont_some, wo_nil, nrm_apply, get_cons, if_true, and_self, and_true, true_and]
    intro j hj
    simp (disch := omega) only [get_cons, if_neg]
  refine wc_then h0 ?_
  rintro e1 s1 ⟨k1, a16, rfl⟩
  refine wc_range (fun m e' s' => ∃ k x', m = 8 - k ∧ k ≤ 8 ∧ e'.get 3 = some (u32 x') ∧ s7 (8 - k) x' = s7 8 x ∧ e'.get 6 = e.get 6 ∧ e'.get 7 = e.get 7 ∧ e'.get 8 = e.get 8 ∧ e'.get 16 = some (in64 (k : Nat)) ∧ s' = s1) 8 ?_ ?_
  · exact ⟨0, x, rfl, by omega, (k1 3 (by omega)).trans g3, rfl, k1 6 (by omega), k1 7 (by omega), k1 8 (by omega), a16, rfl⟩
  · rintro m e2 s2 E ⟨k, x', rfl, hk, b3, hx, b6, b7, b8, b16, rfl⟩ hE
    have c3 := (hE 3 (by simp)).trans b3
    have c6 := (hE 6 (by simp)).trans b6
    have c7 := (hE 7 (by simp)).trans b7
    have c8 := (hE 8 (by simp)).trans b8
    have c16 := (hE 16 (by simp)).trans b16
    refine WCode.mono ?_ (u3h_gen c16)
    rintro y e3 s3 ⟨rfl, k3, a17, rfl⟩
    refine ⟨rfl, _, a17, fun hb => ?_, fun hb => ?_⟩
    · simp only [decide_eq_false_iff_not] at hb
      have : k = 8 := by omega
      subst this
      refine ⟨rfl, (k3 3 (by omega)).trans (c3.trans ?_), (k3 6 (by omega)).trans c6, (k3 7 (by omega)).trans c7, (k3 8 (by omega)).trans c8, rfl⟩
      rw [← hx]; rfl
    · simp only [decide_eq_true_eq] at hb
      refine WCode.mono ?_ (u3b_gen ((k3 3 (by omega)).trans c3))
      rintro y e4 s4 ⟨rfl, d3, d6, d7, d8, d16, rfl⟩
      refine .inl ⟨.inl rfl, ?_⟩
      refine WCode.mono ?_ (u3n_gen (k := k) (by omega) (d16.trans ((k3 16 (by omega)).trans c16)))
      rintro y e5 s5 ⟨rfl, k5, i16, rfl⟩
      refine ⟨rfl, 8 - (k + 1), by omega, k + 1, s1 x', rfl, by omega, (k5 3 (by omega)).trans d3, ?_, (k5 6 (by omega)).trans (d6.trans ((k3 6 (by omega)).trans c6)), (k5 7 (by omega)).trans (d7.trans ((k3 7 (by omega)).trans c7)), (k5 8 (by omega)).trans (d8.trans ((k3 8 (by omega)).trans c8)), i16, rfl⟩
      rw [← hx, show 8 - k = (8 - (k + 1)) + 1 by omega]
      rfl

theorem sum_spec (h47 : tbl 47 = some fun47) (hb : BytesV s v zs) (hz : zs.length < 2 ^ 62) : WCall (fun k => call tbl ov k) 47 [v] s fun u s' => u = u32 (sumL zs) ∧ s' = s := by
  refine WCall.of h47 rfl ?_
  simp only [fun47, code47_eq, params]
  have h0 : WCode (fun k => call tbl ov k) (.seq u_0 u_1) [(0, v)] s fun x e' s' => x = .normal ∧ e'.get 0 = some v ∧ e'.get 3 = some (u32 (BitVec.allOnes 32)) ∧ s' = s := by
    simp only [u_0, code47, K.R, K.o, K.v, K.i, u_1, wc_seq, wc_region, wo_cons, wop, AOp.vals, rd_const, Option.map_some, bindP_some, wv_mov, cont_some, wo_nil, nrm_apply, next_normal, sq_apply, get_cons, reduceCtorEq, if_true, if_false, Nat.reduceEqDiff, and_true, true_and]
    rfl
  rw [wc_assoc]
  refine wc_then h0 ?_
  rintro e1 s1 ⟨a0, a3, rfl⟩
  refine wc_then (R := fun e' s' => e'.get 3 = some (u32 (crcL zs (BitVec.allOnes 32))) ∧ s' = s1) ?_ ?_
  · rw [u_2_eq]
    refine wc_then (u2i_gen hb a0) ?_
    rintro e2 s2 ⟨b3, b6, b7, b8, rfl⟩
    refine wc_range (fun m e' s' => ∃ i, m = zs.length - i ∧ i ≤ zs.length ∧ e'.get 3 = some (u32 (crcL (zs.take i) (BitVec.allOnes 32))) ∧ e'.get 6 = some v ∧ e'.get 7 = some (in64 zs.length) ∧ e'.get 8 = some (in64 (i : Nat)) ∧ s' = s2) zs.length ?_ ?_
    · exact ⟨0, rfl, by omega, b3.trans a3, b6, b7, b8, rfl⟩
    · rintro m e3 s3 E ⟨i, rfl, hi, c3, c6, c7, c8, rfl⟩ hE
      have d3 := (hE 3 (by simp)).trans c3
      have d6 := (hE 6 (by simp)).trans c6
      have d7 := (hE 7 (by simp)).trans c7
      have d8 := (hE 8 (by simp)).trans c8
      refine WCode.mono ?_ (u2h_gen d7 d8)
      rintro y e4 s4 ⟨rfl, k4, a9, rfl⟩
      refine ⟨rfl, _, a9, fun hbb => ?_, fun hbb => ?_⟩
      · simp only [decide_eq_false_iff_not] at hbb
        have : i = zs.length := by omega
        subst this
        exact ⟨rfl, by rw [k4 3 (by omega), d3, List.take_length], rfl⟩
      · simp only [decide_eq_true_eq] at hbb
        rw [wc_assoc]
        refine wc_then (u2b_gen hb hbb ((k4 3 (by omega)).trans d3) ((k4 6 (by omega)).trans d6) ((k4 8 (by omega)).trans d8)) ?_
        rintro e5 s5 ⟨f3, f6, f7, f8, rfl⟩
        refine WCode.mono ?_ (u3_gen f3)
        rintro y e6 s6 ⟨rfl, i3, i6, i7, i8, rfl⟩
        refine .inl ⟨.inl rfl, ?_⟩
        refine WCode.mono ?_ (u2n_gen (i := i) (by omega) (i8.trans (f8.trans ((k4 8 (by omega)).trans d8))))
        rintro y e7 s7 ⟨rfl, k7, j8, rfl⟩
        exact ⟨rfl, zs.length - (i + 1), by omega, i + 1, rfl, by omega, by rw [k7 3 (by omega), i3, crcL_take hbb], (k7 6 (by omega)).trans (i6.trans (f6.trans ((k4 6 (by omega)).trans d6))), (k7 7 (by omega)).trans (i7.trans (f7.trans ((k4 7 (by omega)).trans d7))), j8, rfl⟩
  · rintro e2 s2 ⟨b3, rfl⟩
    simp only [u_3, code47, K.R, K.o, K.v, K.i, wc_seq, wc_region, wo_cons, wop, AOp.vals, rd_tmp, b3, Option.map_some, bindP_some, wv_mov, cont_some, get_cons, if_true, wv_un, un_xor, ret_apply, Nat.reduceEqDiff, if_false, wo_nil, nrm_apply, next_normal, sq_apply, wc_ret, ends_ret, mapList, resV_tmp, Option.bind_some, endK_apply, tupleV, and_true]
    rfl

end
end Go.Proofs.YtehgdocbabaldaaGreat


/-
  A number as bytes.
-/
set_option maxRecDepth 100000
set_option linter.unusedVariables false
set_option linter.unusedSimpArgs false
namespace Go.Proofs.YtehgdocbabaldaaGreat
open Go Go.Abs

def beL (n : Nat) : Nat → List Int
  | 0 => []
  | k + 1 => ((n / 256 ^ k % 256 : Nat) : Int) :: beL n k

theorem beL_length (n k : Nat) : (beL n k).length = k := by
  induction k with
  | zero => rfl
  | succ k ih => simp [beL, ih]

theorem beL_range (n k : Nat) : ∀ z ∈ beL n k, 0 ≤ z ∧ z ≤ 255 := by
  induction k with
  | zero => intro z hz; cases hz
  | succ k ih =>
    intro z hz
    rcases List.mem_cons.1 hz with rfl | hz
    · omega
    · exact ih z hz

theorem set_rep {α : Type} (a b : α) (l : List α) (m : Nat) : (List.replicate (m + 1) a ++ l).set m b = List.replicate m a ++ b :: l := by
  induction m with
  | zero => rfl
  | succ m ih =>
    rw [List.replicate_succ, List.cons_append, List.set_cons_succ, ih, List.replicate_succ, List.cons_append]

theorem shr_u64 {n k : Nat} (hk : k < 8) : IntKind.u8.wrap ((n : Int).fdiv (2 ^ min (8 * k) IntKind.u64.bits)) = ((n / 256 ^ k % 256 : Nat) : Int) := by
  have h1 : min (8 * k) IntKind.u64.bits = 8 * k := by
    have : IntKind.u64.bits = 64 := rfl
    rw [this]; omega
  have h2 : ((2 : Int) ^ (8 * k)) = ((256 ^ k : Nat) : Int) := by
    rw [show (256 : Nat) = 2 ^ 8 from rfl, ← Nat.pow_mul]; push_cast; rfl
  have h3 : ∀ m : Int, IntKind.u8.wrap m = m % 256 := fun m => by simp [IntKind.wrap, IntKind.signed, IntKind.bits]
  rw [h1, h2, h3, Int.fdiv_eq_ediv_of_nonneg _ (Int.natCast_nonneg _), ← Int.natCast_ediv]
  push_cast; rfl

theorem bin_shr_u64 {n : Int} {k : Nat} : binV .shr (.int .u64 n) (.int .i64 (k : Int)) = some (.int .u64 (n.fdiv (2 ^ min k IntKind.u64.bits))) := by
  simp only [binV, show ¬ (k : Int) < 0 by omega, if_false, Int.toNat_natCast]

def n_0 : ACode := match code70 with | .seq x _ => x | _ => .skip
def n_1 : ACode := match code70 with | .seq _ (.seq x _) => x | _ => .skip
def n_2 : ACode := match code70 with | .seq _ (.seq _ (.seq x _)) => x | _ => .skip
def n_3 : ACode := match code70 with | .seq _ (.seq _ (.seq _ x)) => x | _ => .skip
def n2i : ACode := match n_2 with | .seq x _ => x | _ => .skip
def n2h : ACode := match n_2 with | .seq _ (.block _ (.loop _ (.seq x _))) => x | _ => .skip
def n2b : ACode := match n_2 with | .seq _ (.block _ (.loop _ (.seq _ (.seq _ (.seq (.block _ x) _))))) => x | _ => .skip
def n2n : ACode := match n_2 with | .seq _ (.block _ (.loop _ (.seq _ (.seq _ (.seq _ x))))) => x | _ => .skip
theorem code70_eq : code70 = .seq n_0 (.seq n_1 (.seq n_2 n_3)) := rfl
theorem n_2_eq : n_2 = .seq n2i (.block 0 (.loop [0, 1, 5, 10, 11] (.seq n2h (.seq (.cond (.tmp 12) .skip (.exit 0)) (.seq (.block 1 n2b) n2n))))) := rfl

section
variable {tbl : FuncId → Option AFun} {ov : CallSem} {s s0 : St} {e : Env} {v : Value} {zs : List Int}

def rowL (n size k : Nat) : List Int := List.replicate (size - k) 0 ++ beL n k

theorem rowL_length {n size k : Nat} (h : k ≤ size) : (rowL n size k).length = size := by
  simp [rowL, beL_length]; omega

theorem n01_gen {size : Nat} (hs : size ≤ 8) (g1 : e.get 1 = some (in64 size)) : WCode (fun k => call tbl ov k) (.seq n_0 n_1) e s fun x e' s' => x = .normal ∧ e'.get 0 = e.get 0 ∧ e'.get 1 = e.get 1 ∧ e'.get 5 = some (.slice (some ⟨s.next, 0, none⟩) size size) ∧
    s'.next = s.next + 1 ∧ s'.heap.get s.next = some (.cells ((List.replicate size 0).map (.int .u8)) 5 1 false) ∧ Kept [] s s' := by
  have x1 := fun g nx => ev_mkSlice (g := g) (nx := nx) (e := 5) (b := 1) (sz := 1) (len := size) (zs := [.int .u8 0]) (by simp [tooBig]; omega) rfl
  have hrep : (List.replicate size [Value.int .u8 0]).flatten = (List.replicate size 0).map (.int .u8) := by
    clear x1 hs g1
    induction size with
    | zero => rfl
    | succ n ih => simp [List.replicate_succ, ih]
  simp only [n_0, code70, K.R, K.o, K.v, K.i, K.on, n_1, g1, wc_seq, wc_region, wo_cons, wop, AOp.vals, rd_const, Option.map_some, bindP_some, wv_mov, cont_some, wo_nil, nrm_apply, next_normal, sq_apply, rd_tmp, get_cons, Nat.reduceEqDiff, if_false, if_true, Option.bind_some, wv_mkSlice, x1, hrep, resK_apply, applyUpd, reduceCtorEq, Heap.get_put, true_and]
  refine ⟨Nat.le_succ _, fun id hid _ => ?_⟩
  have : ¬ id = s.next := by omega
  simp only [Heap.get_put, this, if_false]

theorem n2i_gen {id size : Nat} (g5 : e.get 5 = some (.slice (some ⟨id, 0, none⟩) size size)) : WCode (fun k => call tbl ov k) n2i e s fun x e' s' => x = .normal ∧ (∀ j, j < 6 → e'.get j = e.get j) ∧ e'.get 10 = some (in64 size) ∧ e'.get 11 = some (in64 0) ∧ s' = s := by
  simp only [n2i, n_2, code70, K.R, K.o, K.v, K.i, K.on, wc_region, wo_cons, wop, AOp.vals, rd_tmp, g5, Option.map_some, bindP_some, wv_mov, cont_some, get_cons, if_true, wv_lenSlice, rd_const, wo_nil, nrm_apply, Nat.reduceEqDiff, if_false, and_self, and_true, true_and]
  intro j hj
  simp (disch := omega) only [get_cons, if_neg]

theorem n2h_gen {i n : Nat} (g10 : e.get 10 = some (in64 n)) (g11 : e.get 11 = some (in64 i)) : WCode (fun k => call tbl ov k) n2h e s fun x e' s' => x = .normal ∧ (∀ j, j < 12 → e'.get j = e.get j) ∧ e'.get 12 = some (.bool (decide (i < n))) ∧ s' = s := by
  have d : decide ((i : Int) < (n : Int)) = decide (i < n) := by simp
  simp only [n2h, n_2, code70, K.R, K.o, K.v, K.i, K.on, wc_region, wo_cons, wop, AOp.vals, rd_tmp, g11, g10, Option.map_some, Option.bind_some, bindP_some, wv_bin, bin_lss, d, ret_apply, cont_some, wo_nil, nrm_apply, get_cons, if_true, and_self, and_true, true_and]
  intro j hj
  simp (disch := omega) only [get_cons, if_neg]

theorem n2b_gen {id n size k : Nat} (hs : size ≤ 8) (hk : k < size) (hg : s.heap.get id = some (.cells ((rowL n size k).map (.int .u8)) 5 1 false))
    (g0 : e.get 0 = some (.int .u64 n)) (g1 : e.get 1 = some (in64 size)) (g5 : e.get 5 = some (.slice (some ⟨id, 0, none⟩) size size)) (g11 : e.get 11 = some (in64 k)) :
    WCode (fun k => call tbl ov k) n2b e s fun x e' s' => x = .normal ∧ (∀ j, j < 6 → e'.get j = e.get j) ∧ e'.get 10 = e.get 10 ∧ e'.get 11 = e.get 11 ∧ s' = ⟨s.heap.put id (some (.cells ((rowL n size (k + 1)).map (.int .u8)) 5 1 false)), s.next⟩ := by
  have w1 : IntKind.i64.wrap ((size : Int) - 1) = ((size - 1 : Nat) : Int) := by rw [wrap64 (by omega) (by omega)]; omega
  have w2 : IntKind.i64.wrap (((size - 1 : Nat) : Int) - (k : Int)) = ((size - 1 - k : Nat) : Int) := by rw [wrap64 (by omega) (by omega)]; omega
  have w3 : IntKind.i64.wrap (8 * (k : Int)) = ((8 * k : Nat) : Int) := by rw [wrap64 (by omega) (by omega)]; omega
  have d2 : (0 : Int) ≤ ((size - 1 - k : Nat) : Int) := by omega
  have d3 : ((size - 1 - k : Nat) : Int) < (size : Nat) := by omega
  have hsh := shr_u64 (n := n) (k := k) (by omega)
  have hln := rowL_length (n := n) (size := size) (k := k) (by omega)
  have d4 : size - 1 - k + 1 ≤ ((rowL n size k).map (Value.int .u8)).length := by rw [List.length_map, hln]; omega
  have hset : ((rowL n size k).map (Value.int .u8)).set (size - 1 - k) (.int .u8 ((n / 256 ^ k % 256 : Nat) : Int)) = (rowL n size (k + 1)).map (.int .u8) := by
    rw [← List.map_set]
    congr 1
    unfold rowL
    rw [show size - k = (size - 1 - k) + 1 by omega, set_rep, show size - (k + 1) = size - 1 - k by omega]
    rfl
  simp only [n2b, n_2, code70, K.R, K.o, K.v, K.i, K.on, g11, wc_seq, wc_region, wo_cons, wop, AOp.vals, rd_tmp, Option.map_some, bindP_some, wv_mov, cont_some, get_cons, if_true, wo_nil, nrm_apply, next_normal, sq_apply, Nat.reduceEqDiff, g5, if_false, g1, rd_const, Option.bind_some, wv_bin, bin_sub, w1, ret_apply, w2, reduceCtorEq, g0, bin_mul, w3, bin_shr_u64, wv_convInt, hsh, wv_indexAddr, idx, d2, d3, and_self, Int.toNat_natCast, Nat.mul_one, Nat.zero_add, wv_store, storeAt, hg, cellList, Value.cells, List.length_cons, List.length_nil, List.all_cons, isCell, List.all_nil, Bool.and_self, d4, storeL, hset, putK_apply, cont_none, and_true, true_and]
  intro j hj
  have : ¬ j = 6 := by omega
  simp (disch := omega) only [get_cons, if_neg]

theorem n2n_gen {i : Nat} (hi : i < 2 ^ 62) (g11 : e.get 11 = some (in64 i)) : WCode (fun k => call tbl ov k) n2n e s fun x e' s' => x = .normal ∧ (∀ j, j < 11 → e'.get j = e.get j) ∧ e'.get 11 = some (in64 (i + 1 : Nat)) ∧ s' = s := by
  have w : IntKind.i64.wrap ((i : Int) + 1) = ((i + 1 : Nat) : Int) := by rw [wrap64 (by omega) (by omega)]; omega
  simp only [n2n, n_2, code70, K.R, K.o, K.v, K.i, K.on, wc_region, wo_cons, wop, AOp.vals, rd_tmp, g11, rd_const, Option.map_some, Option.bind_some, bindP_some, wv_bin, bin_add, w, ret_apply, cont_some, get_cons, if_true, wv_mov, wo_nil, nrm_apply, Nat.reduceEqDiff, if_false, and_self, and_true, true_and]
  intro j hj
  simp (disch := omega) only [get_cons, if_neg]

theorem number_spec (h70 : tbl 70 = some fun70) {n size : Nat} (hs : size ≤ 8) : WCall (fun k => call tbl ov k) 70 [.int .u64 n, in64 size] s fun v s' => ∃ S, BytesO 5 s' v (beL n size) S ∧ Kept [] s s' ∧ ∀ x ∈ S, s.next ≤ x := by
  refine WCall.of h70 rfl ?_
  simp only [fun70, code70_eq, params]
  rw [wc_assoc]
  refine wc_then (n01_gen hs rfl) ?_
  rintro e1 s1 ⟨a0, a1, a5, hnx, hg, hk⟩
  have a0' : e1.get 0 = some (.int .u64 n) := a0
  have a1' : e1.get 1 = some (in64 size) := a1
  refine wc_then (R := fun e' s' => e'.get 5 = some (.slice (some ⟨s.next, 0, none⟩) size size) ∧ s'.next = s.next + 1 ∧ s'.heap.get s.next = some (.cells ((beL n size).map (.int .u8)) 5 1 false) ∧ Kept [] s s') ?_ ?_
  · rw [n_2_eq]
    refine wc_then (n2i_gen a5) ?_
    rintro e2 s2 ⟨k2, a10, a11, rfl⟩
    refine wc_range (fun m e' s' => ∃ k, m = size - k ∧ k ≤ size ∧ e'.get 0 = some (.int .u64 n) ∧ e'.get 1 = some (in64 size) ∧ e'.get 5 = some (.slice (some ⟨s.next, 0, none⟩) size size) ∧ e'.get 10 = some (in64 size) ∧ e'.get 11 = some (in64 (k : Nat)) ∧ s'.next = s.next + 1 ∧ s'.heap.get s.next = some (.cells ((rowL n size k).map (.int .u8)) 5 1 false) ∧ Kept [] s s') size ?_ ?_
    · exact ⟨0, rfl, by omega, (k2 0 (by omega)).trans a0', (k2 1 (by omega)).trans a1', (k2 5 (by omega)).trans a5, a10, a11, hnx, by simpa [rowL, beL] using hg, hk⟩
    · rintro m e3 s3 E ⟨k, rfl, hkk, c0, c1, c5, c10, c11, hnx3, hg3, hk3⟩ hE
      have d0 := (hE 0 (by simp)).trans c0
      have d1 := (hE 1 (by simp)).trans c1
      have d5 := (hE 5 (by simp)).trans c5
      have d10 := (hE 10 (by simp)).trans c10
      have d11 := (hE 11 (by simp)).trans c11
      refine WCode.mono ?_ (n2h_gen d10 d11)
      rintro y e4 s4 ⟨rfl, k4, a12, rfl⟩
      refine ⟨rfl, _, a12, fun hbb => ?_, fun hbb => ?_⟩
      · simp only [decide_eq_false_iff_not] at hbb
        have : k = size := by omega
        subst this
        refine ⟨rfl, (k4 5 (by omega)).trans d5, hnx3, ?_, hk3⟩
        rw [hg3]; simp [rowL]
      · simp only [decide_eq_true_eq] at hbb
        refine WCode.mono ?_ (n2b_gen hs hbb hg3 ((k4 0 (by omega)).trans d0) ((k4 1 (by omega)).trans d1) ((k4 5 (by omega)).trans d5) ((k4 11 (by omega)).trans d11))
        rintro y e5 s5 ⟨rfl, k5, b10, b11, rfl⟩
        refine .inl ⟨.inl rfl, ?_⟩
        refine WCode.mono ?_ (n2n_gen (i := k) (by omega) (b11.trans ((k4 11 (by omega)).trans d11)))
        rintro y e6 s6 ⟨rfl, k6, f11, rfl⟩
        refine ⟨rfl, size - (k + 1), by omega, k + 1, rfl, by omega, (k6 0 (by omega)).trans ((k5 0 (by omega)).trans ((k4 0 (by omega)).trans d0)), (k6 1 (by omega)).trans ((k5 1 (by omega)).trans ((k4 1 (by omega)).trans d1)), (k6 5 (by omega)).trans ((k5 5 (by omega)).trans ((k4 5 (by omega)).trans d5)), (k6 10 (by omega)).trans (b10.trans ((k4 10 (by omega)).trans d10)), f11, hnx3, ?_, ⟨hk3.1, fun id hid hn => ?_⟩⟩
        · simp only [Heap.get_put, if_true]
        · have : ¬ id = s.next := by omega
          simp only [Heap.get_put, this, if_false]
          exact hk3.2 id hid hn
  · rintro e2 s2 ⟨b5, hnx2, hg2, hk2⟩
    have hln := beL_length n size
    simp only [n_3, code70, K.R, K.o, K.v, K.i, K.on, wc_seq, wc_region, wo_cons, wop, AOp.vals, rd_tmp, b5, Option.map_some, bindP_some, wv_mov, cont_some, get_cons, if_true, wo_nil, nrm_apply, next_normal, sq_apply, wc_ret, ends_ret, mapList, resV_tmp, Nat.reduceEqDiff, if_false, Option.bind_some, endK_apply, tupleV]
    refine ⟨[s.next], ⟨beL_range n size, .inr ⟨s.next, 0, size, _, by rw [hln], rfl, by omega, by omega, hg2, by simp [hln], by rw [hln, List.drop_zero, List.take_of_length_le (by simp [hln])]⟩⟩, hk2, by simp⟩

end
end Go.Proofs.YtehgdocbabaldaaGreat


/-
  A record: sound; its bytes.
-/
set_option maxRecDepth 100000
set_option linter.unusedVariables false
set_option linter.unusedSimpArgs false
namespace Go.Proofs.YtehgdocbabaldaaGreat
open Go Go.Abs

structure FRec where
  kind : Int
  id : Int
  host : ByteArray
  path : ByteArray
  prio : Int
  till : Int

def FRec.cells (r : FRec) : List Value := [in64 r.kind, in64 r.id, .string r.host, .string r.path, in64 r.prio, in64 r.till]
abbrev FRec.val (r : FRec) : Value := .agg r.cells.toArray
def FRec.req (r : FRec) : List Value := [in64 r.id, .string r.host, .string r.path, in64 r.prio, in64 r.till]

def FRec.small (r : FRec) : Bool := (((decide ((r.host.size : Int) ≤ 256)) && decide ((r.path.size : Int) ≤ 768)) && decide (r.id ≥ 0)) && decide (r.till ≥ 0)
def FRec.sound (r : FRec) : Bool := (((r.small && decide (r.kind ≥ 1)) && decide (r.kind ≤ 3)) && decide (r.prio ≥ 0)) && decide (r.prio ≤ 7)

def o_0 : ACode := match code67 with | .seq x _ => x | _ => .skip
def o_1 : ACode := match code67 with | .seq _ (.seq x _) => x | _ => .skip
def o_2 : ACode := match code67 with | .seq _ (.seq _ (.seq x _)) => x | _ => .skip
def o_3 : ACode := match code67 with | .seq _ (.seq _ (.seq _ (.seq x _))) => x | _ => .skip
def o_4 : ACode := match code67 with | .seq _ (.seq _ (.seq _ (.seq _ x))) => x | _ => .skip
def y_0 : ACode := match code68 with | .seq x _ => x | _ => .skip
def y_1 : ACode := match code68 with | .seq _ (.seq x _) => x | _ => .skip
def y_2 : ACode := match code68 with | .seq _ (.seq _ (.seq x _)) => x | _ => .skip
def y_3 : ACode := match code68 with | .seq _ (.seq _ (.seq _ (.seq x _))) => x | _ => .skip
def y_4 : ACode := match code68 with | .seq _ (.seq _ (.seq _ (.seq _ (.seq x _)))) => x | _ => .skip
def y_5 : ACode := match code68 with | .seq _ (.seq _ (.seq _ (.seq _ (.seq _ (.seq x _))))) => x | _ => .skip
def y_6 : ACode := match code68 with | .seq _ (.seq _ (.seq _ (.seq _ (.seq _ (.seq _ (.seq x _)))))) => x | _ => .skip
def y_7 : ACode := match code68 with | .seq _ (.seq _ (.seq _ (.seq _ (.seq _ (.seq _ (.seq _ x)))))) => x | _ => .skip
theorem code67_eq : code67 = .seq o_0 (.seq o_1 (.seq o_2 (.seq o_3 o_4))) := rfl
theorem code68_eq : code68 = .seq y_0 (.seq y_1 (.seq y_2 (.seq y_3 (.seq y_4 (.seq y_5 (.seq y_6 y_7)))))) := rfl

section
variable {tbl : FuncId → Option AFun} {ov : CallSem} {s s0 : St} {e : Env} {v : Value} {zs : List Int} {r : FRec} {p q : Nat}

theorem o_01 (g0 : e.get 0 = some r.val) : WCode (fun k => call tbl ov k) (.seq o_0 o_1) e s fun x e' s' => x = .normal ∧ ∃ p q, (e'.get 1 = some (.pointer (some ⟨p, 0, none⟩)) ∧ e'.get 3 = some (.pointer (some ⟨q, 0, none⟩)) ∧ s'.heap.get p = some (.cells r.cells 70 0 false) ∧ s'.heap.get q = some (.cells r.req 34 0 false) ∧ p < s'.next ∧ q < s'.next) ∧ Kept [] s s' ∧ Quiet s s' := by
  have n1 : ¬ s.next = s.next + 1 := by omega
  have hlen : r.cells.length = 6 := rfl
  have hdt : (r.cells.drop 1).take 5 = r.req := rfl
  have hst : storeL [in64 0, .string ⟨#[]⟩, .string ⟨#[]⟩, in64 0, in64 0] 0 r.req = r.req := rfl
  have hrl : r.req.length = 5 := rfl
  have hra : r.req.all isCell = true := rfl
  simp only [o_0, code67, K.R, K.o, K.v, K.ff, K.on, K.i, K.ot, o_1, wc_seq, wc_region, wo_cons, wop, AOp.vals, rd_tmp, g0, Option.map_some, bindP_some, wv_box, cellList, Value.cells, List.toList_toArray, cont_some, rd_const, wv_mov, wo_nil, nrm_apply, next_normal, sq_apply, get_cons, Nat.reduceEqDiff, if_true, if_false, wv_fieldAddr, Nat.zero_add, wv_loadn, Abs.rowAt, cellsAt, Heap.get_put, Nat.reduceAdd, hlen, Nat.le_refl, hdt, aggK_apply, wv_alloc, Option.bind_some, wv_store, storeAt, hrl, hra, List.length_cons, List.length_nil, and_self, hst, putK_apply, cont_none, true_and]
  refine ⟨s.next, s.next + 1, ⟨rfl, rfl, ?_, ?_, ?_, ?_⟩, ⟨?_, fun id hid _ => ?_⟩, fun id hid => ?_⟩
  · simp only [Heap.get_put, n1, if_false, if_true]
  · simp only [Heap.get_put, if_true]
  · show s.next < s.next + 1 + 1; omega
  · show s.next + 1 < s.next + 1 + 1; omega
  · show s.next ≤ s.next + 1 + 1; omega
  · have h1 : ¬ id = s.next := by omega
    have h2 : ¬ id = s.next + 1 := by omega
    simp only [Heap.get_put, h1, h2, if_false]
  · simp only at hid
    have h1 : ¬ id = s.next := by omega
    have h2 : ¬ id = s.next + 1 := by omega
    simp only [Heap.get_put, h1, h2, if_false]

theorem y_01 (g0 : e.get 0 = some r.val) : WCode (fun k => call tbl ov k) (.seq y_0 y_1) e s fun x e' s' => x = .normal ∧ ∃ p q, (e'.get 1 = some (.pointer (some ⟨p, 0, none⟩)) ∧ e'.get 3 = some (.pointer (some ⟨q, 0, none⟩)) ∧ s'.heap.get p = some (.cells r.cells 70 0 false) ∧ s'.heap.get q = some (.cells r.req 34 0 false) ∧ p < s'.next ∧ q < s'.next) ∧ Kept [] s s' := by
  have n1 : ¬ s.next = s.next + 1 := by omega
  have hlen : r.cells.length = 6 := rfl
  have hdt : (r.cells.drop 1).take 5 = r.req := rfl
  have hst : storeL [in64 0, .string ⟨#[]⟩, .string ⟨#[]⟩, in64 0, in64 0] 0 r.req = r.req := rfl
  have hrl : r.req.length = 5 := rfl
  have hra : r.req.all isCell = true := rfl
  simp only [y_0, code68, K.R, K.o, K.v, K.on, K.i, K.D, y_1, wc_seq, wc_region, wo_cons, wop, AOp.vals, rd_tmp, g0, Option.map_some, bindP_some, wv_box, cellList, Value.cells, List.toList_toArray, cont_some, rd_const, wv_mov, wo_nil, nrm_apply, next_normal, sq_apply, get_cons, Nat.reduceEqDiff, if_true, if_false, wv_fieldAddr, Nat.zero_add, wv_loadn, Abs.rowAt, cellsAt, Heap.get_put, Nat.reduceAdd, hlen, Nat.le_refl, hdt, aggK_apply, wv_alloc, Option.bind_some, wv_store, storeAt, hrl, hra, List.length_cons, List.length_nil, and_self, hst, putK_apply, cont_none, true_and]
  refine ⟨s.next, s.next + 1, ⟨rfl, rfl, ?_, ?_, ?_, ?_⟩, ?_, fun id hid _ => ?_⟩
  · simp only [Heap.get_put, n1, if_false, if_true]
  · simp only [Heap.get_put, if_true]
  · show s.next < s.next + 1 + 1; omega
  · show s.next + 1 < s.next + 1 + 1; omega
  · show s.next ≤ s.next + 1 + 1; omega
  · have h1 : ¬ id = s.next := by omega
    have h2 : ¬ id = s.next + 1 := by omega
    simp only [Heap.get_put, h1, h2, if_false]

theorem o_2_gen (hq : s.heap.get q = some (.cells r.req 34 0 false)) (g3 : e.get 3 = some (.pointer (some ⟨q, 0, none⟩))) :
    WCode (fun k => call tbl ov k) o_2 e s fun x e' s' => x = .normal ∧ e'.get 1 = e.get 1 ∧ e'.get 3 = e.get 3 ∧ e'.get 4 = some (.bool r.small) ∧ s' = s := by
  have c0 : r.req[0]? = some (in64 r.id) := rfl
  have c1 : r.req[1]? = some (.string r.host) := rfl
  have c2 : r.req[2]? = some (.string r.path) := rfl
  have c4 : r.req[4]? = some (in64 r.till) := rfl
  unfold FRec.small
  cases h1 : decide ((r.host.size : Int) ≤ 256) with
  | false => simp only [o_2, code67, K.R, K.o, K.v, K.ff, K.on, K.i, K.ot, g3, Bool.false_and, wc_region, wo_cons, wop, AOp.vals, rd_tmp, Option.map_some, bindP_some, wv_fieldAddr, Nat.zero_add, cont_some, get_cons, if_true, wv_load, cellAt, hq, c1, ret_apply, Nat.reduceEqDiff, if_false, wv_lenString, rd_const, Option.bind_some, wv_bin, bin_leq, h1, wv_mov, wo_guard, guardV_bool, beq_true, gcont_false, wv_pick, Bool.false_eq_true, wo_nil, nrm_apply, and_self]
  | true =>
    cases h2 : decide ((r.path.size : Int) ≤ 768) with
    | false => simp only [o_2, code67, K.R, K.o, K.v, K.ff, K.on, K.i, K.ot, g3, Bool.true_and, Bool.false_and, wc_region, wo_cons, wop, AOp.vals, rd_tmp, Option.map_some, bindP_some, wv_fieldAddr, Nat.zero_add, cont_some, get_cons, if_true, wv_load, cellAt, hq, c1, ret_apply, Nat.reduceEqDiff, if_false, wv_lenString, rd_const, Option.bind_some, wv_bin, bin_leq, h1, wv_mov, wo_guard, guardV_bool, BEq.rfl, gcont_true, c2, h2, wv_pick, beq_true, gcont_false, Bool.false_eq_true, wo_nil, nrm_apply, and_self]
    | true =>
      cases h3 : decide (r.id ≥ 0) with
      | false => simp only [o_2, code67, K.R, K.o, K.v, K.ff, K.on, K.i, K.ot, g3, Bool.and_self, Bool.true_and, Bool.false_and, wc_region, wo_cons, wop, AOp.vals, rd_tmp, Option.map_some, bindP_some, wv_fieldAddr, Nat.zero_add, cont_some, get_cons, if_true, wv_load, cellAt, hq, c1, ret_apply, Nat.reduceEqDiff, if_false, wv_lenString, rd_const, Option.bind_some, wv_bin, bin_leq, h1, wv_mov, wo_guard, guardV_bool, BEq.rfl, gcont_true, c2, h2, wv_pick, c0, bin_geq, h3, beq_true, gcont_false, Bool.false_eq_true, wo_nil, nrm_apply, and_self]
      | true => simp only [o_2, code67, K.R, K.o, K.v, K.ff, K.on, K.i, K.ot, g3, Bool.and_self, Bool.true_and, wc_region, wo_cons, wop, AOp.vals, rd_tmp, Option.map_some, bindP_some, wv_fieldAddr, Nat.zero_add, cont_some, get_cons, if_true, wv_load, cellAt, hq, c1, ret_apply, Nat.reduceEqDiff, if_false, wv_lenString, rd_const, Option.bind_some, wv_bin, bin_leq, h1, wv_mov, wo_guard, guardV_bool, BEq.rfl, gcont_true, c2, h2, wv_pick, c0, bin_geq, h3, c4, wo_nil, nrm_apply, and_self]

theorem o_3_gen (hp : s.heap.get p = some (.cells r.cells 70 0 false)) (hq : s.heap.get q = some (.cells r.req 34 0 false)) (g1 : e.get 1 = some (.pointer (some ⟨p, 0, none⟩))) (g3 : e.get 3 = some (.pointer (some ⟨q, 0, none⟩))) (g4 : e.get 4 = some (.bool r.small)) :
    WCode (fun k => call tbl ov k) o_3 e s fun x e' s' => x = .normal ∧ e'.get 2 = some (.bool r.sound) ∧ s' = s := by
  have c0 : r.cells[0]? = some (in64 r.kind) := rfl
  have c3 : r.req[3]? = some (in64 r.prio) := rfl
  unfold FRec.sound
  cases h0 : r.small with
  | false => simp only [o_3, code67, K.R, K.o, K.v, K.ff, K.on, K.i, K.ot, Bool.false_and, wc_region, wo_cons, wop, AOp.vals, rd_tmp, g4, h0, Option.map_some, bindP_some, wv_mov, cont_some, get_cons, if_true, wo_guard, Nat.reduceEqDiff, if_false, guardV_bool, beq_true, gcont_false, rd_const, Option.bind_some, wv_pick, Bool.false_eq_true, wo_nil, nrm_apply, and_self]
  | true =>
    cases h1 : decide (r.kind ≥ 1) with
    | false => simp only [o_3, code67, K.R, K.o, K.v, K.ff, K.on, K.i, K.ot, Bool.true_and, Bool.false_and, wc_region, wo_cons, wop, AOp.vals, rd_tmp, g4, h0, Option.map_some, bindP_some, wv_mov, cont_some, get_cons, if_true, wo_guard, Nat.reduceEqDiff, if_false, guardV_bool, BEq.rfl, gcont_true, g1, wv_fieldAddr, Nat.zero_add, wv_load, cellAt, hp, c0, ret_apply, rd_const, Option.bind_some, wv_bin, bin_geq, h1, wv_pick, beq_true, gcont_false, Bool.false_eq_true, wo_nil, nrm_apply, and_self]
    | true =>
      cases h2 : decide (r.kind ≤ 3) with
      | false => simp only [o_3, code67, K.R, K.o, K.v, K.ff, K.on, K.i, K.ot, Bool.and_self, Bool.true_and, Bool.false_and, wc_region, wo_cons, wop, AOp.vals, rd_tmp, g4, h0, Option.map_some, bindP_some, wv_mov, cont_some, get_cons, if_true, wo_guard, Nat.reduceEqDiff, if_false, guardV_bool, BEq.rfl, gcont_true, g1, wv_fieldAddr, Nat.zero_add, wv_load, cellAt, hp, c0, ret_apply, rd_const, Option.bind_some, wv_bin, bin_geq, h1, wv_pick, bin_leq, h2, beq_true, gcont_false, Bool.false_eq_true, wo_nil, nrm_apply, and_self]
      | true =>
        cases h3 : decide (r.prio ≥ 0) with
        | false => simp only [o_3, code67, K.R, K.o, K.v, K.ff, K.on, K.i, K.ot, Bool.and_self, Bool.true_and, Bool.false_and, wc_region, wo_cons, wop, AOp.vals, rd_tmp, g4, h0, Option.map_some, bindP_some, wv_mov, cont_some, get_cons, if_true, wo_guard, Nat.reduceEqDiff, if_false, guardV_bool, BEq.rfl, gcont_true, g1, wv_fieldAddr, Nat.zero_add, wv_load, cellAt, hp, c0, ret_apply, rd_const, Option.bind_some, wv_bin, bin_geq, h1, wv_pick, bin_leq, h2, g3, hq, c3, h3, beq_true, gcont_false, Bool.false_eq_true, wo_nil, nrm_apply, and_self]
        | true => simp only [o_3, code67, K.R, K.o, K.v, K.ff, K.on, K.i, K.ot, Bool.and_self, Bool.true_and, wc_region, wo_cons, wop, AOp.vals, rd_tmp, g4, h0, Option.map_some, bindP_some, wv_mov, cont_some, get_cons, if_true, wo_guard, Nat.reduceEqDiff, if_false, guardV_bool, BEq.rfl, gcont_true, g1, wv_fieldAddr, Nat.zero_add, wv_load, cellAt, hp, c0, ret_apply, rd_const, Option.bind_some, wv_bin, bin_geq, h1, wv_pick, bin_leq, h2, g3, hq, c3, h3, wo_nil, nrm_apply, and_self]

theorem sound_spec (h67 : tbl 67 = some fun67) : WCall (fun k => call tbl ov k) 67 [r.val] s fun v s' => v = .bool r.sound ∧ Kept [] s s' ∧ Quiet s s' := by
  refine WCall.of h67 rfl ?_
  simp only [fun67, code67_eq, params]
  rw [wc_assoc]
  refine wc_then (o_01 rfl) ?_
  rintro e1 s1 ⟨p, q, ⟨a1, a3, hp, hq, _, _⟩, hk⟩
  refine wc_then (o_2_gen hq a3) ?_
  rintro e2 s2 ⟨b1, b3, b4, rfl⟩
  refine wc_then (o_3_gen hp hq (b1.trans a1) (b3.trans a3) b4) ?_
  rintro e3 s3 ⟨c2, rfl⟩
  simp only [o_4, code67, K.R, K.o, K.v, K.ff, K.on, K.i, K.ot, wc_ret, ends_ret, mapList, resV_tmp, c2, Option.map_some, Option.bind_some, bindP_some, endK_apply, tupleV, true_and]
  exact hk

end
end Go.Proofs.YtehgdocbabaldaaGreat


/-
  A record's bytes.
-/
set_option maxRecDepth 100000
set_option linter.unusedVariables false
set_option linter.unusedSimpArgs false
namespace Go.Proofs.YtehgdocbabaldaaGreat
open Go Go.Abs

def bodyL (r : FRec) : List Int := ((((([r.kind, r.prio] ++ beL r.id.toNat 8) ++ beL r.till.toNat 8) ++ beL r.host.size 2) ++ strL r.host) ++ strL r.path)

theorem bodyL_length (r : FRec) : (bodyL r).length = 20 + r.host.size + r.path.size := by
  simp [bodyL, beL_length, strL_length]; omega

def Grown (s1 s : St) (v : Value) (zs : List Int) : Prop := ∃ S, BytesO 5 s v zs S ∧ Kept [] s1 s ∧ ∀ x ∈ S, s1.next ≤ x

theorem Grown.toV {s1 s : St} {v : Value} {zs : List Int} (h : Grown s1 s v zs) : BytesV s v zs := by
  obtain ⟨S, h1, _⟩ := h; exact h1.toV

theorem Grown.kept {s1 s s' : St} {v : Value} {zs : List Int} (h : Grown s1 s v zs) (hk : Kept [] s s') : Grown s1 s' v zs := by
  obtain ⟨S, h1, h2, h3⟩ := h
  exact ⟨S, h1.kept hk (fun _ _ => by simp), h2.trans hk, h3⟩

theorem Grown.append {s1 s : St} {v y : Value} {zs ys : List Int} (h : Grown s1 s v zs) (hy : SrcV s y ys) (hbig : zs.length + ys.length < 2 ^ 40) :
    ∃ val upd nx, evP s.heap.get s.next (.append 5 1 1 v y) = some ⟨val, upd, nx⟩ ∧ Grown s1 ⟨applyUpd s.heap upd, nx⟩ val (zs ++ ys) := by
  obtain ⟨S, h1, h2, h3⟩ := h
  obtain ⟨res, S', he, ho, hk, hS, _⟩ := h1.append hy hbig
  refine ⟨res.val, res.upd, res.next, he, S', ho, h2.comp hk (fun x hx => .inr (h3 x hx)), fun x hx => ?_⟩
  rcases hS x hx with h | h
  · exact h3 x h
  · have := h2.1; omega

theorem Grown.get {s1 s : St} {v : Value} {zs : List Int} (h : Grown s1 s v zs) {q : Nat} (hq : q < s1.next) : s.heap.get q = s1.heap.get q := by
  obtain ⟨S, h1, h2, h3⟩ := h
  exact h2.2 q hq (by simp)

theorem wrap_u64 {n : Int} (h : 0 ≤ n ∧ n < 18446744073709551616) : IntKind.u64.wrap n = n := by
  have : IntKind.u64.wrap n = n % 18446744073709551616 := by simp [IntKind.wrap, IntKind.signed, IntKind.bits]
  rw [this]; omega

theorem wrap_u8 {n : Int} (h : 0 ≤ n ∧ n ≤ 255) : IntKind.u8.wrap n = n := by
  have : IntKind.u8.wrap n = n % 256 := by simp [IntKind.wrap, IntKind.signed, IntKind.bits]
  rw [this]; omega

structure FRec.Wide (r : FRec) : Prop where
  id : -9223372036854775808 ≤ r.id ∧ r.id ≤ 9223372036854775807
  till : -9223372036854775808 ≤ r.till ∧ r.till ≤ 9223372036854775807
  kind : -9223372036854775808 ≤ r.kind ∧ r.kind ≤ 9223372036854775807
  prio : -9223372036854775808 ≤ r.prio ∧ r.prio ≤ 9223372036854775807

theorem FRec.of_sound {r : FRec} (h : r.sound = true) : r.host.size ≤ 256 ∧ r.path.size ≤ 768 ∧ 0 ≤ r.id ∧ 0 ≤ r.till ∧ 1 ≤ r.kind ∧ r.kind ≤ 3 ∧ 0 ≤ r.prio ∧ r.prio ≤ 7 := by
  simp only [FRec.sound, FRec.small, Bool.and_eq_true, decide_eq_true_eq] at h
  omega

section
variable {tbl : FuncId → Option AFun} {ov : CallSem} {s s1 : St} {e : Env} {v : Value} {zs : List Int} {r : FRec} {p q : Nat}

theorem y_2_gen (hr : r.sound = true) (hp : s.heap.get p = some (.cells r.cells 70 0 false)) (hq : s.heap.get q = some (.cells r.req 34 0 false)) (g1 : e.get 1 = some (.pointer (some ⟨p, 0, none⟩))) (g3 : e.get 3 = some (.pointer (some ⟨q, 0, none⟩))) :
    WCode (fun k => call tbl ov k) y_2 e s fun x e' s' => x = .normal ∧ e'.get 3 = e.get 3 ∧ ∃ v, e'.get 4 = some v ∧ Grown s s' v [r.kind, r.prio] := by
  have c0 : r.cells[0]? = some (in64 r.kind) := rfl
  have c3 : r.req[3]? = some (in64 r.prio) := rfl
  obtain ⟨_, _, _, _, h1, h2, h3, h4⟩ := r.of_sound hr
  have w1 := wrap_u8 (n := r.kind) (by omega)
  have w2 := wrap_u8 (n := r.prio) (by omega)
  simp only [y_2, code68, K.R, K.o, K.v, K.on, K.i, K.D, g3, wc_region, wo_cons, wop, AOp.vals, rd_tmp, g1, Option.map_some, bindP_some, wv_fieldAddr, Nat.zero_add, cont_some, get_cons, if_true, wv_load, cellAt, hp, c0, ret_apply, Nat.reduceEqDiff, if_false, wv_convInt, w1, hq, c3, w2, mapParts, Option.bind_some, wv_buildSlice, ev_buildSlice, fillL, cellList, Value.cells, List.length_cons, List.length_nil, Nat.reduceAdd, Nat.reduceLeDiff, and_self, storeL, List.set_cons_zero, Nat.le_refl, List.set_cons_succ, resK_apply, applyUpd, wv_mov, wo_nil, nrm_apply, true_and]
  refine ⟨_, rfl, [s.next], ⟨fun z hz => ?_, .inr ⟨s.next, 0, 2, [.int .u8 r.kind, .int .u8 r.prio], rfl, rfl, Nat.le_refl _, Nat.lt_succ_self _, ?_, Nat.le_refl _, rfl⟩⟩, ⟨Nat.le_succ _, fun id hid _ => ?_⟩, by simp⟩
  · simp only [List.mem_cons, List.not_mem_nil, or_false] at hz
    rcases hz with rfl | rfl <;> omega
  · simp only [applyUpd, Heap.get_put, if_true]
  · have : ¬ id = s.next := by omega
    simp only [applyUpd, Heap.get_put, this, if_false]

theorem y_3_gen (h70 : tbl 70 = some fun70) (hr : r.sound = true) (hw : r.Wide) (hg : Grown s1 s v zs) (hzl : zs.length < 2 ^ 30) (hq : s1.heap.get q = some (.cells r.req 34 0 false)) (hq1 : q < s1.next) (g3 : e.get 3 = some (.pointer (some ⟨q, 0, none⟩))) (g4 : e.get 4 = some v) :
    WCode (fun k => call tbl ov k) y_3 e s fun x e' s' => x = .normal ∧ e'.get 3 = e.get 3 ∧ ∃ v, e'.get 4 = some v ∧ Grown s1 s' v (zs ++ beL r.id.toNat 8) := by
  have c0 : r.req[0]? = some (in64 r.id) := rfl
  obtain ⟨_, _, h1, _⟩ := r.of_sound hr
  have hid := hw.id
  have w1 := wrap_u64 (n := r.id) (by omega)
  have w2 : r.id = (r.id.toNat : Int) := by omega
  have hq' := (hg.get hq1).trans hq
  simp only [y_3, code68, K.R, K.o, K.v, K.on, K.i, K.D, g3, wc_region, wo_cons, wop, AOp.vals, rd_tmp, g4, Option.map_some, bindP_some, wv_mov, cont_some, get_cons, Nat.reduceEqDiff, if_false, wv_fieldAddr, Nat.zero_add, if_true, wv_load, cellAt, hq', c0, ret_apply, wv_convInt, w1, rd_func, mapList, rd_const, Option.bind_some, wv_call, callee_func, ccont_apply]
  rw [w2]
  refine WCall.mono (number_spec h70 (n := r.id.toNat) (size := 8) (by omega)) ?_
  rintro w s2 ⟨S, ho, hk, hS⟩
  obtain ⟨val, upd, nx, he, hg2⟩ := (hg.kept hk).append (.inl ho.toV) (by rw [beL_length]; omega)
  simp only [Int.toNat_natCast, cont_some, wo_cons, wop, AOp.vals, rd_tmp, get_cons, Nat.reduceEqDiff, if_true, if_false, Option.map_some, Option.bind_some, bindP_some, wv_append, he, resK_apply, wv_mov, wo_nil, nrm_apply, g3, g4, true_and]
  exact ⟨_, rfl, hg2⟩

theorem y_4_gen (h70 : tbl 70 = some fun70) (hr : r.sound = true) (hw : r.Wide) (hg : Grown s1 s v zs) (hzl : zs.length < 2 ^ 30) (hq : s1.heap.get q = some (.cells r.req 34 0 false)) (hq1 : q < s1.next) (g3 : e.get 3 = some (.pointer (some ⟨q, 0, none⟩))) (g4 : e.get 4 = some v) :
    WCode (fun k => call tbl ov k) y_4 e s fun x e' s' => x = .normal ∧ e'.get 3 = e.get 3 ∧ ∃ v, e'.get 4 = some v ∧ Grown s1 s' v (zs ++ beL r.till.toNat 8) := by
  have c0 : r.req[4]? = some (in64 r.till) := rfl
  obtain ⟨_, _, _, h1, _⟩ := r.of_sound hr
  have hid := hw.till
  have w1 := wrap_u64 (n := r.till) (by omega)
  have w2 : r.till = (r.till.toNat : Int) := by omega
  have hq' := (hg.get hq1).trans hq
  simp only [y_4, code68, K.R, K.o, K.v, K.on, K.i, K.D, g3, wc_region, wo_cons, wop, AOp.vals, rd_tmp, g4, Option.map_some, bindP_some, wv_mov, cont_some, get_cons, Nat.reduceEqDiff, if_false, wv_fieldAddr, Nat.zero_add, if_true, wv_load, cellAt, hq', c0, ret_apply, wv_convInt, w1, rd_func, mapList, rd_const, Option.bind_some, wv_call, callee_func, ccont_apply]
  rw [w2]
  refine WCall.mono (number_spec h70 (n := r.till.toNat) (size := 8) (by omega)) ?_
  rintro w s2 ⟨S, ho, hk, hS⟩
  obtain ⟨val, upd, nx, he, hg2⟩ := (hg.kept hk).append (.inl ho.toV) (by rw [beL_length]; omega)
  simp only [Int.toNat_natCast, cont_some, wo_cons, wop, AOp.vals, rd_tmp, get_cons, Nat.reduceEqDiff, if_true, if_false, Option.map_some, Option.bind_some, bindP_some, wv_append, he, resK_apply, wv_mov, wo_nil, nrm_apply, g3, g4, true_and]
  exact ⟨_, rfl, hg2⟩

theorem y_5_gen (h70 : tbl 70 = some fun70) (hr : r.sound = true) (hg : Grown s1 s v zs) (hzl : zs.length < 2 ^ 30) (hq : s1.heap.get q = some (.cells r.req 34 0 false)) (hq1 : q < s1.next) (g3 : e.get 3 = some (.pointer (some ⟨q, 0, none⟩))) (g4 : e.get 4 = some v) :
    WCode (fun k => call tbl ov k) y_5 e s fun x e' s' => x = .normal ∧ e'.get 3 = e.get 3 ∧ ∃ v, e'.get 4 = some v ∧ Grown s1 s' v (zs ++ beL r.host.size 2) := by
  have c1 : r.req[1]? = some (.string r.host) := rfl
  obtain ⟨h1, _⟩ := r.of_sound hr
  have w1 := wrap_u64 (n := (r.host.size : Int)) (by omega)
  have hq' := (hg.get hq1).trans hq
  simp only [y_5, code68, K.R, K.o, K.v, K.on, K.i, K.D, g3, wc_region, wo_cons, wop, AOp.vals, rd_tmp, g4, Option.map_some, bindP_some, wv_mov, cont_some, get_cons, Nat.reduceEqDiff, if_false, wv_fieldAddr, Nat.zero_add, if_true, wv_load, cellAt, hq', c1, ret_apply, wv_lenString, wv_convInt, w1, rd_func, mapList, rd_const, Option.bind_some, wv_call, callee_func, ccont_apply]
  refine WCall.mono (number_spec h70 (n := r.host.size) (size := 2) (by omega)) ?_
  rintro w s2 ⟨S, ho, hk, hS⟩
  obtain ⟨val, upd, nx, he, hg2⟩ := (hg.kept hk).append (.inl ho.toV) (by rw [beL_length]; omega)
  simp only [cont_some, wo_cons, wop, AOp.vals, rd_tmp, get_cons, Nat.reduceEqDiff, if_true, if_false, Option.map_some, Option.bind_some, bindP_some, wv_append, he, resK_apply, wv_mov, wo_nil, nrm_apply, g3, g4, true_and]
  exact ⟨_, rfl, hg2⟩

theorem y_67_gen (hr : r.sound = true) (hg : Grown s1 s v zs) (h0 : 0 < zs.length) (hzl : zs.length < 2 ^ 30) (hq : s1.heap.get q = some (.cells r.req 34 0 false)) (hq1 : q < s1.next) (g3 : e.get 3 = some (.pointer (some ⟨q, 0, none⟩))) (g4 : e.get 4 = some v) :
    WCode (fun k => call tbl ov k) (.seq y_6 y_7) e s fun x e' s' => x = .ret ∧ ∃ v, e'.get 2 = some v ∧ Grown s1 s' v ((zs ++ strL r.host) ++ strL r.path) := by
  have c1 : r.req[1]? = some (.string r.host) := rfl
  have c2 : r.req[2]? = some (.string r.path) := rfl
  obtain ⟨h1, h2, _⟩ := r.of_sound hr
  have hq' := (hg.get hq1).trans hq
  obtain ⟨val, upd, nx, he, hg2⟩ := hg.append (y := .string r.host) (.inr ⟨_, rfl, rfl⟩) (by rw [strL_length]; omega)
  obtain ⟨val2, upd2, nx2, he2, hg3⟩ := hg2.append (y := .string r.path) (.inr ⟨_, rfl, rfl⟩) (by rw [List.length_append, strL_length, strL_length]; omega)
  have hq2 : (applyUpd s.heap upd).get q = some (.cells r.req 34 0 false) := (hg2.get hq1).trans hq
  obtain ⟨S, ⟨_, ⟨rfl, rfl, rfl⟩ | ⟨id, o, cap, c, rfl, rfl, _⟩⟩, _, hS⟩ := hg
  · simp at h0
  have hne : ¬ id = q := by have := hS id (by simp); omega
  simp only [y_6, code68, K.R, K.o, K.v, K.on, K.i, K.D, y_7, wc_seq, wc_draw, wd_cons, AOp.vals, rd_tmp, g4, Option.map_some, bindP_some, dvals_apply, footOf, wv_mov, dcont_some, List.nil_append, get_cons, Nat.reduceEqDiff, g3, if_false, wv_fieldAddr, Nat.zero_add, List.cons_append, if_true, wv_load, cellAt, hq', c1, ret_apply, Option.bind_some, wv_append, he, resK_apply, hq2, c2, he2, wd_nil, drawnK_apply, drawn, List.all_cons, pairOk, List.getElem?_cons_succ, List.getElem?_cons_zero, disj, ne_eq, List.all_nil, Bool.and_true, Bool.and_self, Nat.sub_self, List.range'_zero, List.not_mem_nil, quietAt, false_implies, implies_true, and_self, and_true, next_normal, sq_apply, wc_ret, true_and]
  simp only [hne, not_false_eq_true, decide_true, true_and]
  exact ⟨_, rfl, hg3⟩

theorem body_spec (h68 : tbl 68 = some fun68) (h70 : tbl 70 = some fun70) (hr : r.sound = true) (hw : r.Wide) : WCall (fun k => call tbl ov k) 68 [r.val] s fun v s' => ∃ s1, Kept [] s s1 ∧ Grown s1 s' v (bodyL r) := by
  refine WCall.of h68 rfl ?_
  simp only [fun68, code68_eq, params]
  obtain ⟨h1, h2, _⟩ := r.of_sound hr
  rw [wc_assoc]
  refine wc_then (y_01 rfl) ?_
  rintro e1 s1 ⟨p, q, ⟨a1, a3, hp, hq, hp1, hq1⟩, hk⟩
  refine wc_then (y_2_gen hr hp hq a1 a3) ?_
  rintro e2 s2 ⟨b3, v2, b4, hg2⟩
  refine wc_then (y_3_gen h70 hr hw hg2 (by simp) hq hq1 (b3.trans a3) b4) ?_
  rintro e3 s3 ⟨c3, v3, c4, hg3⟩
  refine wc_then (y_4_gen h70 hr hw hg3 (by simp [beL_length]) hq hq1 (c3.trans (b3.trans a3)) c4) ?_
  rintro e4 s4 ⟨d3, v4, d4, hg4⟩
  refine wc_then (y_5_gen h70 hr hg4 (by simp [beL_length]) hq hq1 (d3.trans (c3.trans (b3.trans a3))) d4) ?_
  rintro e5 s5 ⟨f3, v5, f4, hg5⟩
  refine WCode.mono ?_ (y_67_gen hr hg5 (by simp) (by simp [beL_length]) hq hq1 (f3.trans (d3.trans (c3.trans (b3.trans a3)))) f4)
  rintro x e6 s6 ⟨rfl, v6, g2, hg6⟩
  rw [ends_ret]
  simp only [mapList, resV_tmp, g2, bindP_some, Option.bind_some, Option.map_some, endK_apply, tupleV]
  exact ⟨s1, hk, hg6⟩

end
end Go.Proofs.YtehgdocbabaldaaGreat
