/-
  A disk: Read and Segs.
-/
import Derived.Test.YtgnpafmhdmmmhaaD3
set_option maxRecDepth 100000
set_option linter.unusedVariables false
set_option linter.unusedSimpArgs false
namespace Go.Abs
open Go
/-- A slice in a block from N on. -/
def NewV (N : Nat) (v : Value) : Prop := ∀ id o l c, v = .slice (some ⟨id, o, none⟩) l c → N ≤ id
theorem NewV.mono {N M : Nat} {v : Value} (h : NewV N v) (hm : M ≤ N) : NewV M v := fun id o l c e => Nat.le_trans hm (h id o l c e)
theorem bytes_clip {s : St} {v : Value} {zs : List Int} (h : BytesV s v zs) :
    ∃ v', evP s.heap.get s.next (.slice (.slice 1) v none (some (.int .i64 (zs.length : Nat))) (some (.int .i64 (zs.length : Nat)))) = some ⟨v', [], s.next⟩ ∧ BytesV s v' zs ∧ ∀ N, NewV N v → NewV N v' := by
  obtain ⟨hz, ⟨rfl, rfl⟩ | ⟨id, o, cap, c, t, sz, ro, rfl, h1, h2, h3, h4, h5, h6⟩⟩ := h
  · exact ⟨.slice none 0 0, by simp [evP, boundsV, boundV], ⟨by simp, .inl ⟨rfl, rfl⟩⟩, fun N h => h⟩
  · have a1 : (zs.length : Int) ≤ cap := by omega
    refine ⟨.slice (some ⟨id, o, none⟩) zs.length zs.length, ?_, ⟨hz, .inr ⟨id, o, zs.length, c, t, sz, ro, rfl, Nat.le_refl _, h2, h3, h4, h5, h6⟩⟩, fun N h id' o' l c e => by cases e; exact h _ _ _ _ rfl⟩
    have h5' : ro = true ∨ sz = 1 ∨ sz = 1 + 4294967296 := h5.imp_right .inl
    simp [evP, boundsV, boundV, a1, h3, h5', h1]
theorem lookF_mem {F : List (Int × List Int)} {k : Int} {bs : List Int} (h : lookF F k = some bs) : (k, bs) ∈ F := by
  induction F with
  | nil => cases h
  | cons p F ih =>
    simp only [lookF] at h
    split at h
    · rename_i hk; cases h; subst hk; exact List.mem_cons_self ..
    · exact List.mem_cons_of_mem _ (ih h)
end Go.Abs
namespace Go.Proofs.Ytgnpafmhdmmmhaa
open Go Go.Abs Go.Abs.K

section
variable {tbl : FuncId → Option AFun} {ov : CallSem} {s : St} (T : DTbl tbl)
include T

theorem p50 {bv : Value} {bs : List Int} (hb : BytesV s bv bs) (hl : bs.length < 2 ^ 40) : WCall (fun k => call tbl ov k) 50 [bv] s fun u s' => BytesV s' u bs ∧ Kept [] s s' ∧ NewV s.next u := by
  refine WCall.of T.t50 rfl ?_
  have hb0 := hb
  obtain ⟨hz, ⟨rfl, rfl⟩ | ⟨id, o, cap, c, t, sz, ro, rfl, h1, h2, h3, h4⟩⟩ := hb
  · simp -implicitDefEqProofs only [fun50, code50, params, go_sem, reduceIte, Nat.reduceEqDiff, Nat.reduceAdd, Nat.reduceMul, Nat.reduceLT, Nat.reduceLeDiff, reduceCtorEq, Int.reduceEq, Int.reduceNeg, Nat.reduceSub, Int.reduceLT, Int.reduceLE, Int.reduceGT, Int.reduceGE, Int.reduceAdd, Int.reduceSub, Int.reduceToNat, Int.reduceBNe, Int.reduceBEq, Nat.mul_one, Nat.zero_mul, Option.isNone_none]
    exact ⟨⟨by simp, .inl ⟨rfl, rfl⟩⟩, Kept.refl _ _, fun id o l c e => by cases e⟩
  · have hk1 : Kept [] s ⟨s.heap.put s.next (some (.cells [] 5 1 false)), s.next + 1⟩ := kept_put_nil (Nat.le_refl _) (Nat.le_succ _)
    have hO : BytesO 5 ⟨s.heap.put s.next (some (.cells [] 5 1 false)), s.next + 1⟩ (.slice (some ⟨s.next, 0, none⟩) 0 0) [] [s.next] :=
      ⟨by simp, .inr ⟨s.next, 0, 0, [], rfl, rfl, Nat.le_refl _, Nat.lt_succ_self _, by simp only [Heap.get_put, if_true], by simp, rfl⟩⟩
    obtain ⟨res, S', he, hR, hk2, hS, _⟩ := hO.append (.inl (hb0.kept hk1)) (by simpa using hl)
    obtain ⟨val, upd, nx⟩ := res
    simp only at hR hk2
    rw [List.nil_append] at hR
    simp -implicitDefEqProofs only [fun50, code50, params, go_sem, reduceIte, Nat.reduceEqDiff, Nat.reduceAdd, Nat.reduceMul, Nat.reduceLT, Nat.reduceLeDiff, reduceCtorEq, Int.reduceEq, Int.reduceNeg, Nat.reduceSub, Int.reduceLT, Int.reduceLE, Int.reduceGT, Int.reduceGE, Int.reduceAdd, Int.reduceSub, Int.reduceToNat, Int.reduceBNe, Int.reduceBEq, Nat.mul_one, Nat.zero_mul, ev_buildSlice, fillL, he]
    refine ⟨hR.toV, ⟨Nat.le_trans hk1.1 hk2.1, fun j hj _ => ?_⟩, fun id o l c e => ?_⟩
    · rw [hk2.2 j (by simp only; omega) (by simp only [List.mem_singleton]; omega)]
      exact hk1.2 j hj (by simp)
    · obtain ⟨_, ⟨hx, _⟩ | ⟨id', o', cap', c', hx, hSx, _⟩⟩ := hR
      · rw [hx] at e; cases e
      · rw [hx] at e
        simp only [Value.slice.injEq, Option.some.injEq, Addr.mk.injEq] at e
        have he := e.1.1
        rcases hS id' (by rw [hSx]; exact List.mem_singleton.2 rfl) with h | h
        · have := List.mem_singleton.1 h; omega
        · simp only at h; omega

theorem p49 {bv : Value} {bs : List Int} (hb : BytesV s bv bs) : WCall (fun k => call tbl ov k) 49 [bv] s fun u s' => (BytesV s u bs ∧ ∀ N, NewV N bv → NewV N u) ∧ s' = s := by
  refine WCall.of T.t49 rfl ?_
  obtain ⟨v', he, hv, hN⟩ := bytes_clip hb
  obtain ⟨a, cap, rfl⟩ := hb.len
  simp -implicitDefEqProofs only [fun49, code49, params, go_sem, reduceIte, Nat.reduceEqDiff, Nat.reduceAdd, Nat.reduceMul, Nat.reduceLT, Nat.reduceLeDiff, reduceCtorEq, Int.reduceEq, Int.reduceNeg, Nat.reduceSub, Int.reduceLT, Int.reduceLE, Int.reduceGT, Int.reduceGE, Int.reduceAdd, Int.reduceSub, Int.reduceToNat, Int.reduceBNe, Int.reduceBEq, Nat.mul_one, Nat.zero_mul, he]
  exact ⟨hv, hN⟩

/-- What is found. -/
def readE (D : DM) (n : Int) : Int := if (lookF D.F n).isSome then 0 else 4
def readB (D : DM) (n : Int) : List Int := (lookF D.F n).getD []

theorem p30 {p : Nat} {D : DM} {O V : List Nat} {n : Int} (h : DRep s p D O V) :
    WCall (fun k => call tbl ov k) 30 [ptr p, i64 n] s fun u s' => ∃ v, u = .tuple #[v, i64 (readE D n)] ∧ BytesV s' v (readB D n) ∧ Kept [] s s' ∧ NewV s.next v := by
  refine WCall.of T.t30 rfl ?_
  obtain ⟨m, lv, S, es, clock, h1, rfl, h2, h3, h4, h5, h6, h7, h8, h9, h10, h11, h12⟩ := h
  have el := ev_lookup (g := s.heap.get) (nx := s.next) (z := .slice none 0 0) (kind_int .i64) h3 h2 (k := i64 n) ⟨n, rfl⟩ true
  cases hl : lookF D.F n with
  | none =>
    rw [er_none h4 hl] at el
    simp only [Option.map_none, lookV, if_true] at el
    simp -implicitDefEqProofs only [fun30, code30, params, go_sem, reduceIte, Nat.reduceEqDiff, Nat.reduceAdd, Nat.reduceMul, Nat.reduceLT, Nat.reduceLeDiff, reduceCtorEq, Int.reduceEq, Int.reduceNeg, Nat.reduceSub, Int.reduceLT, Int.reduceLE, Int.reduceGT, Int.reduceGE, Int.reduceAdd, Int.reduceSub, Int.reduceToNat, Int.reduceBNe, Int.reduceBEq, Nat.mul_one, Nat.zero_mul, h1, el, Bool.not_false, readE, readB, hl, Option.isSome_none, Option.getD_none]
    exact ⟨_, rfl, ⟨by simp, .inl ⟨rfl, rfl⟩⟩, Kept.refl _ _, fun id o l c e => by cases e⟩
  | some bs =>
    obtain ⟨v, hv, hB, _⟩ := er_some h4 hl
    rw [hv] at el
    simp only [Option.map_some, lookV, if_true] at el
    have hlen : bs.length ≤ 2048 := h12.len _ (lookF_mem hl)
    simp -implicitDefEqProofs only [fun30, code30, params, go_sem, reduceIte, Nat.reduceEqDiff, Nat.reduceAdd, Nat.reduceMul, Nat.reduceLT, Nat.reduceLeDiff, reduceCtorEq, Int.reduceEq, Int.reduceNeg, Nat.reduceSub, Int.reduceLT, Int.reduceLE, Int.reduceGT, Int.reduceGE, Int.reduceAdd, Int.reduceSub, Int.reduceToNat, Int.reduceBNe, Int.reduceBEq, Nat.mul_one, Nat.zero_mul, h1, el, Bool.not_true, readE, readB, hl, Option.isSome_some, Option.getD_some]
    refine WCall.mono (p50 T hB (by omega)) ?_
    rintro u s1 ⟨hu, hk, hN⟩
    simp -implicitDefEqProofs only [go_sem, reduceIte, Nat.reduceEqDiff, Nat.reduceAdd, Nat.reduceMul, Nat.reduceLT, Nat.reduceLeDiff, reduceCtorEq, Int.reduceEq, Int.reduceNeg, Nat.reduceSub, Int.reduceLT, Int.reduceLE, Int.reduceGT, Int.reduceGE, Int.reduceAdd, Int.reduceSub, Int.reduceToNat, Int.reduceBNe, Int.reduceBEq, Nat.mul_one, Nat.zero_mul]
    refine WCall.mono (p49 T hu) ?_
    rintro u2 s2 ⟨⟨hu2, hN2⟩, rfl⟩
    simp -implicitDefEqProofs only [go_sem, reduceIte, Nat.reduceEqDiff, Nat.reduceAdd, Nat.reduceMul, Nat.reduceLT, Nat.reduceLeDiff, reduceCtorEq, Int.reduceEq, Int.reduceNeg, Nat.reduceSub, Int.reduceLT, Int.reduceLE, Int.reduceGT, Int.reduceGE, Int.reduceAdd, Int.reduceSub, Int.reduceToNat, Int.reduceBNe, Int.reduceBEq, Nat.mul_one, Nat.zero_mul]
    exact ⟨_, rfl, hu2, hk, hN2 _ hN⟩

theorem p56 {mv : Value} (hc : isCell mv = true) (K : Value → St → Prop) : WCall (fun k => call tbl ov k) 56 [mv] s K = K (.func (.func 66) #[] #[ptr s.next]) ⟨s.heap.put s.next (some (.cells (cellList mv) 88 0 false)), s.next + 1⟩ := by
  refine WCall.eq (WCall.of T.t56 rfl ?_) K
  simp -implicitDefEqProofs only [fun56, code56, params, go_sem, reduceIte, Nat.reduceEqDiff, Nat.reduceAdd, Nat.reduceMul, Nat.reduceLT, Nat.reduceLeDiff, reduceCtorEq, Int.reduceEq, Int.reduceNeg, Nat.reduceSub, Int.reduceLT, Int.reduceLE, Int.reduceGT, Int.reduceGE, Int.reduceAdd, Int.reduceSub, Int.reduceToNat, Int.reduceBNe, Int.reduceBEq, Nat.mul_one, Nat.zero_mul, wv_mkFunc]

abbrev keysF (D : DM) : List Int := sortZ (D.F.map fun p => p.1)

/-- Segs. -/
theorem p38 (ho : OvOK ov) {p : Nat} {D : DM} {O V : List Nat} (h : DRep s p D O V) :
    WCall (fun k => call tbl ov k) 38 [ptr p] s fun u s' => RowV 1 s' u ((keysF D).map fun k => [i64 k]) ∧ Kept [] s s' := by
  refine WCall.of T.t38 rfl ?_
  obtain ⟨m, lv, S, es, clock, h1, rfl, h2, h3, h4, h5, h6, h7, h8, h9, h10, h11, h12⟩ := h
  have hfit : D.F.length ≤ 1073741824 := by have := h12.fit; have := h12.most; omega
  have hk := er_keys h4 h12.keys
  have hf := er_fit h4 h3 h12.keys hfit
  have hne : ¬ m = s.next := by omega
  have hk1 : Kept [] s ⟨s.heap.put s.next (some (.cells [.map (some m)] 88 0 false)), s.next + 1⟩ := kept_put_nil (Nat.le_refl _) (Nat.le_succ _)
  have e56 := fun K => p56 (ov := ov) (s := s) T (mv := .map (some m)) rfl K
  have hseq : seqMap ⟨s.heap.put s.next (some (.cells [.map (some m)] 88 0 false)), s.next + 1⟩ 66 (.func (.func 66) #[] #[ptr s.next]) = some (es, clock) := by
    simp only [seqMap, if_true, Heap.get_put, hne, if_false, h2]
  cases hF : D.F with
  | nil =>
    rw [hF] at hk hf
    have e55 := fun K => WCall.eq (WCall.ov (ov := ov) T.t55 (args := [.func (.func 66) #[] #[ptr s.next]]) (s := ⟨s.heap.put s.next (some (.cells [.map (some m)] 88 0 false)), s.next + 1⟩) (r := (.slice none 0 0, ⟨s.heap.put s.next (some (.cells [.map (some m)] 88 0 false)), s.next + 1⟩))
      (by rw [ho.sorted]; simp only [sortedSem, if_true, hseq, Option.bind_some, hk, hf]; rfl) ⟨rfl, rfl⟩) K
    simp -implicitDefEqProofs only [fun38, code38, params, go_sem, reduceIte, Nat.reduceEqDiff, Nat.reduceAdd, Nat.reduceMul, Nat.reduceLT, Nat.reduceLeDiff, reduceCtorEq, Int.reduceEq, Int.reduceNeg, Nat.reduceSub, Int.reduceLT, Int.reduceLE, Int.reduceGT, Int.reduceGE, Int.reduceAdd, Int.reduceSub, Int.reduceToNat, Int.reduceBNe, Int.reduceBEq, Nat.mul_one, Nat.zero_mul, h1, e56, e55]
    refine ⟨⟨by simp [keysF, hF, sortZ], .inl ⟨rfl, by simp [keysF, hF, sortZ]⟩⟩, hk1⟩
  | cons q F =>
    rw [hF] at hk hf
    obtain ⟨ks, hks⟩ : ∃ ks, ks = (q :: F).map fun p => p.1 := ⟨_, rfl⟩
    rw [← hks] at hk hf
    have hkl : 0 < ks.length := by rw [hks]; simp
    have e55 := fun K => WCall.eq (WCall.ov (ov := ov) T.t55 (args := [.func (.func 66) #[] #[ptr s.next]]) (s := ⟨s.heap.put s.next (some (.cells [.map (some m)] 88 0 false)), s.next + 1⟩)
      (r := (.slice (some ⟨s.next + 1, 0, none⟩) ks.length ks.length, ⟨(s.heap.put s.next (some (.cells [.map (some m)] 88 0 false))).put (s.next + 1) (some (.cells ((sortZ ks).map fun n => Value.int .i64 n) 3 1 false)), s.next + 1 + 1⟩))
      (by
        rw [ho.sorted]; simp only [sortedSem, if_true, hseq, Option.bind_some, hk, hf]
        cases ks with
        | nil => simp at hkl
        | cons x r => rfl) ⟨rfl, rfl⟩) K
    simp -implicitDefEqProofs only [fun38, code38, params, go_sem, reduceIte, Nat.reduceEqDiff, Nat.reduceAdd, Nat.reduceMul, Nat.reduceLT, Nat.reduceLeDiff, reduceCtorEq, Int.reduceEq, Int.reduceNeg, Nat.reduceSub, Int.reduceLT, Int.reduceLE, Int.reduceGT, Int.reduceGE, Int.reduceAdd, Int.reduceSub, Int.reduceToNat, Int.reduceBNe, Int.reduceBEq, Nat.mul_one, Nat.zero_mul, h1, e56, e55]
    have hlen : (sortZ ks).length = ks.length := sortZ_length ks
    have hfl : ((sortZ ks).map fun k => [i64 k]).flatten = (sortZ ks).map fun n => Value.int .i64 n := by
      induction sortZ ks with
      | nil => rfl
      | cons x l ih => simp [ih]
    refine ⟨⟨fun c hc => ?_, .inr ⟨s.next + 1, 0, ks.length, (sortZ ks).map fun n => Value.int .i64 n, 3, false, ?_, ?_, by simp only; omega, by simp only [Heap.get_put, if_true], ?_, ?_⟩⟩, ⟨by simp only; omega, fun j hj _ => by simp only [Heap.get_put]; rw [if_neg (by omega), if_neg (by omega)]⟩⟩
    · obtain ⟨k, _, rfl⟩ := List.mem_map.1 hc
      exact ⟨rfl, rfl⟩
    · simp only [keysF, hF, ← hks, List.length_map, hlen]
    · simp only [keysF, hF, ← hks, List.length_map, hlen]; exact Nat.le_refl _
    · simp only [keysF, hF, ← hks, List.length_map, hlen]; omega
    · simp only [keysF, hF, ← hks, List.length_map, hlen]
      rw [hfl, List.drop_zero, List.take_of_length_le (by rw [List.length_map, hlen]; omega)]
end

end Go.Proofs.Ytgnpafmhdmmmhaa
