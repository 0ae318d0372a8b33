/-
  The reference's disk: Drop.
-/
import Derived.Test.YtgnpafmhdmmmhaaD12
import Derived.Test.YtgnpafmhdmmmhaaA48
set_option maxRecDepth 100000
set_option linter.unusedVariables false
set_option linter.unusedSimpArgs false
namespace Go.Proofs.Ytgnpafmhdmmmhaa
open Go Go.Abs Go.Abs.K

section
variable {s s' : St} {q : Nat} {R : RM} {O : List Nat} {sv : Value} {S : List Nat} {rows : List (List Value)} {L : Nat → List Nat}

/-- The segments are laid anew: each is an old one, or a new one without bytes. -/
theorem RAt.remap (h : RAt s q R O sv S rows L) (σ : Nat → Option Nat) {n0 : Int} {segs' : List (Int × List (Int × Int))} {rows' : List (List Value)} {sv' : Value} {S' : List Nat}
    (hk : Kept [q] s s') (hc : s'.heap.get q = some (.cells [i64 R.most, sv', i64 R.next, i64 R.first, i64 R.fails] 68 0 false)) (hO : RowsO 73 2 s' sv' rows' S') (hl : rows'.length = segs'.length) (h16 : segs'.length ≤ 16)
    (hs : ∀ j, j < segs'.length → segs'[j]? = match σ j with | some k => R.segs[k]? | none => some (n0, [])) (hr : ∀ j, j < segs'.length → rows'[j]? = match σ j with | some k => rows[k]? | none => some [i64 n0, .slice none 0 0])
    (hinj : ∀ i j k, i < segs'.length → j < segs'.length → σ i = some k → σ j = some k → i = j) (hS : ∀ x ∈ S', s.next ≤ x ∧ x < s'.next) :
    RAt s' q { R with segs := segs' } (O ++ S') sv' S' rows' fun j => match σ j with | some k => L k | none => [] := by
  have hsk : ∀ j k, j < segs'.length → σ j = some k → k < R.segs.length := fun j k hj hk => by
    have := hs j hj
    rw [hk] at this
    simp only at this
    have h2 : segs'[j]? ≠ none := by rw [List.getElem?_eq_getElem hj]; simp
    rw [this] at h2
    exact Nat.lt_of_not_le fun hle => h2 (List.getElem?_eq_none hle)
  refine ⟨hc, hO, hl, fun j n bs hj => ?_, fun hx => ?_, fun j x hj hx => ?_, fun i j x hi hj hne hx => ?_, List.mem_append_left _ h.qO, fun x hx => List.mem_append_right _ hx, fun j x hj hx => ?_, fun x hx => ?_, ⟨h.rw.first, h.rw.fails, h.rw.next, h16, fun j n bs hj => ?_⟩⟩
  · have hjl := (List.getElem?_eq_some_iff.1 hj).1
    have h1 := hs j hjl
    have h2 := hr j hjl
    simp only at hj
    rw [hj] at h1
    cases hσ : σ j with
    | none =>
      rw [hσ] at h1 h2
      cases h1
      exact ⟨_, h2, ⟨by simp, .inl ⟨rfl, rfl, rfl⟩⟩⟩
    | some k =>
      rw [hσ] at h1 h2
      simp only at h1 h2 ⊢
      obtain ⟨bv, a, b⟩ := h.inner k n bs h1.symm
      have hkl := hsk j k hjl hσ
      exact ⟨bv, h2.trans a, RowsO.kept' b hk fun x hx => by simp only [List.mem_singleton]; exact (h.apart k x hkl hx).1⟩
  · have := (hS q hx).1
    have := h.lt q h.qO
    omega
  · cases hσ : σ j with
    | none => rw [hσ] at hx; cases hx
    | some k =>
      rw [hσ] at hx
      have hkl := hsk j k hj hσ
      refine ⟨(h.apart k x hkl hx).1, fun hx' => ?_⟩
      have := (hS x hx').1
      have := h.lt x (h.LO k x hkl hx)
      omega
  · cases hσ : σ i with
    | none => rw [hσ] at hx; cases hx
    | some k =>
      rw [hσ] at hx
      cases hσ2 : σ j with
      | none => simp
      | some k2 =>
        simp only
        exact h.apart2 k k2 x (hsk i k hi hσ) (hsk j k2 hj hσ2) (fun e => hne (hinj i j k hi hj hσ (by rw [hσ2, e]))) hx
  · cases hσ : σ j with
    | none => rw [hσ] at hx; cases hx
    | some k =>
      rw [hσ] at hx
      exact List.mem_append_left _ (h.LO k x (hsk j k hj hσ) hx)
  · rcases List.mem_append.1 hx with hx | hx
    · exact Nat.lt_of_lt_of_le (h.lt x hx) hk.1
    · exact (hS x hx).2
  · have hjl := (List.getElem?_eq_some_iff.1 hj).1
    have h1 := hs j hjl
    simp only at hj
    rw [hj] at h1
    cases hσ : σ j with
    | none => rw [hσ] at h1; cases h1; simp
    | some k => rw [hσ] at h1; exact h.rw.bytes k n bs h1.symm
end

def rDropE (R : RM) (n : Int) : Int := if (idxS n R.segs).isSome then (if wB R.first R.fails then 0 else 7) else 4
def rDropR (R : RM) (n : Int) : RM := match idxS n R.segs with
  | some i => if wB R.first R.fails then { wR R with segs := R.segs.take i ++ R.segs.drop (i + 1) } else wR R
  | none => R

theorem big32 {n : Nat} (h : n < 2 ^ 30) : tooBig n 32 = false := by
  simp only [tooBig, Bool.or_eq_false_iff, decide_eq_false_iff_not]
  omega

section
variable {tbl : FuncId → Option AFun} {ov : CallSem} {s : St} (T : DTbl tbl)
include T

theorem p35 {q : Nat} {R : RM} {O : List Nat} {n : Int} (h : RRep s q R O) : WCall (fun k => call tbl ov k) 35 [ptr q, i64 n] s fun u s' => u = i64 (rDropE R n) ∧ Kept O s s' ∧ ∃ O', RRep s' q (rDropR R n) O' ∧ ∀ x ∈ O', x ∈ O ∨ s.next ≤ x := by
  refine WCall.of T.t35 rfl ?_
  have e51 := fun K => p51 (ov := ov) T (n := n) h K
  have h0 := h
  obtain ⟨sv, S, rows, L, hA⟩ := h.at
  cases hix : idxS n R.segs with
  | none =>
    rw [hix] at e51
    have d0 : decide ((-1 : Int) < 0) = true := rfl
    simp -implicitDefEqProofs only [fun35, code35, params, go_sem, reduceIte, Nat.reduceEqDiff, Nat.reduceAdd, Nat.reduceMul, Nat.reduceLT, Nat.reduceLeDiff, reduceCtorEq, Int.reduceEq, Int.reduceNeg, Nat.reduceSub, Int.reduceLT, Int.reduceLE, Int.reduceGT, Int.reduceGE, Int.reduceAdd, Int.reduceSub, Int.reduceToNat, Int.reduceBNe, Int.reduceBEq, Nat.mul_one, Nat.zero_mul, e51, posV, d0, rDropE, rDropR, hix, Option.isSome_none]
    exact ⟨Kept.refl _ _, O, h0, fun x hx => .inl hx⟩
  | some i =>
    rw [hix] at e51
    obtain ⟨bs, hbs⟩ := idxS_some hix
    have hiL := (List.getElem?_eq_some_iff.1 hbs).1
    have d0 : decide (((i : Nat) : Int) < 0) = false := by simp
    have h52 := p52 (ov := ov) T hA.cell hA.rw.first hA.rw.fails
    simp -implicitDefEqProofs only [fun35, code35, params, go_sem, reduceIte, Nat.reduceEqDiff, Nat.reduceAdd, Nat.reduceMul, Nat.reduceLT, Nat.reduceLeDiff, reduceCtorEq, Int.reduceEq, Int.reduceNeg, Nat.reduceSub, Int.reduceLT, Int.reduceLE, Int.reduceGT, Int.reduceGE, Int.reduceAdd, Int.reduceSub, Int.reduceToNat, Int.reduceBNe, Int.reduceBEq, Nat.mul_one, Nat.zero_mul, e51, posV, d0]
    refine WCall.mono h52 ?_
    rintro u s1 ⟨rfl, hn1, hc1, ho1⟩
    have hkq : Kept [q] s s1 := ⟨by omega, fun j _ hj => ho1 j (by simpa using hj)⟩
    have hA1 := hA.nums hkq hc1 (wF_range hA.rw.first) (wG_range (f := R.first) hA.rw.fails) hA.rw.next
    cases hb : wB R.first R.fails
    · simp -implicitDefEqProofs only [go_sem, reduceIte, Nat.reduceEqDiff, Nat.reduceAdd, Nat.reduceMul, Nat.reduceLT, Nat.reduceLeDiff, reduceCtorEq, Int.reduceEq, Int.reduceNeg, Nat.reduceSub, Int.reduceLT, Int.reduceLE, Int.reduceGT, Int.reduceGE, Int.reduceAdd, Int.reduceSub, Int.reduceToNat, Int.reduceBNe, Int.reduceBEq, Nat.mul_one, Nat.zero_mul, Bool.not_false]
      simp only [rDropE, rDropR, hix, hb, Option.isSome_some, if_true, Bool.false_eq_true, if_false]
      exact ⟨trivial, hkq.sub (fun x hx => by rw [List.mem_singleton.1 hx]; exact hA.qO), O, hA1.rep, fun x hx => .inl hx⟩
    · obtain ⟨v1, val1, upd1, nx1, v2, a2, n2, c2, upd2, nx2, S3, e1, e2, e3, e4, hR3, hk3, hS3, hold⟩ := app2 (t := 73) (b := 32) hA1.outer.toV (i := i) (j := i + 1) (by rw [hA.len]; omega) (by rw [hA.len]; omega) (fun n hn => big32 (by have := hA.rw.len; have := hA.len; omega))
      have hq1 := hA1.cell
      simp only at hq1
      have hqlt := hA1.lt q hA1.qO
      have hqx : (q = s1.next) = False := by simp; omega
      have hq2 : (applyUpd (s1.heap.put s1.next (some (.cells [] 73 2 false))) upd1).get q = _ := (hold q hqlt).trans hq1
      have hq3 : (applyUpd (applyUpd (s1.heap.put s1.next (some (.cells [] 73 2 false))) upd1) upd2).get q = _ := (hk3.2 q hqlt (by simp)).trans hq1
      have w1 : IntKind.i64.wrap ((i : Int) + 1) = ((i + 1 : Nat) : Int) := by rw [IntKind.wrap_i64]; have := hA.rw.len; omega
      have hlv := wrOf_rowV hA1.outer.toV
      have hw2 : wrOf (.slice (some ⟨s1.next, 0, none⟩) 0 0) = [s1.next] := rfl
      have z1 : disj [s1.next] (wrOf sv) = true := disj_of fun x hx y hy => by
        rw [List.mem_singleton.1 hx]
        have := hlv y hy
        omega
      have z2 : disj [s1.next] [q] = true := disj_of fun x hx y hy => by
        rw [List.mem_singleton.1 hx, List.mem_singleton.1 hy]; omega
      simp only [disj, ne_eq] at z1
      have z2 : ([s1.next].all fun x => decide ¬x = q) = true := by simp; omega
      simp -implicitDefEqProofs only [↓foot_append, ↓foot_slice, go_sem, reduceIte, Nat.reduceEqDiff, Nat.reduceAdd, Nat.reduceMul, Nat.reduceLT, Nat.reduceLeDiff, reduceCtorEq, Int.reduceEq, Int.reduceNeg, Nat.reduceSub, Int.reduceLT, Int.reduceLE, Int.reduceGT, Int.reduceGE, Int.reduceAdd, Int.reduceSub, Int.reduceToNat, Int.reduceBNe, Int.reduceBEq, Nat.mul_one, Nat.zero_mul, Bool.not_true, hq1, hqx, hq2, hq3, ev_buildSlice, fillL, e1, e2, w1, e3, e4]
      refine ⟨by simp only [hw2, z1, z2, all_tt, Bool.and_true], by simp only [rDropE, hix, hb, Option.isSome_some, if_true], ?_⟩
      obtain ⟨s8, hs8⟩ : ∃ s8 : St, s8 = ⟨(applyUpd (applyUpd (s1.heap.put s1.next (some (.cells [] 73 2 false))) upd1) upd2).put q (some (.cells [i64 R.most, .slice a2 n2 c2, i64 R.next, i64 (wF R.first), i64 (wG R.first R.fails)] 68 0 false)), nx2⟩ := ⟨_, rfl⟩
      rw [← hs8]
      have hk8 : Kept [q] ⟨applyUpd (applyUpd (s1.heap.put s1.next (some (.cells [] 73 2 false))) upd1) upd2, nx2⟩ s8 := by rw [hs8]; exact kept_put1 (Nat.le_refl _)
      have hk18 : Kept [q] s1 s8 := (hk3.sub (by simp)).trans hk8
      have hnx : s8.next = nx2 := by rw [hs8]
      have hO3 := RowsO.kept' hR3 hk8 (fun x hx => by simp only [List.mem_singleton]; have := hS3 x hx; omega)
      have hS3lt : ∀ x ∈ S3, x < nx2 := by
        intro x hx
        obtain ⟨_, ⟨_, _, hh⟩ | ⟨id', o', cap', c', _, hh, _, hlt, _⟩⟩ := hR3
        · rw [hh] at hx; cases hx
        · rw [hh] at hx; rw [List.mem_singleton.1 hx]; exact hlt
      have hlen : (R.segs.take i ++ R.segs.drop (i + 1)).length = R.segs.length - 1 := by simp only [List.length_append, List.length_take, List.length_drop]; omega
      have hlenr : (rows.take i ++ rows.drop (i + 1)).length = R.segs.length - 1 := by have := hA.len; simp only [List.length_append, List.length_take, List.length_drop]; omega
      have hnew := hA1.remap (fun j => some (if j < i then j else j + 1)) (n0 := 0) (segs' := R.segs.take i ++ R.segs.drop (i + 1)) (rows' := rows.take i ++ rows.drop (i + 1)) (sv' := .slice a2 n2 c2) (S' := S3) hk18 (by rw [hs8]; simp only [Heap.get_put, if_true, wR]) hO3 (by rw [hlen, hlenr]) (by rw [hlen]; have := hA.rw.len; omega)
        (fun j _ => by simp only [wR]; rw [get_del hiL]; split <;> rfl) (fun j _ => by simp only; rw [get_del (by rw [hA.len]; exact hiL)]; split <;> rfl)
        (fun i1 j1 k _ _ h1 h2 => by
          simp only [Option.some.injEq] at h1 h2
          split at h1 <;> split at h2 <;> omega) (fun x hx => ⟨hS3 x hx, by rw [hnx]; exact hS3lt x hx⟩)
      refine ⟨(hkq.trans hk18).sub (fun x hx => by rw [List.mem_singleton.1 hx]; exact hA.qO), O ++ S3, ?_, fun x hx => ?_⟩
      · simp only [rDropR, hix, hb, if_true]
        exact hnew.rep
      · rcases List.mem_append.1 hx with hx | hx
        · exact .inl hx
        · right; have := hS3 x hx; omega
end

end Go.Proofs.Ytgnpafmhdmmmhaa
