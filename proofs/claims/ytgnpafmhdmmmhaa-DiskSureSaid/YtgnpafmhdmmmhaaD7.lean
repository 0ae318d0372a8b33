/-
  DiskSure: the walk.
-/
import Derived.Test.YtgnpafmhdmmmhaaD6
set_option maxRecDepth 100000
set_option linter.unusedVariables false
set_option linter.unusedSimpArgs false
namespace Go.Abs
open Go
theorem toB_append (a b : List Int) : toB (a ++ b) = toB a ++ toB b := by
  apply bytes_ext
  simp [toB]
theorem toB_take (a : List Int) (n : Nat) : (toB a).extract 0 n = toB (a.take n) := by
  apply bytes_ext
  simp [toB, List.map_take]
theorem bin_addS {a b : ByteArray} (h : a.size + b.size < 2 ^ 62) : binV .add (.string a) (.string b) = some (.string (a ++ b)) := by
  simp only [binV]; rw [if_pos h]
theorem ev_sliceS {g : Nat → Option AObj} {nx n : Nat} {b : ByteArray} (h : n ≤ b.size) : evP g nx (.slice .string (.string b) none (some (.int .i64 (n : Nat))) none) = some ⟨.string (b.extract 0 n), [], nx⟩ := by
  have a1 : (n : Int) ≤ b.size := by omega
  simp [evP, boundsV, boundV, a1, h]
theorem IntsS.bytes {s : St} {v : Value} {bs : List Int} (h : IntsS .u8 s v bs) (hw : ∀ n ∈ bs, (Lit.int .u8 n).wf = true) : BytesV s v bs := by
  refine ⟨fun z hz => u8_of_wf (hw z hz), ?_⟩
  rcases h with h | ⟨id, o, cap, c, T, z, rfl, h1, h2, h3, h4, h5⟩
  · exact .inl h
  · exact .inr ⟨id, o, cap, c, T, z, true, rfl, h1, h2, h3, h5, .inl rfl, h4⟩
end Go.Abs
namespace Go.Proofs.Ytgnpafmhdmmmhaa
open Go Go.Abs Go.Abs.K

theorem sumW_append (L : List (Int × Int)) (w : Int × Int) (g : Int) : sumW (L ++ [w]) g = sumW L g + (if w.1 = g then w.2 else 0) := by
  induction L with
  | nil => simp [sumW]
  | cons v L ih => simp only [List.cons_append, sumW, ih]; omega

/-- A write that is done. -/
theorem LooseOK.append {F : List (Int × List Int)} {L : List (Int × Int)} {n : Int} {bs : List Int} (h : LooseOK F L) : LooseOK (putF F n ((lookF F n).getD [] ++ bs)) (L ++ [(n, (bs.length : Int))]) := by
  obtain ⟨h1, h2⟩ := h
  refine ⟨fun w hw => ?_, fun g b hb => ?_⟩
  · rw [lookF_put]
    rcases List.mem_append.1 hw with hw | hw
    · refine ⟨(h1 w hw).1, ?_⟩
      split
      · rfl
      · exact (h1 w hw).2
    · rw [List.mem_singleton.1 hw]
      exact ⟨by simp only; omega, by simp⟩
  · rw [lookF_put] at hb
    rw [sumW_append]
    by_cases hg : g = n
    · subst hg
      rw [if_pos rfl] at hb
      cases hb
      simp only [if_true, List.length_append]
      cases hl : lookF F g with
      | none =>
        have hz : ∀ (L : List (Int × Int)), (∀ w ∈ L, (lookF F w.1).isSome = true) → sumW L g = 0 := by
          intro L
          induction L with
          | nil => intro _; rfl
          | cons w L ih =>
            intro h
            have hne : w.1 ≠ g := fun e => by
              have := h w (List.mem_cons_self ..)
              rw [e, hl] at this; cases this
            simp only [sumW, if_neg hne, ih fun v hv => h v (List.mem_cons_of_mem _ hv)]
            rfl
        rw [hz L fun w hw => (h1 w hw).2]
        simp
      | some b' =>
        have := h2 g b' hl
        rw [Option.getD_some]; omega
    · rw [if_neg hg] at hb
      rw [if_neg (fun e => hg e.symm)]
      have := h2 g b hb
      omega

/-- What is lost of a segment to which alone was written. -/
theorem crash_one {g : Int} : ∀ {L : List (Int × Int)} {k : Int} {F : List (Int × List Int)} {A : List Int}, 0 ≤ k → LooseOK F L → (∀ w ∈ L, w.1 = g) → lookF F g = some A ∨ (L = [] ∧ A = (lookF F g).getD []) →
    (lookF (crashF L k F) g).getD [] = A.take (A.length - (max (sumW L g - k) 0).toNat) := by
  intro L
  induction L with
  | nil =>
    intro k F A hk _ _ h
    simp only [crashF, sumW]
    rw [show (max (0 - k) 0).toNat = 0 by omega, Nat.sub_zero, List.take_length]
    rcases h with h | h
    · rw [h]; rfl
    · exact h.2.symm
  | cons w L ih =>
    intro k F A hk hL hg h
    rcases h with h | h
    · have hw := hg w (List.mem_cons_self ..)
      obtain ⟨bs, hbs, hw0, hwl⟩ := hL.lost
      have hstep := hL.step hk
      rw [hw] at hbs hstep
      rw [h] at hbs
      cases hbs
      have hs := hL.2 g A h
      have hsum : sumW (w :: L) g = w.2 + sumW L g := by simp only [sumW, hw, if_true]
      have hnn := sumW_nonneg (fun v hv => (hL.1 v (List.mem_cons_of_mem _ hv)).1) g
      simp only [crashF, hw, h, Option.getD_some] at hstep ⊢
      rw [ih (by omega) hstep (fun v hv => hg v (List.mem_cons_of_mem _ hv)) (.inl (by rw [lookF_put, if_pos rfl]))]
      rw [List.take_take, List.length_take, hsum]
      congr 1
      omega
    · cases h.1

theorem p26 {tbl : FuncId → Option AFun} {ov : CallSem} {s : St} (T : DTbl tbl) (ho : OvOK ov) (K : Value → St → Prop) : WCall (fun k => call tbl ov k) 26 [] s K = K (.bool true) s :=
  WCall.eq (WCall.ov T.t26 (r := (.bool true, s)) (ho.awake s) ⟨rfl, rfl⟩) K

section
variable {tbl : FuncId → Option AFun} {ov : CallSem} {s : St} (T : DTbl tbl)
include T

set_option maxHeartbeats 2000000 in
theorem law7 (t7 : tbl 7 = some fun7) (ho : OvOK ov) {av : Value} {M : List (List Int)} {rows : List (List Value)} (hr : RowV 1 s av rows) (hM : All2 (fun bs row => All2 (CellS s) [.ints .u8 bs] row) M rows) {sync keep : Int} (hs : 0 ≤ sync ∧ sync ≤ 255) (hk : W64 keep) :
    WCall (fun k => call tbl ov k) 7 [av, .int .u8 sync, i64 keep] s fun u _ => u = .bool true := by
  refine WCall.of t7 rfl ?_
  have e26 := fun (s : St) K => p26 (s := s) T ho K
  have h25 := p25 (ov := ov) (s := s) T (n := 16) (by unfold W64; omega)
  obtain ⟨aa, ac, hav⟩ := hr.len
  subst hav
  have hkk := hk
  unfold W64 at hkk
  simp -implicitDefEqProofs only [fun7, code7, params, go_sem, reduceIte, Nat.reduceEqDiff, Nat.reduceAdd, Nat.reduceMul, Nat.reduceLT, Nat.reduceLeDiff, reduceCtorEq, Int.reduceEq, Int.reduceNeg, Nat.reduceSub, Int.reduceLT, Int.reduceLE, Int.reduceGT, Int.reduceGE, Int.reduceAdd, Int.reduceSub, Int.reduceToNat, Int.reduceBNe, Int.reduceBEq, Nat.mul_one, Nat.zero_mul]
  refine WCall.mono h25 ?_
  rintro u s1 ⟨rfl, hR1, hk1⟩
  have hn1 := hk1.1
  obtain ⟨p, hp⟩ : ∃ p, p = s.next + 1 := ⟨_, rfl⟩
  rw [← hp] at hR1
  simp -implicitDefEqProofs only [go_sem, reduceIte, Nat.reduceEqDiff, Nat.reduceAdd, Nat.reduceMul, Nat.reduceLT, Nat.reduceLeDiff, reduceCtorEq, Int.reduceEq, Int.reduceNeg, Nat.reduceSub, Int.reduceLT, Int.reduceLE, Int.reduceGT, Int.reduceGE, Int.reduceAdd, Int.reduceSub, Int.reduceToNat, Int.reduceBNe, Int.reduceBEq, Nat.mul_one, Nat.zero_mul, ← hp]
  obtain ⟨I, hI⟩ : ∃ I : Nat → List Value → St → Prop, I = fun j vs s' => Kept [] s s' ∧ ∃ i D O V A m, i ≤ rows.length ∧ i ≤ 12 ∧ j = rows.length - i ∧ vs = [.slice aa rows.length ac, .int .u8 sync, i64 keep, ptr p, .string (toB (A.take m)), .string (toB A), i64 (i : Nat)] ∧
    DRep s' p D O V ∧ D.most = 16 ∧ D.first = 0 ∧ D.fails = 0 ∧ readB D 7 = A ∧ D.F.length ≤ 1 ∧ (∀ w ∈ D.F, w.1 = 7) ∧ LooseOK D.F D.loose ∧ (∀ w ∈ D.loose, w.1 = 7) ∧ sumW D.loose 7 = (A.length : Int) - m ∧ m ≤ A.length ∧ A.length ≤ 100 * i ∧ D.loose.length ≤ i ∧ (∀ z ∈ A, 0 ≤ z ∧ z ≤ 255) ∧ (∀ x ∈ O, s.next ≤ x) ∧ (∀ x ∈ V, s.next ≤ x) := ⟨_, rfl⟩
  refine wc_loopV I rows.length ?_ ?_
  · simp -implicitDefEqProofs only [go_sem, reduceIte, Nat.reduceEqDiff, Nat.reduceAdd, Nat.reduceMul, Nat.reduceLT, Nat.reduceLeDiff, reduceCtorEq, Int.reduceEq, Int.reduceNeg, Nat.reduceSub, Int.reduceLT, Int.reduceLE, Int.reduceGT, Int.reduceGE, Int.reduceAdd, Int.reduceSub, Int.reduceToNat, Int.reduceBNe, Int.reduceBEq, Nat.mul_one, Nat.zero_mul]
    rw [hI]
    exact ⟨hk1, 0, _, _, _, [], 0, by omega, by omega, by omega, rfl, hR1, rfl, rfl, rfl, rfl, by simp, by simp, ⟨by simp, by intro g bs h; cases h⟩, by simp, rfl, by simp, by simp, by simp, by simp, fun x hx => by simp only [List.mem_cons, List.not_mem_nil, or_false] at hx; omega, by simp⟩
  · intro j vs s2 hi _
    rw [hI] at hi
    obtain ⟨hk2, i, D, O, V, A, m, hil, hi12, rfl, rfl, hR, hm, hf, hg, hA, hF1, hF7, hL, hL7, hsum, hmA, hA100, hl, hAr, hO, hV⟩ := hi
    have hnn := hk2.1
    have stop : (decide ((i : Int) < (rows.length : Int)) = false ∨ (decide ((i : Int) < (rows.length : Int)) = true ∧ decide ((i : Int) < 12) = false)) ∨ (decide ((i : Int) < (rows.length : Int)) = true ∧ decide ((i : Int) < 12) = true) := by
      cases decide ((i : Int) < (rows.length : Int)) <;> cases decide ((i : Int) < 12) <;> simp
    rcases stop with stop | ⟨d1, d2⟩
    · -- the end
      have h29 := p29 (ov := ov) T hR hk hL (by omega)
      have tail : ∀ s3 O', DRep s3 p ⟨D.most, 0, 0, crashF D.loose (max keep 0) D.F, []⟩ O' V → ∀ (K : Value → St → Prop), (∀ v s', BytesV s' v (A.take (A.length - (max (sumW D.loose 7 - max keep 0) 0).toNat)) → ∀ e, K (.tuple #[v, i64 e]) s') → WCall (fun k => call tbl ov k) 30 [ptr p, i64 7] s3 K := by
        intro s3 O' hR3 K hK
        refine WCall.mono (p30 (ov := ov) (n := 7) T hR3) ?_
        rintro u s4 ⟨v, rfl, hv, _⟩
        refine hK v s4 ?_ _
        have := crash_one (g := 7) (k := max keep 0) (A := A) (by omega) hL hL7 (by
          cases hx : lookF D.F 7 with
          | none =>
            right
            refine ⟨?_, by rw [← hA]; unfold readB; rw [hx]⟩
            cases hy : D.loose with
            | nil => rfl
            | cons w L =>
              have := (hL.1 w (by rw [hy]; exact List.mem_cons_self ..)).2
              rw [hL7 w (by rw [hy]; exact List.mem_cons_self ..), hx] at this
              cases this
          | some b =>
            left
            unfold readB at hA
            rw [hx] at hA
            rw [← hA]; rfl)
        rw [← this]; exact hv
      have sz1 : (toB (A.take m)).size = m := by rw [toB_size, List.length_take]; omega
      have sz2 : (toB A).size = A.length := toB_size A
      have w1 : IntKind.i64.wrap ((A.length : Int) - (m : Int)) = (A.length : Int) - (m : Int) := by rw [IntKind.wrap_i64]; omega
      obtain ⟨X, hX⟩ : ∃ X, X = A.length - (max (sumW D.loose 7 - max keep 0) 0).toNat := ⟨_, rfl⟩
      rw [← hX] at tail
      have hend : ∀ n : Nat, n = X → evP s2.heap.get s2.next (.slice .string (.string (toB A)) none (some (i64 (n : Nat))) none) = some ⟨.string (toB (A.take X)), [], s2.next⟩ ∧ n ≤ A.length := fun n hn => by
        have hle : n ≤ A.length := by omega
        refine ⟨?_, hle⟩
        rw [ev_sliceS (by rw [sz2]; exact hle), toB_take, hn]
      have hends : ∀ (s4 : St) (n : Nat), n = X → evP s4.heap.get s4.next (.slice .string (.string (toB A)) none (some (i64 (n : Nat))) none) = some ⟨.string (toB (A.take X)), [], s4.next⟩ := fun s4 n hn => by
        rw [ev_sliceS (by rw [sz2]; omega), toB_take, hn]
      have dX : decide (toB (A.take X) = toB (A.take X)) = true := by simp
      have front : ∀ (R : Value → St → Prop), (∀ s3 O', DRep s3 p ⟨D.most, 0, 0, crashF D.loose (max keep 0) D.F, []⟩ O' V → R (.tuple #[]) s3) → WCall (fun k => call tbl ov k) 29 [ptr p, i64 keep] s2 R := fun R hR' =>
        WCall.mono h29 (by rintro u s3 ⟨rfl, _, O', hR3, _⟩; exact hR' s3 O' hR3)
      by_cases hneg : keep < 0
      · have dk : decide (keep < 0) = true := by simpa using hneg
        by_cases hlt : (0 : Int) < (A.length : Int) - (m : Int)
        · have dl : decide ((0 : Int) < (A.length : Int) - (m : Int)) = true := by simpa using hlt
          have w2 : IntKind.i64.wrap ((m : Int) + 0) = ((m : Nat) : Int) := by rw [IntKind.wrap_i64]; omega
          have hs4 := fun s4 => hends s4 m (by omega)
          rcases stop with d1 | ⟨d1, d2⟩
          all_goals first
            | simp -implicitDefEqProofs only [go_sem, reduceIte, Nat.reduceEqDiff, Nat.reduceAdd, Nat.reduceMul, Nat.reduceLT, Nat.reduceLeDiff, reduceCtorEq, Int.reduceEq, Int.reduceNeg, Nat.reduceSub, Int.reduceLT, Int.reduceLE, Int.reduceGT, Int.reduceGE, Int.reduceAdd, Int.reduceSub, Int.reduceToNat, Int.reduceBNe, Int.reduceBEq, Nat.mul_one, Nat.zero_mul, d1, d2]
            | simp -implicitDefEqProofs only [go_sem, reduceIte, Nat.reduceEqDiff, Nat.reduceAdd, Nat.reduceMul, Nat.reduceLT, Nat.reduceLeDiff, reduceCtorEq, Int.reduceEq, Int.reduceNeg, Nat.reduceSub, Int.reduceLT, Int.reduceLE, Int.reduceGT, Int.reduceGE, Int.reduceAdd, Int.reduceSub, Int.reduceToNat, Int.reduceBNe, Int.reduceBEq, Nat.mul_one, Nat.zero_mul, d1]
          all_goals refine front _ fun s3 O' hR3 => ?_
          all_goals simp -implicitDefEqProofs only [go_sem, reduceIte, Nat.reduceEqDiff, Nat.reduceAdd, Nat.reduceMul, Nat.reduceLT, Nat.reduceLeDiff, reduceCtorEq, Int.reduceEq, Int.reduceNeg, Nat.reduceSub, Int.reduceLT, Int.reduceLE, Int.reduceGT, Int.reduceGE, Int.reduceAdd, Int.reduceSub, Int.reduceToNat, Int.reduceBNe, Int.reduceBEq, Nat.mul_one, Nat.zero_mul]
          all_goals refine tail s3 O' hR3 _ fun v s4 hv e => ?_
          all_goals have hT := ev_toString hv
          all_goals simp -implicitDefEqProofs only [go_sem, reduceIte, Nat.reduceEqDiff, Nat.reduceAdd, Nat.reduceMul, Nat.reduceLT, Nat.reduceLeDiff, reduceCtorEq, Int.reduceEq, Int.reduceNeg, Nat.reduceSub, Int.reduceLT, Int.reduceLE, Int.reduceGT, Int.reduceGE, Int.reduceAdd, Int.reduceSub, Int.reduceToNat, Int.reduceBNe, Int.reduceBEq, Nat.mul_one, Nat.zero_mul, dk, sz1, sz2, w1, dl, w2, e26, hT, hs4, bin_eqlS, dX]
        · have dl : decide ((0 : Int) < (A.length : Int) - (m : Int)) = false := by simpa using hlt
          have hs4 := fun s4 => hends s4 A.length (by omega)
          rcases stop with d1 | ⟨d1, d2⟩
          all_goals first
            | simp -implicitDefEqProofs only [go_sem, reduceIte, Nat.reduceEqDiff, Nat.reduceAdd, Nat.reduceMul, Nat.reduceLT, Nat.reduceLeDiff, reduceCtorEq, Int.reduceEq, Int.reduceNeg, Nat.reduceSub, Int.reduceLT, Int.reduceLE, Int.reduceGT, Int.reduceGE, Int.reduceAdd, Int.reduceSub, Int.reduceToNat, Int.reduceBNe, Int.reduceBEq, Nat.mul_one, Nat.zero_mul, d1, d2]
            | simp -implicitDefEqProofs only [go_sem, reduceIte, Nat.reduceEqDiff, Nat.reduceAdd, Nat.reduceMul, Nat.reduceLT, Nat.reduceLeDiff, reduceCtorEq, Int.reduceEq, Int.reduceNeg, Nat.reduceSub, Int.reduceLT, Int.reduceLE, Int.reduceGT, Int.reduceGE, Int.reduceAdd, Int.reduceSub, Int.reduceToNat, Int.reduceBNe, Int.reduceBEq, Nat.mul_one, Nat.zero_mul, d1]
          all_goals refine front _ fun s3 O' hR3 => ?_
          all_goals simp -implicitDefEqProofs only [go_sem, reduceIte, Nat.reduceEqDiff, Nat.reduceAdd, Nat.reduceMul, Nat.reduceLT, Nat.reduceLeDiff, reduceCtorEq, Int.reduceEq, Int.reduceNeg, Nat.reduceSub, Int.reduceLT, Int.reduceLE, Int.reduceGT, Int.reduceGE, Int.reduceAdd, Int.reduceSub, Int.reduceToNat, Int.reduceBNe, Int.reduceBEq, Nat.mul_one, Nat.zero_mul]
          all_goals refine tail s3 O' hR3 _ fun v s4 hv e => ?_
          all_goals have hT := ev_toString hv
          all_goals simp -implicitDefEqProofs only [go_sem, reduceIte, Nat.reduceEqDiff, Nat.reduceAdd, Nat.reduceMul, Nat.reduceLT, Nat.reduceLeDiff, reduceCtorEq, Int.reduceEq, Int.reduceNeg, Nat.reduceSub, Int.reduceLT, Int.reduceLE, Int.reduceGT, Int.reduceGE, Int.reduceAdd, Int.reduceSub, Int.reduceToNat, Int.reduceBNe, Int.reduceBEq, Nat.mul_one, Nat.zero_mul, dk, sz1, sz2, w1, dl, e26, hT, hs4, bin_eqlS, dX]
      · have dk : decide (keep < 0) = false := by simpa using hneg
        by_cases hlt : keep < (A.length : Int) - (m : Int)
        · have dl : decide (keep < (A.length : Int) - (m : Int)) = true := by simpa using hlt
          obtain ⟨n, hn⟩ : ∃ n, n = m + keep.toNat := ⟨_, rfl⟩
          have w2 : IntKind.i64.wrap ((m : Int) + keep) = ((n : Nat) : Int) := by rw [IntKind.wrap_i64]; omega
          have hs4 := fun s4 => hends s4 n (by omega)
          rcases stop with d1 | ⟨d1, d2⟩
          all_goals first
            | simp -implicitDefEqProofs only [go_sem, reduceIte, Nat.reduceEqDiff, Nat.reduceAdd, Nat.reduceMul, Nat.reduceLT, Nat.reduceLeDiff, reduceCtorEq, Int.reduceEq, Int.reduceNeg, Nat.reduceSub, Int.reduceLT, Int.reduceLE, Int.reduceGT, Int.reduceGE, Int.reduceAdd, Int.reduceSub, Int.reduceToNat, Int.reduceBNe, Int.reduceBEq, Nat.mul_one, Nat.zero_mul, d1, d2]
            | simp -implicitDefEqProofs only [go_sem, reduceIte, Nat.reduceEqDiff, Nat.reduceAdd, Nat.reduceMul, Nat.reduceLT, Nat.reduceLeDiff, reduceCtorEq, Int.reduceEq, Int.reduceNeg, Nat.reduceSub, Int.reduceLT, Int.reduceLE, Int.reduceGT, Int.reduceGE, Int.reduceAdd, Int.reduceSub, Int.reduceToNat, Int.reduceBNe, Int.reduceBEq, Nat.mul_one, Nat.zero_mul, d1]
          all_goals refine front _ fun s3 O' hR3 => ?_
          all_goals simp -implicitDefEqProofs only [go_sem, reduceIte, Nat.reduceEqDiff, Nat.reduceAdd, Nat.reduceMul, Nat.reduceLT, Nat.reduceLeDiff, reduceCtorEq, Int.reduceEq, Int.reduceNeg, Nat.reduceSub, Int.reduceLT, Int.reduceLE, Int.reduceGT, Int.reduceGE, Int.reduceAdd, Int.reduceSub, Int.reduceToNat, Int.reduceBNe, Int.reduceBEq, Nat.mul_one, Nat.zero_mul]
          all_goals refine tail s3 O' hR3 _ fun v s4 hv e => ?_
          all_goals have hT := ev_toString hv
          all_goals simp -implicitDefEqProofs only [go_sem, reduceIte, Nat.reduceEqDiff, Nat.reduceAdd, Nat.reduceMul, Nat.reduceLT, Nat.reduceLeDiff, reduceCtorEq, Int.reduceEq, Int.reduceNeg, Nat.reduceSub, Int.reduceLT, Int.reduceLE, Int.reduceGT, Int.reduceGE, Int.reduceAdd, Int.reduceSub, Int.reduceToNat, Int.reduceBNe, Int.reduceBEq, Nat.mul_one, Nat.zero_mul, dk, sz1, sz2, w1, dl, w2, e26, hT, hs4, bin_eqlS, dX]
        · have dl : decide (keep < (A.length : Int) - (m : Int)) = false := by simpa using hlt
          have hs4 := fun s4 => hends s4 A.length (by omega)
          rcases stop with d1 | ⟨d1, d2⟩
          all_goals first
            | simp -implicitDefEqProofs only [go_sem, reduceIte, Nat.reduceEqDiff, Nat.reduceAdd, Nat.reduceMul, Nat.reduceLT, Nat.reduceLeDiff, reduceCtorEq, Int.reduceEq, Int.reduceNeg, Nat.reduceSub, Int.reduceLT, Int.reduceLE, Int.reduceGT, Int.reduceGE, Int.reduceAdd, Int.reduceSub, Int.reduceToNat, Int.reduceBNe, Int.reduceBEq, Nat.mul_one, Nat.zero_mul, d1, d2]
            | simp -implicitDefEqProofs only [go_sem, reduceIte, Nat.reduceEqDiff, Nat.reduceAdd, Nat.reduceMul, Nat.reduceLT, Nat.reduceLeDiff, reduceCtorEq, Int.reduceEq, Int.reduceNeg, Nat.reduceSub, Int.reduceLT, Int.reduceLE, Int.reduceGT, Int.reduceGE, Int.reduceAdd, Int.reduceSub, Int.reduceToNat, Int.reduceBNe, Int.reduceBEq, Nat.mul_one, Nat.zero_mul, d1]
          all_goals refine front _ fun s3 O' hR3 => ?_
          all_goals simp -implicitDefEqProofs only [go_sem, reduceIte, Nat.reduceEqDiff, Nat.reduceAdd, Nat.reduceMul, Nat.reduceLT, Nat.reduceLeDiff, reduceCtorEq, Int.reduceEq, Int.reduceNeg, Nat.reduceSub, Int.reduceLT, Int.reduceLE, Int.reduceGT, Int.reduceGE, Int.reduceAdd, Int.reduceSub, Int.reduceToNat, Int.reduceBNe, Int.reduceBEq, Nat.mul_one, Nat.zero_mul]
          all_goals refine tail s3 O' hR3 _ fun v s4 hv e => ?_
          all_goals have hT := ev_toString hv
          all_goals simp -implicitDefEqProofs only [go_sem, reduceIte, Nat.reduceEqDiff, Nat.reduceAdd, Nat.reduceMul, Nat.reduceLT, Nat.reduceLeDiff, reduceCtorEq, Int.reduceEq, Int.reduceNeg, Nat.reduceSub, Int.reduceLT, Int.reduceLE, Int.reduceGT, Int.reduceGE, Int.reduceAdd, Int.reduceSub, Int.reduceToNat, Int.reduceBNe, Int.reduceBEq, Nat.mul_one, Nat.zero_mul, dk, sz1, sz2, w1, dl, e26, hT, hs4, bin_eqlS, dX]
    · -- one more
      have hiN : i < rows.length := by have := of_decide_eq_true d1; omega
      have hi12 : i < 12 := by have := of_decide_eq_true d2; omega
      have hiM : i < M.length := by rw [hM.len]; exact hiN
      obtain ⟨bs, hbs⟩ : ∃ bs, bs = M[i] := ⟨_, rfl⟩
      have hrow := hM.get (List.getElem?_eq_getElem hiM) (List.getElem?_eq_getElem hiN)
      rw [← hbs] at hrow
      obtain ⟨bv, hrow2, hbv⟩ : ∃ bv, rows[i] = [bv] ∧ BytesV s bv bs := by
        generalize rows[i] = row at hrow
        cases hrow with
        | cons h1 h2 =>
          cases h2
          exact ⟨_, rfl, h1.1.bytes h1.2⟩
      obtain ⟨id, o, cap, c, T', ro, hv, hid, hgs, hle, _, hc⟩ := row_read hr hiN
      have hc0 := hc 0 Nat.zero_lt_one
      rw [List.getD_eq_getElem?_getD, List.getElem?_eq_getElem hiN, Option.getD_some, hrow2] at hc0
      simp only [Nat.mul_one, Nat.add_zero, List.getElem?_cons_zero] at hc0
      cases hv
      have hg2 : s2.heap.get id = some (.cells c T' 1 ro) := by rw [hk2.2 id hid (by simp)]; exact hgs
      have hix : 0 ≤ (i : Int) ∧ (i : Int) < (rows.length : Int) := by omega
      obtain ⟨ba, bc, hbe⟩ := hbv.len
      subst hbe
      by_cases hbig : (bs.length : Int) > 100
      · have d3 : decide ((bs.length : Int) > 100) = true := by simpa using hbig
        simp -implicitDefEqProofs only [go_sem, reduceIte, Nat.reduceEqDiff, Nat.reduceAdd, Nat.reduceMul, Nat.reduceLT, Nat.reduceLeDiff, reduceCtorEq, Int.reduceEq, Int.reduceNeg, Nat.reduceSub, Int.reduceLT, Int.reduceLE, Int.reduceGT, Int.reduceGE, Int.reduceAdd, Int.reduceSub, Int.reduceToNat, Int.reduceBNe, Int.reduceBEq, Nat.mul_one, Nat.zero_mul, d1, d2, hix, hg2, hc0, d3, e26]
      · have d3 : decide ((bs.length : Int) > 100) = false := by simpa using hbig
        have hbl : bs.length ≤ 100 := by omega
        have hfull : fullD D 7 bs.length = false := by
          simp only [fullD, Bool.or_eq_false_iff, Bool.and_eq_false_iff, decide_eq_false_iff_not, hA, hm]
          exact ⟨.inr (by omega), by omega⟩
        have hwB : wB D.first D.fails = true := by rw [hf, hg]; rfl
        have h27 := p27 (ov := ov) T hR (hbv.kept hk2) (fun x o l c e => by
          have := hbv
          obtain ⟨_, ⟨hx, _⟩ | ⟨id', o', cap', c', t', sz', ro', hx, _, hx3, _⟩⟩ := this
          · rw [hx] at e; cases e
          · rw [hx] at e; cases e
            intro hxO
            have := hO _ hxO
            omega) (n := 7) (by unfold W64; omega) (by omega)
        have hE : appE D 7 bs.length = 0 := by simp only [appE, hfull, hwB]; rfl
        have hD : appD D 7 bs = { wD D with F := putF D.F 7 (A ++ bs), loose := D.loose ++ [(7, (bs.length : Int))] } := by simp only [appD, hfull, hwB, hA]; rfl
        rw [hE, hD] at h27
        have hn0 : ((0 : Int) != 0) = false := rfl
        simp -implicitDefEqProofs only [go_sem, reduceIte, Nat.reduceEqDiff, Nat.reduceAdd, Nat.reduceMul, Nat.reduceLT, Nat.reduceLeDiff, reduceCtorEq, Int.reduceEq, Int.reduceNeg, Nat.reduceSub, Int.reduceLT, Int.reduceLE, Int.reduceGT, Int.reduceGE, Int.reduceAdd, Int.reduceSub, Int.reduceToNat, Int.reduceBNe, Int.reduceBEq, Nat.mul_one, Nat.zero_mul, d1, d2, hix, hg2, hc0, d3]
        refine WCall.mono h27 ?_
        rintro u s3 ⟨rfl, hk3, O', V', hR3, hO', hV'⟩
        have hks3 : Kept [] s s3 := hk2.comp hk3 (fun x hx => .inr (hO x hx))
        have hg3 : s3.heap.get id = some (.cells c T' 1 ro) := by rw [hks3.2 id hid (by simp)]; exact hgs
        have hT := ev_toString (hbv.kept hks3)
        have hadd : binV .add (.string (toB A)) (.string (toB bs)) = some (.string (toB (A ++ bs))) := by
          rw [bin_addS (by rw [toB_size, toB_size]; omega), toB_append]
        have hrem : binV .rem (i64 sync) (i64 12) = some (i64 (sync.tmod 12)) := by simp [binV]
        have hws : IntKind.i64.wrap sync = sync := by rw [IntKind.wrap_i64]; omega
        have w4 : IntKind.i64.wrap ((i : Int) + 1) = ((i + 1 : Nat) : Int) := by rw [IntKind.wrap_i64]; omega
        have hF0 : (lookF D.F 7).isSome = false → D.F = [] := fun h => by
          cases hF : D.F with
          | nil => rfl
          | cons q F =>
            have h1 := hF7 q (by rw [hF]; exact List.mem_cons_self ..)
            rw [hF] at h
            simp only [lookF, h1, if_true] at h
            cases h
        have hF1' : (putF D.F 7 (A ++ bs)).length ≤ 1 := by
          rw [putF_len]
          split
          · exact hF1
          · rename_i hx
            rw [hF0 (by simpa using hx)]
            simp
        have hF7' : ∀ w ∈ putF D.F 7 (A ++ bs), w.1 = 7 := fun w hw => by
          rcases putF_mem hw with hw | rfl
          · exact hF7 w hw
          · rfl
        have hL' : LooseOK (putF D.F 7 (A ++ bs)) (D.loose ++ [(7, (bs.length : Int))]) := by
          have := hL.append (n := 7) (bs := bs)
          unfold readB at hA
          rw [hA] at this
          exact this
        have hlk : lookF (putF D.F 7 (A ++ bs)) 7 = some (A ++ bs) := by rw [lookF_put, if_pos rfl]
        have hrange : ∀ z ∈ A ++ bs, 0 ≤ z ∧ z ≤ 255 := fun z hz => by
          rcases List.mem_append.1 hz with hz | hz
          · exact hAr z hz
          · exact hbv.1 z hz
        have htk : (A ++ bs).take m = A.take m := List.take_append_of_le_length hmA
        have hOO : ∀ x ∈ O', s.next ≤ x := fun x hx => (hO' x hx).elim (hO x) fun h => by omega
        have hVV : ∀ x ∈ V', s.next ≤ x := fun x hx => (hV' x hx).elim (hV x) fun h => by omega
        cases hsy : ((i : Int) == sync.tmod 12)
        · have hfin : ∃ m', m' < rows.length - i ∧ I m' [.slice (some ⟨id, o, none⟩) rows.length ac, .int .u8 sync, i64 keep, ptr p, .string (toB (A.take m)), .string (toB (A ++ bs)), i64 ((i + 1 : Nat) : Int)] s3 := by
            refine ⟨rows.length - (i + 1), by omega, ?_⟩
            rw [hI]
            refine ⟨hks3, i + 1, _, O', V', A ++ bs, m, by omega, by omega, rfl, by rw [htk], hR3, hm, by simp only [wD, hf]; rfl, by simp only [wD, hf, hg]; rfl, by unfold readB; simp only [hlk, Option.getD_some], hF1', hF7', hL', fun w hw => ?_, ?_, by rw [List.length_append]; omega, by rw [List.length_append]; omega, by simp only [List.length_append, List.length_cons, List.length_nil]; omega, hrange, hOO, hVV⟩
            · rcases List.mem_append.1 hw with hw | hw
              · exact hL7 w hw
              · rw [List.mem_singleton.1 hw]
            · simp only [sumW_append, hsum, if_true, List.length_append]; omega
          simp -implicitDefEqProofs only [go_sem, reduceIte, Nat.reduceEqDiff, Nat.reduceAdd, Nat.reduceMul, Nat.reduceLT, Nat.reduceLeDiff, reduceCtorEq, Int.reduceEq, Int.reduceNeg, Nat.reduceSub, Int.reduceLT, Int.reduceLE, Int.reduceGT, Int.reduceGE, Int.reduceAdd, Int.reduceSub, Int.reduceToNat, Int.reduceBNe, Int.reduceBEq, Nat.mul_one, Nat.zero_mul, hn0, hix, hg3, hc0, hT, hadd, hws, hrem, hsy, w4]
          exact hfin
        · have h28 := p28 (ov := ov) T hR3
          have hw2 : wB (wD D).first (wD D).fails = true := by simp only [wD, hf, hg]; rfl
          rw [hw2] at h28
          simp only [if_true] at h28
          simp -implicitDefEqProofs only [go_sem, reduceIte, Nat.reduceEqDiff, Nat.reduceAdd, Nat.reduceMul, Nat.reduceLT, Nat.reduceLeDiff, reduceCtorEq, Int.reduceEq, Int.reduceNeg, Nat.reduceSub, Int.reduceLT, Int.reduceLE, Int.reduceGT, Int.reduceGE, Int.reduceAdd, Int.reduceSub, Int.reduceToNat, Int.reduceBNe, Int.reduceBEq, Nat.mul_one, Nat.zero_mul, hn0, hix, hg3, hc0, hT, hadd, hws, hrem, hsy]
          refine WCall.mono h28 ?_
          rintro u s4 ⟨rfl, hk4, O4, hR4, hO4⟩
          have hks4 : Kept [] s s4 := hks3.comp hk4 (fun x hx => .inr (hOO x hx))
          have hfin : ∃ m', m' < rows.length - i ∧ I m' [.slice (some ⟨id, o, none⟩) rows.length ac, .int .u8 sync, i64 keep, ptr p, .string (toB (A ++ bs)), .string (toB (A ++ bs)), i64 ((i + 1 : Nat) : Int)] s4 := by
            refine ⟨rows.length - (i + 1), by omega, ?_⟩
            rw [hI]
            refine ⟨hks4, i + 1, _, O4, V', A ++ bs, (A ++ bs).length, by omega, by omega, rfl, by rw [List.take_length], hR4, hm, by simp only [wD, hf]; rfl, by simp only [wD, hf, hg]; rfl, by unfold readB; simp only [wD, hlk, Option.getD_some], hF1', hF7', ⟨by simp, fun g b hb => by simp only [sumW]; omega⟩, by simp, by simp only [sumW]; omega, Nat.le_refl _, by rw [List.length_append]; omega, by simp, hrange, fun x hx => hOO x (hO4 x hx), hVV⟩
          simp -implicitDefEqProofs only [go_sem, reduceIte, Nat.reduceEqDiff, Nat.reduceAdd, Nat.reduceMul, Nat.reduceLT, Nat.reduceLeDiff, reduceCtorEq, Int.reduceEq, Int.reduceNeg, Nat.reduceSub, Int.reduceLT, Int.reduceLE, Int.reduceGT, Int.reduceGE, Int.reduceAdd, Int.reduceSub, Int.reduceToNat, Int.reduceBNe, Int.reduceBEq, Nat.mul_one, Nat.zero_mul, hn0, w4]
          exact hfin
end

end Go.Proofs.Ytgnpafmhdmmmhaa
