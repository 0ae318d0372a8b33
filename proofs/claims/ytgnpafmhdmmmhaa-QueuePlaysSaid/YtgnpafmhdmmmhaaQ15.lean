/-
  QueuePlays, as a walk.
-/
import Derived.Test.YtgnpafmhdmmmhaaQ14
set_option maxRecDepth 100000
set_option linter.unusedVariables false
set_option linter.unusedSimpArgs false
namespace Go.Proofs.Ytgnpafmhdmmmhaa
open Go Go.Abs Go.Abs.K

theorem PR.add {s0 s s2 : St} {q : Nat} {most : Int} {L : List QReq} {lv : Value} {ab : Nat} (hP : PR s0 s q most L lv []) (hk : Kept [] s s2) (h1 : s.next ≤ ab) (h2 : ab < s2.next) : PR s0 s2 q most L lv [ab] := by
  obtain ⟨S, SL, hR, hLv, hS, hSL⟩ := hP.rep
  have hq := hR.lt
  refine ⟨⟨S, SL, hR.kept hk (by simp) (by simp), hLv.kept hk (by simp), fun x hx => ⟨(hS x hx).1, ?_⟩, fun x hx => ⟨(hSL x hx).1, (hSL x hx).2.1, (hSL x hx).2.2.1, ?_⟩⟩, hP.sorted, hP.uniq, hP.q0, ?_, fun x hx => by rw [List.mem_singleton.1 hx]; exact h2, hP.kept.trans hk⟩
  · have := hq.2 x hx; simp only [List.mem_singleton]; omega
  · have := hLv.lt x hx; simp only [List.mem_singleton]; omega
  · simp only [List.mem_singleton]; omega

theorem wrOf_lt {s s2 : St} {n id o cap : Nat} {cs : List (List Value)} (h : RowV 7 s (.slice (some ⟨id, o, none⟩) n cap) cs) (hk : Kept [] s s2) : id < s2.next := by
  obtain ⟨_, ⟨h1, _⟩ | ⟨id', o', cap', c', T, ro, h1, _, h2, _⟩⟩ := h
  · cases h1
  · simp only [Value.slice.injEq, Option.some.injEq, Addr.mk.injEq] at h1
    have := h1.1.1
    have := hk.1
    omega

def aG (A : List QAct) (i : Nat) : QAct := A.getD i ⟨0, 0, ⟨0, ⟨#[]⟩, ⟨#[]⟩, 0, 0⟩⟩

theorem act_read {s : St} {pv : Value} {A : List QAct} (h : RowV 7 s pv (A.map QAct.cells)) {i : Nat} (hi : i < A.length) :
    ∃ id o cap c T ro, pv = .slice (some ⟨id, o, none⟩) A.length cap ∧ s.heap.get id = some (.cells c T 7 ro) ∧ o + i * 7 + 7 ≤ c.length ∧ (c.drop (o + i * 7)).take 7 = (aG A i).cells := by
  obtain ⟨id, o, cap, c, T, ro, rfl, h1, h2, h3, h4⟩ := h.at (i := i) (by simpa using hi)
  have hg : (A.map QAct.cells).getD i [] = (aG A i).cells := by
    unfold aG
    rw [List.getD_eq_getElem?_getD, List.getElem?_map, List.getD_eq_getElem?_getD, List.getElem?_eq_getElem hi]; rfl
  rw [hg] at h3
  exact ⟨id, o, cap, c, T, ro, by rw [List.length_map], h1, h2, h3⟩

section
variable {tbl : FuncId → Option AFun} {ov : CallSem} {s0 : St} (T : QTbl tbl)
include T

theorem law4 (ho : OvOK ov) (h4 : tbl 4 = some fun4) {pv : Value} {A : List QAct} {most : Int} (hA : RowV 7 s0 pv (A.map QAct.cells)) :
    WCall (fun k => call tbl ov k) 4 [i64 most, pv] s0 fun u _ => u = .bool true := by
  refine WCall.of h4 rfl ?_
  obtain ⟨pa, pc, hpv⟩ := hA.len
  rw [List.length_map] at hpv
  subst hpv
  have hm : (if (0 : Int) > most then 0 else most) = mostOf most := rfl
  have hb : fun4.body = code4 := rfl
  rw [hb, code4_eq]
  obtain ⟨s1, hs1⟩ : ∃ s1 : St, s1 = ⟨(s0.heap.put s0.next (some (.cells [i64 (mostOf most), .slice none 0 0] 80 0 false))).put (s0.next + 1) (some (.cells [] 28 5 false)), s0.next + 1 + 1⟩ := ⟨_, rfl⟩
  have hk1 : Kept [] s0 s1 := by
    rw [hs1]
    exact ⟨by simp only; omega, fun j hj _ => by simp only [Heap.get_put]; rw [if_neg (by omega), if_neg (by omega)]⟩
  have hP1 : PR s0 s1 s0.next most [] (.slice (some ⟨s0.next + 1, 0, none⟩) 0 0) [] := by
    refine ⟨⟨[], [s0.next + 1], ⟨.slice none 0 0, ?_, .nil, by simp, ?_⟩, ⟨by simp, .inr ⟨s0.next + 1, 0, 0, [], rfl, rfl, Nat.le_refl _, ?_, ?_, rfl, by simp, rfl⟩⟩, by simp, by simp⟩, .nil, .nil, Nat.le_refl _, by simp, by simp, hk1⟩
    · rw [hs1]; simp only [Heap.get_put]; rw [if_neg (by omega)]; rfl
    · rw [hs1]; simp only; omega
    · rw [hs1]; exact Nat.lt_succ_self _
    · rw [hs1]; simp only [Heap.get_put, if_true]
  simp -implicitDefEqProofs only [fun4, params, go_sem, reduceIte, Nat.reduceEqDiff, Nat.reduceAdd, Nat.reduceMul, Nat.reduceLT, Nat.reduceLeDiff, reduceCtorEq, Int.reduceEq, Int.reduceNeg, Nat.reduceSub, Int.reduceLT, Int.reduceLE, Int.reduceGT, Int.reduceGE, Int.reduceAdd, Int.reduceSub, Int.reduceToNat, Int.reduceBNe, Int.reduceBEq, Nat.mul_one, Nat.zero_mul, p11 T, hm, ev_buildSlice, fillL]
  rw [← hs1]
  obtain ⟨I, hI⟩ : ∃ I : Nat → List Value → St → Prop, I = fun m vs s' => ∃ i L lv, i ≤ A.length ∧ i ≤ 80 ∧ m = 80 - i ∧ vs = [i64 most, .slice pa A.length pc, ptr s0.next, lv, i64 i] ∧ PR s0 s' s0.next most L lv [] ∧ L.length ≤ i := ⟨_, rfl⟩
  refine wc_loopV I 80 ?_ ?_
  · simp -implicitDefEqProofs only [go_sem, reduceIte, Nat.reduceEqDiff, Nat.reduceAdd, Nat.reduceMul, Nat.reduceLT, Nat.reduceLeDiff, reduceCtorEq, Int.reduceEq, Int.reduceNeg, Nat.reduceSub, Int.reduceLT, Int.reduceLE, Int.reduceGT, Int.reduceGE, Int.reduceAdd, Int.reduceSub, Int.reduceToNat, Int.reduceBNe, Int.reduceBEq, Nat.mul_one, Nat.zero_mul]
    rw [hI]
    exact ⟨0, [], _, by omega, by omega, by omega, rfl, hP1, by simp⟩
  intro m vs s2 h _
  rw [hI] at h
  obtain ⟨i, L, lv, hi, hi80, rfl, rfl, hP, hL⟩ := h
  have e15 := fun s K => WCall.eq (K := K) (WCall.ov (tbl := tbl) (ov := ov) T.t15 (r := (.bool true, s)) (ho.awake s) ⟨rfl, rfl⟩)
  by_cases hgo : i < A.length ∧ i < 80
  · have hd : decide ((i : Int) < (A.length : Int)) = true := by simp; omega
    have hd2 : decide ((i : Int) < 80) = true := by simp; omega
    have hix : 0 ≤ (i : Int) ∧ (i : Int) < (A.length : Int) := by omega
    have w1 : IntKind.i64.wrap ((i : Int) + 1) = ((i + 1 : Nat) : Int) := by rw [IntKind.wrap_i64]; omega
    obtain ⟨id, o, cap', c, T', ro, hv, hg, hle, hrw⟩ := act_read (hA.kept hP.kept) hgo.1
    cases hv
    generalize aG A i = a at hrw
    obtain ⟨f1, f2, f3, f4, f5, f6⟩ := act_facts a
    have ft : a.cells.take 7 = a.cells := rfl
    have hst : storeL [i64 0, i64 0, i64 0, .string ⟨#[]⟩, .string ⟨#[]⟩, i64 0, i64 0] 0 a.cells = a.cells := rfl
    have hidn : id < s2.next := wrOf_lt hA hP.kept
    have hidx : (id = s2.next) = False := by simp; omega
    obtain ⟨s3, hs3⟩ : ∃ s3 : St, s3 = ⟨(s2.heap.put s2.next (some (.cells [i64 0, i64 0, i64 0, .string ⟨#[]⟩, .string ⟨#[]⟩, i64 0, i64 0] 37 0 false))).put s2.next (some (.cells a.cells 37 0 false)), s2.next + 1⟩ := ⟨_, rfl⟩
    have hk3 : Kept [] s2 s3 := by
      rw [hs3]
      exact ⟨Nat.le_succ _, fun j hj _ => by simp only [Heap.get_put]; rw [if_neg (by omega), if_neg (by omega)]⟩
    have hP3 := hP.add hk3 (Nat.le_refl _) (by rw [hs3]; exact Nat.lt_succ_self _)
    have ha3 : s3.heap.get s2.next = some (.cells a.cells 37 0 false) := by rw [hs3]; simp only [Heap.get_put, if_true]
    obtain ⟨S, SL, hR, hLv, hS, hSL⟩ := hP3.rep
    have e16 := fun K => p16 T (ov := ov) (s := s3) (x := a.r.id) hLv.toV (by omega) K
    have hge : decide (posV (posL a.r.id L) ≥ 0) = (posL a.r.id L).isSome := by
      cases posL a.r.id L with
      | none => rfl
      | some j => simp [posV]
    have hsn : s0.next ≤ s2.next := hP.kept.1
    have hfin : ∀ s' L' lv', PR s0 s' s0.next most L' lv' [] → L'.length ≤ L.length + 1 → ∃ m', m' < 80 - i ∧ I m' [i64 most, .slice (some ⟨id, o, none⟩) A.length pc, ptr s0.next, lv', i64 ((i + 1 : Nat) : Int)] s' := fun s' L' lv' hP' hL' => by
      refine ⟨80 - (i + 1), by omega, ?_⟩
      rw [hI]
      exact ⟨i + 1, L', lv', by omega, by omega, rfl, rfl, hP', by omega⟩
    rw [hs3] at e16
    by_cases h0 : a.what = 0
    · have d0 : (a.what == 0) = true := by simp [h0]
      simp -implicitDefEqProofs only [go_sem, reduceIte, Nat.reduceEqDiff, Nat.reduceAdd, Nat.reduceMul, Nat.reduceLT, Nat.reduceLeDiff, reduceCtorEq, Int.reduceEq, Int.reduceNeg, Nat.reduceSub, Int.reduceLT, Int.reduceLE, Int.reduceGT, Int.reduceGE, Int.reduceAdd, Int.reduceSub, Int.reduceToNat, Int.reduceBNe, Int.reduceBEq, Nat.mul_one, Nat.zero_mul, hd, hd2, hix, hg, hidx, hle, hrw, f1, f3, f5, f6, ft, hst, e16, hge, d0]
      rw [← hs3]
      refine act0 T ho hP3 (by omega) ha3 hsn rfl rfl rfl rfl rfl ?_
      intro e' s' L' lv' hget h6 hP' hL'
      obtain ⟨k0, k1, k5, k7⟩ := get_four.1 hget
      simp -implicitDefEqProofs only [go_sem, reduceIte, Nat.reduceEqDiff, Nat.reduceAdd, Nat.reduceMul, Nat.reduceLT, Nat.reduceLeDiff, reduceCtorEq, Int.reduceEq, Int.reduceNeg, Nat.reduceSub, Int.reduceLT, Int.reduceLE, Int.reduceGT, Int.reduceGE, Int.reduceAdd, Int.reduceSub, Int.reduceToNat, Int.reduceBNe, Int.reduceBEq, Nat.mul_one, Nat.zero_mul]
      refine check4 T hP' (by omega) k5 h6 ?_
      intro e'' s'' hget2 h62 hP''
      obtain ⟨m0, m1, m5, m7⟩ := get_four.1 hget2
      rw [k0] at m0
      rw [k1] at m1
      rw [k5] at m5
      rw [k7] at m7
      simp -implicitDefEqProofs only [go_sem, reduceIte, Nat.reduceEqDiff, Nat.reduceAdd, Nat.reduceMul, Nat.reduceLT, Nat.reduceLeDiff, reduceCtorEq, Int.reduceEq, Int.reduceNeg, Nat.reduceSub, Int.reduceLT, Int.reduceLE, Int.reduceGT, Int.reduceGE, Int.reduceAdd, Int.reduceSub, Int.reduceToNat, Int.reduceBNe, Int.reduceBEq, Nat.mul_one, Nat.zero_mul] at m0 m1 m5 m7
      simp -implicitDefEqProofs only [go_sem, reduceIte, Nat.reduceEqDiff, Nat.reduceAdd, Nat.reduceMul, Nat.reduceLT, Nat.reduceLeDiff, reduceCtorEq, Int.reduceEq, Int.reduceNeg, Nat.reduceSub, Int.reduceLT, Int.reduceLE, Int.reduceGT, Int.reduceGE, Int.reduceAdd, Int.reduceSub, Int.reduceToNat, Int.reduceBNe, Int.reduceBEq, Nat.mul_one, Nat.zero_mul, m0, m1, m5, m7, h62, w1]
      exact hfin _ _ _ hP'' hL'
    have d0 : (a.what == 0) = false := by simp [h0]
    by_cases h1 : a.what = 1
    · have d1 : (a.what == 1) = true := by simp [h1]
      simp -implicitDefEqProofs only [go_sem, reduceIte, Nat.reduceEqDiff, Nat.reduceAdd, Nat.reduceMul, Nat.reduceLT, Nat.reduceLeDiff, reduceCtorEq, Int.reduceEq, Int.reduceNeg, Nat.reduceSub, Int.reduceLT, Int.reduceLE, Int.reduceGT, Int.reduceGE, Int.reduceAdd, Int.reduceSub, Int.reduceToNat, Int.reduceBNe, Int.reduceBEq, Nat.mul_one, Nat.zero_mul, hd, hd2, hix, hg, hidx, hle, hrw, f1, f3, f5, f6, ft, hst, e16, hge, d0, d1]
      rw [← hs3]
      refine act1 T ho hP3 (by omega) ha3 rfl rfl rfl rfl rfl ?_
      intro e' s' L' lv' hget h6 hP' hL'
      obtain ⟨k0, k1, k5, k7⟩ := get_four.1 hget
      simp -implicitDefEqProofs only [go_sem, reduceIte, Nat.reduceEqDiff, Nat.reduceAdd, Nat.reduceMul, Nat.reduceLT, Nat.reduceLeDiff, reduceCtorEq, Int.reduceEq, Int.reduceNeg, Nat.reduceSub, Int.reduceLT, Int.reduceLE, Int.reduceGT, Int.reduceGE, Int.reduceAdd, Int.reduceSub, Int.reduceToNat, Int.reduceBNe, Int.reduceBEq, Nat.mul_one, Nat.zero_mul]
      refine check4 T hP' (by omega) k5 h6 ?_
      intro e'' s'' hget2 h62 hP''
      obtain ⟨m0, m1, m5, m7⟩ := get_four.1 hget2
      rw [k0] at m0
      rw [k1] at m1
      rw [k5] at m5
      rw [k7] at m7
      simp -implicitDefEqProofs only [go_sem, reduceIte, Nat.reduceEqDiff, Nat.reduceAdd, Nat.reduceMul, Nat.reduceLT, Nat.reduceLeDiff, reduceCtorEq, Int.reduceEq, Int.reduceNeg, Nat.reduceSub, Int.reduceLT, Int.reduceLE, Int.reduceGT, Int.reduceGE, Int.reduceAdd, Int.reduceSub, Int.reduceToNat, Int.reduceBNe, Int.reduceBEq, Nat.mul_one, Nat.zero_mul] at m0 m1 m5 m7
      simp -implicitDefEqProofs only [go_sem, reduceIte, Nat.reduceEqDiff, Nat.reduceAdd, Nat.reduceMul, Nat.reduceLT, Nat.reduceLeDiff, reduceCtorEq, Int.reduceEq, Int.reduceNeg, Nat.reduceSub, Int.reduceLT, Int.reduceLE, Int.reduceGT, Int.reduceGE, Int.reduceAdd, Int.reduceSub, Int.reduceToNat, Int.reduceBNe, Int.reduceBEq, Nat.mul_one, Nat.zero_mul, m0, m1, m5, m7, h62, w1]
      exact hfin _ _ _ hP'' hL'
    have d1 : (a.what == 1) = false := by simp [h1]
    by_cases h2 : a.what = 2
    · have d2 : (a.what == 2) = true := by simp [h2]
      simp -implicitDefEqProofs only [go_sem, reduceIte, Nat.reduceEqDiff, Nat.reduceAdd, Nat.reduceMul, Nat.reduceLT, Nat.reduceLeDiff, reduceCtorEq, Int.reduceEq, Int.reduceNeg, Nat.reduceSub, Int.reduceLT, Int.reduceLE, Int.reduceGT, Int.reduceGE, Int.reduceAdd, Int.reduceSub, Int.reduceToNat, Int.reduceBNe, Int.reduceBEq, Nat.mul_one, Nat.zero_mul, hd, hd2, hix, hg, hidx, hle, hrw, f1, f3, f5, f6, ft, hst, e16, hge, d0, d1, d2]
      rw [← hs3]
      refine act2 T hP3 (by omega) ha3 rfl rfl rfl rfl ?_
      intro e' s' L' lv' hget h6 hP' hL'
      obtain ⟨k0, k1, k5, k7⟩ := get_four.1 hget
      simp -implicitDefEqProofs only [go_sem, reduceIte, Nat.reduceEqDiff, Nat.reduceAdd, Nat.reduceMul, Nat.reduceLT, Nat.reduceLeDiff, reduceCtorEq, Int.reduceEq, Int.reduceNeg, Nat.reduceSub, Int.reduceLT, Int.reduceLE, Int.reduceGT, Int.reduceGE, Int.reduceAdd, Int.reduceSub, Int.reduceToNat, Int.reduceBNe, Int.reduceBEq, Nat.mul_one, Nat.zero_mul]
      refine check4 T hP' (by omega) k5 h6 ?_
      intro e'' s'' hget2 h62 hP''
      obtain ⟨m0, m1, m5, m7⟩ := get_four.1 hget2
      rw [k0] at m0
      rw [k1] at m1
      rw [k5] at m5
      rw [k7] at m7
      simp -implicitDefEqProofs only [go_sem, reduceIte, Nat.reduceEqDiff, Nat.reduceAdd, Nat.reduceMul, Nat.reduceLT, Nat.reduceLeDiff, reduceCtorEq, Int.reduceEq, Int.reduceNeg, Nat.reduceSub, Int.reduceLT, Int.reduceLE, Int.reduceGT, Int.reduceGE, Int.reduceAdd, Int.reduceSub, Int.reduceToNat, Int.reduceBNe, Int.reduceBEq, Nat.mul_one, Nat.zero_mul] at m0 m1 m5 m7
      simp -implicitDefEqProofs only [go_sem, reduceIte, Nat.reduceEqDiff, Nat.reduceAdd, Nat.reduceMul, Nat.reduceLT, Nat.reduceLeDiff, reduceCtorEq, Int.reduceEq, Int.reduceNeg, Nat.reduceSub, Int.reduceLT, Int.reduceLE, Int.reduceGT, Int.reduceGE, Int.reduceAdd, Int.reduceSub, Int.reduceToNat, Int.reduceBNe, Int.reduceBEq, Nat.mul_one, Nat.zero_mul, m0, m1, m5, m7, h62, w1]
      exact hfin _ _ _ hP'' hL'
    have d2 : (a.what == 2) = false := by simp [h2]
    by_cases h3 : a.what = 3
    · have d3 : (a.what == 3) = true := by simp [h3]
      simp -implicitDefEqProofs only [go_sem, reduceIte, Nat.reduceEqDiff, Nat.reduceAdd, Nat.reduceMul, Nat.reduceLT, Nat.reduceLeDiff, reduceCtorEq, Int.reduceEq, Int.reduceNeg, Nat.reduceSub, Int.reduceLT, Int.reduceLE, Int.reduceGT, Int.reduceGE, Int.reduceAdd, Int.reduceSub, Int.reduceToNat, Int.reduceBNe, Int.reduceBEq, Nat.mul_one, Nat.zero_mul, hd, hd2, hix, hg, hidx, hle, hrw, f1, f3, f5, f6, ft, hst, e16, hge, d0, d1, d2, d3]
      rw [← hs3]
      refine act3 T hP3 (by omega) ha3 rfl rfl rfl rfl rfl rfl ?_
      intro e' s' L' lv' hget h6 hP' hL'
      obtain ⟨k0, k1, k5, k7⟩ := get_four.1 hget
      simp -implicitDefEqProofs only [go_sem, reduceIte, Nat.reduceEqDiff, Nat.reduceAdd, Nat.reduceMul, Nat.reduceLT, Nat.reduceLeDiff, reduceCtorEq, Int.reduceEq, Int.reduceNeg, Nat.reduceSub, Int.reduceLT, Int.reduceLE, Int.reduceGT, Int.reduceGE, Int.reduceAdd, Int.reduceSub, Int.reduceToNat, Int.reduceBNe, Int.reduceBEq, Nat.mul_one, Nat.zero_mul]
      refine check4 T hP' (by omega) k5 h6 ?_
      intro e'' s'' hget2 h62 hP''
      obtain ⟨m0, m1, m5, m7⟩ := get_four.1 hget2
      rw [k0] at m0
      rw [k1] at m1
      rw [k5] at m5
      rw [k7] at m7
      simp -implicitDefEqProofs only [go_sem, reduceIte, Nat.reduceEqDiff, Nat.reduceAdd, Nat.reduceMul, Nat.reduceLT, Nat.reduceLeDiff, reduceCtorEq, Int.reduceEq, Int.reduceNeg, Nat.reduceSub, Int.reduceLT, Int.reduceLE, Int.reduceGT, Int.reduceGE, Int.reduceAdd, Int.reduceSub, Int.reduceToNat, Int.reduceBNe, Int.reduceBEq, Nat.mul_one, Nat.zero_mul] at m0 m1 m5 m7
      simp -implicitDefEqProofs only [go_sem, reduceIte, Nat.reduceEqDiff, Nat.reduceAdd, Nat.reduceMul, Nat.reduceLT, Nat.reduceLeDiff, reduceCtorEq, Int.reduceEq, Int.reduceNeg, Nat.reduceSub, Int.reduceLT, Int.reduceLE, Int.reduceGT, Int.reduceGE, Int.reduceAdd, Int.reduceSub, Int.reduceToNat, Int.reduceBNe, Int.reduceBEq, Nat.mul_one, Nat.zero_mul, m0, m1, m5, m7, h62, w1]
      exact hfin _ _ _ hP'' hL'
    have d3 : (a.what == 3) = false := by simp [h3]
    simp -implicitDefEqProofs only [go_sem, reduceIte, Nat.reduceEqDiff, Nat.reduceAdd, Nat.reduceMul, Nat.reduceLT, Nat.reduceLeDiff, reduceCtorEq, Int.reduceEq, Int.reduceNeg, Nat.reduceSub, Int.reduceLT, Int.reduceLE, Int.reduceGT, Int.reduceGE, Int.reduceAdd, Int.reduceSub, Int.reduceToNat, Int.reduceBNe, Int.reduceBEq, Nat.mul_one, Nat.zero_mul, hd, hd2, hix, hg, hidx, hle, hrw, f1, f3, f5, f6, ft, hst, e16, hge, d0, d1, d2, d3]
    rw [← hs3]
    refine check4 T hP3.drop (by omega) rfl rfl ?_
    intro e'' s'' hget2 h62 hP''
    obtain ⟨m0, m1, m5, m7⟩ := get_four.1 hget2
    simp -implicitDefEqProofs only [go_sem, reduceIte, Nat.reduceEqDiff, Nat.reduceAdd, Nat.reduceMul, Nat.reduceLT, Nat.reduceLeDiff, reduceCtorEq, Int.reduceEq, Int.reduceNeg, Nat.reduceSub, Int.reduceLT, Int.reduceLE, Int.reduceGT, Int.reduceGE, Int.reduceAdd, Int.reduceSub, Int.reduceToNat, Int.reduceBNe, Int.reduceBEq, Nat.mul_one, Nat.zero_mul] at m0 m1 m5 m7
    simp -implicitDefEqProofs only [go_sem, reduceIte, Nat.reduceEqDiff, Nat.reduceAdd, Nat.reduceMul, Nat.reduceLT, Nat.reduceLeDiff, reduceCtorEq, Int.reduceEq, Int.reduceNeg, Nat.reduceSub, Int.reduceLT, Int.reduceLE, Int.reduceGT, Int.reduceGE, Int.reduceAdd, Int.reduceSub, Int.reduceToNat, Int.reduceBNe, Int.reduceBEq, Nat.mul_one, Nat.zero_mul, m0, m1, m5, m7, h62, w1]
    exact hfin _ _ _ hP'' (Nat.le_succ _)
  · cases hd : decide ((i : Int) < (A.length : Int))
    · simp -implicitDefEqProofs only [go_sem, reduceIte, Nat.reduceEqDiff, Nat.reduceAdd, Nat.reduceMul, Nat.reduceLT, Nat.reduceLeDiff, reduceCtorEq, Int.reduceEq, Int.reduceNeg, Nat.reduceSub, Int.reduceLT, Int.reduceLE, Int.reduceGT, Int.reduceGE, Int.reduceAdd, Int.reduceSub, Int.reduceToNat, Int.reduceBNe, Int.reduceBEq, Nat.mul_one, Nat.zero_mul, hd, e15]
    · have hd2 : decide ((i : Int) < 80) = false := by
        simp only [decide_eq_true_eq] at hd
        simp; omega
      simp -implicitDefEqProofs only [go_sem, reduceIte, Nat.reduceEqDiff, Nat.reduceAdd, Nat.reduceMul, Nat.reduceLT, Nat.reduceLeDiff, reduceCtorEq, Int.reduceEq, Int.reduceNeg, Nat.reduceSub, Int.reduceLT, Int.reduceLE, Int.reduceGT, Int.reduceGE, Int.reduceAdd, Int.reduceSub, Int.reduceToNat, Int.reduceBNe, Int.reduceBEq, Nat.mul_one, Nat.zero_mul, hd, hd2, e15]
end

end Go.Proofs.Ytgnpafmhdmmmhaa
