/-
  DiskPlays: the law's walk.
-/
import Derived.Test.YtgnpafmhdmmmhaaD18
set_option maxRecDepth 100000
set_option linter.unusedVariables false
set_option linter.unusedSimpArgs false
namespace Go.Proofs.Ytgnpafmhdmmmhaa
open Go Go.Abs Go.Abs.K

theorem DRep.readLen {s : St} {p : Nat} {D : DM} {O V : List Nat} (h : DRep s p D O V) (n : Int) : (readB D n).length ≤ 2048 := by
  obtain ⟨_, _, _, _, _, _, _, _, _, _, _, _, _, _, _, _, _, h12⟩ := h
  unfold readB
  cases hl : lookF D.F n with
  | none => simp
  | some bs => exact h12.len _ (lookF_mem hl)
theorem RRep.lt {s : St} {q : Nat} {R : RM} {O : List Nat} (h : RRep s q R O) : ∀ x ∈ O, x < s.next := by
  obtain ⟨_, _, _, _, hA⟩ := h.at
  exact hA.lt
theorem RRep.rw {s : St} {q : Nat} {R : RM} {O : List Nat} (h : RRep s q R O) : RW R := by
  obtain ⟨_, _, _, _, hA⟩ := h.at
  exact hA.rw
theorem RRep.qO {s : St} {q : Nat} {R : RM} {O : List Nat} (h : RRep s q R O) : q ∈ O := by
  obtain ⟨_, _, _, _, hA⟩ := h.at
  exact hA.qO

theorem rAppR_next (R : RM) (n : Int) (bs : List Int) : (rAppR R n bs).next ≤ R.next + bs.length ∧ (rAppR R n bs).most = R.most := by
  unfold rAppR
  repeat' split
  all_goals (refine ⟨?_, rfl⟩; first | (simp only [wR]; omega) | omega)
theorem rDropR_next (R : RM) (n : Int) : (rDropR R n).next = R.next ∧ (rDropR R n).most = R.most := by
  unfold rDropR
  repeat' split
  all_goals exact ⟨rfl, rfl⟩
theorem syncR_next (R : RM) : (syncR R).next = R.next ∧ (syncR R).most = R.most := by
  unfold syncR
  split <;> exact ⟨rfl, rfl⟩
theorem appD_loose (D : DM) (n : Int) (bs : List Int) : (appD D n bs).loose.length ≤ D.loose.length + 1 := by
  unfold appD
  repeat' split
  all_goals (first | (simp only [wD, List.length_append, List.length_cons, List.length_nil]; omega) | omega)
theorem dropD_loose (D : DM) (n : Int) : (dropD D n).loose.length ≤ D.loose.length := by
  unfold dropD
  have := List.length_filter_le (fun w : Int × Int => !(w.1 == n)) D.loose
  repeat' split
  all_goals (first | (simp only [wD]; omega) | omega)
theorem syncD_loose (D : DM) : (if wB D.first D.fails then { wD D with loose := [] } else wD D).loose.length ≤ D.loose.length := by
  split
  · exact Nat.zero_le _
  · exact Nat.le_refl _

theorem cpl0 (m : Int) : Cpl ⟨m, 0, 0, [], []⟩ ⟨m, [], 0, 0, 0⟩ := ⟨rfl, rfl, rfl, .nil, .nil, fun _ => rfl, ⟨[], rfl, ⟨by simp, .nil⟩, by simp, fun n bs h => by cases h⟩⟩

theorem apart_one {f g : Foot} {fs : List Foot} {i j : Nat} (hf : fs[i]? = some f) (hg : fs[j]? = some g) (hn : g.after.next = g.before.next) (hr : ∀ id ∈ g.rd, f.after.heap.get id = f.before.heap.get id) : apartAt fs (i, j) := by
  intro f' g' h1 h2 id hid
  simp only at h1 h2
  rw [hf] at h1
  rw [hg] at h2
  cases h1; cases h2
  rcases hid with h | h
  · exact hr id h
  · omega

section
variable {tbl : FuncId → Option AFun} {ov : CallSem} {s : St} (T : DTbl tbl)
include T

set_option maxHeartbeats 4000000 in
theorem law8 (t8 : tbl 8 = some fun8) (ho : OvOK ov) {segs : Int} (hs : W64 segs) {av : Value} {M : List DAct} {rows : List (List Value)} (hr : RowV 4 s av rows) (hM : All2 (fun a row => All2 (CellS s) (DAct.specs a) row) M rows) (hW : ∀ a ∈ M, a.Wide) :
    WCall (fun k => call tbl ov k) 8 [i64 segs, av] s fun u _ => u = .bool true := by
  refine WCall.of t8 rfl ?_
  have hcode : fun8.body = head8 := code8_eq
  rw [hcode, show fun8.res = [.tmp 4] from rfl]
  have e26 := fun (s : St) K => p26b (s := s) T ho K
  obtain ⟨aa, ac, hav⟩ := hr.len
  subst hav
  have h25 := p25 (ov := ov) (s := s) T (n := segs) hs
  simp -implicitDefEqProofs only [head8, params, go_sem, reduceIte, Nat.reduceEqDiff, Nat.reduceAdd, Nat.reduceMul, Nat.reduceLT, Nat.reduceLeDiff, reduceCtorEq, Int.reduceEq, Int.reduceNeg, Nat.reduceSub, Int.reduceLT, Int.reduceLE, Int.reduceGT, Int.reduceGE, Int.reduceAdd, Int.reduceSub, Int.reduceToNat, Int.reduceBNe, Int.reduceBEq, Nat.mul_one, Nat.zero_mul]
  refine WCall.mono h25 ?_
  rintro u s1 ⟨rfl, hR1, hk1⟩
  simp -implicitDefEqProofs only [go_sem, reduceIte, Nat.reduceEqDiff, Nat.reduceAdd, Nat.reduceMul, Nat.reduceLT, Nat.reduceLeDiff, reduceCtorEq, Int.reduceEq, Int.reduceNeg, Nat.reduceSub, Int.reduceLT, Int.reduceLE, Int.reduceGT, Int.reduceGE, Int.reduceAdd, Int.reduceSub, Int.reduceToNat, Int.reduceBNe, Int.reduceBEq, Nat.mul_one, Nat.zero_mul]
  refine WCall.mono (p31 (ov := ov) T) ?_
  rintro u s2 ⟨rfl, hRR, hk2⟩
  have hn1 := hk1.1
  have hn2 := hk2.1
  obtain ⟨p, hp⟩ : ∃ p, p = s.next + 1 := ⟨_, rfl⟩
  obtain ⟨q, hq⟩ : ∃ q, q = s1.next := ⟨_, rfl⟩
  rw [← hp] at hR1
  rw [← hq] at hRR
  simp -implicitDefEqProofs only [go_sem, reduceIte, Nat.reduceEqDiff, Nat.reduceAdd, Nat.reduceMul, Nat.reduceLT, Nat.reduceLeDiff, reduceCtorEq, Int.reduceEq, Int.reduceNeg, Nat.reduceSub, Int.reduceLT, Int.reduceLE, Int.reduceGT, Int.reduceGE, Int.reduceAdd, Int.reduceSub, Int.reduceToNat, Int.reduceBNe, Int.reduceBEq, Nat.mul_one, Nat.zero_mul, ← hp, ← hq]
  obtain ⟨I, hI⟩ : ∃ I : Nat → List Value → St → Prop, I = fun j vs s' => Kept [] s s' ∧ ∃ (i : Nat) (D : DM) (O V : List Nat) (R : RM) (O2 : List Nat), i ≤ rows.length ∧ i ≤ 60 ∧ j = rows.length - i ∧ vs = [.slice aa rows.length ac, ptr p, ptr q, i64 (i : Nat)] ∧
    DRep s' p D O V ∧ RRep s' q R O2 ∧ Cpl D R ∧ (∀ x ∈ O2, x ∉ O ∧ x ∉ V) ∧ D.loose.length ≤ i ∧ R.next ≤ 2500 * i ∧ R.most ≤ 16 ∧ (∀ x ∈ O, s.next ≤ x) ∧ (∀ x ∈ V, s.next ≤ x) ∧ (∀ x ∈ O2, s.next ≤ x) := ⟨_, rfl⟩
  refine wc_loopV I rows.length ?_ ?_
  · simp -implicitDefEqProofs only [go_sem, reduceIte, Nat.reduceEqDiff, Nat.reduceAdd, Nat.reduceMul, Nat.reduceLT, Nat.reduceLeDiff, reduceCtorEq, Int.reduceEq, Int.reduceNeg, Nat.reduceSub, Int.reduceLT, Int.reduceLE, Int.reduceGT, Int.reduceGE, Int.reduceAdd, Int.reduceSub, Int.reduceToNat, Int.reduceBNe, Int.reduceBEq, Nat.mul_one, Nat.zero_mul]
    rw [hI]
    have hlt := hR1.lt
    refine ⟨hk1.trans hk2, 0, _, _, _, _, _, by omega, by omega, by omega, rfl, hR1.kept hk2 (by simp) (by simp), hRR, cpl0 _, fun x hx => ?_, by simp, by simp, by simp only; omega, fun x hx => ?_, by simp, fun x hx => by rw [List.mem_singleton.1 hx]; omega⟩
    · rw [List.mem_singleton.1 hx]
      refine ⟨fun h => ?_, by simp⟩
      have := hlt.1 q h
      omega
    · simp only [List.mem_cons, List.not_mem_nil, or_false] at hx; omega
  · intro j vs s3 hi _
    rw [hI] at hi
    obtain ⟨hk3, i, D, O, V, R, O2, hil, hi60, rfl, rfl, hD, hR, hC, hsep, hDl, hRn, hRm, hO, hV, hO2⟩ := hi
    have hnn := hk3.1
    have stop : (decide ((i : Int) < (rows.length : Int)) = false ∨ (decide ((i : Int) < (rows.length : Int)) = true ∧ decide ((i : Int) < 60) = false)) ∨ (decide ((i : Int) < (rows.length : Int)) = true ∧ decide ((i : Int) < 60) = true) := by
      cases decide ((i : Int) < (rows.length : Int)) <;> cases decide ((i : Int) < 60) <;> simp
    rcases stop with (d1 | ⟨d1, d2⟩) | ⟨d1, d2⟩
    · simp -implicitDefEqProofs only [go_sem, reduceIte, Nat.reduceEqDiff, Nat.reduceAdd, Nat.reduceMul, Nat.reduceLT, Nat.reduceLeDiff, reduceCtorEq, Int.reduceEq, Int.reduceNeg, Nat.reduceSub, Int.reduceLT, Int.reduceLE, Int.reduceGT, Int.reduceGE, Int.reduceAdd, Int.reduceSub, Int.reduceToNat, Int.reduceBNe, Int.reduceBEq, Nat.mul_one, Nat.zero_mul, d1, e26]
    · simp -implicitDefEqProofs only [go_sem, reduceIte, Nat.reduceEqDiff, Nat.reduceAdd, Nat.reduceMul, Nat.reduceLT, Nat.reduceLeDiff, reduceCtorEq, Int.reduceEq, Int.reduceNeg, Nat.reduceSub, Int.reduceLT, Int.reduceLE, Int.reduceGT, Int.reduceGE, Int.reduceAdd, Int.reduceSub, Int.reduceToNat, Int.reduceBNe, Int.reduceBEq, Nat.mul_one, Nat.zero_mul, d1, d2, e26]
    · have hiN : i < rows.length := by have := of_decide_eq_true d1; omega
      have hi60' : i < 60 := by have := of_decide_eq_true d2; omega
      have hiM : i < M.length := by rw [hM.len]; exact hiN
      obtain ⟨a, ha⟩ : ∃ a, a = M[i] := ⟨_, rfl⟩
      have hrow := hM.get (List.getElem?_eq_getElem hiM) (List.getElem?_eq_getElem hiN)
      rw [← ha] at hrow
      have haW : a.Wide := by rw [ha]; exact hW _ (List.getElem_mem hiM)
      obtain ⟨bv, hrow2, hbv⟩ : ∃ bv, rows[i] = [i64 a.what, i64 a.n, i64 a.m, bv] ∧ BytesV s bv a.b := by
        generalize rows[i] = row at hrow
        unfold DAct.specs at hrow
        cases hrow with | cons h1 hrow => ?_
        cases hrow with | cons h2 hrow => ?_
        cases hrow with | cons h3 hrow => ?_
        cases hrow with | cons h4 hrow => ?_
        cases hrow
        cases h1; cases h2; cases h3
        exact ⟨_, rfl, bytesOfInts h4.1 h4.2⟩
      obtain ⟨id, o, cap, c, T', ro, hv, hid, hgs, hle, hrw, hc⟩ := row_read hr hiN
      rw [List.getD_eq_getElem?_getD, List.getElem?_eq_getElem hiN, Option.getD_some, hrow2] at hrw
      cases hv
      obtain ⟨ba, bc, hbe⟩ := hbv.len
      subst hbe
      have hg3 : s3.heap.get id = some (.cells c T' 4 ro) := by rw [hk3.2 id hid (by simp)]; exact hgs
      have hix : 0 ≤ (i : Int) ∧ (i : Int) < (rows.length : Int) := by omega
      have w4 : IntKind.i64.wrap ((i : Int) + 1) = ((i + 1 : Nat) : Int) := by rw [IntKind.wrap_i64]; omega
      obtain ⟨row, hrowe⟩ : ∃ row : List Value, row = [i64 a.what, i64 a.n, i64 a.m, .slice ba a.b.length bc] := ⟨_, rfl⟩
      rw [← hrowe] at hrw
      have f1 : row.length = 4 := by rw [hrowe]; rfl
      have f2 : row.take 4 = row := by rw [hrowe]; rfl
      have f3 : row.all isCell = true := by rw [hrowe]; rfl
      have f4 : storeL [i64 0, i64 0, i64 0, .slice none 0 0] 0 row = row := by rw [hrowe]; rfl
      have r0 : row[0]? = some (i64 a.what) := by rw [hrowe]; rfl
      have r1 : row[1]? = some (i64 a.n) := by rw [hrowe]; rfl
      have r2 : row[2]? = some (i64 a.m) := by rw [hrowe]; rfl
      have r3 : row[3]? = some (.slice ba a.b.length bc) := by rw [hrowe]; rfl
      obtain ⟨x, hx⟩ : ∃ x, x = s3.next := ⟨_, rfl⟩
      have hidx : (id = s3.next) = False := by simp; omega
      obtain ⟨sH, hsH⟩ : ∃ sH : St, sH = ⟨(s3.heap.put s3.next (some (.cells [i64 0, i64 0, i64 0, .slice none 0 0] 63 0 false))).put s3.next (some (.cells row 63 0 false)), s3.next + 1⟩ := ⟨_, rfl⟩
      have hkH : Kept [] s3 sH := by
        rw [hsH]
        exact ⟨Nat.le_succ _, fun j hj _ => by simp only [Heap.get_put]; rw [if_neg (by omega), if_neg (by omega)]⟩
      have hDH := hD.kept hkH (by simp) (by simp)
      have hRH := hR.kept hkH (by simp)
      have hxH : sH.heap.get s3.next = some (.cells row 63 0 false) := by rw [hsH]; simp only [Heap.get_put, if_true]
      have hnH : sH.next = s3.next + 1 := by rw [hsH]
      have hDlt := hD.lt
      have hRlt := hR.lt
      have hksH : Kept [] s sH := hk3.trans hkH
      by_cases hbig : (a.b.length : Int) > 2500
      · have d3 : decide ((a.b.length : Int) > 2500) = true := by simpa using hbig
        have hfin : ∃ m', m' < rows.length - i ∧ I m' [.slice (some ⟨id, o, none⟩) rows.length ac, ptr p, ptr q, i64 ((i + 1 : Nat) : Int)] sH := by
          refine ⟨rows.length - (i + 1), by omega, ?_⟩
          rw [hI]
          exact ⟨hksH, i + 1, D, O, V, R, O2, by omega, by omega, rfl, rfl, hDH, hRH, hC, hsep, by omega, by omega, hRm, hO, hV, hO2⟩
        rw [hsH] at hfin
        simp -implicitDefEqProofs only [go_sem, reduceIte, Nat.reduceEqDiff, Nat.reduceAdd, Nat.reduceMul, Nat.reduceLT, Nat.reduceLeDiff, reduceCtorEq, Int.reduceEq, Int.reduceNeg, Nat.reduceSub, Int.reduceLT, Int.reduceLE, Int.reduceGT, Int.reduceGE, Int.reduceAdd, Int.reduceSub, Int.reduceToNat, Int.reduceBNe, Int.reduceBEq, Nat.mul_one, Nat.zero_mul, d1, d2, hix, hg3, hle, hrw, hidx, f1, f2, f3, f4, r3, d3, w4]
        exact hfin
      have d3 : decide ((a.b.length : Int) > 2500) = false := by simpa using hbig
      have hbl : a.b.length ≤ 2500 := by omega
      -- behind an act
      have fin : ∀ (s5 s6 : St) (D' : DM) (O' V' : List Nat) (R' : RM) (O2' : List Nat), Kept [] s s5 → Kept [] s5 s6 → DRep s5 p D' O' V' → RRep s5 q R' O2' → Cpl D' R' → (∀ x ∈ O2', x ∉ O' ∧ x ∉ V') → D'.loose.length ≤ D.loose.length + 1 → R'.next ≤ R.next + 2500 → R'.most ≤ 16 → (∀ x ∈ O', s.next ≤ x) → (∀ x ∈ V', s.next ≤ x) → (∀ x ∈ O2', s.next ≤ x) →
          ∃ m', m' < rows.length - i ∧ I m' [.slice (some ⟨id, o, none⟩) rows.length ac, ptr p, ptr q, i64 ((i + 1 : Nat) : Int)] s6 := by
        intro s5 s6 D' O' V' R' O2' k5 k6 hD' hR' hC' hsep' hl' hn' hm' hO' hV' hO2'
        refine ⟨rows.length - (i + 1), by omega, ?_⟩
        rw [hI]
        exact ⟨k5.trans k6, i + 1, D', O', V', R', O2', by omega, by omega, rfl, rfl, hD'.kept k6 (by simp) (by simp), hR'.kept k6 (by simp), hC', hsep', by omega, by omega, hm', hO', hV', hO2'⟩
      have hxO : s3.next ∉ O := fun h => by have := hDlt.1 _ h; omega
      have hxO2 : s3.next ∉ O2 := fun h => by have := hRlt _ h; omega
      have hbvO : ∀ id' o' l c, Value.slice ba a.b.length bc = .slice (some ⟨id', o', none⟩) l c → id' < s.next := fun id' o' l c e => by
        obtain ⟨_, ⟨hx, _⟩ | ⟨id2, o2, c2, cc2, t2, sz2, ro2, hx, _, hx3, _⟩⟩ := hbv
        · rw [hx] at e; cases e
        · rw [hx] at e
          simp only [Value.slice.injEq, Option.some.injEq, Addr.mk.injEq] at e
          have := e.1.1
          omega
      have q0 : (a.what == 0) = true ∨ (a.what == 0) = false := by cases (a.what == 0) <;> simp
      have q1 : (a.what == 1) = true ∨ (a.what == 1) = false := by cases (a.what == 1) <;> simp
      have q2 : (a.what == 2) = true ∨ (a.what == 2) = false := by cases (a.what == 2) <;> simp
      have q3 : (a.what == 3) = true ∨ (a.what == 3) = false := by cases (a.what == 3) <;> simp
      rcases q0 with q0 | q0
      · -- Append
        obtain ⟨heq, hC'⟩ := hC.append (n := a.n) (hD.readLen a.n) hR.rw.next.1 a.b
        have h27 := p27 (ov := ov) T hDH (hbv.kept hksH) (fun id' o' l c e h => by have := hbvO id' o' l c e; have := hO _ h; omega) haW.n (by omega)
        rw [heq] at h27
        simp -implicitDefEqProofs only [go_sem, reduceIte, Nat.reduceEqDiff, Nat.reduceAdd, Nat.reduceMul, Nat.reduceLT, Nat.reduceLeDiff, reduceCtorEq, Int.reduceEq, Int.reduceNeg, Nat.reduceSub, Int.reduceLT, Int.reduceLE, Int.reduceGT, Int.reduceGE, Int.reduceAdd, Int.reduceSub, Int.reduceToNat, Int.reduceBNe, Int.reduceBEq, Nat.mul_one, Nat.zero_mul, d1, d2, hix, hg3, hle, hrw, hidx, f1, f2, f3, f4, r0, r1, r3, d3, q0]
        rw [← hsH]
        refine WCall.mono h27 ?_
        rintro u s5 ⟨rfl, hk5, O', V', hD5, hO', hV'⟩
        have hn5 := hk5.1
        have hx5 : s5.heap.get s3.next = some (.cells row 63 0 false) := by rw [hk5.2 s3.next (by omega) hxO]; exact hxH
        have hR5 := hRH.kept hk5 fun y hy => (hsep y hy).1
        have hks5 : Kept [] s s5 := hksH.comp hk5 fun y hy => .inr (hO y hy)
        have h32 := p32 (ov := ov) T hR5 (hbv.kept hks5) (fun id' o' l c e h => by have := hbvO id' o' l c e; have := hO2 _ h; omega) haW.n hbl (by omega) hRm
        simp -implicitDefEqProofs only [go_sem, reduceIte, Nat.reduceEqDiff, Nat.reduceAdd, Nat.reduceMul, Nat.reduceLT, Nat.reduceLeDiff, reduceCtorEq, Int.reduceEq, Int.reduceNeg, Nat.reduceSub, Int.reduceLT, Int.reduceLE, Int.reduceGT, Int.reduceGE, Int.reduceAdd, Int.reduceSub, Int.reduceToNat, Int.reduceBNe, Int.reduceBEq, Nat.mul_one, Nat.zero_mul, hx5, r1, r3]
        refine WCall.mono h32 ?_
        rintro u s6 ⟨rfl, hk6, O2', hR6, hO2'⟩
        have hn6 := hk6.1
        have hD5lt := hD5.lt
        have hOO : ∀ y ∈ O', y ∉ O2 := fun y hy h => by
          rcases hO' y hy with h1 | h1
          · exact (hsep y h).1 h1
          · have := hRlt y h; omega
        have hVV : ∀ y ∈ V', y ∉ O2 := fun y hy h => by
          rcases hV' y hy with h1 | h1
          · exact (hsep y h).2 h1
          · have := hRlt y h; omega
        have hD6 := hD5.kept hk6 hOO hVV
        have hx6 : s6.heap.get s3.next = some (.cells row 63 0 false) := by rw [hk6.2 s3.next (by omega) hxO2]; exact hx5
        have hks6 : Kept [] s s6 := hks5.comp hk6 fun y hy => .inr (hO2 y hy)
        obtain ⟨e1, e2⟩ := rAppR_next R a.n a.b
        simp -implicitDefEqProofs only [go_sem, reduceIte, Nat.reduceEqDiff, Nat.reduceAdd, Nat.reduceMul, Nat.reduceLT, Nat.reduceLeDiff, reduceCtorEq, Int.reduceEq, Int.reduceNeg, Nat.reduceSub, Int.reduceLT, Int.reduceLE, Int.reduceGT, Int.reduceGE, Int.reduceAdd, Int.reduceSub, Int.reduceToNat, Int.reduceBNe, Int.reduceBEq, Nat.mul_one, Nat.zero_mul]
        refine ⟨?_, ?_⟩
        · intro y hy
          simp only [List.mem_cons, List.not_mem_nil, or_false] at hy
          rcases hy with rfl | rfl
          · exact apart_one rfl rfl rfl fun id' hid' => by rw [List.mem_singleton.1 hid']; exact hx5.trans hxH.symm
          · exact apart_one rfl rfl rfl fun id' hid' => by rw [List.mem_singleton.1 hid']; exact hx5.trans hxH.symm
        · refine look8 (av := .slice (some ⟨id, o, none⟩) rows.length ac) (i := i) (x := s3.next) (n := a.n) T ho hD6 hR6 hC' hx6 (by omega) r1 rfl rfl rfl rfl rfl rfl rfl fun e' s' g1 g5 g6 g7 hk' => ?_
          have hfin := fin s6 s' _ _ _ _ _ hks6 hk' hD6 hR6 hC' (fun y hy => ?_) (appD_loose D a.n a.b) (by omega) (by omega) (fun y hy => ?_) (fun y hy => ?_) (fun y hy => ?_)
          · simp -implicitDefEqProofs only [go_sem, reduceIte, Nat.reduceEqDiff, Nat.reduceAdd, Nat.reduceMul, Nat.reduceLT, Nat.reduceLeDiff, reduceCtorEq, Int.reduceEq, Int.reduceNeg, Nat.reduceSub, Int.reduceLT, Int.reduceLE, Int.reduceGT, Int.reduceGE, Int.reduceAdd, Int.reduceSub, Int.reduceToNat, Int.reduceBNe, Int.reduceBEq, Nat.mul_one, Nat.zero_mul, g1, g5, g6, g7, w4]
            exact hfin
          · rcases hO2' y hy with h | h
            · exact ⟨fun h' => hOO y h' h, fun h' => hVV y h' h⟩
            · exact ⟨fun h' => by have := hD5lt.1 y h'; omega, fun h' => by have := hD5lt.2 y h'; omega⟩
          · exact (hO' y hy).elim (hO y) fun h => by omega
          · exact (hV' y hy).elim (hV y) fun h => by omega
          · exact (hO2' y hy).elim (hO2 y) fun h => by omega
      rcases q1 with q1 | q1
      · -- Sync
        have hC' := hC.sync
        simp -implicitDefEqProofs only [go_sem, reduceIte, Nat.reduceEqDiff, Nat.reduceAdd, Nat.reduceMul, Nat.reduceLT, Nat.reduceLeDiff, reduceCtorEq, Int.reduceEq, Int.reduceNeg, Nat.reduceSub, Int.reduceLT, Int.reduceLE, Int.reduceGT, Int.reduceGE, Int.reduceAdd, Int.reduceSub, Int.reduceToNat, Int.reduceBNe, Int.reduceBEq, Nat.mul_one, Nat.zero_mul, d1, d2, hix, hg3, hle, hrw, hidx, f1, f2, f3, f4, r0, r1, r3, d3, q0, q1]
        rw [← hsH]
        refine WCall.mono (p28 (ov := ov) T hDH) ?_
        rintro u s5 ⟨rfl, hk5, O', hD5, hO'⟩
        have hn5 := hk5.1
        have hx5 : s5.heap.get s3.next = some (.cells row 63 0 false) := by rw [hk5.2 s3.next (by omega) hxO]; exact hxH
        have hR5 := hRH.kept hk5 fun y hy => (hsep y hy).1
        have hks5 : Kept [] s s5 := hksH.comp hk5 fun y hy => .inr (hO y hy)
        simp -implicitDefEqProofs only [go_sem, reduceIte, Nat.reduceEqDiff, Nat.reduceAdd, Nat.reduceMul, Nat.reduceLT, Nat.reduceLeDiff, reduceCtorEq, Int.reduceEq, Int.reduceNeg, Nat.reduceSub, Int.reduceLT, Int.reduceLE, Int.reduceGT, Int.reduceGE, Int.reduceAdd, Int.reduceSub, Int.reduceToNat, Int.reduceBNe, Int.reduceBEq, Nat.mul_one, Nat.zero_mul]
        refine WCall.mono (p33 (ov := ov) T hR5) ?_
        rintro u s6 ⟨rfl, hk6, hR6⟩
        have hn6 := hk6.1
        have hD6 := hD5.kept hk6 (fun y hy h => (hsep y h).1 (hO' y hy)) (fun y hy h => (hsep y h).2 hy)
        have hx6 : s6.heap.get s3.next = some (.cells row 63 0 false) := by rw [hk6.2 s3.next (by omega) hxO2]; exact hx5
        have hks6 : Kept [] s s6 := hks5.comp hk6 fun y hy => .inr (hO2 y hy)
        obtain ⟨e1, e2⟩ := syncR_next R
        have hcf := hC.first
        have hcg := hC.fails
        simp -implicitDefEqProofs only [go_sem, reduceIte, Nat.reduceEqDiff, Nat.reduceAdd, Nat.reduceMul, Nat.reduceLT, Nat.reduceLeDiff, reduceCtorEq, Int.reduceEq, Int.reduceNeg, Nat.reduceSub, Int.reduceLT, Int.reduceLE, Int.reduceGT, Int.reduceGE, Int.reduceAdd, Int.reduceSub, Int.reduceToNat, Int.reduceBNe, Int.reduceBEq, Nat.mul_one, Nat.zero_mul, hcf, hcg]
        refine look8 (av := .slice (some ⟨id, o, none⟩) rows.length ac) (i := i) (x := s3.next) (n := a.n) T ho hD6 hR6 hC' hx6 (by omega) r1 rfl rfl rfl rfl rfl rfl rfl fun e' s' g1 g5 g6 g7 hk' => ?_
        have hfin := fin s6 s' _ _ _ _ _ hks6 hk' hD6 hR6 hC' (fun y hy => ⟨fun h => (hsep y hy).1 (hO' y h), (hsep y hy).2⟩) (Nat.le_succ_of_le (syncD_loose D)) (by omega) (by omega) (fun y hy => hO y (hO' y hy)) hV hO2
        simp -implicitDefEqProofs only [go_sem, reduceIte, Nat.reduceEqDiff, Nat.reduceAdd, Nat.reduceMul, Nat.reduceLT, Nat.reduceLeDiff, reduceCtorEq, Int.reduceEq, Int.reduceNeg, Nat.reduceSub, Int.reduceLT, Int.reduceLE, Int.reduceGT, Int.reduceGE, Int.reduceAdd, Int.reduceSub, Int.reduceToNat, Int.reduceBNe, Int.reduceBEq, Nat.mul_one, Nat.zero_mul, g1, g5, g6, g7, w4]
        exact hfin
      rcases q2 with q2 | q2
      · -- Drop
        obtain ⟨heq, hC'⟩ := hC.drop a.n
        have h34 := p34 (ov := ov) (n := a.n) T hDH (by omega)
        rw [heq] at h34
        simp -implicitDefEqProofs only [go_sem, reduceIte, Nat.reduceEqDiff, Nat.reduceAdd, Nat.reduceMul, Nat.reduceLT, Nat.reduceLeDiff, reduceCtorEq, Int.reduceEq, Int.reduceNeg, Nat.reduceSub, Int.reduceLT, Int.reduceLE, Int.reduceGT, Int.reduceGE, Int.reduceAdd, Int.reduceSub, Int.reduceToNat, Int.reduceBNe, Int.reduceBEq, Nat.mul_one, Nat.zero_mul, d1, d2, hix, hg3, hle, hrw, hidx, f1, f2, f3, f4, r0, r1, r3, d3, q0, q1, q2]
        rw [← hsH]
        refine WCall.mono h34 ?_
        rintro u s5 ⟨rfl, hk5, hD5⟩
        have hn5 := hk5.1
        have hx5 : s5.heap.get s3.next = some (.cells row 63 0 false) := by rw [hk5.2 s3.next (by omega) hxO]; exact hxH
        have hR5 := hRH.kept hk5 fun y hy => (hsep y hy).1
        have hks5 : Kept [] s s5 := hksH.comp hk5 fun y hy => .inr (hO y hy)
        simp -implicitDefEqProofs only [go_sem, reduceIte, Nat.reduceEqDiff, Nat.reduceAdd, Nat.reduceMul, Nat.reduceLT, Nat.reduceLeDiff, reduceCtorEq, Int.reduceEq, Int.reduceNeg, Nat.reduceSub, Int.reduceLT, Int.reduceLE, Int.reduceGT, Int.reduceGE, Int.reduceAdd, Int.reduceSub, Int.reduceToNat, Int.reduceBNe, Int.reduceBEq, Nat.mul_one, Nat.zero_mul, hx5, r1]
        refine WCall.mono (p35 (ov := ov) (n := a.n) T hR5) ?_
        rintro u s6 ⟨rfl, hk6, O2', hR6, hO2'⟩
        have hn6 := hk6.1
        have hD5lt := hD5.lt
        have hD6 := hD5.kept hk6 (fun y hy h => (hsep y h).1 hy) (fun y hy h => (hsep y h).2 hy)
        have hx6 : s6.heap.get s3.next = some (.cells row 63 0 false) := by rw [hk6.2 s3.next (by omega) hxO2]; exact hx5
        have hks6 : Kept [] s s6 := hks5.comp hk6 fun y hy => .inr (hO2 y hy)
        obtain ⟨e1, e2⟩ := rDropR_next R a.n
        simp -implicitDefEqProofs only [go_sem, reduceIte, Nat.reduceEqDiff, Nat.reduceAdd, Nat.reduceMul, Nat.reduceLT, Nat.reduceLeDiff, reduceCtorEq, Int.reduceEq, Int.reduceNeg, Nat.reduceSub, Int.reduceLT, Int.reduceLE, Int.reduceGT, Int.reduceGE, Int.reduceAdd, Int.reduceSub, Int.reduceToNat, Int.reduceBNe, Int.reduceBEq, Nat.mul_one, Nat.zero_mul]
        refine ⟨?_, ?_⟩
        · intro y hy
          simp only [List.mem_cons, List.not_mem_nil, or_false] at hy
          subst hy
          exact apart_one rfl rfl rfl fun id' hid' => by rw [List.mem_singleton.1 hid']; exact hx5.trans hxH.symm
        · refine look8 (av := .slice (some ⟨id, o, none⟩) rows.length ac) (i := i) (x := s3.next) (n := a.n) T ho hD6 hR6 hC' hx6 (by omega) r1 rfl rfl rfl rfl rfl rfl rfl fun e' s' g1 g5 g6 g7 hk' => ?_
          have hfin := fin s6 s' _ _ _ _ _ hks6 hk' hD6 hR6 hC' (fun y hy => ?_) (Nat.le_succ_of_le (dropD_loose D a.n)) (by omega) (by omega) hO hV (fun y hy => ?_)
          · simp -implicitDefEqProofs only [go_sem, reduceIte, Nat.reduceEqDiff, Nat.reduceAdd, Nat.reduceMul, Nat.reduceLT, Nat.reduceLeDiff, reduceCtorEq, Int.reduceEq, Int.reduceNeg, Nat.reduceSub, Int.reduceLT, Int.reduceLE, Int.reduceGT, Int.reduceGE, Int.reduceAdd, Int.reduceSub, Int.reduceToNat, Int.reduceBNe, Int.reduceBEq, Nat.mul_one, Nat.zero_mul, g1, g5, g6, g7, w4]
            exact hfin
          · rcases hO2' y hy with h | h
            · exact hsep y h
            · exact ⟨fun h' => by have := hD5lt.1 y h'; omega, fun h' => by have := hD5lt.2 y h'; omega⟩
          · exact (hO2' y hy).elim (hO2 y) fun h => by omega
      rcases q3 with q3 | q3
      · -- Fault
        have hC' := hC.fault (max a.n 0) (max a.m 0)
        simp -implicitDefEqProofs only [go_sem, reduceIte, Nat.reduceEqDiff, Nat.reduceAdd, Nat.reduceMul, Nat.reduceLT, Nat.reduceLeDiff, reduceCtorEq, Int.reduceEq, Int.reduceNeg, Nat.reduceSub, Int.reduceLT, Int.reduceLE, Int.reduceGT, Int.reduceGE, Int.reduceAdd, Int.reduceSub, Int.reduceToNat, Int.reduceBNe, Int.reduceBEq, Nat.mul_one, Nat.zero_mul, d1, d2, hix, hg3, hle, hrw, hidx, f1, f2, f3, f4, r0, r1, r2, r3, d3, q0, q1, q2, q3]
        rw [← hsH]
        refine WCall.mono (p36 (ov := ov) T hDH haW.n haW.m) ?_
        rintro u s5 ⟨hk5, hD5⟩
        have hn5 := hk5.1
        have hx5 : s5.heap.get s3.next = some (.cells row 63 0 false) := by rw [hk5.2 s3.next (by omega) hxO]; exact hxH
        have hR5 := hRH.kept hk5 fun y hy => (hsep y hy).1
        have hks5 : Kept [] s s5 := hksH.comp hk5 fun y hy => .inr (hO y hy)
        obtain ⟨sv, S, rws, L, hA5⟩ := hR5.at
        have hq5 := hA5.cell
        have hqO2 := hR.qO
        have hqx : q ≠ s3.next := by have := hRlt q hqO2; omega
        have hxq : (s3.next = q) = False := by simp; omega
        have hpO : ∀ y, y ∈ O → y ≠ q := fun y hy e => (hsep q hqO2).1 (e ▸ hy)
        have hW2 := haW.n
        have hW3 := haW.m
        unfold W64 at hW2 hW3
        have hcellF : ∀ s6 : St, s6.next = s5.next → s6.heap.get q = some (.cells [i64 R.most, sv, i64 R.next, i64 (max a.n 0), i64 (max a.m 0)] 68 0 false) → (∀ j, j ≠ q → s6.heap.get j = s5.heap.get j) →
            s6.heap.get s3.next = some (.cells row 63 0 false) ∧ Kept [] s s6 ∧ DRep s6 p { D with first := max a.n 0, fails := max a.m 0 } O V ∧ RRep s6 q { R with first := max a.n 0, fails := max a.m 0 } O2 := fun s6 h1 h2 h3 => by
          have hk6 : Kept [q] s5 s6 := ⟨by omega, fun j _ hj => h3 j (by simpa using hj)⟩
          refine ⟨by rw [h3 _ (Ne.symm hqx)]; exact hx5, hks5.comp hk6 fun y hy => .inr (by rw [List.mem_singleton.1 hy]; exact hO2 q hqO2), hD5.kept hk6 (fun y hy h => hpO y hy (List.mem_singleton.1 h)) (fun y hy h => (hsep q hqO2).2 (List.mem_singleton.1 h ▸ hy)), ?_⟩
          have := (hA5.nums (a := R.next) (f := max a.n 0) (g := max a.m 0) hk6 h2 ⟨by omega, by omega⟩ ⟨by omega, by omega⟩ hR.rw.next).rep
          exact this
        simp -implicitDefEqProofs only [go_sem, reduceIte, Nat.reduceEqDiff, Nat.reduceAdd, Nat.reduceMul, Nat.reduceLT, Nat.reduceLeDiff, reduceCtorEq, Int.reduceEq, Int.reduceNeg, Nat.reduceSub, Int.reduceLT, Int.reduceLE, Int.reduceGT, Int.reduceGE, Int.reduceAdd, Int.reduceSub, Int.reduceToNat, Int.reduceBNe, Int.reduceBEq, Nat.mul_one, Nat.zero_mul, hx5, r1, r2, hq5, hxq]
        by_cases hn0 : a.n < 0 <;> by_cases hm0 : a.m < 0
        · have dn : decide (a.n < 0) = true := by simpa using hn0
          have dm : decide (a.m < 0) = true := by simpa using hm0
          have en : max a.n 0 = 0 := by omega
          have em : max a.m 0 = 0 := by omega
          obtain ⟨s6, hs6⟩ : ∃ s6 : St, s6 = ⟨(((s5.heap.put q (some (.cells [i64 R.most, sv, i64 R.next, i64 a.n, i64 R.fails] 68 0 false))).put q (some (.cells [i64 R.most, sv, i64 R.next, i64 a.n, i64 a.m] 68 0 false))).put q (some (.cells [i64 R.most, sv, i64 R.next, i64 0, i64 a.m] 68 0 false))).put q (some (.cells [i64 R.most, sv, i64 R.next, i64 0, i64 0] 68 0 false)), s5.next⟩ := ⟨_, rfl⟩
          obtain ⟨hx6, hks6, hD6, hR6⟩ := hcellF s6 (by rw [hs6]) (by rw [hs6, en, em]; simp only [Heap.get_put, if_true]) (fun j hj => by rw [hs6]; simp only [Heap.get_put, hj, if_false])
          have hn6 : s6.next = s5.next := by rw [hs6]
          have hr1 : (decide ¬q = s3.next) = true := by simpa using hqx
          simp -implicitDefEqProofs only [go_sem, reduceIte, Nat.reduceEqDiff, Nat.reduceAdd, Nat.reduceMul, Nat.reduceLT, Nat.reduceLeDiff, reduceCtorEq, Int.reduceEq, Int.reduceNeg, Nat.reduceSub, Int.reduceLT, Int.reduceLE, Int.reduceGT, Int.reduceGE, Int.reduceAdd, Int.reduceSub, Int.reduceToNat, Int.reduceBNe, Int.reduceBEq, Nat.mul_one, Nat.zero_mul, dn, dm, hx5, r1, r2, hxq]
          refine ⟨hr1, ?_⟩
          rw [← hs6]
          refine look8 (av := .slice (some ⟨id, o, none⟩) rows.length ac) (i := i) (x := s3.next) (n := a.n) T ho hD6 hR6 hC' hx6 (by omega) r1 rfl rfl rfl rfl rfl rfl rfl fun e' s' g1 g5 g6 g7 hk' => ?_
          have hfin := fin s6 s' _ _ _ _ _ hks6 hk' hD6 hR6 hC' hsep (Nat.le_succ _) (by simp only; omega) hRm hO hV hO2
          simp -implicitDefEqProofs only [go_sem, reduceIte, Nat.reduceEqDiff, Nat.reduceAdd, Nat.reduceMul, Nat.reduceLT, Nat.reduceLeDiff, reduceCtorEq, Int.reduceEq, Int.reduceNeg, Nat.reduceSub, Int.reduceLT, Int.reduceLE, Int.reduceGT, Int.reduceGE, Int.reduceAdd, Int.reduceSub, Int.reduceToNat, Int.reduceBNe, Int.reduceBEq, Nat.mul_one, Nat.zero_mul, g1, g5, g6, g7, w4]
          exact hfin
        · have dn : decide (a.n < 0) = true := by simpa using hn0
          have dm : decide (a.m < 0) = false := by simpa using hm0
          have en : max a.n 0 = 0 := by omega
          have em : max a.m 0 = a.m := by omega
          obtain ⟨s6, hs6⟩ : ∃ s6 : St, s6 = ⟨((s5.heap.put q (some (.cells [i64 R.most, sv, i64 R.next, i64 a.n, i64 R.fails] 68 0 false))).put q (some (.cells [i64 R.most, sv, i64 R.next, i64 a.n, i64 a.m] 68 0 false))).put q (some (.cells [i64 R.most, sv, i64 R.next, i64 0, i64 a.m] 68 0 false)), s5.next⟩ := ⟨_, rfl⟩
          obtain ⟨hx6, hks6, hD6, hR6⟩ := hcellF s6 (by rw [hs6]) (by rw [hs6, en, em]; simp only [Heap.get_put, if_true]) (fun j hj => by rw [hs6]; simp only [Heap.get_put, hj, if_false])
          have hn6 : s6.next = s5.next := by rw [hs6]
          have hr1 : (decide ¬q = s3.next) = true := by simpa using hqx
          simp -implicitDefEqProofs only [go_sem, reduceIte, Nat.reduceEqDiff, Nat.reduceAdd, Nat.reduceMul, Nat.reduceLT, Nat.reduceLeDiff, reduceCtorEq, Int.reduceEq, Int.reduceNeg, Nat.reduceSub, Int.reduceLT, Int.reduceLE, Int.reduceGT, Int.reduceGE, Int.reduceAdd, Int.reduceSub, Int.reduceToNat, Int.reduceBNe, Int.reduceBEq, Nat.mul_one, Nat.zero_mul, dn, dm, hx5, r1, r2, hxq]
          refine ⟨hr1, ?_⟩
          rw [← hs6]
          refine look8 (av := .slice (some ⟨id, o, none⟩) rows.length ac) (i := i) (x := s3.next) (n := a.n) T ho hD6 hR6 hC' hx6 (by omega) r1 rfl rfl rfl rfl rfl rfl rfl fun e' s' g1 g5 g6 g7 hk' => ?_
          have hfin := fin s6 s' _ _ _ _ _ hks6 hk' hD6 hR6 hC' hsep (Nat.le_succ _) (by simp only; omega) hRm hO hV hO2
          simp -implicitDefEqProofs only [go_sem, reduceIte, Nat.reduceEqDiff, Nat.reduceAdd, Nat.reduceMul, Nat.reduceLT, Nat.reduceLeDiff, reduceCtorEq, Int.reduceEq, Int.reduceNeg, Nat.reduceSub, Int.reduceLT, Int.reduceLE, Int.reduceGT, Int.reduceGE, Int.reduceAdd, Int.reduceSub, Int.reduceToNat, Int.reduceBNe, Int.reduceBEq, Nat.mul_one, Nat.zero_mul, g1, g5, g6, g7, w4]
          exact hfin
        · have dn : decide (a.n < 0) = false := by simpa using hn0
          have dm : decide (a.m < 0) = true := by simpa using hm0
          have en : max a.n 0 = a.n := by omega
          have em : max a.m 0 = 0 := by omega
          obtain ⟨s6, hs6⟩ : ∃ s6 : St, s6 = ⟨((s5.heap.put q (some (.cells [i64 R.most, sv, i64 R.next, i64 a.n, i64 R.fails] 68 0 false))).put q (some (.cells [i64 R.most, sv, i64 R.next, i64 a.n, i64 a.m] 68 0 false))).put q (some (.cells [i64 R.most, sv, i64 R.next, i64 a.n, i64 0] 68 0 false)), s5.next⟩ := ⟨_, rfl⟩
          obtain ⟨hx6, hks6, hD6, hR6⟩ := hcellF s6 (by rw [hs6]) (by rw [hs6, en, em]; simp only [Heap.get_put, if_true]) (fun j hj => by rw [hs6]; simp only [Heap.get_put, hj, if_false])
          have hn6 : s6.next = s5.next := by rw [hs6]
          have hr1 : (decide ¬q = s3.next) = true := by simpa using hqx
          simp -implicitDefEqProofs only [go_sem, reduceIte, Nat.reduceEqDiff, Nat.reduceAdd, Nat.reduceMul, Nat.reduceLT, Nat.reduceLeDiff, reduceCtorEq, Int.reduceEq, Int.reduceNeg, Nat.reduceSub, Int.reduceLT, Int.reduceLE, Int.reduceGT, Int.reduceGE, Int.reduceAdd, Int.reduceSub, Int.reduceToNat, Int.reduceBNe, Int.reduceBEq, Nat.mul_one, Nat.zero_mul, dn, dm, hx5, r1, r2, hxq]
          refine ⟨hr1, ?_⟩
          rw [← hs6]
          refine look8 (av := .slice (some ⟨id, o, none⟩) rows.length ac) (i := i) (x := s3.next) (n := a.n) T ho hD6 hR6 hC' hx6 (by omega) r1 rfl rfl rfl rfl rfl rfl rfl fun e' s' g1 g5 g6 g7 hk' => ?_
          have hfin := fin s6 s' _ _ _ _ _ hks6 hk' hD6 hR6 hC' hsep (Nat.le_succ _) (by simp only; omega) hRm hO hV hO2
          simp -implicitDefEqProofs only [go_sem, reduceIte, Nat.reduceEqDiff, Nat.reduceAdd, Nat.reduceMul, Nat.reduceLT, Nat.reduceLeDiff, reduceCtorEq, Int.reduceEq, Int.reduceNeg, Nat.reduceSub, Int.reduceLT, Int.reduceLE, Int.reduceGT, Int.reduceGE, Int.reduceAdd, Int.reduceSub, Int.reduceToNat, Int.reduceBNe, Int.reduceBEq, Nat.mul_one, Nat.zero_mul, g1, g5, g6, g7, w4]
          exact hfin
        · have dn : decide (a.n < 0) = false := by simpa using hn0
          have dm : decide (a.m < 0) = false := by simpa using hm0
          have en : max a.n 0 = a.n := by omega
          have em : max a.m 0 = a.m := by omega
          obtain ⟨s6, hs6⟩ : ∃ s6 : St, s6 = ⟨(s5.heap.put q (some (.cells [i64 R.most, sv, i64 R.next, i64 a.n, i64 R.fails] 68 0 false))).put q (some (.cells [i64 R.most, sv, i64 R.next, i64 a.n, i64 a.m] 68 0 false)), s5.next⟩ := ⟨_, rfl⟩
          obtain ⟨hx6, hks6, hD6, hR6⟩ := hcellF s6 (by rw [hs6]) (by rw [hs6, en, em]; simp only [Heap.get_put, if_true]) (fun j hj => by rw [hs6]; simp only [Heap.get_put, hj, if_false])
          have hn6 : s6.next = s5.next := by rw [hs6]
          have hr1 : (decide ¬q = s3.next) = true := by simpa using hqx
          simp -implicitDefEqProofs only [go_sem, reduceIte, Nat.reduceEqDiff, Nat.reduceAdd, Nat.reduceMul, Nat.reduceLT, Nat.reduceLeDiff, reduceCtorEq, Int.reduceEq, Int.reduceNeg, Nat.reduceSub, Int.reduceLT, Int.reduceLE, Int.reduceGT, Int.reduceGE, Int.reduceAdd, Int.reduceSub, Int.reduceToNat, Int.reduceBNe, Int.reduceBEq, Nat.mul_one, Nat.zero_mul, dn, dm, hx5, r1, r2, hxq]
          refine ⟨hr1, ?_⟩
          rw [← hs6]
          refine look8 (av := .slice (some ⟨id, o, none⟩) rows.length ac) (i := i) (x := s3.next) (n := a.n) T ho hD6 hR6 hC' hx6 (by omega) r1 rfl rfl rfl rfl rfl rfl rfl fun e' s' g1 g5 g6 g7 hk' => ?_
          have hfin := fin s6 s' _ _ _ _ _ hks6 hk' hD6 hR6 hC' hsep (Nat.le_succ _) (by simp only; omega) hRm hO hV hO2
          simp -implicitDefEqProofs only [go_sem, reduceIte, Nat.reduceEqDiff, Nat.reduceAdd, Nat.reduceMul, Nat.reduceLT, Nat.reduceLeDiff, reduceCtorEq, Int.reduceEq, Int.reduceNeg, Nat.reduceSub, Int.reduceLT, Int.reduceLE, Int.reduceGT, Int.reduceGE, Int.reduceAdd, Int.reduceSub, Int.reduceToNat, Int.reduceBNe, Int.reduceBEq, Nat.mul_one, Nat.zero_mul, g1, g5, g6, g7, w4]
          exact hfin
      · -- Crash
        have hC' := hC.crash a.n
        simp -implicitDefEqProofs only [go_sem, reduceIte, Nat.reduceEqDiff, Nat.reduceAdd, Nat.reduceMul, Nat.reduceLT, Nat.reduceLeDiff, reduceCtorEq, Int.reduceEq, Int.reduceNeg, Nat.reduceSub, Int.reduceLT, Int.reduceLE, Int.reduceGT, Int.reduceGE, Int.reduceAdd, Int.reduceSub, Int.reduceToNat, Int.reduceBNe, Int.reduceBEq, Nat.mul_one, Nat.zero_mul, d1, d2, hix, hg3, hle, hrw, hidx, f1, f2, f3, f4, r0, r1, r3, d3, q0, q1, q2, q3]
        rw [← hsH]
        refine WCall.mono (p29 (ov := ov) T hDH haW.n hC.loose (by omega)) ?_
        rintro u s5 ⟨rfl, hk5, O', hD5, hO'⟩
        have hn5 := hk5.1
        have hx5 : s5.heap.get s3.next = some (.cells row 63 0 false) := by rw [hk5.2 s3.next (by omega) hxO]; exact hxH
        have hR5 := hRH.kept hk5 fun y hy => (hsep y hy).1
        have hks5 : Kept [] s s5 := hksH.comp hk5 fun y hy => .inr (hO y hy)
        simp -implicitDefEqProofs only [go_sem, reduceIte, Nat.reduceEqDiff, Nat.reduceAdd, Nat.reduceMul, Nat.reduceLT, Nat.reduceLeDiff, reduceCtorEq, Int.reduceEq, Int.reduceNeg, Nat.reduceSub, Int.reduceLT, Int.reduceLE, Int.reduceGT, Int.reduceGE, Int.reduceAdd, Int.reduceSub, Int.reduceToNat, Int.reduceBNe, Int.reduceBEq, Nat.mul_one, Nat.zero_mul, hx5, r1]
        refine WCall.mono (p37 (ov := ov) T hR5 haW.n) ?_
        rintro u s6 ⟨rfl, hk6, O2', hR6, hO2'⟩
        have hn6 := hk6.1
        have hD5lt := hD5.lt
        have hD6 := hD5.kept hk6 (fun y hy h => (hsep y h).1 (hO' y hy)) (fun y hy h => (hsep y h).2 hy)
        have hx6 : s6.heap.get s3.next = some (.cells row 63 0 false) := by rw [hk6.2 s3.next (by omega) hxO2]; exact hx5
        have hks6 : Kept [] s s6 := hks5.comp hk6 fun y hy => .inr (hO2 y hy)
        simp -implicitDefEqProofs only [go_sem, reduceIte, Nat.reduceEqDiff, Nat.reduceAdd, Nat.reduceMul, Nat.reduceLT, Nat.reduceLeDiff, reduceCtorEq, Int.reduceEq, Int.reduceNeg, Nat.reduceSub, Int.reduceLT, Int.reduceLE, Int.reduceGT, Int.reduceGE, Int.reduceAdd, Int.reduceSub, Int.reduceToNat, Int.reduceBNe, Int.reduceBEq, Nat.mul_one, Nat.zero_mul]
        refine look8 (av := .slice (some ⟨id, o, none⟩) rows.length ac) (i := i) (x := s3.next) (n := a.n) T ho hD6 hR6 hC' hx6 (by omega) r1 rfl rfl rfl rfl rfl rfl rfl fun e' s' g1 g5 g6 g7 hk' => ?_
        have hfin := fin s6 s' _ _ _ _ _ hks6 hk' hD6 hR6 hC' (fun y hy => ?_) (Nat.zero_le _) (by simp only [rCrash]; omega) hRm (fun y hy => hO y (hO' y hy)) hV (fun y hy => ?_)
        · simp -implicitDefEqProofs only [go_sem, reduceIte, Nat.reduceEqDiff, Nat.reduceAdd, Nat.reduceMul, Nat.reduceLT, Nat.reduceLeDiff, reduceCtorEq, Int.reduceEq, Int.reduceNeg, Nat.reduceSub, Int.reduceLT, Int.reduceLE, Int.reduceGT, Int.reduceGE, Int.reduceAdd, Int.reduceSub, Int.reduceToNat, Int.reduceBNe, Int.reduceBEq, Nat.mul_one, Nat.zero_mul, g1, g5, g6, g7, w4]
          exact hfin
        · rcases hO2' y hy with h | h
          · exact ⟨fun h' => (hsep y h).1 (hO' y h'), (hsep y h).2⟩
          · exact ⟨fun h' => by have := hD5lt.1 y h'; omega, fun h' => by have := hD5lt.2 y h'; omega⟩
        · exact (hO2' y hy).elim (hO2 y) fun h => by omega
end

end Go.Proofs.Ytgnpafmhdmmmhaa
