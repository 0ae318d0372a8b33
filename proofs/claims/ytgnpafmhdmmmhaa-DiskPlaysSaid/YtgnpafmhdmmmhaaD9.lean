/-
  DiskBounds: the walk.
-/
import Derived.Test.YtgnpafmhdmmmhaaD8
set_option maxRecDepth 100000
set_option linter.unusedVariables false
set_option linter.unusedSimpArgs false
namespace Go.Proofs.Ytgnpafmhdmmmhaa
open Go Go.Abs Go.Abs.K

/-- What happens to a disk. -/
structure DAct where
  what : Int
  n : Int
  m : Int
  b : List Int
def DAct.specs (a : DAct) : List CellSpec := [.prim (i64 a.what), .prim (i64 a.n), .prim (i64 a.m), .ints .u8 a.b]
structure DAct.Wide (a : DAct) : Prop where
  n : W64 a.n
  m : W64 a.m

theorem bin_neqS (a : ByteArray) : binV .neq (.string a) (.string a) = some (.bool false) := by simp [binV]
theorem p26b {tbl : FuncId → Option AFun} {ov : CallSem} {s : St} (T : DTbl tbl) (ho : OvOK ov) (K : Value → St → Prop) : WCall (fun k => call tbl ov k) 26 [] s K = K (.bool true) s :=
  WCall.eq (WCall.ov T.t26 (r := (.bool true, s)) (ho.awake s) ⟨rfl, rfl⟩) K

/-- What one act does to a disk: the errno, and the disk behind. -/
structure Did (s : St) (p : Nat) (D : DM) (O V : List Nat) (e : Int) (s' : St) (D' : DM) (O' V' : List Nat) : Prop where
  rep : DRep s' p D' O' V'
  kept : Kept O s s'
  o : ∀ x ∈ O', x ∈ O ∨ s.next ≤ x
  v : ∀ x ∈ V', x ∈ V ∨ s.next ≤ x
  same : e ≠ 0 → D'.F = D.F
  most : D'.most = D.most
  loose : D'.loose.length ≤ D.loose.length + 1

theorem bytesOfInts {s : St} {v : Value} {bs : List Int} (h : IntsS .u8 s v bs) (hw : ∀ n ∈ bs, (Lit.int .u8 n).wf = true) : BytesV s v bs := by
  refine ⟨fun z hz => u8_of_wf (hw z hz), ?_⟩
  rcases h with h | ⟨id, o, cap, c, T, z, rfl, h1, h2, h3, h4, h5⟩
  · exact .inl h
  · exact .inr ⟨id, o, cap, c, T, z, true, rfl, h1, h2, h3, h5, .inl rfl, h4⟩

section
variable {tbl : FuncId → Option AFun} {ov : CallSem} {s : St} (T : DTbl tbl)
include T

theorem d27 {p : Nat} {D : DM} {O V : List Nat} {n : Int} {bv : Value} {bs : List Int} (h : DRep s p D O V) (hb : BytesV s bv bs) (hbO : ∀ id o l c, bv = .slice (some ⟨id, o, none⟩) l c → id ∉ O) (hn : W64 n) (hll : D.loose.length < 2 ^ 20) :
    WCall (fun k => call tbl ov k) 27 [ptr p, i64 n, bv] s fun u s' => ∃ e D' O' V', u = i64 e ∧ Did s p D O V e s' D' O' V' := by
  refine WCall.mono (p27 (ov := ov) T h hb hbO hn hll) ?_
  rintro u s1 ⟨rfl, hk, O', V', hR, hO, hV⟩
  refine ⟨_, _, _, _, rfl, ⟨hR, hk, hO, hV, ?_, ?_, ?_⟩⟩
  · unfold appE appD
    split
    · intro _; rfl
    · split
      · intro _; rfl
      · split
        · intro h; exact absurd rfl h
        · intro _; rfl
  · unfold appD; repeat' split
    all_goals rfl
  · unfold appD
    repeat' split
    all_goals (first | (simp only [wD, List.length_append, List.length_cons, List.length_nil]; omega) | omega)

theorem d34 {p : Nat} {D : DM} {O V : List Nat} {n : Int} (h : DRep s p D O V) (hll : D.loose.length < 2 ^ 20) :
    WCall (fun k => call tbl ov k) 34 [ptr p, i64 n] s fun u s' => ∃ e D' O' V', u = i64 e ∧ Did s p D O V e s' D' O' V' := by
  refine WCall.mono (p34 (ov := ov) (n := n) T h hll) ?_
  rintro u s1 ⟨rfl, hk, hR⟩
  refine ⟨_, _, _, _, rfl, ⟨hR, hk, fun x hx => .inl hx, fun x hx => .inl hx, ?_, ?_, ?_⟩⟩
  · unfold dropE dropD
    split
    · split
      · intro h; exact absurd rfl h
      · intro _; rfl
    · intro _; rfl
  · unfold dropD; repeat' split
    all_goals rfl
  · unfold dropD
    have := List.length_filter_le (fun w : Int × Int => !(w.1 == n)) D.loose
    repeat' split
    all_goals (first | (simp only [wD]; omega) | omega)

theorem d28 {p : Nat} {D : DM} {O V : List Nat} (h : DRep s p D O V) :
    WCall (fun k => call tbl ov k) 28 [ptr p] s fun u s' => ∃ e D' O' V', u = i64 e ∧ Did s p D O V e s' D' O' V' := by
  refine WCall.mono (p28 (ov := ov) T h) ?_
  rintro u s1 ⟨rfl, hk, O', hR, hO⟩
  refine ⟨_, _, _, _, rfl, ⟨hR, hk, fun x hx => .inl (hO x hx), fun x hx => .inl hx, ?_, ?_, ?_⟩⟩
  · intro _; split <;> rfl
  · split <;> rfl
  · split
    · exact Nat.zero_le _
    · exact Nat.le_succ _

set_option maxHeartbeats 4000000 in
theorem law10 (t10 : tbl 10 = some fun10) (ho : OvOK ov) {av : Value} {M : List DAct} {rows : List (List Value)} (hr : RowV 4 s av rows) (hM : All2 (fun a row => All2 (CellS s) (DAct.specs a) row) M rows) (hW : ∀ a ∈ M, a.Wide) {segs : Int} (hs : 0 ≤ segs ∧ segs ≤ 255) :
    WCall (fun k => call tbl ov k) 10 [.int .u8 segs, av] s fun u _ => u = .bool true := by
  refine WCall.of t10 rfl ?_
  have e26 := fun (s : St) K => p26b (s := s) T ho K
  obtain ⟨aa, ac, hav⟩ := hr.len
  subst hav
  obtain ⟨most, hmost⟩ : ∃ most, most = segs.tmod 18 := ⟨_, rfl⟩
  have hmr : 0 ≤ most ∧ most < 18 := by
    rw [hmost, Int.tmod_eq_emod_of_nonneg hs.1]
    omega
  have hrem : binV .rem (.int .u8 segs) (.int .u8 18) = some (.int .u8 most) := by simp [binV, hmost]
  have hwm : IntKind.i64.wrap most = most := by rw [IntKind.wrap_i64]; omega
  have h25 := p25 (ov := ov) (s := s) T (n := most) (by unfold W64; omega)
  simp -implicitDefEqProofs only [fun10, code10, params, go_sem, reduceIte, Nat.reduceEqDiff, Nat.reduceAdd, Nat.reduceMul, Nat.reduceLT, Nat.reduceLeDiff, reduceCtorEq, Int.reduceEq, Int.reduceNeg, Nat.reduceSub, Int.reduceLT, Int.reduceLE, Int.reduceGT, Int.reduceGE, Int.reduceAdd, Int.reduceSub, Int.reduceToNat, Int.reduceBNe, Int.reduceBEq, Nat.mul_one, Nat.zero_mul, hrem, hwm]
  refine WCall.mono h25 ?_
  rintro u s1 ⟨rfl, hR1, hk1⟩
  have hn1 := hk1.1
  obtain ⟨p, hp⟩ : ∃ p, p = s.next + 1 := ⟨_, rfl⟩
  rw [← hp] at hR1
  obtain ⟨mm, hmm⟩ : ∃ mm, mm = min most 16 := ⟨_, rfl⟩
  have hmax : max 0 (min most 16) = mm := by omega
  rw [hmax] at hR1
  obtain ⟨I, hI⟩ : ∃ I : Nat → List Value → St → Prop, I = fun j vs s' => Kept [] s s' ∧ ∃ i D O V, i ≤ rows.length ∧ i ≤ 60 ∧ j = rows.length - i ∧ vs = [.slice aa rows.length ac, i64 mm, ptr p, i64 (i : Nat)] ∧
    DRep s' p D O V ∧ D.most = mm ∧ D.loose.length ≤ i ∧ (∀ x ∈ O, s.next ≤ x) ∧ (∀ x ∈ V, s.next ≤ x) := ⟨_, rfl⟩
  have hstart : I rows.length [.slice aa rows.length ac, i64 mm, ptr p, i64 0] s1 := by
    rw [hI]
    exact ⟨hk1, 0, _, _, _, by omega, by omega, by omega, rfl, hR1, rfl, by simp, fun x hx => by simp only [List.mem_cons, List.not_mem_nil, or_false] at hx; omega, by simp⟩
  refine ccond_assign (Up.next (Up.ends _ _) (UpN.sq (Up.ends _ _))) (old := .int .i64 most) rfl ?_
  have hif : (if decide (most > 16) = true then Value.int .i64 16 else .int .i64 most) = i64 mm := by
    by_cases h : most > 16
    · rw [if_pos (by simpa using h)]; congr 1; omega
    · rw [if_neg (by simpa using h)]; congr 1; omega
  rw [hif]
  simp -implicitDefEqProofs only [go_sem, reduceIte, Nat.reduceEqDiff, Nat.reduceAdd, Nat.reduceMul, Nat.reduceLT, Nat.reduceLeDiff, reduceCtorEq, Int.reduceEq, Int.reduceNeg, Nat.reduceSub, Int.reduceLT, Int.reduceLE, Int.reduceGT, Int.reduceGE, Int.reduceAdd, Int.reduceSub, Int.reduceToNat, Int.reduceBNe, Int.reduceBEq, Nat.mul_one, Nat.zero_mul]
  refine wc_loopV I rows.length ?_ ?_
  · simp -implicitDefEqProofs only [go_sem, reduceIte, Nat.reduceEqDiff, Nat.reduceAdd, Nat.reduceMul, Nat.reduceLT, Nat.reduceLeDiff, reduceCtorEq, Int.reduceEq, Int.reduceNeg, Nat.reduceSub, Int.reduceLT, Int.reduceLE, Int.reduceGT, Int.reduceGE, Int.reduceAdd, Int.reduceSub, Int.reduceToNat, Int.reduceBNe, Int.reduceBEq, Nat.mul_one, Nat.zero_mul, ← hp]
    exact hstart
  · intro j vs s2 hi _
    rw [hI] at hi
    obtain ⟨hk2, i, D, O, V, hil, hi60, rfl, rfl, hR, hDm, hDl, hO, hV⟩ := hi
    have hnn := hk2.1
    have stop : (decide ((i : Int) < (rows.length : Int)) = false ∨ (decide ((i : Int) < (rows.length : Int)) = true ∧ decide ((i : Int) < 60) = false)) ∨ (decide ((i : Int) < (rows.length : Int)) = true ∧ decide ((i : Int) < 60) = true) := by
      cases decide ((i : Int) < (rows.length : Int)) <;> cases decide ((i : Int) < 60) <;> simp
    rcases stop with (d1 | ⟨d1, d2⟩) | ⟨d1, d2⟩
    · simp -implicitDefEqProofs only [go_sem, reduceIte, Nat.reduceEqDiff, Nat.reduceAdd, Nat.reduceMul, Nat.reduceLT, Nat.reduceLeDiff, reduceCtorEq, Int.reduceEq, Int.reduceNeg, Nat.reduceSub, Int.reduceLT, Int.reduceLE, Int.reduceGT, Int.reduceGE, Int.reduceAdd, Int.reduceSub, Int.reduceToNat, Int.reduceBNe, Int.reduceBEq, Nat.mul_one, Nat.zero_mul, d1, e26]
    · simp -implicitDefEqProofs only [go_sem, reduceIte, Nat.reduceEqDiff, Nat.reduceAdd, Nat.reduceMul, Nat.reduceLT, Nat.reduceLeDiff, reduceCtorEq, Int.reduceEq, Int.reduceNeg, Nat.reduceSub, Int.reduceLT, Int.reduceLE, Int.reduceGT, Int.reduceGE, Int.reduceAdd, Int.reduceSub, Int.reduceToNat, Int.reduceBNe, Int.reduceBEq, Nat.mul_one, Nat.zero_mul, d1, d2, e26]
    · have hiN : i < rows.length := by have := of_decide_eq_true d1; omega
      have hi60' : i < 60 := by have := of_decide_eq_true d2; omega
      have hiM : i < M.length := by rw [hM.len]; exact hiN
      obtain ⟨a, ha⟩ : ∃ a, a = M[i] := ⟨_, rfl⟩
      have hrow := hM.get (List.getElem?_eq_getElem hiM) (List.getElem?_eq_getElem hiN)
      rw [← ha] at hrow
      have haW : a.Wide := by rw [ha]; exact hW _ (List.getElem_mem hiM)
      obtain ⟨bv, hrow2, hbv⟩ : ∃ bv, rows[i] = [i64 a.what, i64 a.n, i64 a.m, bv] ∧ BytesV s bv a.b := by
        generalize rows[i] = row at hrow
        unfold DAct.specs at hrow
        cases hrow with | cons h1 hrow => ?_
        cases hrow with | cons h2 hrow => ?_
        cases hrow with | cons h3 hrow => ?_
        cases hrow with | cons h4 hrow => ?_
        cases hrow
        cases h1; cases h2; cases h3
        exact ⟨_, rfl, bytesOfInts h4.1 h4.2⟩
      obtain ⟨id, o, cap, c, T', ro, hv, hid, hgs, hle, hrw, hc⟩ := row_read hr hiN
      rw [List.getD_eq_getElem?_getD, List.getElem?_eq_getElem hiN, Option.getD_some, hrow2] at hrw
      cases hv
      obtain ⟨ba, bc, hbe⟩ := hbv.len
      subst hbe
      have hg2 : s2.heap.get id = some (.cells c T' 4 ro) := by rw [hk2.2 id hid (by simp)]; exact hgs
      have hix : 0 ≤ (i : Int) ∧ (i : Int) < (rows.length : Int) := by omega
      have w4 : IntKind.i64.wrap ((i : Int) + 1) = ((i + 1 : Nat) : Int) := by rw [IntKind.wrap_i64]; omega
      obtain ⟨row, hrowe⟩ : ∃ row : List Value, row = [i64 a.what, i64 a.n, i64 a.m, .slice ba a.b.length bc] := ⟨_, rfl⟩
      rw [← hrowe] at hrw
      have f1 : row.length = 4 := by rw [hrowe]; rfl
      have f2 : row.take 4 = row := by rw [hrowe]; rfl
      have f3 : row.all isCell = true := by rw [hrowe]; rfl
      have f4 : storeL [i64 0, i64 0, i64 0, .slice none 0 0] 0 row = row := by rw [hrowe]; rfl
      have r0 : row[0]? = some (i64 a.what) := by rw [hrowe]; rfl
      have r1 : row[1]? = some (i64 a.n) := by rw [hrowe]; rfl
      have r2 : row[2]? = some (i64 a.m) := by rw [hrowe]; rfl
      have r3 : row[3]? = some (.slice ba a.b.length bc) := by rw [hrowe]; rfl
      obtain ⟨x, hx⟩ : ∃ x, x = s2.next := ⟨_, rfl⟩
      have hidx : (id = s2.next) = False := by simp; omega
      obtain ⟨sH, hsH⟩ : ∃ sH : St, sH = ⟨(s2.heap.put s2.next (some (.cells [i64 0, i64 0, i64 0, .slice none 0 0] 63 0 false))).put s2.next (some (.cells row 63 0 false)), s2.next + 1⟩ := ⟨_, rfl⟩
      have hkH : Kept [] s2 sH := by
        rw [hsH]
        exact ⟨Nat.le_succ _, fun j hj _ => by simp only [Heap.get_put]; rw [if_neg (by omega), if_neg (by omega)]⟩
      have hRH := hR.kept hkH (by simp) (by simp)
      have hxH : sH.heap.get s2.next = some (.cells row 63 0 false) := by rw [hsH]; simp only [Heap.get_put, if_true]
      have hnH : sH.next = s2.next + 1 := by rw [hsH]
      have hRlt := hR.lt
      by_cases hbig : (a.b.length : Int) > 2500
      · have d3 : decide ((a.b.length : Int) > 2500) = true := by simpa using hbig
        have hfin : ∃ m', m' < rows.length - i ∧ I m' [.slice (some ⟨id, o, none⟩) rows.length ac, i64 mm, ptr p, i64 ((i + 1 : Nat) : Int)] sH := by
          refine ⟨rows.length - (i + 1), by omega, ?_⟩
          rw [hI]
          exact ⟨hk2.trans hkH, i + 1, D, O, V, by omega, by omega, rfl, rfl, hRH, hDm, by omega, hO, hV⟩
        rw [hsH] at hfin
        simp -implicitDefEqProofs only [go_sem, reduceIte, Nat.reduceEqDiff, Nat.reduceAdd, Nat.reduceMul, Nat.reduceLT, Nat.reduceLeDiff, reduceCtorEq, Int.reduceEq, Int.reduceNeg, Nat.reduceSub, Int.reduceLT, Int.reduceLE, Int.reduceGT, Int.reduceGE, Int.reduceAdd, Int.reduceSub, Int.reduceToNat, Int.reduceBNe, Int.reduceBEq, Nat.mul_one, Nat.zero_mul, d1, d2, hix, hg2, hle, hrw, hidx, f1, f2, f3, f4, r3, d3, w4]
        exact hfin
      have d3 : decide ((a.b.length : Int) > 2500) = false := by simpa using hbig
      have h38 := p38 (ov := ov) T ho hRH
      simp -implicitDefEqProofs only [go_sem, reduceIte, Nat.reduceEqDiff, Nat.reduceAdd, Nat.reduceMul, Nat.reduceLT, Nat.reduceLeDiff, reduceCtorEq, Int.reduceEq, Int.reduceNeg, Nat.reduceSub, Int.reduceLT, Int.reduceLE, Int.reduceGT, Int.reduceGE, Int.reduceAdd, Int.reduceSub, Int.reduceToNat, Int.reduceBNe, Int.reduceBEq, Nat.mul_one, Nat.zero_mul, d1, d2, hix, hg2, hle, hrw, hidx, f1, f2, f3, f4, r3, d3]
      rw [← hsH]
      refine WCall.mono h38 ?_
      rintro u s3 ⟨hbef, hk3⟩
      obtain ⟨b1, b2, rfl⟩ := hbef.len
      rw [List.length_map, sortZ_length, List.length_map]
      have hn3 := hk3.1
      have hx3 : s3.heap.get s2.next = some (.cells row 63 0 false) := by rw [hk3.2 s2.next (by omega) (by simp)]; exact hxH
      have hR3 := hRH.kept hk3 (by simp) (by simp)
      simp -implicitDefEqProofs only [go_sem, reduceIte, Nat.reduceEqDiff, Nat.reduceAdd, Nat.reduceMul, Nat.reduceLT, Nat.reduceLeDiff, reduceCtorEq, Int.reduceEq, Int.reduceNeg, Nat.reduceSub, Int.reduceLT, Int.reduceLE, Int.reduceGT, Int.reduceGE, Int.reduceAdd, Int.reduceSub, Int.reduceToNat, Int.reduceBNe, Int.reduceBEq, Nat.mul_one, Nat.zero_mul, hx3, r1]
      refine WCall.mono (p30 (ov := ov) (n := a.n) T hR3) ?_
      rintro u s4 ⟨xv, rfl, hxv, hk4, hxN⟩
      have hn4 := hk4.1
      have hx4 : s4.heap.get s2.next = some (.cells row 63 0 false) := by rw [hk4.2 s2.next (by omega) (by simp)]; exact hx3
      have hR4 := hR3.kept hk4 (by simp) (by simp)
      have hks4 : Kept [] s s4 := ((hk2.trans hkH).trans hk3).trans hk4
      have hbv4 := hbv.kept hks4
      have hbO : ∀ id' o' l c, Value.slice ba a.b.length bc = .slice (some ⟨id', o', none⟩) l c → id' ∉ O := fun id' o' l c e => by
        obtain ⟨_, ⟨hx, _⟩ | ⟨id2, o2, c2, cc2, t2, sz2, ro2, hx, _, hx3, _⟩⟩ := hbv
        · rw [hx] at e; cases e
        · rw [hx] at e
          simp only [Value.slice.injEq, Option.some.injEq, Addr.mk.injEq] at e
          intro hxO
          have := hO _ hxO
          have := e.1.1
          omega
      -- behind a call
      have fin : ∀ (s5 : St) (e : Int) (D' : DM) (O' V' : List Nat) (s7 : St), Did s4 p D O V e s5 D' O' V' → Kept [] s5 s7 → DRep s7 p D' O' V' → ∃ m', m' < rows.length - i ∧ I m' [.slice (some ⟨id, o, none⟩) rows.length ac, i64 mm, ptr p, i64 ((i + 1 : Nat) : Int)] s7 := by
        intro s5 e D' O' V' s7 hdid hk7 hR7
        refine ⟨rows.length - (i + 1), by omega, ?_⟩
        rw [hI]
        refine ⟨(hks4.comp hdid.kept fun y hy => .inr (hO y hy)).trans hk7, i + 1, D', O', V', by omega, by omega, rfl, rfl, hR7, by rw [hdid.most, hDm], by have := hdid.loose; omega, fun y hy => (hdid.o y hy).elim (hO y) fun h => ?_, fun y hy => (hdid.v y hy).elim (hV y) fun h => ?_⟩
        · have := hks4.1; omega
        · have := hks4.1; omega
      have bounds : ∀ {s5 : St} {D' : DM} {O' V' : List Nat}, DRep s5 p D' O' V' → D'.most = D.most → decide (((D'.F.length : Nat) : Int) > mm) = false ∧ True ∧ True ∧ True ∧ (∀ n, decide (((readB D' n).length : Int) > 2048) = false) ∧ True := by
        intro s5 D' O' V' hrep hmo
        obtain ⟨_, _, _, _, _, _, _, _, _, _, _, _, _, _, _, _, _, h12⟩ := hrep
        refine ⟨?_, trivial, trivial, trivial, fun n => ?_, trivial⟩
        · have := h12.fit
          rw [hmo, hDm] at this
          simp; omega
        · have : (readB D' n).length ≤ 2048 := by
            unfold readB
            cases hl : lookF D'.F n with
            | none => simp
            | some bs => exact h12.len _ (lookF_mem hl)
          simp; omega
      have q0 : (a.what == 0) = true ∨ (a.what == 0) = false := by cases (a.what == 0) <;> simp
      have q2 : (a.what == 2) = true ∨ (a.what == 2) = false := by cases (a.what == 2) <;> simp
      have q3 : (a.what == 3) = true ∨ (a.what == 3) = false := by cases (a.what == 3) <;> simp
      have hpick : (a.what == 0) = true ∨ ((a.what == 0) = false ∧ (a.what == 2) = true) ∨ ((a.what == 0) = false ∧ (a.what == 2) = false ∧ (a.what == 3) = false) ∨ ((a.what == 0) = false ∧ (a.what == 2) = false ∧ (a.what == 3) = true) := by
        rcases q0 with q0 | q0 <;> rcases q2 with q2 | q2 <;> rcases q3 with q3 | q3 <;> simp [q0, q2, q3]
      rcases hpick with q0 | ⟨q0, q2⟩ | ⟨q0, q2, q3⟩ | ⟨q0, q2, q3⟩
      rotate_left 3
      · -- Fault
        simp -implicitDefEqProofs only [go_sem, reduceIte, Nat.reduceEqDiff, Nat.reduceAdd, Nat.reduceMul, Nat.reduceLT, Nat.reduceLeDiff, reduceCtorEq, Int.reduceEq, Int.reduceNeg, Nat.reduceSub, Int.reduceLT, Int.reduceLE, Int.reduceGT, Int.reduceGE, Int.reduceAdd, Int.reduceSub, Int.reduceToNat, Int.reduceBNe, Int.reduceBEq, Nat.mul_one, Nat.zero_mul, hx4, r0, r1, r2, q0, q2, q3]
        refine WCall.mono (p36 (ov := ov) T hR4 haW.n haW.m) ?_
        rintro u s5 ⟨hk5, hR5⟩
        simp -implicitDefEqProofs only [go_sem, reduceIte, Nat.reduceEqDiff, Nat.reduceAdd, Nat.reduceMul, Nat.reduceLT, Nat.reduceLeDiff, reduceCtorEq, Int.reduceEq, Int.reduceNeg, Nat.reduceSub, Int.reduceLT, Int.reduceLE, Int.reduceGT, Int.reduceGE, Int.reduceAdd, Int.reduceSub, Int.reduceToNat, Int.reduceBNe, Int.reduceBEq, Nat.mul_one, Nat.zero_mul, w4]
        refine ⟨rows.length - (i + 1), by omega, ?_⟩
        rw [hI]
        exact ⟨hks4.comp hk5 fun y hy => .inr (hO y hy), i + 1, _, O, V, by omega, by omega, rfl, rfl, hR5, hDm, by simp only; omega, hO, hV⟩
      · simp -implicitDefEqProofs only [go_sem, reduceIte, Nat.reduceEqDiff, Nat.reduceAdd, Nat.reduceMul, Nat.reduceLT, Nat.reduceLeDiff, reduceCtorEq, Int.reduceEq, Int.reduceNeg, Nat.reduceSub, Int.reduceLT, Int.reduceLE, Int.reduceGT, Int.reduceGE, Int.reduceAdd, Int.reduceSub, Int.reduceToNat, Int.reduceBNe, Int.reduceBEq, Nat.mul_one, Nat.zero_mul, hx4, r0, r1, r3, q0]
        refine WCall.mono (d27 (ov := ov) T hR4 hbv4 hbO haW.n (by omega)) ?_
        rintro u s5 ⟨e, D', O', V', rfl, hdid⟩
        have hx5 : s5.heap.get s2.next = some (.cells row 63 0 false) := by rw [hdid.kept.2 s2.next (by omega) (fun h => by have := hRlt.1 _ h; omega)]; exact hx4
        have hn5 := hdid.kept.1
        simp -implicitDefEqProofs only [go_sem, reduceIte, Nat.reduceEqDiff, Nat.reduceAdd, Nat.reduceMul, Nat.reduceLT, Nat.reduceLeDiff, reduceCtorEq, Int.reduceEq, Int.reduceNeg, Nat.reduceSub, Int.reduceLT, Int.reduceLE, Int.reduceGT, Int.reduceGE, Int.reduceAdd, Int.reduceSub, Int.reduceToNat, Int.reduceBNe, Int.reduceBEq, Nat.mul_one, Nat.zero_mul]
        refine WCall.mono (p38 (ov := ov) T ho hdid.rep) ?_
        rintro u s6 ⟨haft, hk6⟩
        obtain ⟨c1, c2, rfl⟩ := haft.len
        rw [List.length_map, sortZ_length, List.length_map]
        have hn6 := hk6.1
        have hx6 : s6.heap.get s2.next = some (.cells row 63 0 false) := by rw [hk6.2 s2.next (by omega) (by simp)]; exact hx5
        have hR6 := hdid.rep.kept hk6 (by simp) (by simp)
        simp -implicitDefEqProofs only [go_sem, reduceIte, Nat.reduceEqDiff, Nat.reduceAdd, Nat.reduceMul, Nat.reduceLT, Nat.reduceLeDiff, reduceCtorEq, Int.reduceEq, Int.reduceNeg, Nat.reduceSub, Int.reduceLT, Int.reduceLE, Int.reduceGT, Int.reduceGE, Int.reduceAdd, Int.reduceSub, Int.reduceToNat, Int.reduceBNe, Int.reduceBEq, Nat.mul_one, Nat.zero_mul, hx6, r1]
        refine WCall.mono (p30 (ov := ov) (n := a.n) T hR6) ?_
        rintro u s7 ⟨yv, rfl, hyv, hk7, _⟩
        have hR7 := hR6.kept hk7 (by simp) (by simp)
        have hfin := fin s5 e D' O' V' s7 hdid (hk6.trans hk7) hR7
        obtain ⟨b3, b4, b5, b6, b7, b8⟩ := bounds hdid.rep hdid.most
        have hxv7 := BytesV.kept' (t := 0) (w := undefV) (zs := readB D a.n) (ws := []) hxv (hdid.kept.trans ((hk6.trans hk7).sub (by simp))) (fun id o l c e hin => by
          have h1 := hxN id o l c e
          have h2 := hRlt.1 _ hin
          omega)
        have hT1 := ev_toString hxv7
        have hT2 := ev_toString hyv
        obtain ⟨y1, y2, hye⟩ := hyv.len
        subst hye
        obtain ⟨x1, x2, hxe⟩ := hxv.len
        subst hxe
        cases he : (e != 0)
        · simp -implicitDefEqProofs only [go_sem, reduceIte, Nat.reduceEqDiff, Nat.reduceAdd, Nat.reduceMul, Nat.reduceLT, Nat.reduceLeDiff, reduceCtorEq, Int.reduceEq, Int.reduceNeg, Nat.reduceSub, Int.reduceLT, Int.reduceLE, Int.reduceGT, Int.reduceGE, Int.reduceAdd, Int.reduceSub, Int.reduceToNat, Int.reduceBNe, Int.reduceBEq, Nat.mul_one, Nat.zero_mul, b3, b7 a.n, he, w4]
          exact hfin
        · have hsame := hdid.same (by simpa using he)
          have hl2 : (((D.F.length : Nat) : Int) != ((D'.F.length : Nat) : Int)) = false := by rw [hsame]; simp
          have hr2 : readE D' a.n = readE D a.n := by unfold readE; rw [hsame]
          have hb2 : readB D' a.n = readB D a.n := by unfold readB; rw [hsame]
          have hgg : (readE D a.n != readE D a.n) = false := by simp
          rw [hb2] at hT2
          have hb7 := b7 a.n
          rw [hb2] at hb7 ⊢
          rw [hr2]
          simp -implicitDefEqProofs only [go_sem, reduceIte, Nat.reduceEqDiff, Nat.reduceAdd, Nat.reduceMul, Nat.reduceLT, Nat.reduceLeDiff, reduceCtorEq, Int.reduceEq, Int.reduceNeg, Nat.reduceSub, Int.reduceLT, Int.reduceLE, Int.reduceGT, Int.reduceGE, Int.reduceAdd, Int.reduceSub, Int.reduceToNat, Int.reduceBNe, Int.reduceBEq, Nat.mul_one, Nat.zero_mul, b3, hb7, he, hl2, hgg, hT1, hT2, bin_neqS, w4]
          exact hfin
      · simp -implicitDefEqProofs only [go_sem, reduceIte, Nat.reduceEqDiff, Nat.reduceAdd, Nat.reduceMul, Nat.reduceLT, Nat.reduceLeDiff, reduceCtorEq, Int.reduceEq, Int.reduceNeg, Nat.reduceSub, Int.reduceLT, Int.reduceLE, Int.reduceGT, Int.reduceGE, Int.reduceAdd, Int.reduceSub, Int.reduceToNat, Int.reduceBNe, Int.reduceBEq, Nat.mul_one, Nat.zero_mul, hx4, r0, r1, q0, q2]
        refine WCall.mono (d34 (ov := ov) (n := a.n) T hR4 (by omega)) ?_
        rintro u s5 ⟨e, D', O', V', rfl, hdid⟩
        have hx5 : s5.heap.get s2.next = some (.cells row 63 0 false) := by rw [hdid.kept.2 s2.next (by omega) (fun h => by have := hRlt.1 _ h; omega)]; exact hx4
        have hn5 := hdid.kept.1
        simp -implicitDefEqProofs only [go_sem, reduceIte, Nat.reduceEqDiff, Nat.reduceAdd, Nat.reduceMul, Nat.reduceLT, Nat.reduceLeDiff, reduceCtorEq, Int.reduceEq, Int.reduceNeg, Nat.reduceSub, Int.reduceLT, Int.reduceLE, Int.reduceGT, Int.reduceGE, Int.reduceAdd, Int.reduceSub, Int.reduceToNat, Int.reduceBNe, Int.reduceBEq, Nat.mul_one, Nat.zero_mul]
        refine WCall.mono (p38 (ov := ov) T ho hdid.rep) ?_
        rintro u s6 ⟨haft, hk6⟩
        obtain ⟨c1, c2, rfl⟩ := haft.len
        rw [List.length_map, sortZ_length, List.length_map]
        have hn6 := hk6.1
        have hx6 : s6.heap.get s2.next = some (.cells row 63 0 false) := by rw [hk6.2 s2.next (by omega) (by simp)]; exact hx5
        have hR6 := hdid.rep.kept hk6 (by simp) (by simp)
        simp -implicitDefEqProofs only [go_sem, reduceIte, Nat.reduceEqDiff, Nat.reduceAdd, Nat.reduceMul, Nat.reduceLT, Nat.reduceLeDiff, reduceCtorEq, Int.reduceEq, Int.reduceNeg, Nat.reduceSub, Int.reduceLT, Int.reduceLE, Int.reduceGT, Int.reduceGE, Int.reduceAdd, Int.reduceSub, Int.reduceToNat, Int.reduceBNe, Int.reduceBEq, Nat.mul_one, Nat.zero_mul, hx6, r1]
        refine WCall.mono (p30 (ov := ov) (n := a.n) T hR6) ?_
        rintro u s7 ⟨yv, rfl, hyv, hk7, _⟩
        have hR7 := hR6.kept hk7 (by simp) (by simp)
        have hfin := fin s5 e D' O' V' s7 hdid (hk6.trans hk7) hR7
        obtain ⟨b3, b4, b5, b6, b7, b8⟩ := bounds hdid.rep hdid.most
        have hxv7 := BytesV.kept' (t := 0) (w := undefV) (zs := readB D a.n) (ws := []) hxv (hdid.kept.trans ((hk6.trans hk7).sub (by simp))) (fun id o l c e hin => by
          have h1 := hxN id o l c e
          have h2 := hRlt.1 _ hin
          omega)
        have hT1 := ev_toString hxv7
        have hT2 := ev_toString hyv
        obtain ⟨y1, y2, hye⟩ := hyv.len
        subst hye
        obtain ⟨x1, x2, hxe⟩ := hxv.len
        subst hxe
        cases he : (e != 0)
        · simp -implicitDefEqProofs only [go_sem, reduceIte, Nat.reduceEqDiff, Nat.reduceAdd, Nat.reduceMul, Nat.reduceLT, Nat.reduceLeDiff, reduceCtorEq, Int.reduceEq, Int.reduceNeg, Nat.reduceSub, Int.reduceLT, Int.reduceLE, Int.reduceGT, Int.reduceGE, Int.reduceAdd, Int.reduceSub, Int.reduceToNat, Int.reduceBNe, Int.reduceBEq, Nat.mul_one, Nat.zero_mul, b3, b7 a.n, he, w4]
          exact hfin
        · have hsame := hdid.same (by simpa using he)
          have hl2 : (((D.F.length : Nat) : Int) != ((D'.F.length : Nat) : Int)) = false := by rw [hsame]; simp
          have hr2 : readE D' a.n = readE D a.n := by unfold readE; rw [hsame]
          have hb2 : readB D' a.n = readB D a.n := by unfold readB; rw [hsame]
          have hgg : (readE D a.n != readE D a.n) = false := by simp
          rw [hb2] at hT2
          have hb7 := b7 a.n
          rw [hb2] at hb7 ⊢
          rw [hr2]
          simp -implicitDefEqProofs only [go_sem, reduceIte, Nat.reduceEqDiff, Nat.reduceAdd, Nat.reduceMul, Nat.reduceLT, Nat.reduceLeDiff, reduceCtorEq, Int.reduceEq, Int.reduceNeg, Nat.reduceSub, Int.reduceLT, Int.reduceLE, Int.reduceGT, Int.reduceGE, Int.reduceAdd, Int.reduceSub, Int.reduceToNat, Int.reduceBNe, Int.reduceBEq, Nat.mul_one, Nat.zero_mul, b3, hb7, he, hl2, hgg, hT1, hT2, bin_neqS, w4]
          exact hfin
      · simp -implicitDefEqProofs only [go_sem, reduceIte, Nat.reduceEqDiff, Nat.reduceAdd, Nat.reduceMul, Nat.reduceLT, Nat.reduceLeDiff, reduceCtorEq, Int.reduceEq, Int.reduceNeg, Nat.reduceSub, Int.reduceLT, Int.reduceLE, Int.reduceGT, Int.reduceGE, Int.reduceAdd, Int.reduceSub, Int.reduceToNat, Int.reduceBNe, Int.reduceBEq, Nat.mul_one, Nat.zero_mul, hx4, r0, q0, q2, q3]
        refine WCall.mono (d28 (ov := ov) T hR4) ?_
        rintro u s5 ⟨e, D', O', V', rfl, hdid⟩
        have hx5 : s5.heap.get s2.next = some (.cells row 63 0 false) := by rw [hdid.kept.2 s2.next (by omega) (fun h => by have := hRlt.1 _ h; omega)]; exact hx4
        have hn5 := hdid.kept.1
        simp -implicitDefEqProofs only [go_sem, reduceIte, Nat.reduceEqDiff, Nat.reduceAdd, Nat.reduceMul, Nat.reduceLT, Nat.reduceLeDiff, reduceCtorEq, Int.reduceEq, Int.reduceNeg, Nat.reduceSub, Int.reduceLT, Int.reduceLE, Int.reduceGT, Int.reduceGE, Int.reduceAdd, Int.reduceSub, Int.reduceToNat, Int.reduceBNe, Int.reduceBEq, Nat.mul_one, Nat.zero_mul]
        refine WCall.mono (p38 (ov := ov) T ho hdid.rep) ?_
        rintro u s6 ⟨haft, hk6⟩
        obtain ⟨c1, c2, rfl⟩ := haft.len
        rw [List.length_map, sortZ_length, List.length_map]
        have hn6 := hk6.1
        have hx6 : s6.heap.get s2.next = some (.cells row 63 0 false) := by rw [hk6.2 s2.next (by omega) (by simp)]; exact hx5
        have hR6 := hdid.rep.kept hk6 (by simp) (by simp)
        simp -implicitDefEqProofs only [go_sem, reduceIte, Nat.reduceEqDiff, Nat.reduceAdd, Nat.reduceMul, Nat.reduceLT, Nat.reduceLeDiff, reduceCtorEq, Int.reduceEq, Int.reduceNeg, Nat.reduceSub, Int.reduceLT, Int.reduceLE, Int.reduceGT, Int.reduceGE, Int.reduceAdd, Int.reduceSub, Int.reduceToNat, Int.reduceBNe, Int.reduceBEq, Nat.mul_one, Nat.zero_mul, hx6, r1]
        refine WCall.mono (p30 (ov := ov) (n := a.n) T hR6) ?_
        rintro u s7 ⟨yv, rfl, hyv, hk7, _⟩
        have hR7 := hR6.kept hk7 (by simp) (by simp)
        have hfin := fin s5 e D' O' V' s7 hdid (hk6.trans hk7) hR7
        obtain ⟨b3, b4, b5, b6, b7, b8⟩ := bounds hdid.rep hdid.most
        have hxv7 := BytesV.kept' (t := 0) (w := undefV) (zs := readB D a.n) (ws := []) hxv (hdid.kept.trans ((hk6.trans hk7).sub (by simp))) (fun id o l c e hin => by
          have h1 := hxN id o l c e
          have h2 := hRlt.1 _ hin
          omega)
        have hT1 := ev_toString hxv7
        have hT2 := ev_toString hyv
        obtain ⟨y1, y2, hye⟩ := hyv.len
        subst hye
        obtain ⟨x1, x2, hxe⟩ := hxv.len
        subst hxe
        cases he : (e != 0)
        · simp -implicitDefEqProofs only [go_sem, reduceIte, Nat.reduceEqDiff, Nat.reduceAdd, Nat.reduceMul, Nat.reduceLT, Nat.reduceLeDiff, reduceCtorEq, Int.reduceEq, Int.reduceNeg, Nat.reduceSub, Int.reduceLT, Int.reduceLE, Int.reduceGT, Int.reduceGE, Int.reduceAdd, Int.reduceSub, Int.reduceToNat, Int.reduceBNe, Int.reduceBEq, Nat.mul_one, Nat.zero_mul, b3, b7 a.n, he, w4]
          exact hfin
        · have hsame := hdid.same (by simpa using he)
          have hl2 : (((D.F.length : Nat) : Int) != ((D'.F.length : Nat) : Int)) = false := by rw [hsame]; simp
          have hr2 : readE D' a.n = readE D a.n := by unfold readE; rw [hsame]
          have hb2 : readB D' a.n = readB D a.n := by unfold readB; rw [hsame]
          have hgg : (readE D a.n != readE D a.n) = false := by simp
          rw [hb2] at hT2
          have hb7 := b7 a.n
          rw [hb2] at hb7 ⊢
          rw [hr2]
          simp -implicitDefEqProofs only [go_sem, reduceIte, Nat.reduceEqDiff, Nat.reduceAdd, Nat.reduceMul, Nat.reduceLT, Nat.reduceLeDiff, reduceCtorEq, Int.reduceEq, Int.reduceNeg, Nat.reduceSub, Int.reduceLT, Int.reduceLE, Int.reduceGT, Int.reduceGE, Int.reduceAdd, Int.reduceSub, Int.reduceToNat, Int.reduceBNe, Int.reduceBEq, Nat.mul_one, Nat.zero_mul, b3, hb7, he, hl2, hgg, hT1, hT2, bin_neqS, w4]
          exact hfin
end

end Go.Proofs.Ytgnpafmhdmmmhaa
