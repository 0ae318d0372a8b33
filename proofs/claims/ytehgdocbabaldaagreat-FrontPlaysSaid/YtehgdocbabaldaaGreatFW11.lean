/-
  FrontPlays: Drop.
-/
import Derived.Test.YtehgdocbabaldaaGreatFW7
import Derived.Test.YtehgdocbabaldaaGreatFZ2
set_option maxRecDepth 100000
set_option linter.unusedVariables false
set_option linter.unusedSimpArgs false
namespace Go.Proofs.YtehgdocbabaldaaGreat
open Go Go.Abs Go.Abs.K

def woR (x : Int) (L : List RQ) : List RQ := match Q.posL x (L.map bareQ) with
  | some i => L.take i ++ L.drop (i + 1)
  | none => L

def tK (M : FM) (x : Int) (kk : Nat) (j : Nat) : List RQ := if j < kk then woR x (rowsQ M.qs j) else rowsQ M.qs j
def fK (M : FM) (x : Int) (kk : Nat) : Bool := match lookG M.host x with
  | some h => decide (h < kk)
  | none => false
def bI (b : Bool) : Int := if b = true then 1 else 0

theorem FI.pos {M : FM} {L : LM} (h : FI M L) {x : Int} {k : Int} : (∃ i, Q.posL x ((rowsQ M.qs k).map bareQ) = some i) ↔ lookG M.host x = some k := by
  rw [h.hst x k]
  constructor
  · rintro ⟨i, hi⟩
    obtain ⟨r, h1, h2, _⟩ := posL_map hi
    exact ⟨r, List.mem_of_getElem? h1, h2⟩
  · rintro ⟨r, hr, he⟩
    cases hx : Q.posL x ((rowsQ M.qs k).map bareQ) with
    | some i => exact ⟨i, rfl⟩
    | none => exact absurd he (Q.posL_none.1 hx (bareQ r) (List.mem_map_of_mem hr))

section
set_option linter.unusedSectionVars false
variable {tbl : FuncId → Option AFun} {ov : CallSem} {s : St} (T : FTbl tbl)
include T

set_option maxHeartbeats 1000000 in
theorem drop4_spec (TQ : Q.QTbl tbl) {s0 : St} {l p f rb b16 k : Nat} {D : DM} {L : LM} {M : FM} {O OD V OF : List Nat} {R : List Value} {most room : Int} {m : Nat} {a : FAct} {e : Env} {v2 v14 v15 : Value}
    (hP : PLc s0 s l p f D L M O OD V OF most room m m) (hR : RowsR s0 s rb R (fun j => rowsQ M.qs j) (Xs O OD V OF)) (hm : m < 40) (h6 : room ≤ 2 ^ 10)
    (hb16 : s.heap.get b16 = some (.cells a.cells 46 0 false)) (hx16 : ¬ Xs O OD V OF b16 ∧ b16 ≠ rb ∧ b16 < s.next)
    (g2 : e.get 2 = some v2) (g7 : e.get 7 = some (ptr l)) (g9 : e.get 9 = some (i64 most)) (g10 : e.get 10 = some (i64 room)) (g11 : e.get 11 = some (ptr f)) (g12 : e.get 12 = some (.slice (some ⟨rb, 0, none⟩) 4 4)) (g13 : e.get 13 = some (i64 (M.host.length : Nat))) (g14 : e.get 14 = some v14) (g15 : e.get 15 = some v15)
    (g16 : e.get 16 = some (ptr b16)) (g17 : e.get 17 = some (i64 (k : Nat))) :
    WCode (fun k => call tbl ov k) drop4 e s fun x e' s' => Same k4 e e' ∧ ∃ M' OF' R', PLc s0 s' l p f D L M' O OD V OF' most room m m ∧ RowsR s0 s' rb R' (fun j => rowsQ M'.qs j) (Xs O OD V OF') ∧ x = .normal ∧
      e'.get 13 = some (i64 (M'.host.length : Nat)) ∧ s'.heap.get b16 = some (.cells a.cells 46 0 false) ∧ ¬ Xs O OD V OF' b16 ∧ b16 < s'.next := by
  obtain ⟨a1, a2, a3, a4, a5, a6, a7, a8⟩ := a.facts
  have hhl := hP.hl
  obtain ⟨I, hI⟩ : ∃ I : Nat → List Value → St → Prop, I = fun q vs s' => ∃ (kk : Nat) (R' : List Value), kk ≤ 4 ∧ q = 4 - kk ∧ vs = [v2, ptr l, i64 most, i64 room, ptr f, .slice (some ⟨rb, 0, none⟩) 4 4, i64 ((M.host.length : Int) - bI (fK M a.n kk)), v14, v15, ptr b16, i64 (k : Nat), .bool (fK M a.n kk), i64 (kk : Nat)] ∧
    PLc s0 s' l p f D L M O OD V OF most room m m ∧ RowsR s0 s' rb R' (tK M a.n kk) (Xs O OD V OF) ∧ s'.heap.get b16 = some (.cells a.cells 46 0 false) ∧ b16 < s'.next := ⟨_, rfl⟩
  have f0 : fK M a.n 0 = false := by
    unfold fK
    cases hx : lookG M.host a.n with
    | none => rfl
    | some h =>
      have : 0 ≤ h := by
        obtain ⟨r, hr, _⟩ := (hP.fi.hst _ _).1 hx
        by_cases hh : 0 ≤ h ∧ h < 4
        · exact hh.1
        · rw [hP.oth h hh] at hr; cases hr
      exact decide_eq_false (by omega)
  simp -implicitDefEqProofs only [drop4, go_sem]
  refine wc_loopV I 4 ?_ ?_
  · simp -implicitDefEqProofs only [go_sem, g2, g7, g9, g10, g11, g12, g13, g14, g15, g16, g17]
    rw [hI]
    refine ⟨0, R, by omega, by omega, ?_, hP, hR.congr fun j hj => by simp [tK], hb16, hx16.2.2⟩
    rw [f0]
    simp [bI]
  · intro q vs s1 hi _
    rw [hI] at hi
    obtain ⟨kk, R1, hk4, rfl, rfl, hP1, hR1, hb1, hl1⟩ := hi
    cases hlt : decide ((kk : Int) < 4)
    · have hkk : kk = 4 := by have := of_decide_eq_false hlt; omega
      subst hkk
      have hX16 : ∀ (OF1 : List Nat) (s' : St), (∀ x ∈ OF1, x ∈ OF ∨ s1.next ≤ x) → ¬ Xs O OD V OF1 b16 := fun OF1 s' hO1 hx' => by
        rcases hx'.mono hO1 with h | h
        · exact hx16.1 h
        · omega
      have hsame : ∀ e' : Env, e'.get 2 = some v2 → e'.get 7 = some (ptr l) → e'.get 9 = some (i64 most) → e'.get 10 = some (i64 room) → e'.get 11 = some (ptr f) → e'.get 12 = some (.slice (some ⟨rb, 0, none⟩) 4 4) → e'.get 14 = some v14 → e'.get 15 = some v15 → e'.get 16 = some (ptr b16) → e'.get 17 = some (i64 (k : Nat)) → Same k4 e e' := by
        intro e' q2 q7 q9 q10 q11 q12 q14 q15 q16 q17 t ht
        simp only [k4, List.mem_cons, List.not_mem_nil, or_false] at ht
        rcases ht with rfl | rfl | rfl | rfl | rfl | rfl | rfl | rfl | rfl | rfl
        · rw [q2, g2]
        · rw [q7, g7]
        · rw [q9, g9]
        · rw [q10, g10]
        · rw [q11, g11]
        · rw [q12, g12]
        · rw [q14, g14]
        · rw [q15, g15]
        · rw [q16, g16]
        · rw [q17, g17]
      have hlen := hP.fi.len
      rw [hP.mem] at hlen
      cases hh : lookG M.host a.n with
      | none =>
        have f4 : fK M a.n 4 = false := by unfold fK; rw [hh]
        rw [f4]
        simp -implicitDefEqProofs only [go_sem, hlt, hb1, a3]
        refine WCall.mono (r15n (ov := ov) T (x := a.n) hP1.duo.fr hh) ?_
        rintro u s2 ⟨rfl, hk2⟩
        simp -implicitDefEqProofs only [go_sem]
        refine ⟨hsame _ rfl rfl rfl rfl rfl rfl rfl rfl rfl rfl, M, OF, R1, hP1.step hk2 (by simp), (hR1.step (X' := Xs O OD V OF) hk2 (by simp) fun x hx => .inl hx).congr fun j hj => ?_, by simp [bI], by rw [hk2.2 _ hl1 (by simp)]; exact hb1, hx16.1, by have := hk2.1; omega⟩
        have hno : Q.posL a.n ((rowsQ M.qs j).map bareQ) = none := by
          cases hx : Q.posL a.n ((rowsQ M.qs j).map bareQ) with
          | none => rfl
          | some i => have := hP.fi.pos.1 ⟨i, hx⟩; rw [hh] at this; cases this
        simp [tK, woR, hno, hj]
      | some h =>
        have hh4 : 0 ≤ h ∧ h < 4 := by
          obtain ⟨r, hr, _⟩ := (hP.fi.hst _ _).1 hh
          by_cases hx : 0 ≤ h ∧ h < 4
          · exact hx
          · rw [hP.oth h hx] at hr; cases hr
        have f4 : fK M a.n 4 = true := by
          unfold fK; rw [hh]
          exact decide_eq_true (by omega)
        rw [f4]
        obtain ⟨i, hi⟩ := hP.fi.pos.2 hh
        simp -implicitDefEqProofs only [go_sem, hlt, hb1, a3]
        refine WCall.mono (r15 (ov := ov) T (x := a.n) hP1.duo.fr (by omega) (by have := hP.len h; omega) hi hh TQ) ?_
        rintro u s2 ⟨rfl, OF2, qs2, hF2, hq2, hk2, hO2⟩
        simp -implicitDefEqProofs only [go_sem]
        obtain ⟨hP2, hl2⟩ := hP1.drop hh hi hF2 hk2 hO2 hq2
        refine ⟨hsame _ rfl rfl rfl rfl rfl rfl rfl rfl rfl rfl, dropM M qs2 a.n, OF2, R1, hP2, (hR1.step (X' := Xs O OD V OF2) hk2 (fun x hx => .inl (.inr (.inr (.inr hx)))) fun x hx => hx.mono hO2).congr fun j hj => ?_, ?_, by rw [hk2.2 _ hl1 (fun hx => hx16.1 (.inr (.inr (.inr hx))))]; exact hb1, hX16 OF2 s2 hO2, by have := hk2.1; omega⟩
        · show tK M a.n 4 j = rowsQ qs2 j
          rw [hq2]
          by_cases hj2 : (j : Int) = h
          · rw [if_pos hj2]
            subst hj2
            simp [tK, hj, woR, hi]
          · rw [if_neg hj2]
            have hno : Q.posL a.n ((rowsQ M.qs j).map bareQ) = none := by
              cases hx : Q.posL a.n ((rowsQ M.qs j).map bareQ) with
              | none => rfl
              | some i => have := hP.fi.pos.1 ⟨i, hx⟩; rw [hh] at this; exact absurd (Option.some.inj this).symm hj2
            simp [tK, woR, hno, hj]
        · congr 2
          simp only [bI, if_true]
          omega
    · have hkk : kk < 4 := by have := of_decide_eq_true hlt; omega
      have w4 : IntKind.i64.wrap ((kk : Int) + 1) = ((kk + 1 : Nat) : Int) := by rw [IntKind.wrap_i64]; omega
      have hix : 0 ≤ (kk : Int) ∧ (kk : Int) < ((4 : Nat) : Int) := by omega
      have hk3 : kk ≤ 3 := by omega
      obtain ⟨v, hv, hrv, hvX⟩ := hR1.row kk hkk
      have htk : tK M a.n kk kk = rowsQ M.qs kk := by simp [tK]
      rw [htk] at hrv
      have hll := hP.len kk
      have e19 := fun K => Q.p19 (ov := ov) (s := s1) TQ (x := a.n) hrv (by rw [List.length_map]; omega) K
      rw [posL_full] at e19
      obtain ⟨va, vc, hva⟩ := hrv.len
      rw [Q.cellsL, List.length_map, List.length_map] at hva
      subst hva
      have hg1 := hR1.get
      cases hpos : Q.posL a.n ((rowsQ M.qs kk).map bareQ) with
      | none =>
        rw [hpos] at e19
        have d1 : decide (Q.posV none ≥ 0) = false := by simp [Q.posV]
        have hne : lookG M.host a.n ≠ some (kk : Int) := fun e => by
          obtain ⟨i, hi⟩ := hP.fi.pos.2 e
          rw [hpos] at hi; cases hi
        have f1 : fK M a.n (kk + 1) = fK M a.n kk := by
          unfold fK
          cases hx : lookG M.host a.n with
          | none => rfl
          | some h =>
            have : h ≠ kk := fun e => hne (by rw [hx, e])
            simp only
            congr 1
            exact propext (by omega)
        simp -implicitDefEqProofs only [go_sem, hlt, hix, hg1, hv, hb1, a3, e19, d1, w4]
        rw [hI]
        refine ⟨4 - (kk + 1), by omega, kk + 1, R1, by omega, rfl, by rw [f1], hP1, hR1.congr fun j hj => ?_, hb1, hl1⟩
        by_cases hjk : j < kk
        · simp [tK, hjk, show j < kk + 1 by omega]
        · by_cases hje : j = kk
          · subst hje
            simp [tK, woR, hpos]
          · simp [tK, hjk, show ¬ j < kk + 1 by omega]
      | some i =>
        rw [hpos] at e19
        have hhost := hP.fi.pos.1 ⟨i, hpos⟩
        have d1 : decide (Q.posV (some i) ≥ 0) = true := by simp [Q.posV]
        have e20 := fun K => r20 (ov := ov) T hP1.duo.fr a.n K
        rw [hhost] at e20
        simp only [Option.getD_some, Option.isSome_some] at e20
        have d2 : ((kk : Int) != kk) = false := by simp
        have f0k : fK M a.n kk = false := by unfold fK; rw [hhost]; exact decide_eq_false (by omega)
        have f1k : fK M a.n (kk + 1) = true := by unfold fK; rw [hhost]; exact decide_eq_true (by omega)
        have hpv : Q.posV (some i) = ((i : Nat) : Int) := rfl
        have hil := (Q.posL_lt hpos).1
        rw [List.length_map] at hil
        rw [f0k]
        rw [hpv] at e19 d1
        simp -implicitDefEqProofs only [go_sem, hlt, hix, hg1, hv, hb1, a3, e19, d1, e20, d2]
        refine WCall.mono (Q.p21 (ov := ov) TQ hrv (by rw [List.length_map]; exact hil) (by rw [List.length_map]; omega)) ?_
        rintro u s2 ⟨S', hR2, hk2, hS'⟩
        have hcm : (((rowsQ M.qs kk).map fullQ).take i ++ ((rowsQ M.qs kk).map fullQ).drop (i + 1)) = ((rowsQ M.qs kk).take i ++ (rowsQ M.qs kk).drop (i + 1)).map fullQ := by simp only [List.map_append, List.map_take, List.map_drop]
        rw [hcm] at hR2
        have hwr : wrOf u = S' := Q.wrOf_rows hR2
        have hlt2 := hP1.lt
        have hrl2 := hR1.lt
        have hRR2 := hR1.step (X' := Xs O OD V OF) hk2 (by simp) (fun x hx => .inl hx)
        have hset := hRR2.set hkk hR2.toV fun x hx => by
          rw [hwr] at hx
          have := hS' x hx
          exact ⟨fun e => by have := hlt2 x e; omega, by omega⟩
        obtain ⟨ua, uc, hu⟩ := hR2.toV.len
        subst hu
        have hg2 := hRR2.get
        have hRl : R1.length = 4 := hR1.len
        have w5 : IntKind.i64.wrap ((M.host.length : Int) - bI false - 1) = (M.host.length : Int) - bI true := by
          have hb1 : bI false = 0 := rfl
          have hb2 : bI true = 1 := rfl
          have hpl : 0 < M.host.length := by
            cases hx : M.host with
            | nil => rw [hx] at hhost; cases hhost
            | cons _ _ => simp
          rw [hb1, hb2, IntKind.wrap_i64]; omega
        simp -implicitDefEqProofs only [go_sem, hg2, hix, hRl, hk3, w4, w5]
        rw [hI]
        refine ⟨4 - (kk + 1), by omega, kk + 1, _, by omega, rfl, by rw [f1k], ?_, hset.congr fun j hj => ?_, ?_, Nat.lt_of_lt_of_le hl1 hk2.1⟩
        · exact (hP1.step hk2 (by simp)).step (kept_put1 (Nat.le_refl _)) fun x hx => by rw [List.mem_singleton.1 hx]; exact ⟨hR1.nX, hR1.low⟩
        · by_cases hje : j = kk
          · subst hje
            simp [tK, woR, hpos]
          · by_cases hjk : j < kk
            · simp [tK, hjk, hje, show j < kk + 1 by omega]
            · simp [tK, hjk, hje, show ¬ j < kk + 1 by omega]
        · have e1 : ¬ b16 = rb := hx16.2.1
          simp only [Heap.get_put, e1, if_false]
          rw [hk2.2 _ hl1 (by simp)]; exact hb1
end
end Go.Proofs.YtehgdocbabaldaaGreat


/-
  FrontPlays: what is asked after each act.
-/
set_option maxRecDepth 100000
set_option linter.unusedVariables false
set_option linter.unusedSimpArgs false
namespace Go.Proofs.YtehgdocbabaldaaGreat
open Go Go.Abs Go.Abs.K

abbrev k6 : List Nat := [2, 7, 9, 10, 11, 12, 13, 14, 15]

section
set_option linter.unusedSectionVars false
variable {tbl : FuncId → Option AFun} {ov : CallSem} {s : St} (T : FTbl tbl)
include T

theorem r22s (TQ : Q.QTbl tbl) {f l : Nat} {M : FM} {O : List Nat} (h : FRep s f l M O) {k : Int} (hl : (lookG M.qs k).isSome = true) (K : Value → St → Prop) :
    WCall (fun k => call tbl ov k) 22 [ptr f, i64 k] s K = K (i64 (rowsQ M.qs k).length) s := by
  refine WCall.eq (WCall.of T.t22 rfl ?_) K
  obtain ⟨n, hn⟩ := Option.isSome_iff_exists.1 hl
  have e29 := fun K => r29s (ov := ov) T h hn K
  obtain ⟨mq, mh, mp, rv, SR, eq, cq, eh, ch, ep, cp, h1, rfl, h2, h3, h4, h5, h6, h7, h8, h9, h10, h11, h12, h13, h14⟩ := h
  obtain ⟨lv, hq, hR, hqS, hql⟩ := h14 _ (lookG_mem hn)
  obtain ⟨a, cap, hlv⟩ := hR.toV.len
  rw [List.length_map, List.length_map] at hlv
  subst hlv
  have e37 := fun K => Q.p37 (ov := ov) (s := s) TQ (q := n.q) (mv := i64 M.per) (a := .bool true) hq K
  have hrl : (rowsQ M.qs k).length = n.L.length := by rw [rowsQ, hn]; rfl
  rw [hrl]
  simp -implicitDefEqProofs only [fun22, code22, params, go_sem, e29, e37]

theorem has4_spec (TQ : Q.QTbl tbl) {s0 : St} {l p f rb b16 k : Nat} {D : DM} {L : LM} {M : FM} {O OD V OF : List Nat} {R : List Value} {most room : Int} {m : Nat} {a : FAct} {e : Env} {v2 v13 v14 v15 : Value}
    (hP : PLc s0 s l p f D L M O OD V OF most room m m) (hR : RowsR s0 s rb R (fun j => rowsQ M.qs j) (Xs O OD V OF)) (hk4 : k < 4) (hm : m < 40) (hmost : 0 ≤ most)
    (hb16 : s.heap.get b16 = some (.cells a.cells 46 0 false))
    (g2 : e.get 2 = some v2) (g7 : e.get 7 = some (ptr l)) (g9 : e.get 9 = some (i64 most)) (g10 : e.get 10 = some (i64 room)) (g11 : e.get 11 = some (ptr f)) (g12 : e.get 12 = some (.slice (some ⟨rb, 0, none⟩) 4 4)) (g13 : e.get 13 = some v13) (g14 : e.get 14 = some v14) (g15 : e.get 15 = some v15)
    (g16 : e.get 16 = some (ptr b16)) (g17 : e.get 17 = some (i64 (k : Nat))) :
    WCode (fun k => call tbl ov k) has4 e s fun x e' s' => x = .normal ∧ Same k6 e e' ∧ ∃ M' OF', PLc s0 s' l p f D L M' O OD V OF' most room m m ∧ RowsR s0 s' rb R (fun j => rowsQ M'.qs j) (Xs O OD V OF') ∧ M'.host = M.host := by
  obtain ⟨a1, a2, a3, a4, a5, a6, a7, a8⟩ := a.facts
  obtain ⟨v, hv, hrv, hvX⟩ := hR.row k hk4
  obtain ⟨W, hW⟩ : ∃ W, W = rowsQ M.qs k := ⟨_, rfl⟩
  rw [← hW] at hrv
  have hWl : W.length ≤ m := by rw [hW]; exact hP.len k
  obtain ⟨va, vc, hva⟩ := hrv.len
  rw [Q.cellsL, List.length_map, List.length_map] at hva
  subst hva
  have hg := hR.get
  have hix : 0 ≤ (k : Int) ∧ (k : Int) < ((4 : Nat) : Int) := by omega
  have hbe : ∀ a b : ByteArray, binV .eql (.string a) (.string b) = some (.bool (a.toList == b.toList)) := fun _ _ => rfl
  obtain ⟨I, hI⟩ : ∃ I : Nat → List Value → St → Prop, I = fun q vs s' => s' = s ∧ ∃ (j : Nat), j ≤ W.length ∧ q = W.length - j ∧ vs = [v2, ptr l, i64 most, i64 room, ptr f, .slice (some ⟨rb, 0, none⟩) 4 4, v13, v14, v15, ptr b16, i64 (k : Nat), .bool ((W.take j).any fun r => r.path.toList == a.path.toList), i64 (j : Nat)] := ⟨_, rfl⟩
  simp -implicitDefEqProofs only [has4, go_sem]
  refine wc_loopV I W.length ?_ ?_
  · simp -implicitDefEqProofs only [go_sem, g2, g7, g9, g10, g11, g12, g13, g14, g15, g16, g17]
    rw [hI]
    exact ⟨rfl, 0, by omega, by omega, by simp⟩
  · intro q vs s1 hi _
    rw [hI] at hi
    obtain ⟨rfl, j, hjl, rfl, rfl⟩ := hi
    cases hlt : decide ((j : Int) < (W.length : Int))
    · have hje : j = W.length := by have := of_decide_eq_false hlt; omega
      subst hje
      rw [List.take_length]
      simp -implicitDefEqProofs only [go_sem, hg, hix, hv, hlt, hb16, a4]
      refine WCall.mono (r23 (ov := ov) T TQ (k := (k : Int)) (pa := a.path) hP.duo.fr hP.duo.sr.l (fun x hx hx' => (hP.duo.dis x hx').1 hx) (by rw [hP.per]; exact hmost) (by rw [← hW]; omega)) ?_
      rintro u s2 ⟨rfl, OF2, qs2, hF2, hq2, hk2, hO2⟩
      have hany : ((rowsQ M.qs k).any fun r => (wholeR M L (bareR r)).path.toList == a.path.toList) = W.any fun r => r.path.toList == a.path.toList := by
        rw [hW]
        have : ∀ (A : List RQ), (∀ r ∈ A, r ∈ rowsQ M.qs k) → (A.any fun r => (wholeR M L (bareR r)).path.toList == a.path.toList) = A.any fun r => r.path.toList == a.path.toList := by
          intro A hA
          induction A with
          | nil => rfl
          | cons r A ih =>
            simp only [List.any_cons]
            rw [hP.fi.whole (hA r (List.mem_cons_self ..)), ih fun q hq => hA q (List.mem_cons_of_mem _ hq)]
        exact this _ fun r hr => hr
      rw [hany]
      obtain ⟨b, hb⟩ : ∃ b, b = W.any fun r => r.path.toList == a.path.toList := ⟨_, rfl⟩
      rw [← hb]
      simp -implicitDefEqProofs only [go_sem]
      have hkn := hk2.1
      refine ⟨fun t ht => ?_, _, OF2, hP.qs hF2 hk2 hO2 hq2, (hR.step (X' := Xs O OD V OF2) hk2 (fun x hx => .inl (.inr (.inr (.inr hx)))) fun x hx => hx.mono hO2).congr fun j hj => (hq2 j).symm, rfl⟩
      simp only [k6, List.mem_cons, List.not_mem_nil, or_false] at ht
      rcases ht with rfl | rfl | rfl | rfl | rfl | rfl | rfl | rfl | rfl
      · rw [g2]; rfl
      · rw [g7]; rfl
      · rw [g9]; rfl
      · rw [g10]; rfl
      · rw [g11]; rfl
      · rw [g12]; rfl
      · rw [g13]; rfl
      · rw [g14]; rfl
      · rw [g15]; rfl
    · have hjN : j < W.length := by have := of_decide_eq_true hlt; omega
      obtain ⟨pid, po, pcap, pcc, pT, pro, phv, phid, phg, phle, phrw, phgi⟩ := row_one (f := Q.QReq.cells) (zs := W.map fullQ) hrv (i := j) (by rw [List.length_map]; exact hjN) (z := fullQ W[j]) (by rw [List.getElem?_map, List.getElem?_eq_getElem hjN]; rfl)
      have phc : pcc[po + j * 5 + 2]? = some (.string W[j].path) := phgi 2 (by omega)
      rw [List.length_map] at phv
      cases phv
      have hjx : 0 ≤ (j : Int) ∧ (j : Int) < (W.length : Int) := by omega
      have w4 : IntKind.i64.wrap ((j : Int) + 1) = ((j + 1 : Nat) : Int) := by rw [IntKind.wrap_i64]; omega
      have htk : ((W.take (j + 1)).any fun r => r.path.toList == a.path.toList) = (((W.take j).any fun r => r.path.toList == a.path.toList) || (W[j].path.toList == a.path.toList)) := by
        rw [List.take_add_one, List.getElem?_eq_getElem hjN, List.any_append]
        simp
      rw [hI]
      obtain ⟨B, hB⟩ : ∃ B, B = (W.take j).any fun r => r.path.toList == a.path.toList := ⟨_, rfl⟩
      rw [← hB] at htk ⊢
      cases B
      · rw [Bool.false_or] at htk
        simp -implicitDefEqProofs only [go_sem, hg, hix, hv, hlt, phg, phc, hjx, hb16, a4, hbe, w4]
        exact ⟨W.length - (j + 1), by omega, j + 1, by omega, rfl, by rw [htk]⟩
      · rw [Bool.true_or] at htk
        simp -implicitDefEqProofs only [go_sem, hg, hix, hv, hlt, w4]
        exact ⟨W.length - (j + 1), by omega, j + 1, by omega, rfl, by rw [htk]⟩
end
end Go.Proofs.YtehgdocbabaldaaGreat


/-
  FrontPlays: First and the numbers after each act.
-/
set_option maxRecDepth 100000
set_option linter.unusedVariables false
set_option linter.unusedSimpArgs false
namespace Go.Proofs.YtehgdocbabaldaaGreat
open Go Go.Abs Go.Abs.K

section
set_option linter.unusedSectionVars false
variable {tbl : FuncId → Option AFun} {ov : CallSem} {s : St} (T : FTbl tbl)
include T

set_option maxHeartbeats 1000000 in
theorem chk4_spec (TQ : Q.QTbl tbl) {s0 : St} {l p f rb b16 k : Nat} {D : DM} {L : LM} {M : FM} {O OD V OF : List Nat} {R : List Value} {most room : Int} {m : Nat} {a : FAct} {e : Env} {v2 v14 v15 : Value}
    (hP : PLc s0 s l p f D L M O OD V OF most room m m) (hR : RowsR s0 s rb R (fun j => rowsQ M.qs j) (Xs O OD V OF)) (hk4 : k < 4) (hm : m < 40) (hmost : 0 ≤ most) (h1 : 1 ≤ room) (h6 : room ≤ 2 ^ 10)
    (hb16 : s.heap.get b16 = some (.cells a.cells 46 0 false)) (hx16 : ¬ Xs O OD V OF b16 ∧ b16 < s.next)
    (g2 : e.get 2 = some v2) (g7 : e.get 7 = some (ptr l)) (g9 : e.get 9 = some (i64 most)) (g10 : e.get 10 = some (i64 room)) (g11 : e.get 11 = some (ptr f)) (g12 : e.get 12 = some (.slice (some ⟨rb, 0, none⟩) 4 4)) (g13 : e.get 13 = some (i64 (M.host.length : Nat))) (g14 : e.get 14 = some v14) (g15 : e.get 15 = some v15)
    (g16 : e.get 16 = some (ptr b16)) (g17 : e.get 17 = some (i64 (k : Nat))) :
    WCode (fun k => call tbl ov k) chk4 e s fun x e' s' => x = .normal ∧ Same k6 e e' ∧ ∃ M' OF', PLc s0 s' l p f D L M' O OD V OF' most room m m ∧ RowsR s0 s' rb R (fun j => rowsQ M'.qs j) (Xs O OD V OF') ∧ M'.host = M.host := by
  obtain ⟨v, hv, hrv, hvX⟩ := hR.row k hk4
  obtain ⟨W, hW⟩ : ∃ W, W = rowsQ M.qs k := ⟨_, rfl⟩
  rw [← hW] at hrv
  have hWl : W.length ≤ m := by rw [hW]; exact hP.len k
  obtain ⟨va, vc, hva⟩ := hrv.len
  rw [Q.cellsL, List.length_map, List.length_map] at hva
  subst hva
  have hix : 0 ≤ (k : Int) ∧ (k : Int) < ((4 : Nat) : Int) := by omega
  have hlen := hP.fi.len
  rw [hP.mem] at hlen
  have hnoO : ∀ x, ¬ Xs O OD V OF x → x ∉ OF := fun x hx hx' => hx (.inr (.inr (.inr hx')))
  -- what is left when the first is known and lies in its block
  cases hWc : W with
  | nil =>
    subst hWc
    simp -implicitDefEqProofs only [chk4, go_sem, g11, g17]
    refine WCall.mono (r12n (ov := ov) T TQ (k := (k : Int)) hP.duo.fr (by rw [hP.per]; exact hmost) hW.symm) ?_
    rintro u s1 ⟨rfl, OF1, qs1, hF1, hl1, hq1, hk1, hO1⟩
    have hP1 := hP.qs hF1 hk1 hO1 hq1
    have hR1 := (hR.step (X' := Xs O OD V OF1) hk1 (fun x hx => .inl (.inr (.inr (.inr hx)))) (fun x hx => hx.mono hO1)).congr (T' := fun j => rowsQ qs1 j) fun j hj => (hq1 j).symm
    obtain ⟨s2, hs2⟩ : ∃ s2 : St, s2 = ⟨(s1.heap.put s1.next (some (.cells [in64 0, .string ⟨#[]⟩, .string ⟨#[]⟩, in64 0, in64 0] 34 0 false))).put s1.next (some (.cells RQ0.cells 34 0 false)), s1.next + 1⟩ := ⟨_, rfl⟩
    have hk2 : Kept [] s1 s2 := by
      rw [hs2]
      exact ⟨Nat.le_succ _, fun j hj _ => by simp only [Heap.get_put]; rw [if_neg (by omega), if_neg (by omega)]⟩
    have hP2 := hP1.step hk2 (by simp)
    have hR2 := hR1.step (X' := Xs O OD V OF1) hk2 (by simp) (fun x hx => .inl hx)
    have l1 := hk1.1
    have l2 := hk2.1
    have hb2 : s2.heap.get b16 = some (.cells a.cells 46 0 false) := by rw [hk2.2 _ (by omega) (by simp), hk1.2 _ hx16.2 (hnoO _ hx16.1)]; exact hb16
    have hrow1 := hP1.fi.len
    rw [hP1.mem] at hrow1
    obtain ⟨c1, c2, c3, c4, c5, c6, c7⟩ := cells_facts RQ0
    have e22 := fun K => r22s (ov := ov) T TQ (k := (k : Int)) hP2.duo.fr hl1 K
    have e16 := fun K => r16 (ov := ov) T hP2.duo.fr K
    have e14 := fun K => r14 (ov := ov) T hP2.duo.fr K
    have hg2 := hR2.get
    have hrbn : ¬ rb = s1.next := by have := hR1.lt; omega
    have hg1 := hR1.get
    have hz : (rowsQ qs1 k).length = 0 := by rw [hq1, ← hW]; rfl
    have d1 : decide (((0 : Nat) : Int) > 0) = false := rfl
    have d2 : decide (((M.row.length : Nat) : Int) > room) = false := decide_eq_false (by omega)
    have d3 : (((0 : Nat) : Int) != ((0 : Nat) : Int)) = false := rfl
    have d4 : (((M.host.length : Nat) : Int) != ((M.host.length : Nat) : Int)) = false := by simp
    rw [show (({ M with qs := qs1 } : FM)).qs = qs1 from rfl, hz] at e22
    rw [hs2] at e22 e16 e14
    simp -implicitDefEqProofs only [go_sem, c1, c2, c3, c4, List.drop_zero, g11, g12, g17, hg1, hrbn, hix, hv, d1, e22, e16, e14, g13, g10, d2, d3, d4, List.length_nil]
    refine ⟨fun i hi f' hf' => ?_, ?_⟩
    · rw [List.mem_singleton.1 hi] at hf'
      cases hf'
      exact fun _ _ => rfl
    · rw [← hs2]
      refine WCode.mono ?_ (has4_spec (ov := ov) T TQ (a := a) (k := k) (v13 := i64 (M.host.length : Nat)) hP2 hR2 hk4 hm hmost hb2 (by exact g2) (by exact g7) (by exact g9) (by exact g10) (by exact g11) (by exact g12) (by exact g13) (by exact g14) (by exact g15) (by exact g16) (by exact g17))
      rintro x e' s' ⟨hx, hs, M', OF', hP', hR', hH'⟩
      exact ⟨hx, Same.trans (by repeat first | exact Same.refl _ _ | refine Same.cons (by decide) ?_) hs, M', OF', hP', hR', hH'⟩
  | cons r rs =>
    have hrm : r ∈ rowsQ M.qs k := by rw [← hW, hWc]; exact List.mem_cons_self ..
    simp -implicitDefEqProofs only [chk4, go_sem, g11, g17]
    refine WCall.mono (r12 (ov := ov) T TQ (k := (k : Int)) hP.duo.fr hP.duo.sr.l (fun x hx hx' => (hP.duo.dis x hx').1 hx) (by rw [hP.per]; exact hmost) (by rw [hP.mem]; exact h1) (by omega) (hW.symm.trans hWc) (hP.fi.whole hrm)) ?_
    rintro u s1 ⟨rfl, OF1, qs1, hF1, hl1, hq1, hk1, hO1⟩
    have hP1 := hP.first h1 hrm hF1 hk1 hO1 hq1
    obtain ⟨k1, k2, k3, k4'⟩ := firstM_qs { M with qs := qs1 } r
    have hR1 := (hR.step (X' := Xs O OD V OF1) hk1 (fun x hx => .inl (.inr (.inr (.inr hx)))) (fun x hx => hx.mono hO1)).congr (T' := fun j => rowsQ (firstM { M with qs := qs1 } r).qs j) fun j hj => by rw [k1]; exact (hq1 j).symm
    obtain ⟨s2, hs2⟩ : ∃ s2 : St, s2 = ⟨(s1.heap.put s1.next (some (.cells [in64 0, .string ⟨#[]⟩, .string ⟨#[]⟩, in64 0, in64 0] 34 0 false))).put s1.next (some (.cells r.cells 34 0 false)), s1.next + 1⟩ := ⟨_, rfl⟩
    have hk2 : Kept [] s1 s2 := by
      rw [hs2]
      exact ⟨Nat.le_succ _, fun j hj _ => by simp only [Heap.get_put]; rw [if_neg (by omega), if_neg (by omega)]⟩
    have hP2 := hP1.step hk2 (by simp)
    have hR2 := hR1.step (X' := Xs O OD V OF1) hk2 (by simp) (fun x hx => .inl hx)
    have l1 := hk1.1
    have l2 := hk2.1
    have hb2 : s2.heap.get b16 = some (.cells a.cells 46 0 false) := by rw [hk2.2 _ (by omega) (by simp), hk1.2 _ hx16.2 (hnoO _ hx16.1)]; exact hb16
    have hrow1 := hP1.fi.len
    rw [hP1.mem] at hrow1
    obtain ⟨c1, c2, c3, c4, c5, c6, c7⟩ := cells_facts r
    have e22 := fun K => r22s (ov := ov) T TQ (k := (k : Int)) hP2.duo.fr (by rw [k1]; exact hl1) K
    have e16 := fun K => r16 (ov := ov) T hP2.duo.fr K
    have e14 := fun K => r14 (ov := ov) T hP2.duo.fr K
    have hg2 := hR2.get
    have hrbn : ¬ rb = s1.next := by have := hR1.lt; omega
    have hg1 := hR1.get
    obtain ⟨pid, po, pcap, pcc, pT, pro, phv, phid, phg, phle, phrw, phgi⟩ := row_one (f := Q.QReq.cells) (zs := W.map fullQ) (hrv.keptT hk1 fun x hx hx' => (hvX x hx).1 (.inr (.inr (.inr hx')))) (i := 0) (by rw [List.length_map, hWc]; simp) (z := fullQ r) (by rw [hWc]; rfl)
    rw [List.length_map] at phv
    cases phv
    rw [Nat.zero_mul, Nat.add_zero] at phle phrw
    have pn : ¬ pid = s1.next := by omega
    rw [show (fullQ r).cells = r.cells from rfl] at phrw
    have hWn : (rowsQ (firstM { M with qs := qs1 } r).qs k).length = W.length := by rw [k1, hW]; exact congrArg List.length (hq1 k)
    have hW0 : 0 < (W.length : Int) := by rw [hWc, List.length_cons]; omega
    have d1 : decide ((W.length : Int) > 0) = true := decide_eq_true hW0
    have d2 : decide ((((firstM { M with qs := qs1 } r).row.length : Nat) : Int) > room) = false := decide_eq_false (by omega)
    have d3 : ((W.length : Int) != (W.length : Int)) = false := by simp
    have d4 : (((M.host.length : Nat) : Int) != ((M.host.length : Nat) : Int)) = false := by simp
    have deq : cellsEqK [.int, .string, .string, .int, .int] r.cells r.cells = some true := by
      have := Q.eqV_req (fullQ r) (fullQ r)
      rw [Q.eqR_iff.2 rfl] at this
      exact this
    rw [hWn] at e22
    rw [k2] at e16
    rw [hs2] at e22 e16 e14
    simp -implicitDefEqProofs only [go_sem, c1, c2, c3, c4, List.drop_zero, g11, g12, g17, hg1, hrbn, hix, hv, d1, e22, e16, e14, g13, g10, d2, d3, d4, hW0, phg, pn, phle, phrw, deq, Nat.add_zero]
    refine ⟨fun i hi f' hf' => ?_, ?_⟩
    · rw [List.mem_singleton.1 hi] at hf'
      cases hf'
      exact fun _ _ => rfl
    · rw [← hs2]
      refine WCode.mono ?_ (has4_spec (ov := ov) T TQ (a := a) (k := k) (v13 := i64 (M.host.length : Nat)) hP2 hR2 hk4 hm hmost hb2 (by exact g2) (by exact g7) (by exact g9) (by exact g10) (by exact g11) (by exact g12) (by exact g13) (by exact g14) (by exact g15) (by exact g16) (by exact g17))
      rintro x e' s' ⟨hx, hs, M', OF', hP', hR', hH'⟩
      exact ⟨hx, Same.trans (by repeat first | exact Same.refl _ _ | refine Same.cons (by decide) ?_) hs, M', OF', hP', hR', hH'.trans k2⟩

abbrev k7 : List Nat := [2, 7, 9, 10, 11, 12, 15]

theorem rest4_spec (TQ : Q.QTbl tbl) (TS : STbl tbl) (ho : OvS ov) (hoQ : Q.OvOK ov) {s0 : St} {l p f rb b16 k : Nat} {D : DM} {L : LM} {M : FM} {O OD V OF : List Nat} {R : List Value} {most room : Int} {m : Nat} {a : FAct} {e : Env} {v2 v15 : Value}
    (hP : PLc s0 s l p f D L M O OD V OF most room m m) (hR : RowsR s0 s rb R (fun j => rowsQ M.qs j) (Xs O OD V OF)) (hk4 : k < 4) (hm : m ≤ 25) (hmost : 0 ≤ most) (h1 : 1 ≤ room) (h6 : room ≤ 2 ^ 10)
    (hb16 : s.heap.get b16 = some (.cells a.cells 46 0 false)) (hx16 : ¬ Xs O OD V OF b16 ∧ b16 ≠ rb ∧ b16 < s.next) (hsz : a.path.size ≤ 100) (hpr : 0 ≤ a.prio ∧ a.prio ≤ 255)
    (g2 : e.get 2 = some v2) (g7 : e.get 7 = some (ptr l)) (g9 : e.get 9 = some (i64 most)) (g10 : e.get 10 = some (i64 room)) (g11 : e.get 11 = some (ptr f)) (g12 : e.get 12 = some (.slice (some ⟨rb, 0, none⟩) 4 4)) (g13 : e.get 13 = some (i64 (M.host.length : Nat))) (g14 : e.get 14 = some (i64 (m : Nat))) (g15 : e.get 15 = some v15)
    (g16 : e.get 16 = some (ptr b16)) (g17 : e.get 17 = some (i64 (k : Nat))) :
    WCode (fun k => call tbl ov k) rest4 e s fun x e' s' => (x = .normal ∨ x = .exit 1) ∧ Same k7 e e' ∧ ∃ D' L' M' OD' V' OF' R' m', PLc s0 s' l p f D' L' M' O OD' V' OF' most room m' m' ∧ RowsR s0 s' rb R' (fun j => rowsQ M'.qs j) (Xs O OD' V' OF') ∧ m' ≤ 26 ∧
      e'.get 13 = some (i64 (M'.host.length : Nat)) ∧ e'.get 14 = some (i64 (m' : Nat)) := by
  obtain ⟨a1, a2, a3, a4, a5, a6, a7, a8⟩ := a.facts
  -- what follows an act
  have fin : ∀ (s1 : St) (e1 : Env) (D1 : DM) (L1 : LM) (M1 : FM) (OD1 V1 OF1 : List Nat) (R1 : List Value) (m1 : Nat), PLc s0 s1 l p f D1 L1 M1 O OD1 V1 OF1 most room m1 m1 → RowsR s0 s1 rb R1 (fun j => rowsQ M1.qs j) (Xs O OD1 V1 OF1) → m1 ≤ 26 → Same k5 e e1 → e1.get 13 = some (i64 (M1.host.length : Nat)) → e1.get 14 = some (i64 (m1 : Nat)) →
      s1.heap.get b16 = some (.cells a.cells 46 0 false) → ¬ Xs O OD1 V1 OF1 b16 → b16 < s1.next →
      WCode (fun k => call tbl ov k) chk4 e1 s1 fun x e' s' => (x = .normal ∨ x = .exit 1) ∧ Same k7 e e' ∧ ∃ D' L' M' OD' V' OF' R' m', PLc s0 s' l p f D' L' M' O OD' V' OF' most room m' m' ∧ RowsR s0 s' rb R' (fun j => rowsQ M'.qs j) (Xs O OD' V' OF') ∧ m' ≤ 26 ∧
        e'.get 13 = some (i64 (M'.host.length : Nat)) ∧ e'.get 14 = some (i64 (m' : Nat)) := by
    intro s1 e1 D1 L1 M1 OD1 V1 OF1 R1 m1 hP1 hR1 hm1 hs j13 j14 hb1 hx1 hl1
    refine WCode.mono ?_ (chk4_spec (ov := ov) T TQ (a := a) (k := k) hP1 hR1 hk4 (by omega) hmost h1 h6 hb1 ⟨hx1, hl1⟩ ((hs 2 (by decide)).trans g2) ((hs 7 (by decide)).trans g7) ((hs 9 (by decide)).trans g9) ((hs 10 (by decide)).trans g10) ((hs 11 (by decide)).trans g11) ((hs 12 (by decide)).trans g12) j13 j14 ((hs 15 (by decide)).trans g15) ((hs 16 (by decide)).trans g16) ((hs 17 (by decide)).trans g17))
    rintro x e' s' ⟨rfl, hs', M', OF', hP', hR', hH⟩
    exact ⟨.inl rfl, (hs.sub (by decide)).trans (hs'.sub (by decide)), D1, L1, M', OD1, V1, OF', R1, m1, hP', hR', hm1, by rw [hs' 13 (by decide), j13, hH], by rw [hs' 14 (by decide), j14]⟩
  have putOK : (a.what = 0 ∨ a.what = 1) → ∀ e1 : Env, Same k5 e e1 → e1.get 13 = some (i64 (M.host.length : Nat)) → e1.get 14 = some (i64 (m : Nat)) → WCode (fun k => call tbl ov k) put4 e1 s fun x e' s' => Same k5 e e' ∧ ∃ D' L' M' OD' V' OF' R', PLc s0 s' l p f D' L' M' O OD' V' OF' most room (m + 1) (m + 1) ∧ RowsR s0 s' rb R' (fun j => rowsQ M'.qs j) (Xs O OD' V' OF') ∧ (x = .normal ∨ x = .exit 1) ∧
      e'.get 13 = some (i64 (M'.host.length : Nat)) ∧ e'.get 14 = some (i64 ((m + 1 : Nat) : Int)) ∧ s'.heap.get b16 = some (.cells a.cells 46 0 false) ∧ ¬ Xs O OD' V' OF' b16 ∧ b16 < s'.next := by
    intro hw e1 hs j13 j14
    refine WCode.mono ?_ (put4_spec (ov := ov) T TQ TS ho hoQ (a := a) (k := k) hP hR hk4 h1 h6 hmost (by omega) hb16 hx16 hw hsz hpr ((hs 7 (by decide)).trans g7) ((hs 9 (by decide)).trans g9) ((hs 11 (by decide)).trans g11) ((hs 12 (by decide)).trans g12) j13 j14 ((hs 16 (by decide)).trans g16) ((hs 17 (by decide)).trans g17))
    rintro x e' s' ⟨hs', h'⟩
    exact ⟨hs.trans hs', h'⟩
  cases d0 : (a.what == 0)
  · cases d1 : (a.what == 1)
    · cases d2 : (a.what == 2)
      · simp -implicitDefEqProofs only [rest4, go_sem, g16, hb16, a1, d0, d1, d2]
        exact fin s _ D L M OD V OF R m hP hR (by omega) (by repeat first | exact Same.refl _ _ | refine Same.cons (by decide) ?_) (by exact g13) (by exact g14) hb16 hx16.1 hx16.2.2
      · simp -implicitDefEqProofs only [rest4, go_sem, g16, hb16, a1, d0, d1, d2]
        refine WCode.mono ?_ (drop4_spec (ov := ov) T TQ (a := a) (k := k) hP hR (by omega) h6 hb16 hx16 (by exact g2) (by exact g7) (by exact g9) (by exact g10) (by exact g11) (by exact g12) (by exact g13) (by exact g14) (by exact g15) (by exact g16) (by exact g17))
        rintro x e' s' ⟨hs, M', OF', R', hP', hR', rfl, j13, hb', hx', hl'⟩
        simp -implicitDefEqProofs only [go_sem]
        exact fin s' e' D L M' OD V OF' R' m hP' hR' (by omega) (Same.trans (by repeat first | exact Same.refl _ _ | refine Same.cons (by decide) ?_) (hs.sub (by decide))) j13 ((hs 14 (by decide)).trans (by exact g14)) hb' hx' hl'
    · simp -implicitDefEqProofs only [rest4, go_sem, g16, hb16, a1, d0, d1]
      refine WCode.mono ?_ (putOK (.inr (eq_of_beq d1)) _ (by repeat first | exact Same.refl _ _ | refine Same.cons (by decide) ?_) (by exact g13) (by exact g14))
      rintro x e' s' ⟨hs, D', L', M', OD', V', OF', R', hP', hR', hx, j13, j14, hb', hx', hl'⟩
      rcases hx with rfl | rfl
      · simp -implicitDefEqProofs only [go_sem]
        exact fin s' e' D' L' M' OD' V' OF' R' (m + 1) hP' hR' (by omega) hs j13 j14 hb' hx' hl'
      · simp -implicitDefEqProofs only [go_sem]
        exact ⟨.inr trivial, hs.sub (by decide), D', L', M', OD', V', OF', R', m + 1, hP', hR', by omega, j13, j14⟩
  · simp -implicitDefEqProofs only [rest4, go_sem, g16, hb16, a1, d0]
    refine WCode.mono ?_ (putOK (.inl (eq_of_beq d0)) _ (by repeat first | exact Same.refl _ _ | refine Same.cons (by decide) ?_) (by exact g13) (by exact g14))
    rintro x e' s' ⟨hs, D', L', M', OD', V', OF', R', hP', hR', hx, j13, j14, hb', hx', hl'⟩
    rcases hx with rfl | rfl
    · simp -implicitDefEqProofs only [go_sem]
      exact fin s' e' D' L' M' OD' V' OF' R' (m + 1) hP' hR' (by omega) hs j13 j14 hb' hx' hl'
    · simp -implicitDefEqProofs only [go_sem]
      exact ⟨.inr trivial, hs.sub (by decide), D', L', M', OD', V', OF', R', m + 1, hP', hR', by omega, j13, j14⟩
end
end Go.Proofs.YtehgdocbabaldaaGreat


/-
  FrontPlays: the law.
-/
set_option maxRecDepth 100000
set_option linter.unusedVariables false
set_option linter.unusedSimpArgs false
namespace Go.Proofs.YtehgdocbabaldaaGreat
open Go Go.Abs Go.Abs.K

structure FAct.Wide (a : FAct) : Prop where
  host : W64 a.host
  prio : 0 ≤ a.prio ∧ a.prio ≤ 255

section
set_option linter.unusedSectionVars false
variable {tbl : FuncId → Option AFun} {ov : CallSem} {s : St} (T : FTbl tbl)
include T

set_option maxHeartbeats 4000000 in
theorem law4 (t4 : tbl 4 = some fun4) (TQ : Q.QTbl tbl) (TS : STbl tbl) (ho : OvS ov) (hoQ : Q.OvOK ov) {pm mm : Int} {av : Value} {A : List FAct} (hpm : 0 ≤ pm ∧ pm ≤ 255) (hmm : 0 ≤ mm ∧ mm ≤ 255) (hr : RowV 5 s av (A.map FAct.cells)) (hW : ∀ a ∈ A, a.Wide) :
    WCall (fun k => call tbl ov k) 4 [.int .u8 pm, .int .u8 mm, av] s fun u _ => u = .bool true := by
  refine WCall.of t4 rfl ?_
  have e9 := fun s K => e9b (ov := ov) TS ho s K
  obtain ⟨aa, ac, hav⟩ := hr.len
  rw [List.length_map] at hav
  subst hav
  have er1 : binV .rem (.int .u8 pm) (.int .u8 12) = some (.int .u8 (pm.tmod 12)) := rfl
  have htm1 : pm.tmod 12 = pm % 12 := Int.tmod_eq_emod_of_nonneg hpm.1
  have er2 : binV .rem (.int .u8 mm) (.int .u8 9) = some (.int .u8 (mm.tmod 9)) := rfl
  have htm2 : mm.tmod 9 = mm % 9 := Int.tmod_eq_emod_of_nonneg hmm.1
  obtain ⟨most, hmost⟩ : ∃ most, most = pm % 12 := ⟨_, rfl⟩
  obtain ⟨room, hroom⟩ : ∃ room, room = mm % 9 + 1 := ⟨_, rfl⟩
  have w1 : IntKind.i64.wrap (pm.tmod 12) = most := by rw [htm1, IntKind.wrap_i64]; omega
  have w2 : IntKind.i64.wrap (mm.tmod 9) = mm % 9 := by rw [htm2, IntKind.wrap_i64]; omega
  have w3 : IntKind.i64.wrap (mm % 9 + 1) = room := by rw [IntKind.wrap_i64]; omega
  have hm0 : 0 ≤ most ∧ most ≤ 11 := by omega
  have hr1 : 1 ≤ room ∧ room ≤ 9 := by omega
  rw [show fun4.body = _ from code4_eq, show fun4.res = [.tmp 6] from rfl]
  simp -implicitDefEqProofs only [params, go_sem]
  refine WCall.mono (p7 (ov := ov) (n := 16) TS.d (by unfold W64; omega)) ?_
  rintro u s1 ⟨rfl, hD1, hk1⟩
  obtain ⟨p, hpp⟩ : ∃ p, p = s.next + 1 := ⟨_, rfl⟩
  rw [← hpp] at hD1
  have h16 : max 0 (min (16 : Int) 16) = 16 := by decide
  rw [h16] at hD1
  simp -implicitDefEqProofs only [go_sem, ← hpp]
  refine WCall.mono (q6e (ov := ov) (segs := 7) TS ho hD1 (by unfold W64; omega) (by simp [keysF, sortZ])) ?_
  rintro u s2 ⟨l, O, rfl, hS2, hk2, hO2⟩
  have h00 : ((0 : Int) != 0) = false := rfl
  simp -implicitDefEqProofs only [go_sem, Option.isNone_some, h00, er1, er2, w1, w2, w3]
  refine WCall.mono (r8 (ov := ov) T (per := most) (mem := room) (l := l)) ?_
  rintro u s3 ⟨f, OF, rfl, hF3, hk3, hO3⟩
  rw [show max most 0 = most from by omega, show max room 1 = room from by omega] at hF3
  have n1 := hk1.1; have n2 := hk2.1; have n3 := hk3.1
  have hlO : ∀ x, x ∈ O ∨ x ∈ [p, s.next] ∨ x ∈ ([] : List Nat) → x < s2.next := by
    rintro x (hx | hx | hx)
    · exact hS2.l.lt x hx
    · exact hS2.d.lt.1 x hx
    · cases hx
  have hDuo : Duo s3 l p f _ _ _ O [p, s.next] [] OF := ⟨hS2.kept hk3 (by simp) (by simp) (by simp), hF3, fun x hx => ⟨fun e => by have := hlO x (.inl e); have := hO3 x hx; omega, fun e => by have := hlO x (.inr (.inl e)); have := hO3 x hx; omega, by simp⟩⟩
  have hfi0 : FI ⟨most, room, [], [], [], []⟩ ⟨7, 0, 1, [], []⟩ := by
    refine ⟨fun k => .nil, fun x k => ?_, fun k r hr => (by cases hr), fun x b hb => (by cases hb), fun x hx => (by cases hx), ?_, by simp, by simp⟩
    · constructor
      · intro h; cases h
      · rintro ⟨r, hr, _⟩; cases hr
    · simp only [List.length_nil]; omega
  have hP0 : PLc s s3 l p f ⟨16, 0, 0, [], []⟩ ⟨7, 0, 1, [], []⟩ ⟨most, room, [], [], [], []⟩ O [p, s.next] [] OF most room 0 0 := by
    refine ⟨(hk1.trans hk2).trans hk3, hDuo, zed_zero0, hfi0, rfl, rfl, fun k _ => rfl, fun x hx => (by cases hx), Nat.le_refl _, fun k => Nat.le_refl _, ?_⟩
    rintro x (hx | hx | hx)
    · have := hO2 x hx; omega
    · simp only [List.mem_cons, List.not_mem_nil, or_false] at hx; omega
    · have := hO3 x hx; omega
  obtain ⟨rb, hrb⟩ : ∃ rb, rb = s3.next := ⟨_, rfl⟩
  obtain ⟨Z4, hZ4⟩ : ∃ Z4 : List Value, Z4 = [.slice none 0 0, .slice none 0 0, .slice none 0 0, .slice none 0 0] := ⟨_, rfl⟩
  have emk : evP s3.heap.get s3.next (.mkSlice 47 1 24 [.slice none 0 0] (.int .i64 4) (.int .i64 4)) = some ⟨.slice (some ⟨rb, 0, none⟩) 4 4, [(rb, some (.cells Z4 47 1 false))], rb + 1⟩ := by rw [hZ4, hrb]; rfl
  obtain ⟨s4, hs4⟩ : ∃ s4 : St, s4 = ⟨s3.heap.put rb (some (.cells Z4 47 1 false)), rb + 1⟩ := ⟨_, rfl⟩
  have hk4 : Kept [] s3 s4 := by
    rw [hs4]
    exact ⟨by simp only; omega, fun j hj _ => by simp only [Heap.get_put]; rw [if_neg (by omega)]⟩
  have hP4 := hP0.step hk4 (by simp)
  have hlt0 := hP0.lt
  have hR4 : RowsR s s4 rb Z4 (fun j => rowsQ ([] : List (Int × QN)) j) (Xs O [p, s.next] [] OF) := by
    refine ⟨by rw [hs4]; simp only [Heap.get_put, if_true], by rw [hs4]; exact Nat.lt_succ_self _, by omega, fun hx => by have := hlt0 _ hx; omega, by rw [hZ4]; rfl, fun j hj => ⟨.slice none 0 0, ?_, ⟨by simp [Q.cellsL, rowsQ, lookG], .inl ⟨rfl, rfl⟩⟩, fun x hx => by cases hx⟩⟩
    rw [hZ4]
    match j, hj with
    | 0, _ => rfl
    | 1, _ => rfl
    | 2, _ => rfl
    | 3, _ => rfl
  simp -implicitDefEqProofs only [go_sem, emk]
  obtain ⟨I, hI⟩ : ∃ I : Nat → List Value → St → Prop, I = fun q vs s' => ∃ (i id : Nat) (D : DM) (L : LM) (M : FM) (OD V OF : List Nat) (R : List Value), i ≤ 60 ∧ q = 60 - i ∧ id ≤ 26 ∧ vs = [.slice aa A.length ac, ptr l, i64 most, i64 room, ptr f, .slice (some ⟨rb, 0, none⟩) 4 4, i64 (M.host.length : Nat), i64 (id : Nat), i64 (i : Nat)] ∧
    PLc s s' l p f D L M O OD V OF most room id id ∧ RowsR s s' rb R (fun j => rowsQ M.qs j) (Xs O OD V OF) := ⟨_, rfl⟩
  refine wc_loopV I 60 ?_ ?_
  · simp -implicitDefEqProofs only [go_sem]
    rw [hI]
    refine ⟨0, 0, ⟨16, 0, 0, [], []⟩, ⟨7, 0, 1, [], []⟩, ⟨most, room, [], [], [], []⟩, [p, s.next], [], OF, Z4, by omega, by omega, by omega, rfl, ?_, ?_⟩
    · rw [← hs4]; exact hP4
    · rw [← hs4]; exact hR4
  · intro q vs s5 hi _
    rw [hI] at hi
    obtain ⟨i, id, D, L, M, OD, V, OF, R, hi60, rfl, hid, rfl, hP, hR⟩ := hi
    have stop : (decide ((i : Int) < (A.length : Int)) = false ∨ (decide ((i : Int) < (A.length : Int)) = true ∧ decide ((i : Int) < 60) = false)) ∨ (decide ((i : Int) < (A.length : Int)) = true ∧ decide ((i : Int) < 60) = true) := by
      cases decide ((i : Int) < (A.length : Int)) <;> cases decide ((i : Int) < 60) <;> simp
    rcases stop with (d1 | ⟨d1, d2⟩) | ⟨d1, d2⟩
    · simp -implicitDefEqProofs only [go_sem, d1, e9]
    · simp -implicitDefEqProofs only [go_sem, d1, d2, e9]
    · have hiN : i < A.length := by have := of_decide_eq_true d1; omega
      have hi60' : i < 60 := by have := of_decide_eq_true d2; omega
      obtain ⟨a, ha⟩ : ∃ a, A[i]? = some a := ⟨_, List.getElem?_eq_getElem hiN⟩
      have haW := hW a (List.mem_of_getElem? ha)
      obtain ⟨a1, a2, a3, a4, a5, a6, a7, a8⟩ := a.facts
      obtain ⟨pid, po, pcap, pcc, pT, pro, phv, phid, phg, phle, phrw, phgi⟩ := row_one (hr.kept hP.kept) hiN ha
      cases phv
      have hix : 0 ≤ (i : Int) ∧ (i : Int) < (A.length : Int) := by omega
      have w4 : IntKind.i64.wrap ((i : Int) + 1) = ((i + 1 : Nat) : Int) := by rw [IntKind.wrap_i64]; omega
      obtain ⟨b16, hb16⟩ : ∃ b16, b16 = s5.next := ⟨_, rfl⟩
      obtain ⟨s6, hs6⟩ : ∃ s6 : St, s6 = ⟨(s5.heap.put b16 (some (.cells [in64 0, in64 0, in64 0, .string ⟨#[]⟩, .int .u8 0] 46 0 false))).put b16 (some (.cells a.cells 46 0 false)), b16 + 1⟩ := ⟨_, rfl⟩
      have hk6 : Kept [] s5 s6 := by
        rw [hs6]
        exact ⟨by simp only; omega, fun j hj _ => by simp only [Heap.get_put]; rw [if_neg (by omega), if_neg (by omega)]⟩
      have hb6 : s6.heap.get b16 = some (.cells a.cells 46 0 false) := by rw [hs6]; simp only [Heap.get_put, if_true]
      have hst : storeL [in64 0, in64 0, in64 0, .string ⟨#[]⟩, .int .u8 0] 0 a.cells = a.cells := rfl
      have hpn : ¬ pid = b16 := by omega
      simp -implicitDefEqProofs only [go_sem, d1, d2, hix, phg, phle, phrw, a6, a7, a8, hst, ← hb16, List.drop_zero]
      rw [← hs6]
      have hP6 := hP.step hk6 (by simp)
      have hR6 := hR.step (X' := Xs O OD V OF) hk6 (by simp) (fun x hx => .inl hx)
      have hlt5 := hP.lt
      have hrb5 := hR.lt
      have hx16 : ¬ Xs O OD V OF b16 ∧ b16 ≠ rb ∧ b16 < s6.next := ⟨fun hx => by have := hlt5 _ hx; omega, by omega, by rw [hs6]; exact Nat.lt_succ_self _⟩
      have again : ∀ {s' : St} {id' : Nat} {D' : DM} {L' : LM} {M' : FM} {OD' V' OF' : List Nat} {R' : List Value}, id' ≤ 26 → PLc s s' l p f D' L' M' O OD' V' OF' most room id' id' → RowsR s s' rb R' (fun j => rowsQ M'.qs j) (Xs O OD' V' OF') →
          I (60 - (i + 1)) [.slice (some ⟨pid, po, none⟩) A.length ac, ptr l, i64 most, i64 room, ptr f, .slice (some ⟨rb, 0, none⟩) 4 4, i64 (M'.host.length : Nat), i64 (id' : Nat), i64 ((i + 1 : Nat) : Int)] s' := by
        intro s' id' D' L' M' OD' V' OF' R' hid' hP' hR'
        rw [hI]
        exact ⟨i + 1, id', D', L', M', OD', V', OF', R', by omega, rfl, hid', rfl, hP', hR'⟩
      cases dL : decide ((a.path.size : Int) > 100)
      · cases dI : decide ((id : Int) > 25)
        · have hsz : a.path.size ≤ 100 := by have := of_decide_eq_false dL; omega
          have hid25 : id ≤ 25 := by have := of_decide_eq_false dI; omega
          have erh : binV .rem (i64 a.host) (.int .i64 4) = some (.int .i64 (a.host.tmod 4)) := rfl
          have ht := haW.host
          unfold W64 at ht
          obtain ⟨t, htt⟩ : ∃ t, t = a.host.tmod 4 := ⟨_, rfl⟩
          rw [← htt] at erh
          have ht4 : -4 < t ∧ t < 4 := by
            rw [htt]
            exact ⟨Int.lt_tmod_of_pos a.host (by decide), Int.tmod_lt_of_pos a.host (by decide)⟩
          cases dN : decide (t < 0)
          · obtain ⟨k, hk⟩ : ∃ k : Nat, t = (k : Int) := ⟨t.toNat, by have := of_decide_eq_false dN; omega⟩
            rw [hk] at erh dN
            have hk4 : k < 4 := by omega
            simp -implicitDefEqProofs only [go_sem, hb6, a2, a4, dL, dI, erh, dN]
            refine WCode.mono ?_ (rest4_spec (ov := ov) T TQ TS ho hoQ (a := a) (k := k) (b16 := b16) hP6 hR6 hk4 hid25 hm0.1 hr1.1 (by omega) hb6 hx16 hsz haW.prio rfl rfl rfl rfl rfl rfl rfl rfl rfl rfl rfl)
            rintro x e' s' ⟨hx, hs, D', L', M', OD', V', OF', R', m', hP', hR', hm', j13, j14⟩
            have j2 := (hs 2 (by decide)).trans (show _ = some (.slice (some ⟨pid, po, none⟩) A.length ac) from rfl)
            have j7 := (hs 7 (by decide)).trans (show _ = some (ptr l) from rfl)
            have j9 := (hs 9 (by decide)).trans (show _ = some (i64 most) from rfl)
            have j10 := (hs 10 (by decide)).trans (show _ = some (i64 room) from rfl)
            have j11 := (hs 11 (by decide)).trans (show _ = some (ptr f) from rfl)
            have j12 := (hs 12 (by decide)).trans (show _ = some (.slice (some ⟨rb, 0, none⟩) 4 4) from rfl)
            have j15 := (hs 15 (by decide)).trans (show _ = some (i64 (i : Nat)) from rfl)
            rcases hx with rfl | rfl
            · simp -implicitDefEqProofs only [go_sem, j2, j7, j9, j10, j11, j12, j13, j14, j15, w4]
              exact ⟨60 - (i + 1), by omega, again hm' hP' hR'⟩
            · simp -implicitDefEqProofs only [go_sem, j2, j7, j9, j10, j11, j12, j13, j14, j15, w4]
              exact ⟨60 - (i + 1), by omega, again hm' hP' hR'⟩
          · obtain ⟨k, hk⟩ : ∃ k : Nat, t + 4 = (k : Int) := ⟨(t + 4).toNat, by have := of_decide_eq_true dN; omega⟩
            have hk4 : k < 4 := by have := of_decide_eq_true dN; omega
            have wk : IntKind.i64.wrap (t + 4) = (k : Int) := by rw [hk, IntKind.wrap_i64]; omega
            simp -implicitDefEqProofs only [go_sem, hb6, a2, a4, dL, dI, erh, dN, wk]
            refine WCode.mono ?_ (rest4_spec (ov := ov) T TQ TS ho hoQ (a := a) (k := k) (b16 := b16) hP6 hR6 hk4 hid25 hm0.1 hr1.1 (by omega) hb6 hx16 hsz haW.prio rfl rfl rfl rfl rfl rfl rfl rfl rfl rfl rfl)
            rintro x e' s' ⟨hx, hs, D', L', M', OD', V', OF', R', m', hP', hR', hm', j13, j14⟩
            have j2 := (hs 2 (by decide)).trans (show _ = some (.slice (some ⟨pid, po, none⟩) A.length ac) from rfl)
            have j7 := (hs 7 (by decide)).trans (show _ = some (ptr l) from rfl)
            have j9 := (hs 9 (by decide)).trans (show _ = some (i64 most) from rfl)
            have j10 := (hs 10 (by decide)).trans (show _ = some (i64 room) from rfl)
            have j11 := (hs 11 (by decide)).trans (show _ = some (ptr f) from rfl)
            have j12 := (hs 12 (by decide)).trans (show _ = some (.slice (some ⟨rb, 0, none⟩) 4 4) from rfl)
            have j15 := (hs 15 (by decide)).trans (show _ = some (i64 (i : Nat)) from rfl)
            rcases hx with rfl | rfl
            · simp -implicitDefEqProofs only [go_sem, j2, j7, j9, j10, j11, j12, j13, j14, j15, w4]
              exact ⟨60 - (i + 1), by omega, again hm' hP' hR'⟩
            · simp -implicitDefEqProofs only [go_sem, j2, j7, j9, j10, j11, j12, j13, j14, j15, w4]
              exact ⟨60 - (i + 1), by omega, again hm' hP' hR'⟩
        · simp -implicitDefEqProofs only [go_sem, hb6, a4, dL, dI, w4]
          exact ⟨60 - (i + 1), by omega, again hid hP6 hR6⟩
      · simp -implicitDefEqProofs only [go_sem, hb6, a4, dL, w4]
        exact ⟨60 - (i + 1), by omega, again hid hP6 hR6⟩
end
end Go.Proofs.YtehgdocbabaldaaGreat
