/-
  A front: Back of one that is there; Add.
-/
import Derived.Test.YtehgdocbabaldaaGreatFT7
set_option maxRecDepth 100000
set_option linter.unusedVariables false
set_option linter.unusedSimpArgs false
namespace Go.Proofs.YtehgdocbabaldaaGreat
open Go Go.Abs Go.Abs.K

section
variable {tbl : FuncId → Option AFun} {ov : CallSem} {s : St} (T : FTbl tbl)
include T

theorem r17d {f l : Nat} {M : FM} {O : List Nat} {r : RQ} {k : Int} (h : FRep s f l M O) (hyes : (lookG M.host r.id).isSome = true) :
    WCall (fun k => call tbl ov k) 17 [ptr f, i64 k, r.val] s fun u s' => u = .tuple #[] ∧ Kept [] s s' := by
  refine WCall.of T.t17 rfl ?_
  obtain ⟨q1, q2, q3, q4, q5, q6, q7⟩ := cells_facts r
  obtain ⟨mq, mh, mp, rv, SR, eq, cq, eh, ch, ep, cp, h1, hOe, h2, h3, h4, h5, h6, h7, h8, h9, h10, h11, h12, h13, h14⟩ := h
  have hfl := h3 f (by rw [hOe]; simp)
  have hhl := h3 mh (by rw [hOe]; simp)
  have n1 : ¬ f = s.next := by omega
  have n2 : ¬ mh = s.next := by omega
  obtain ⟨x, hx⟩ := Option.isSome_iff_exists.1 hyes
  have el : ∀ g nx, g mh = some (.map eh ch) → evP g nx (.lookup .int (in64 0) true (.map (some mh)) (i64 r.id)) = some ⟨.tuple #[i64 x, .bool true], [], nx⟩ := fun g nx hg => by
    rw [ev_lookup kindI h8 hg ⟨_, rfl⟩, gr_get keyG_int h9 r.id, hx]
    rfl
  have hres : fun17.res = [] := rfl
  simp -implicitDefEqProofs only [fun17, code17, params, go_sem, h1, h7, el, n1, n2, q1, q2, q3, q4, q5, hres]
  exact ⟨Nat.le_succ _, fun j hj _ => by simp only [Heap.get_put]; rw [if_neg (by omega)]⟩

theorem r11d {f l : Nat} {M : FM} {O : List Nat} {r : RQ} {k : Int} (h : FRep s f l M O) (hyes : (lookG M.host r.id).isSome = true) :
    WCall (fun k => call tbl ov k) 11 [ptr f, i64 k, r.val] s fun u s' => u = i64 10 ∧ Kept [] s s' := by
  refine WCall.of T.t11 rfl ?_
  obtain ⟨q1, q2, q3, q4, q5, q6, q7⟩ := cells_facts r
  obtain ⟨mq, mh, mp, rv, SR, eq, cq, eh, ch, ep, cp, h1, hOe, h2, h3, h4, h5, h6, h7, h8, h9, h10, h11, h12, h13, h14⟩ := h
  have hfl := h3 f (by rw [hOe]; simp)
  have hhl := h3 mh (by rw [hOe]; simp)
  have n1 : ¬ f = s.next := by omega
  have n2 : ¬ mh = s.next := by omega
  obtain ⟨x, hx⟩ := Option.isSome_iff_exists.1 hyes
  have el : ∀ g nx, g mh = some (.map eh ch) → evP g nx (.lookup .int (in64 0) true (.map (some mh)) (i64 r.id)) = some ⟨.tuple #[i64 x, .bool true], [], nx⟩ := fun g nx hg => by
    rw [ev_lookup kindI h8 hg ⟨_, rfl⟩, gr_get keyG_int h9 r.id, hx]
    rfl
  simp -implicitDefEqProofs only [fun11, code11, params, go_sem, h1, h7, el, n1, n2, q1, q2, q3, q4, q5]
  exact ⟨Nat.le_succ _, fun j hj _ => by simp only [Heap.get_put]; rw [if_neg (by omega)]⟩

theorem r11 (TQ : Q.QTbl tbl) (ho : Q.OvOK ov) {f l : Nat} {M : FM} {O : List Nat} {r : RQ} {k : Int} (h : FRep s f l M O) (hp : 0 ≤ M.per) (hm : 1 ≤ M.mem) (hn : M.row.length < 2 ^ 19)
    (hl : (rowsQ M.qs k).length < 2 ^ 19) (hs : Q.SortedR ((rowsQ M.qs k).map bareQ)) (hpos : Q.posL r.id ((rowsQ M.qs k).map bareQ) = none) (hno : lookG M.host r.id = none) :
    WCall (fun k => call tbl ov k) 11 [ptr f, i64 k, r.val] s fun u s' => ∃ O' qs', Kept O s s' ∧ (∀ x ∈ O', x ∈ O ∨ s.next ≤ x) ∧
      if M.per ≤ (rowsQ M.qs k).length then u = i64 5 ∧ FRep s' f l { M with qs := qs' } O' ∧ ∀ j, rowsQ qs' j = rowsQ M.qs j
      else u = i64 0 ∧ FRep s' f l (keepM { M with qs := qs', host := putG M.host r.id k } r false) O' ∧ ∀ j, rowsQ qs' j = if j = k then insR r (rowsQ M.qs k) else rowsQ M.qs j := by
  refine WCall.of T.t11 rfl ?_
  obtain ⟨q1, q2, q3, q4, q5, q6, q7⟩ := cells_facts r
  have hlt := h.lt
  obtain ⟨sA, hsA⟩ : ∃ sA : St, sA = ⟨s.heap.put s.next (some (.cells r.cells 34 0 false)), s.next + 1⟩ := ⟨_, rfl⟩
  have hkA : Kept [] s sA := by
    rw [hsA]
    exact ⟨by simp only; omega, fun j hj _ => by simp only [Heap.get_put]; rw [if_neg (by omega)]⟩
  have hA := h.kept hkA (by simp)
  obtain ⟨mq, mh, mp, rv, SR, eq, cq, eh, ch, ep, cp, h1, hOe, h2, h3, h4, h5, h6, h7, h8, h9, h10, h11, h12, h13, h14⟩ := h
  have hfl := h3 f (by rw [hOe]; simp)
  have hhl := h3 mh (by rw [hOe]; simp)
  have n1 : ¬ f = s.next := by omega
  have n2 : ¬ mh = s.next := by omega
  have el : ∀ g nx, g mh = some (.map eh ch) → evP g nx (.lookup .int (in64 0) true (.map (some mh)) (i64 r.id)) = some ⟨.tuple #[i64 0, .bool false], [], nx⟩ := fun g nx hg => by
    rw [ev_lookup kindI h8 hg ⟨_, rfl⟩, gr_get keyG_int h9 r.id, hno]
    rfl
  simp -implicitDefEqProofs only [fun11, code11, params, go_sem, h1, h7, el, n1, n2, q1, q2, q3, q4, q5]
  rw [← hsA]
  refine WCall.mono (r22 T TQ hA hp k) ?_
  rintro u s1 ⟨O1, qs1, rfl, hF1, hr1, ⟨hk1, hff⟩, hO1⟩
  have hsn : s.next < sA.next := by rw [hsA]; exact Nat.lt_succ_self _
  have hbO : ∀ x, s.next ≤ x → x ∉ O := fun x hx hx' => by have := hlt x hx'; omega
  have hb1 : s1.heap.get s.next = some (.cells r.cells 34 0 false) := by
    rw [hk1.2 s.next (by omega) (hbO _ (Nat.le_refl _)), hsA]; simp only [Heap.get_put, if_true]
  have hf1 : ∃ mq mh mp rv, s1.heap.get f = some (.cells [i64 M.per, i64 M.mem, ptr l, .map (some mq), .map (some mh), .map (some mp), rv] 80 0 false) := by
    obtain ⟨mq', mh', mp', rv', SR', eq', cq', eh', ch', ep', cp', g1, _⟩ := hF1
    exact ⟨_, _, _, _, g1⟩
  obtain ⟨mq1, mh1, mp1, rv1, f1⟩ := hf1
  have l1 := hkA.1; have l2 := hk1.1
  have gO : ∀ x ∈ O1, x ∈ O ∨ s.next ≤ x := fun x hx => by
    rcases hO1 x hx with h | h
    · exact .inl h
    · exact .inr (by omega)
  cases hful : decide (((rowsQ M.qs k).length : Int) ≥ M.per)
  · have hful' := of_decide_eq_false hful
    simp -implicitDefEqProofs only [go_sem, f1, hful, hb1, q1, q2, q3, List.drop_zero]
    have hff2 : s1.heap.get f = sA.heap.get f := hff
    refine ⟨fun y hy => ?_, ?_⟩
    · rw [List.mem_singleton.1 hy]
      exact apart_one rfl rfl rfl fun id' hid' => by
        rw [List.mem_singleton.1 hid']
        exact hff2
    · rw [← hr1 k] at hl hs hpos
      refine WCall.mono (r17 T TQ ho hF1 hp hm hn hl hs hpos hno) ?_
      rintro u s2 ⟨rfl, O2, qs2, hF2, hr2, hk2, hO2⟩
      simp -implicitDefEqProofs only [go_sem]
      refine ⟨O2, qs2, ?_⟩
      rw [if_neg (by simpa using hful')]
      refine ⟨⟨Nat.le_trans l1 (Nat.le_trans l2 hk2.1), fun j hj hn => ?_⟩, fun x hx => ?_, hF2, fun j => ?_⟩
      · rw [hk2.2 j (by omega) (fun hx => by rcases gO j hx with h | h; exact hn h; omega), hk1.2 j (by omega) hn, hkA.2 j hj (by simp)]
      · rcases hO2 x hx with h | h
        · exact gO x h
        · exact .inr (by omega)
      · rw [hr2 j]; simp only [hr1]
  · have hful' := of_decide_eq_true hful
    simp -implicitDefEqProofs only [go_sem, f1, hful, hb1, q1, q2, q3]
    refine ⟨fun y hy => ?_, O1, qs1, ?_⟩
    rotate_left
    · rw [if_pos hful']
      refine ⟨⟨Nat.le_trans l1 l2, fun j hj hn => ?_⟩, gO, hF1, hr1⟩
      rw [hk1.2 j (by omega) hn, hkA.2 j hj (by simp)]
    · rw [List.mem_singleton.1 hy]
      exact apart_one rfl rfl rfl fun id' hid' => by
        rw [List.mem_singleton.1 hid']
        exact hff
end
end Go.Proofs.YtehgdocbabaldaaGreat


/-
  A front: Drop.
-/
set_option maxRecDepth 100000
set_option linter.unusedVariables false
set_option linter.unusedSimpArgs false
namespace Go.Proofs.YtehgdocbabaldaaGreat
open Go Go.Abs Go.Abs.K

section
variable {tbl : FuncId → Option AFun} {ov : CallSem} {s : St} (T : FTbl tbl)
include T

theorem r15n {f l : Nat} {M : FM} {O : List Nat} {x : Int} (h : FRep s f l M O) (hno : lookG M.host x = none) :
    WCall (fun k => call tbl ov k) 15 [ptr f, i64 x] s fun u s' => u = .bool false ∧ Kept [] s s' := by
  refine WCall.of T.t15 rfl ?_
  obtain ⟨mq, mh, mp, rv, SR, eq, cq, eh, ch, ep, cp, h1, hOe, h2, h3, h4, h5, h6, h7, h8, h9, h10, h11, h12, h13, h14⟩ := h
  have hfl := h3 f (by rw [hOe]; simp)
  have hhl := h3 mh (by rw [hOe]; simp)
  have n1 : ¬ f = s.next := by omega
  have n2 : ¬ mh = s.next := by omega
  have el : ∀ g nx, g mh = some (.map eh ch) → evP g nx (.lookup .int (in64 0) true (.map (some mh)) (i64 x)) = some ⟨.tuple #[i64 0, .bool false], [], nx⟩ := fun g nx hg => by
    rw [ev_lookup kindI h8 hg ⟨_, rfl⟩, gr_get keyG_int h9 x, hno]
    rfl
  simp -implicitDefEqProofs only [fun15, code15, params, go_sem, h1, h7, el, n1, n2]
  exact ⟨Nat.le_succ _, fun j hj _ => by simp only [Heap.get_put]; rw [if_neg (by omega)]⟩

def dropM (M : FM) (qs : List (Int × QN)) (x : Int) : FM := { M with qs := qs, host := delG M.host x, path := delG M.path x, row := M.row.filter fun w => !(w == x) }

theorem r15 {f l : Nat} {M : FM} {O : List Nat} {x k : Int} {i : Nat} (h : FRep s f l M O) (hn : M.row.length < 2 ^ 19)
    (hl : (rowsQ M.qs k).length < 2 ^ 19) (hpos : Q.posL x ((rowsQ M.qs k).map bareQ) = some i) (hyes : lookG M.host x = some k) (TQ : Q.QTbl tbl) :
    WCall (fun k => call tbl ov k) 15 [ptr f, i64 x] s fun u s' => u = .bool true ∧ ∃ O' qs', FRep s' f l (dropM M qs' x) O' ∧ (∀ j, rowsQ qs' j = if j = k then (rowsQ M.qs k).take i ++ (rowsQ M.qs k).drop (i + 1) else rowsQ M.qs j) ∧ Kept O s s' ∧ ∀ x ∈ O', x ∈ O ∨ s.next ≤ x := by
  refine WCall.of T.t15 rfl ?_
  have hlt := h.lt
  obtain ⟨sA, hsA⟩ : ∃ sA : St, sA = ⟨s.heap.put s.next (some (.cells [i64 x] 3 0 false)), s.next + 1⟩ := ⟨_, rfl⟩
  have hkA : Kept [] s sA := by
    rw [hsA]
    exact ⟨by simp only; omega, fun j hj _ => by simp only [Heap.get_put]; rw [if_neg (by omega)]⟩
  have hA := h.kept hkA (by simp)
  obtain ⟨n, hqn⟩ : ∃ n, lookG M.qs k = some n := by
    cases hq : lookG M.qs k with
    | some n => exact ⟨n, rfl⟩
    | none => rw [rowsQ, hq] at hpos; cases hpos
  have hrl : rowsQ M.qs k = n.L := by rw [rowsQ, hqn]; rfl
  rw [hrl] at hl hpos
  have e29 := fun K => r29s (ov := ov) T hA hqn K
  obtain ⟨mq, mh, mp, rv, SR, eq, cq, eh, ch, ep, cp, h1, hOe, h2, h3, h4, h5, h6, h7, h8, h9, h10, h11, h12, h13, h14⟩ := h
  have hfl := h3 f (by rw [hOe]; simp)
  have hhl := h3 mh (by rw [hOe]; simp)
  have n1 : ¬ f = s.next := by omega
  have n2 : ¬ mh = s.next := by omega
  have el : ∀ g nx, g mh = some (.map eh ch) → evP g nx (.lookup .int (in64 0) true (.map (some mh)) (i64 x)) = some ⟨.tuple #[i64 k, .bool true], [], nx⟩ := fun g nx hg => by
    rw [ev_lookup kindI h8 hg ⟨_, rfl⟩, gr_get keyG_int h9 x, hyes]
    rfl
  have hQA := hA
  obtain ⟨mq', mh', mp', rv', SR', eq', cq', eh', ch', ep', cp', g1, _, _, _, _, _, _, _, _, _, _, _, _, _, g14⟩ := hQA
  rw [hsA] at e29
  simp -implicitDefEqProofs only [fun15, code15, params, go_sem, h1, h7, el, n1, n2, e29]
  rw [← hsA]
  have hQ := g14 _ (lookG_mem hqn)
  have hlk : (k, n).snd.L.length = n.L.length := rfl
  refine WCall.mono (Q.p33 TQ hQ (by rw [List.length_map, hlk]; omega) hpos) ?_
  rintro u s2 ⟨rfl, hQ2, hk2⟩
  have hb0 : sA.heap.get s.next = some (.cells [i64 x] 3 0 false) := by rw [hsA]; simp only [Heap.get_put, if_true]
  have hcl : (n.L.map bareQ).take i ++ (n.L.map bareQ).drop (i + 1) = (n.L.take i ++ n.L.drop (i + 1)).map bareQ := by simp only [List.map_append, List.map_take, List.map_drop]
  rw [show (k, n).snd.L.map bareQ = n.L.map bareQ from rfl, hcl] at hQ2
  have hSn : n.S.Nodup ∧ n.q ∉ n.S := by
    obtain ⟨lv, _, hR, hq, _⟩ := hQ2
    exact ⟨RowsP.nodup hR, hq⟩
  obtain ⟨O2, hF2, hk2', hO2⟩ := hA.setQ hqn hk2 hQ2 (fun x hx => .inl hx) hSn.1 hSn.2
  have hbO : ∀ x, s.next ≤ x → x ∉ O := fun x hx hx' => by have := hlt x hx'; omega
  have hsn : s.next < sA.next := by rw [hsA]; exact Nat.lt_succ_self _
  have l1 := hkA.1; have l2 := hk2.1
  have hbO2 : s.next ∉ O2 := fun hx => by
    rcases hO2 _ hx with h | h
    · exact hbO _ (Nat.le_refl _) h
    · omega
  have hb2 : s2.heap.get s.next = some (.cells [i64 x] 3 0 false) := by rw [hk2'.2 _ hsn (hbO _ (Nat.le_refl _))]; exact hb0
  have hf2 : ∃ mq2 mh2 mp2 rv2, s2.heap.get f = some (.cells [i64 M.per, i64 M.mem, ptr l, .map (some mq2), .map (some mh2), .map (some mp2), rv2] 80 0 false) ∧ f ∈ O2 := by
    obtain ⟨mq', mh', mp', rv', SR', eq', cq', eh', ch', ep', cp', g1, rfl, _⟩ := hF2
    exact ⟨_, _, _, _, g1, by simp⟩
  obtain ⟨mq2, mh2, mp2, rv2, f1, f2⟩ := hf2
  obtain ⟨es2, cc2, m1, m2, m3, m4, m5⟩ := hF2.setHost (k := k) (x := x) f1
  have eD : ∀ g nx, g mh2 = some (.map es2 cc2) → evP g nx (.delete .int (.map (some mh2)) (i64 x)) = some ⟨.tuple #[], [(mh2, some (.map (mdel es2 (i64 x)) cc2))], nx⟩ := fun g nx h => ev_delete kindI m2 h ⟨_, rfl⟩
  obtain ⟨hF3, hk3⟩ := m5 _ _ (delG M.host x) (m2.sub (mdel_sub es2 (i64 x))) (gr_del keyG_int m3 x)
  have x1 : ¬ s.next = mh2 := fun e => hbO2 (e ▸ m4)
  have x2 : ¬ f = mh2 := fun e => by
    subst e
    rw [f1] at m1; cases m1
  have hF30 := hF3
  obtain ⟨mq3, mh3, mp3, rv3, SR3, eq3, cq3, eh3, ch3, ep3, cp3, k1, rfl, k2, k3, k4, k5, k6, k7, k8, k9, k10, k11, k12, k13, k14⟩ := hF3
  have k1' := k1
  simp only [Heap.get_put, x2, if_false] at k1'
  rw [f1] at k1'
  simp only [Option.some.injEq, AObj.cells.injEq, List.cons.injEq, Value.map.injEq, and_true, true_and] at k1'
  obtain ⟨rfl, rfl, rfl, rfl⟩ := k1'
  have knd := k2
  simp only [List.nodup_cons, List.mem_cons, List.mem_append, not_or] at knd
  obtain ⟨⟨a1, a2, a3, a4, a5⟩, ⟨b1, b2, b3, b4⟩, ⟨c1, c2, c3⟩, ⟨d1, d2⟩, _⟩ := knd
  have x3 : ¬ s.next = mp2 := fun e => hbO2 (by rw [e]; simp)
  have x4 : ¬ f = mp2 := a3
  have x5 : ¬ mp2 = mh2 := fun e => c1 e.symm
  have k10' := k10
  simp only [Heap.get_put, x5, if_false] at k10'
  have eD2 : ∀ g nx, g mp2 = some (.map ep3 cp3) → evP g nx (.delete .int (.map (some mp2)) (i64 x)) = some ⟨.tuple #[], [(mp2, some (.map (mdel ep3 (i64 x)) cp3))], nx⟩ := fun g nx h => ev_delete kindI k11 h ⟨_, rfl⟩
  obtain ⟨s4, hs4⟩ : ∃ s4 : St, s4 = ⟨(s2.heap.put mh2 (some (.map (mdel es2 (i64 x)) cc2))).put mp2 (some (.map (mdel ep3 (i64 x)) cp3)), s2.next⟩ := ⟨_, rfl⟩
  simp -implicitDefEqProofs only [go_sem, f1, hb2, m1, eD, eD2, x1, x2, x3, x4, x5, k10', List.drop_zero, Q.wv_mkFunc]
  refine ⟨fun i hi f' hf' => ?_, ?_⟩
  · rw [List.mem_singleton.1 hi] at hf'
    cases hf'
    exact fun _ _ => rfl
  have hk4 : Kept [mp2] ⟨s2.heap.put mh2 (some (.map (mdel es2 (i64 x)) cc2)), s2.next⟩ s4 := by rw [hs4]; exact kept_put1 (Nat.le_refl _)
  have hR4 := k13.kept hk4 fun y hy hy' => d1 (by rw [← List.mem_singleton.1 hy']; exact hy)
  rw [← hs4]
  have hb4 : s4.heap.get s.next = some (.cells [i64 x] 3 0 false) := by rw [hs4]; simp only [Heap.get_put, x1, x3, if_false]; exact hb2
  have hf4 : s4.heap.get f = some (.cells [i64 M.per, i64 M.mem, ptr l, .map (some mq2), .map (some mh2), .map (some mp2), rv2] 80 0 false) := by rw [hs4]; simp only [Heap.get_put, x2, x4, if_false]; exact f1
  have hm4 : s4.heap.get mp2 = some (.map (mdel ep3 (i64 x)) cp3) := by rw [hs4]; simp only [Heap.get_put, if_true]
  have hn4 : s4.next = s2.next := by rw [hs4]
  have hfl2 : f < s2.next := k3 f (by simp)
  have hpl2 : mp2 < s2.next := k3 mp2 (by simp)
  have hbS : s.next ∉ SR3 := fun hx => hbO2 (by simp [hx])
  refine WCall.mono (r34 T (g := x) hR4 hb4 (by omega) hbS (by show M.row.length < 2 ^ 20; omega)) ?_
  rintro u s5 ⟨hR5, hk5⟩
  have hf5 : s5.heap.get f = some (.cells [i64 M.per, i64 M.mem, ptr l, .map (some mq2), .map (some mh2), .map (some mp2), rv2] 80 0 false) := by rw [hk5.2 f (by omega) a4]; exact hf4
  have hvs : ∃ va vn vc, u = .slice va vn vc := by
    obtain ⟨va, vc, hval⟩ := hR5.toV.len
    exact ⟨va, _, vc, hval⟩
  obtain ⟨va, vn, vc, rfl⟩ := hvs
  simp -implicitDefEqProofs only [go_sem, hf5]
  obtain ⟨s6, hs6⟩ : ∃ s6 : St, s6 = ⟨s5.heap.put f (some (.cells [i64 M.per, i64 M.mem, ptr l, .map (some mq2), .map (some mh2), .map (some mp2), .slice va vn vc] 80 0 false)), s5.next⟩ := ⟨_, rfl⟩
  have hk6 : Kept [f] s5 s6 := by rw [hs6]; exact kept_put1 (Nat.le_refl _)
  rw [← hs6]
  have l5 := hk5.1; have l6 := hk6.1
  have hkall : Kept (f :: mp2 :: SR3) ⟨s2.heap.put mh2 (some (.map (mdel es2 (i64 x)) cc2)), s2.next⟩ s6 := by
    refine ⟨by simp only; omega, fun j hj hn => ?_⟩
    simp only at hj
    simp only [List.mem_cons, not_or] at hn
    rw [hk6.2 j (by omega) (by simpa using hn.1), hk5.2 j (by omega) hn.2.2, hk4.2 j hj (by simpa using hn.2.1)]
  have hfin := FRep.write hF30 hkall k1 k13 (rv' := .slice va vn vc) (by rw [hs6]; simp only [Heap.get_put, if_true]) (es := mdel ep3 (i64 x)) (c := cp3) (by rw [hk6.2 mp2 (by omega) (by simpa using fun e => a3 e.symm), hk5.2 mp2 (by omega) d1]; exact hm4) (k11.sub (mdel_sub _ _)) (gr_del keyG_int k12 x) (hR5.kept hk6 fun y hy hy' => a4 (by rw [← List.mem_singleton.1 hy']; exact hy)) (RowsP.nodup hR5) fun y hy => .inl hy
  refine ⟨_, _, hfin, fun j => ?_, ⟨by omega, fun j hj hn => ?_⟩, fun y hy => ?_⟩
  · by_cases hjk : j = k
    · subst hjk
      rw [if_pos rfl, rowsQ, lookG_set, if_pos rfl, hqn, hrl]; rfl
    · rw [if_neg hjk, rowsQ, lookG_set, if_neg hjk]; rfl
  · have hjO2 : j ∉ f :: mq2 :: mh2 :: mp2 :: (SR3 ++ ownQ (setG M.qs k ⟨n.q, n.L.take i ++ n.L.drop (i + 1), n.S⟩)) := fun hx => by
      rcases hO2 j hx with h | h
      · exact hn h
      · omega
    have hj6 := hkall.2 j (by simp only; omega) (fun hx => hjO2 (by
      simp only [List.mem_cons, List.mem_append] at hx ⊢
      rcases hx with h | h | h
      · exact .inl h
      · exact .inr (.inr (.inr (.inl h)))
      · exact .inr (.inr (.inr (.inr (.inl h))))))
    rw [hj6, hk3.2 j (by omega) (fun hx => hjO2 (by rw [List.mem_singleton.1 hx]; simp)), hk2'.2 j (by omega) hn, hkA.2 j hj (by simp)]
  · rcases hO2 y hy with h | h
    · exact .inl h
    · exact .inr (by omega)
end
end Go.Proofs.YtehgdocbabaldaaGreat


/-
  A front: First.
-/
set_option maxRecDepth 100000
set_option linter.unusedVariables false
set_option linter.unusedSimpArgs false
namespace Go.Proofs.YtehgdocbabaldaaGreat
open Go Go.Abs Go.Abs.K

def firstM (M : FM) (r : RQ) : FM := if (lookG M.path r.id).isSome = true then M else keepM M r true

section
variable {tbl : FuncId → Option AFun} {ov : CallSem} {s : St} (T : FTbl tbl)
include T

theorem r12n (TQ : Q.QTbl tbl) {f l : Nat} {M : FM} {O : List Nat} {k : Int} (h : FRep s f l M O) (hp : 0 ≤ M.per) (hl : rowsQ M.qs k = []) :
    WCall (fun k => call tbl ov k) 12 [ptr f, i64 k] s fun u s' => u = .tuple #[RQ0.val, .bool false] ∧ ∃ O' qs', FRep s' f l { M with qs := qs' } O' ∧ (lookG qs' k).isSome = true ∧ (∀ j, rowsQ qs' j = rowsQ M.qs j) ∧ Kept O s s' ∧ ∀ x ∈ O', x ∈ O ∨ s.next ≤ x := by
  refine WCall.of T.t12 rfl ?_
  have hlt := h.lt
  obtain ⟨sA, hsA⟩ : ∃ sA : St, sA = ⟨s.heap.put s.next (some (.cells [in64 0, .string ⟨#[]⟩, .string ⟨#[]⟩, in64 0, in64 0] 34 0 false)), s.next + 1⟩ := ⟨_, rfl⟩
  have hkA : Kept [] s sA := by
    rw [hsA]
    exact ⟨by simp only; omega, fun j hj _ => by simp only [Heap.get_put]; rw [if_neg (by omega)]⟩
  have hA := h.kept hkA (by simp)
  have hbO : ∀ x, s.next ≤ x → x ∉ O := fun x hx hx' => by have := hlt x hx'; omega
  have hsn : s.next < sA.next := by rw [hsA]; exact Nat.lt_succ_self _
  simp -implicitDefEqProofs only [fun12, code12, params, go_sem]
  rw [← hsA]
  refine WCall.mono (r29 T TQ hA hp k) ?_
  rintro u s1 ⟨n, O1, qs1, rfl, hF1, hl1, hr1, ⟨hk1, _⟩, hO1⟩
  have hb1 : s1.heap.get s.next = some (.cells [in64 0, .string ⟨#[]⟩, .string ⟨#[]⟩, in64 0, in64 0] 34 0 false) := by
    rw [hk1.2 s.next hsn (hbO _ (Nat.le_refl _)), hsA]; simp only [Heap.get_put, if_true]
  have hrl : n.L = [] := by rw [← hl, ← hr1 k, rowsQ, hl1]; rfl
  have hF1' := hF1
  obtain ⟨mq, mh, mp, rv, SR, eq, cq, eh, ch, ep, cp, h1, hOe, h2, h3, h4, h5, h6, h7, h8, h9, h10, h11, h12, h13, h14⟩ := hF1
  obtain ⟨lv, hq, hR, hqS, hql⟩ := h14 _ (lookG_mem hl1)
  obtain ⟨a, cap, hlv⟩ := hR.toV.len
  have hlv : lv = .slice a 0 cap := by rw [hlv, show (k, n).snd.L = n.L from rfl, hrl]; rfl
  subst hlv
  have h30 := Q.p30n (ov := ov) TQ (s := s1) hq hql
  have e30 := fun K => WCall.pureEq h30 K
  have nn := nxt_le (fun k => call tbl ov k) 30 [ptr n.q] s1
  have l1 := hk1.1
  simp only at e30 nn
  generalize nxt (fun k => call tbl ov k) 30 [ptr n.q] s1 = n2' at e30 nn
  have m1 : ¬ s.next = n2' := by omega
  simp -implicitDefEqProofs only [go_sem, e30, hb1, m1, fillL, List.drop_zero, Q.resV_cell, Q.loadA_n]
  have hsO : s.next ∉ O1 := fun hx => by
    rcases hO1 _ hx with h | h
    · exact hbO _ (Nat.le_refl _) h
    · omega
  have l0 := hkA.1
  refine ⟨rfl, O1, qs1, hF1'.kept (T := [s.next]) ⟨by simp only; omega, fun j hj hn => ?_⟩ fun x hx hx' => hsO (by rw [← List.mem_singleton.1 hx']; exact hx), by rw [hl1]; rfl, hr1, ⟨by simp only; omega, fun j hj hn => ?_⟩, fun x hx => ?_⟩
  · have e1 : ¬ j = s.next := by simpa using hn
    have e2 : ¬ j = n2' := by omega
    simp only [Heap.get_put, e1, e2, if_false]
  · have e1 : ¬ j = s.next := by omega
    have e2 : ¬ j = n2' := by omega
    simp only [Heap.get_put, e1, e2, if_false]
    rw [hk1.2 j (by omega) hn, hkA.2 j hj (by simp)]
  · rcases hO1 x hx with h | h
    · exact .inl h
    · exact .inr (by omega)

theorem r12 (TQ : Q.QTbl tbl) {f l p : Nat} {M : FM} {O : List Nat} {L : LM} {OL : List Nat} {k : Int} {r : RQ} {rs : List RQ} (h : FRep s f l M O) (hlg : LRep s l p L OL) (hd : ∀ x ∈ OL, x ∉ O) (hp : 0 ≤ M.per) (hm : 1 ≤ M.mem) (hn : M.row.length < 2 ^ 19) (hl : rowsQ M.qs k = r :: rs)
    (hw : wholeR M L (bareR r) = r) :
    WCall (fun k => call tbl ov k) 12 [ptr f, i64 k] s fun u s' => u = .tuple #[r.val, .bool true] ∧ ∃ O' qs', FRep s' f l (firstM { M with qs := qs' } r) O' ∧ (lookG qs' k).isSome = true ∧ (∀ j, rowsQ qs' j = rowsQ M.qs j) ∧ Kept O s s' ∧ ∀ x ∈ O', x ∈ O ∨ s.next ≤ x := by
  refine WCall.of T.t12 rfl ?_
  have hlt := h.lt
  obtain ⟨sA, hsA⟩ : ∃ sA : St, sA = ⟨s.heap.put s.next (some (.cells [in64 0, .string ⟨#[]⟩, .string ⟨#[]⟩, in64 0, in64 0] 34 0 false)), s.next + 1⟩ := ⟨_, rfl⟩
  have hkA : Kept [] s sA := by
    rw [hsA]
    exact ⟨by simp only; omega, fun j hj _ => by simp only [Heap.get_put]; rw [if_neg (by omega)]⟩
  have hA := h.kept hkA (by simp)
  have hbO : ∀ x, s.next ≤ x → x ∉ O := fun x hx hx' => by have := hlt x hx'; omega
  have hsn : s.next < sA.next := by rw [hsA]; exact Nat.lt_succ_self _
  simp -implicitDefEqProofs only [fun12, code12, params, go_sem]
  rw [← hsA]
  refine WCall.mono (r29 T TQ hA hp k) ?_
  rintro u s1 ⟨n, O1, qs1, rfl, hF1, hl1, hr1, ⟨hk1, _⟩, hO1⟩
  have hb1 : s1.heap.get s.next = some (.cells [in64 0, .string ⟨#[]⟩, .string ⟨#[]⟩, in64 0, in64 0] 34 0 false) := by
    rw [hk1.2 s.next hsn (hbO _ (Nat.le_refl _)), hsA]; simp only [Heap.get_put, if_true]
  have hrl : n.L = r :: rs := by rw [← hl, ← hr1 k, rowsQ, hl1]; rfl
  have hlt1 := hF1.lt
  have hL1 : LRep s1 l p L OL := (hlg.kept hkA (by simp)).kept hk1 hd
  have hF1' := hF1
  obtain ⟨mq, mh, mp, rv, SR, eq, cq, eh, ch, ep, cp, h1, hOe, h2, h3, h4, h5, h6, h7, h8, h9, h10, h11, h12, h13, h14⟩ := hF1
  obtain ⟨lv, hq, hR, hqS, hql⟩ := h14 _ (lookG_mem hl1)
  rw [show (k, n).snd.L = n.L from rfl, hrl] at hR
  have h30 := Q.p30 (ov := ov) TQ (s := s1) hq hql hR.toV
  have e30 := fun K => WCall.pureEq h30 K
  have nn := nxt_le (fun k => call tbl ov k) 30 [ptr n.q] s1
  have l1 := hk1.1
  simp only at e30 nn
  generalize nxt (fun k => call tbl ov k) 30 [ptr n.q] s1 = n2' at e30 nn
  have l0 := hkA.1
  have m1 : ¬ s.next = n2' := by omega
  have m2 : ¬ n2' = s.next := by omega
  obtain ⟨c1, c2, c3, c4, c5, c6, c7⟩ := cells_facts (bareR r)
  obtain ⟨d1, d2, d3, d4, d5, d6, d7⟩ := cells_facts r
  have hbv : (bareQ r).val = (bareR r).val := rfl
  rw [hbv] at e30
  -- the block of the request that is found
  obtain ⟨sB, hsB⟩ : ∃ sB : St, sB = ⟨(s1.heap.put n2' (some (.cells [in64 0, .string ⟨#[]⟩, .string ⟨#[]⟩, in64 0, in64 0] 34 0 false))).put n2' (some (.cells (bareR r).cells 34 0 false)), n2' + 1⟩ := ⟨_, rfl⟩
  have hkB : Kept [] s1 sB := by
    rw [hsB]
    exact ⟨by simp only; omega, fun j hj _ => by simp only [Heap.get_put]; rw [if_neg (by omega), if_neg (by omega)]⟩
  have hFB := hF1'.kept hkB (by simp)
  have hLB := hL1.kept hkB (by simp)
  simp -implicitDefEqProofs only [go_sem, e30, hb1, m1, fillL, List.drop_zero, c1, c2, c3, c4]
  rw [← hsB]
  have h31 := r31 (ov := ov) T (r := bareR r) hFB hLB
  rw [show wholeR { M with qs := qs1 } L (bareR r) = wholeR M L (bareR r) from rfl, hw] at h31
  have e31 := fun K => WCall.pureEq h31 K
  have nn2 := nxt_le (fun k => call tbl ov k) 31 [ptr f, (bareR r).val] sB
  generalize nxt (fun k => call tbl ov k) 31 [ptr f, (bareR r).val] sB = n3' at e31 nn2
  have l2 := hkB.1
  have lB : sB.next = n2' + 1 := by rw [hsB]
  have hsO : s.next ∉ O1 := fun hx => by
    rcases hO1 _ hx with h | h
    · exact hbO _ (Nat.le_refl _) h
    · omega
  have hnO : n2' ∉ O1 := fun hx => by have := hlt1 _ hx; omega
  have hbB : sB.heap.get n2' = some (.cells (bareR r).cells 34 0 false) := by rw [hsB]; simp only [Heap.get_put, if_true]
  have hbA : sB.heap.get s.next = some (.cells [in64 0, .string ⟨#[]⟩, .string ⟨#[]⟩, in64 0, in64 0] 34 0 false) := by rw [hkB.2 s.next (by omega) (by simp)]; exact hb1
  -- the path is looked for
  obtain ⟨sC, hsC⟩ : ∃ sC : St, sC = ⟨sB.heap.put n2' (some (.cells r.cells 34 0 false)), n3'⟩ := ⟨_, rfl⟩
  have hkC : Kept [n2'] sB sC := by
    rw [hsC]
    exact ⟨nn2, fun j hj hn => by simp only [Heap.get_put]; rw [if_neg (by simpa using hn)]⟩
  have hFC := hFB.kept hkC fun x hx hx' => hnO (by rw [← List.mem_singleton.1 hx']; exact hx)
  have hFC' := hFC
  obtain ⟨mqC, mhC, mpC, rvC, SRC, eqC, cqC, ehC, chC, epC, cpC, g1, gOe, g2, g3, g4, g5, g6, g7, g8, g9, g10, g11, g12, g13, g14⟩ := hFC
  have hstl : storeL (bareR r).cells 0 r.cells = r.cells := rfl
  have hfl : f < sB.next := by have := hFB.lt f (by rw [hOe]; simp); omega
  have hml : mpC < sB.next := hFB.lt mpC (by rw [gOe]; simp)
  have y1 : ¬ f = n2' := fun e => hnO (by rw [← e, hOe]; simp)
  have y2 : ¬ mpC = n2' := fun e => hnO (by rw [← e, gOe]; simp)
  have y3 : ¬ n2' = s.next := m2
  have fB : sB.heap.get f = some (.cells [i64 M.per, i64 M.mem, ptr l, .map (some mqC), .map (some mhC), .map (some mpC), rvC] 80 0 false) := by
    rw [← hkC.2 f hfl (by simpa using y1)]; exact g1
  have pB : sB.heap.get mpC = some (.map epC cpC) := by rw [← hkC.2 mpC hml (by simpa using y2)]; exact g10
  have el : ∀ g nx, g mpC = some (.map epC cpC) → evP g nx (.lookup .int (.string ⟨#[]⟩) true (.map (some mpC)) (i64 r.id)) = some ⟨.tuple #[.string ((lookG M.path r.id).getD ⟨#[]⟩), .bool (lookG M.path r.id).isSome], [], nx⟩ := fun g nx hg => by
    rw [ev_lookup kindI g11 hg ⟨_, rfl⟩, gr_get keyG_int g12 r.id]
    cases hx : lookG M.path r.id <;> simp only [hx, Option.map_none, Option.map_some, lookV] <;> rfl
  simp -implicitDefEqProofs only [go_sem, e31, hbB, c1, c2, c3, d1, d2, d3, d5, hstl, List.drop_zero, y1, y2, fB, pB, el]
  have fin : ∀ (s2 : St) (O2 : List Nat), FRep s2 f l (firstM { M with qs := qs1 } r) O2 → Kept O1 sC s2 → (∀ x ∈ O2, x ∈ O1 ∨ sC.next ≤ x) →
      s2.heap.get s.next = some (.cells [in64 0, .string ⟨#[]⟩, .string ⟨#[]⟩, in64 0, in64 0] 34 0 false) ∧ s2.heap.get n2' = some (.cells r.cells 34 0 false) ∧
      (∃ O' qs', FRep ⟨s2.heap.put s.next (some (.cells r.cells 34 0 false)), s2.next⟩ f l (firstM { M with qs := qs' } r) O' ∧ (lookG qs' k).isSome = true ∧ (∀ j, rowsQ qs' j = rowsQ M.qs j) ∧ Kept O s ⟨s2.heap.put s.next (some (.cells r.cells 34 0 false)), s2.next⟩ ∧ ∀ x ∈ O', x ∈ O ∨ s.next ≤ x) := by
    intro s2 O2 hF2 hk2 hO2
    have l3 := hkC.1; have l4 := hk2.1
    have z1 : s2.heap.get s.next = sC.heap.get s.next := hk2.2 _ (by omega) hsO
    have z2 : s2.heap.get n2' = sC.heap.get n2' := hk2.2 _ (by omega) hnO
    refine ⟨?_, ?_, O2, qs1, hF2.kept (T := [s.next]) (kept_put1 (Nat.le_refl _)) fun x hx hx' => ?_, by rw [hl1]; rfl, hr1, ⟨by simp only; omega, fun j hj hn => ?_⟩, fun x hx => ?_⟩
    · rw [z1, hkC.2 _ (by omega) (by simpa using m1)]; exact hbA
    · rw [z2, hsC]; simp only [Heap.get_put, if_true]
    · rw [List.mem_singleton.1 hx'] at hx
      rcases hO2 _ hx with h | h
      · exact hsO h
      · omega
    · have e1 : ¬ j = s.next := by omega
      have hj1 : j ∉ O1 := fun hx => by rcases hO1 j hx with h | h; exact hn h; omega
      simp only [Heap.get_put, e1, if_false]
      rw [hk2.2 j (by omega) hj1, hkC.2 j (by omega) (by simp; omega), hkB.2 j (by omega) (by simp), hk1.2 j (by omega) hn, hkA.2 j hj (by simp)]
    · rcases hO2 x hx with h | h
      · rcases hO1 x h with h | h
        · exact .inl h
        · exact .inr (by omega)
      · exact .inr (by omega)
  have hst0 : storeL [in64 0, .string ⟨#[]⟩, .string ⟨#[]⟩, in64 0, in64 0] 0 r.cells = r.cells := rfl
  cases hs : (lookG M.path r.id).isSome
  · have hfm : firstM { M with qs := qs1 } r = keepM { M with qs := qs1 } r true := by simp only [firstM, hs]; rfl
    simp -implicitDefEqProofs only [go_sem, hs, d1, d2, d3, d5, List.drop_zero]
    rw [← hsC]
    refine WCall.mono (r32 T (r := r) (need := true) hFC' hn hm) ?_
    rintro u s2 ⟨rfl, O2, hF2, hk2, hO2⟩
    rw [← hfm] at hF2
    obtain ⟨w1, w2, w3⟩ := fin s2 O2 hF2 hk2 hO2
    simp -implicitDefEqProofs only [go_sem, w1, w2, d1, d2, d3, d4, hst0, List.drop_zero, Q.resV_cell, Q.loadA_n]
    exact w3
  · have hfm : firstM { M with qs := qs1 } r = { M with qs := qs1 } := by simp only [firstM, hs]; rfl
    obtain ⟨w1, w2, w3⟩ := fin sC O1 (by rw [hfm]; exact hFC') (Kept.refl _ _) fun x hx => .inl hx
    rw [hsC] at w1 w2 w3
    simp -implicitDefEqProofs only [go_sem, hs, w1, w2, hbA, m1, d1, d2, d3, d4, hst0, List.drop_zero, Q.resV_cell, Q.loadA_n]
    exact w3
end
end Go.Proofs.YtehgdocbabaldaaGreat
