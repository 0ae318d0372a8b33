/-
  A disk: Crash.
-/
import Derived.Test.YtgnpafmhdmmmhaaD5
set_option maxRecDepth 100000
set_option linter.unusedVariables false
set_option linter.unusedSimpArgs false
namespace Go.Proofs.Ytgnpafmhdmmmhaa
open Go Go.Abs Go.Abs.K

/-- So many bytes of a segment may not last. -/
def sumW : List (Int × Int) → Int → Int
  | [], _ => 0
  | w :: L, g => (if w.1 = g then w.2 else 0) + sumW L g

def LooseOK (F : List (Int × List Int)) (L : List (Int × Int)) : Prop := (∀ w ∈ L, 0 ≤ w.2 ∧ (lookF F w.1).isSome = true) ∧ ∀ g bs, lookF F g = some bs → sumW L g ≤ bs.length

theorem sumW_nonneg {L : List (Int × Int)} (h : ∀ w ∈ L, 0 ≤ w.2) (g : Int) : 0 ≤ sumW L g := by
  induction L with
  | nil => simp [sumW]
  | cons w L ih =>
    simp only [sumW]
    have h1 := h w (List.mem_cons_self ..)
    have h2 := ih fun w hw => h w (List.mem_cons_of_mem _ hw)
    split <;> omega

/-- What a crash leaves. -/
def crashF : List (Int × Int) → Int → List (Int × List Int) → List (Int × List Int)
  | [], _, F => F
  | w :: L, k, F => crashF L (max (k - w.2) 0) (putF F w.1 (((lookF F w.1).getD []).take (((lookF F w.1).getD []).length - (max (w.2 - k) 0).toNat)))

theorem LooseOK.step {F : List (Int × List Int)} {w : Int × Int} {L : List (Int × Int)} {k : Int} (h : LooseOK F (w :: L)) (hk : 0 ≤ k) :
    LooseOK (putF F w.1 (((lookF F w.1).getD []).take (((lookF F w.1).getD []).length - (max (w.2 - k) 0).toNat))) L := by
  obtain ⟨h1, h2⟩ := h
  have hw := h1 w (List.mem_cons_self ..)
  obtain ⟨bs, hbs⟩ := Option.isSome_iff_exists.1 hw.2
  refine ⟨fun v hv => ⟨(h1 v (List.mem_cons_of_mem _ hv)).1, ?_⟩, fun g b hb => ?_⟩
  · rw [lookF_put]
    split
    · rfl
    · exact (h1 v (List.mem_cons_of_mem _ hv)).2
  · rw [lookF_put] at hb
    split at hb
    · rename_i hg
      subst hg
      cases hb
      have := h2 w.1 bs hbs
      simp only [sumW, if_true] at this
      have hn := sumW_nonneg (fun v hv => (h1 v (List.mem_cons_of_mem _ hv)).1) w.1
      rw [hbs, Option.getD_some, List.length_take]
      omega
    · rename_i hg
      have := h2 g b hb
      simp only [sumW] at this
      rw [if_neg (fun e => hg e.symm)] at this
      omega

theorem LooseOK.lost {F : List (Int × List Int)} {w : Int × Int} {L : List (Int × Int)} (h : LooseOK F (w :: L)) : ∃ bs, lookF F w.1 = some bs ∧ 0 ≤ w.2 ∧ w.2 ≤ bs.length := by
  obtain ⟨h1, h2⟩ := h
  have hw := h1 w (List.mem_cons_self ..)
  obtain ⟨bs, hbs⟩ := Option.isSome_iff_exists.1 hw.2
  have := h2 w.1 bs hbs
  simp only [sumW, if_true] at this
  have hn := sumW_nonneg (fun v hv => (h1 v (List.mem_cons_of_mem _ hv)).1) w.1
  exact ⟨bs, hbs, hw.1, by omega⟩

theorem ev_max0 (g : Nat → Option AObj) (nx : Nat) (a : Int) : evP g nx (.minmax true [i64 a, i64 0]) = some ⟨i64 (max a 0), [], nx⟩ := by
  simp only [evP, minmaxV, if_true, Option.map_some]
  congr 3
  by_cases h : (0 : Int) > a
  · rw [if_pos h]; omega
  · rw [if_neg h]; omega

section
variable {tbl : FuncId → Option AFun} {ov : CallSem} {s : St} (T : DTbl tbl)
include T

theorem p29 {p : Nat} {D : DM} {O V : List Nat} {keep : Int} (h : DRep s p D O V) (hk : W64 keep) (hL : LooseOK D.F D.loose) (hll : D.loose.length < 2 ^ 20) :
    WCall (fun k => call tbl ov k) 29 [ptr p, i64 keep] s fun u s' => u = .tuple #[] ∧ Kept O s s' ∧ ∃ O', DRep s' p ⟨D.most, 0, 0, crashF D.loose (max keep 0) D.F, []⟩ O' V ∧ ∀ x ∈ O', x ∈ O := by
  refine WCall.of T.t29 rfl ?_
  obtain ⟨m, lv, S, es, clock, h1, rfl, h2, h3, h4, h5, h6, h7, h8, h9, h10, h11, h12⟩ := h
  obtain ⟨la, lc, hlv⟩ := h5.toV.len
  rw [List.length_map] at hlv
  subst hlv
  simp -implicitDefEqProofs only [fun29, code29, params, go_sem, reduceIte, Nat.reduceEqDiff, Nat.reduceAdd, Nat.reduceMul, Nat.reduceLT, Nat.reduceLeDiff, reduceCtorEq, Int.reduceEq, Int.reduceNeg, Nat.reduceSub, Int.reduceLT, Int.reduceLE, Int.reduceGT, Int.reduceGE, Int.reduceAdd, Int.reduceSub, Int.reduceToNat, Int.reduceBNe, Int.reduceBEq, Nat.mul_one, Nat.zero_mul, h1, ev_max0]
  unfold W64 at hk
  obtain ⟨I, hI⟩ : ∃ I : Nat → List Value → St → Prop, I = fun j vs s' => Kept [m] s s' ∧ ∃ i k F es clock, i ≤ D.loose.length ∧ j = D.loose.length - i ∧ vs = [ptr p, i64 k, .slice la D.loose.length lc, i64 (D.loose.length : Nat), i64 (i : Nat)] ∧ 0 ≤ k ∧ k ≤ 9223372036854775807 ∧
    s'.heap.get m = some (.map es clock) ∧ MOK KInt es clock ∧ All2 (ER s' V) es F ∧ (∀ p ∈ F, W64 p.1) ∧ (F.length : Int) ≤ D.most ∧ (∀ p ∈ F, p.2.length ≤ 2048) ∧ LooseOK F (D.loose.drop i) ∧ crashF (D.loose.drop i) k F = crashF D.loose (max keep 0) D.F := ⟨_, rfl⟩
  refine wc_loopV I D.loose.length ?_ ?_
  · simp -implicitDefEqProofs only [go_sem, reduceIte, Nat.reduceEqDiff, Nat.reduceAdd, Nat.reduceMul, Nat.reduceLT, Nat.reduceLeDiff, reduceCtorEq, Int.reduceEq, Int.reduceNeg, Nat.reduceSub, Int.reduceLT, Int.reduceLE, Int.reduceGT, Int.reduceGE, Int.reduceAdd, Int.reduceSub, Int.reduceToNat, Int.reduceBNe, Int.reduceBEq, Nat.mul_one, Nat.zero_mul]
    rw [hI]
    exact ⟨Kept.refl _ _, 0, max keep 0, D.F, es, clock, by omega, by omega, rfl, by omega, by omega, h2, h3, h4, h12.keys, h12.fit, h12.len, hL, rfl⟩
  · intro j vs s1 hi _
    rw [hI] at hi
    obtain ⟨hk1, i, k, F, es1, clock1, hil, rfl, rfl, hk0, hk63, g2, g3, g4, g5, g6, g7, g8, g9⟩ := hi
    have hp1 : s1.heap.get p = some (.cells [i64 D.most, .map (some m), .slice la D.loose.length lc, i64 D.first, i64 D.fails] 91 0 false) := by rw [hk1.2 p h9 (by simpa using h6)]; exact h1
    have hnn := hk1.1
    cases hlt : decide ((i : Int) < (D.loose.length : Int))
    · have hie : i = D.loose.length := by have := of_decide_eq_false hlt; omega
      subst hie
      rw [List.drop_length] at g8 g9
      simp only [crashF] at g9
      subst g9
      simp -implicitDefEqProofs only [go_sem, reduceIte, Nat.reduceEqDiff, Nat.reduceAdd, Nat.reduceMul, Nat.reduceLT, Nat.reduceLeDiff, reduceCtorEq, Int.reduceEq, Int.reduceNeg, Nat.reduceSub, Int.reduceLT, Int.reduceLE, Int.reduceGT, Int.reduceGE, Int.reduceAdd, Int.reduceSub, Int.reduceToNat, Int.reduceBNe, Int.reduceBEq, Nat.mul_one, Nat.zero_mul, hlt, hp1]
      obtain ⟨s8, hs8⟩ : ∃ s8 : St, s8 = ⟨((s1.heap.put p (some (.cells [i64 D.most, .map (some m), .slice none 0 0, i64 D.first, i64 D.fails] 91 0 false))).put p (some (.cells [i64 D.most, .map (some m), .slice none 0 0, i64 0, i64 D.fails] 91 0 false))).put p (some (.cells [i64 D.most, .map (some m), .slice none 0 0, i64 0, i64 0] 91 0 false)), s1.next⟩ := ⟨_, rfl⟩
      rw [← hs8]
      have hk8 : Kept [p] s1 s8 := by
        rw [hs8]
        refine ⟨Nat.le_refl _, fun j hj hn => ?_⟩
        simp only [List.mem_singleton] at hn
        simp only [Heap.get_put, hn, if_false]
      refine ⟨⟨by have := hk8.1; omega, fun j hj hn => ?_⟩, [p, m], ⟨m, .slice none 0 0, [], es1, clock1, by rw [hs8]; simp only [Heap.get_put, if_true], rfl, by rw [hk8.2 m (by omega) (by simpa using Ne.symm h6)]; exact g2, g3, er_kept g4 hk8 (fun x hx => by simp only [List.mem_singleton]; rintro rfl; exact (h11 _ hx).1 (by simp)), .nil, h6, by simp, by simp, by have := hk8.1; omega, by have := hk8.1; omega,
        fun x hx => ⟨fun hx' => (h11 x hx).1 (by simp only [List.mem_cons, List.not_mem_nil, or_false] at hx' ⊢; rcases hx' with h | h <;> simp [h]), by have := (h11 x hx).2; have := hk8.1; omega⟩, ⟨⟨by simp, by simp⟩, ⟨by simp, by simp⟩, h12.most, g5, g6, g7⟩⟩, fun x hx => by simp only [List.mem_cons, List.not_mem_nil, or_false] at hx ⊢; rcases hx with h | h <;> simp [h]⟩
      simp only [List.mem_cons, not_or] at hn
      rw [hk8.2 j (by omega) (by simpa using hn.1), hk1.2 j hj (by simpa using hn.2.1)]
    · have hltN : i < D.loose.length := by have := of_decide_eq_true hlt; omega
      obtain ⟨id, o, cap, c, T', ro, hv, hid, hg, hle, hrw, _⟩ := row_read (h5.toV) (i := i) (by simpa using hltN)
      rw [List.length_map] at hv
      cases hv
      obtain ⟨w, hw⟩ : ∃ w, D.loose[i]? = some w := ⟨_, List.getElem?_eq_getElem hltN⟩
      have hgw : (D.loose.map rowW).getD i [] = rowW w := by rw [List.getD_eq_getElem?_getD, List.getElem?_map, hw]; rfl
      rw [hgw] at hrw
      have hidm : id ≠ m := fun e => by
        obtain ⟨_, ⟨hx, _⟩ | ⟨id', o', cap', c', hx, hS, _⟩⟩ := h5
        · cases hx
        · simp only [Value.slice.injEq, Option.some.injEq, Addr.mk.injEq] at hx
          exact h8 (by rw [hS, ← e, hx.1.1]; exact List.mem_singleton.2 rfl)
      have hg1 : s1.heap.get id = some (.cells c T' 2 ro) := by rw [hk1.2 id hid (by simpa using hidm)]; exact hg
      have hdrop : D.loose.drop i = w :: D.loose.drop (i + 1) := by
        obtain ⟨hl, rfl⟩ := List.getElem?_eq_some_iff.1 hw
        exact List.drop_eq_getElem_cons hl
      rw [hdrop] at g8 g9
      obtain ⟨bs, hbs, hw0, hwl⟩ := g8.lost
      obtain ⟨bv, hbv, hBV, hBI⟩ := er_some g4 hbs
      have hbl : bs.length ≤ 2048 := g7 _ (lookF_mem hbs)
      have hstep := g8.step hk0
      simp only [crashF] at g9
      rw [hbs, Option.getD_some] at hstep g9
      -- the state with the write's copy
      obtain ⟨sH, hsH⟩ : ∃ sH : St, sH = ⟨(s1.heap.put s1.next (some (.cells [i64 0, i64 0] 94 0 false))).put s1.next (some (.cells (rowW w) 94 0 false)), s1.next + 1⟩ := ⟨_, rfl⟩
      have hkH : Kept [] s1 sH := by
        rw [hsH]
        exact ⟨Nat.le_succ _, fun j hj _ => by simp only [Heap.get_put]; rw [if_neg (by omega), if_neg (by omega)]⟩
      obtain ⟨lost, hlost⟩ : ∃ lost, lost = max (w.2 - k) 0 := ⟨_, rfl⟩
      obtain ⟨n, hn⟩ : ∃ n, n = bs.length - lost.toNat := ⟨_, rfl⟩
      obtain ⟨bv', hcut, hcutE⟩ := (hBV.kept hkH).take (n := n) (by omega)
      have hcutE := hcutE .i64
      obtain ⟨ba, bc, hbe⟩ := hBV.len
      subst hbe
      have hcv : ∃ a l c, bv' = .slice a l c ∧ ∀ id o, a = some ⟨id, o, none⟩ → id ∈ V := by
        cases ba with
        | none =>
          simp only [evP, boundsV, boundV, Option.bind_eq_some_iff, Option.map_eq_some_iff, Option.some.injEq, Res.mk.injEq] at hcutE
          obtain ⟨⟨l', h', m'⟩, _, hx⟩ := hcutE
          exact ⟨_, _, _, hx.1.symm, fun id o e => by cases e⟩
        | some ad =>
          obtain ⟨_, ⟨hx, _⟩ | ⟨id', o', cap', c', t', sz', ro', hx, hx2, hx3, hx4, hx5, hx6, hx7⟩⟩ := hBV
          · cases hx
          · cases hx
            have hgid : sH.heap.get id' = some (.cells c' t' sz' ro') := by rw [hkH.2 id' hx3 (by simp)]; exact hx4
            have := ev_sliceH (nx := sH.next) (o := o') (len := bs.length) (k' := .i64) hgid (hx6.imp_right Or.inl) (show n ≤ bc by omega)
            rw [this] at hcutE
            simp only [Option.some.injEq, Res.mk.injEq] at hcutE
            refine ⟨_, _, _, hcutE.1.symm, fun id o e => ?_⟩
            cases e
            exact hBI _ _ _ _ rfl
      have hgm : sH.heap.get m = some (.map es1 clock1) := by rw [hkH.2 m (by omega) (by simp)]; exact g2
      have el := ev_lookup (g := sH.heap.get) (nx := sH.next) (z := .slice none 0 0) (kind_int .i64) g3 hgm (k := i64 w.1) ⟨w.1, rfl⟩ false
      rw [hbv] at el
      simp only [Option.map_some, lookV, Bool.false_eq_true, if_false] at el
      have eu := ev_mapUpdate (g := sH.heap.get) (nx := sH.next) (v := bv') (kind_int .i64) g3 hgm (k := i64 w.1) ⟨w.1, rfl⟩
      have w1 : IntKind.i64.wrap (w.2 - k) = w.2 - k := by rw [IntKind.wrap_i64]; omega
      have w2 : IntKind.i64.wrap (k - w.2) = k - w.2 := by rw [IntKind.wrap_i64]; omega
      have w3 : IntKind.i64.wrap ((bs.length : Int) - max (w.2 - k) 0) = ((n : Nat) : Int) := by rw [IntKind.wrap_i64]; omega
      have w4 : IntKind.i64.wrap ((i : Int) + 1) = ((i + 1 : Nat) : Int) := by rw [IntKind.wrap_i64]; omega
      have hix : 0 ≤ (i : Int) ∧ (i : Int) < (D.loose.length : Int) := by omega
      have hpx : (p = s1.next) = False := by simp; omega
      have hmx : (m = s1.next) = False := by simp; omega
      have hidx : (id = s1.next) = False := by simp; omega
      have f1 : (rowW w).length = 2 := rfl
      have f2 : (rowW w).take 2 = rowW w := rfl
      have f3 : (rowW w).all isCell = true := rfl
      have f4 : storeL [i64 0, i64 0] 0 (rowW w) = rowW w := rfl
      have f5 : (rowW w)[0]? = some (i64 w.1) := rfl
      have f6 : (rowW w)[1]? = some (i64 w.2) := rfl
      rw [hsH] at el hcutE eu
      simp only at el hcutE eu
      have hfin : ∃ m', m' < D.loose.length - i ∧ I m' [ptr p, i64 (max (k - w.2) 0), .slice (some ⟨id, o, none⟩) D.loose.length lc, i64 (D.loose.length : Nat), i64 ((i + 1 : Nat) : Int)] ⟨sH.heap.put m (some (.map (mput es1 clock1 (i64 w.1) bv') (mclock es1 clock1 (i64 w.1)))), sH.next⟩ := by
        refine ⟨D.loose.length - (i + 1), by omega, ?_⟩
        rw [hI]
        obtain ⟨s2, hs2⟩ : ∃ s2 : St, s2 = ⟨sH.heap.put m (some (.map (mput es1 clock1 (i64 w.1) bv') (mclock es1 clock1 (i64 w.1)))), sH.next⟩ := ⟨_, rfl⟩
        rw [← hs2]
        have hk2 : Kept [m] sH s2 := by rw [hs2]; exact kept_put1 (Nat.le_refl _)
        have hVm : ∀ x ∈ V, x ∉ [m] := fun x hx => by simp only [List.mem_singleton]; rintro rfl; exact (h11 _ hx).1 (by simp)
        have hkall : Kept [m] s1 s2 := (hkH.sub (by simp)).trans hk2
        have hBV2 : BytesV s2 bv' (bs.take n) := by
          refine BytesV.kept' (t := 0) (w := undefV) (zs := bs.take n) (ws := []) hcut hk2 fun id o l c e => ?_
          obtain ⟨a, l', c', rfl, ha⟩ := hcv
          cases e
          exact hVm _ (ha _ _ rfl)
        have hIV : InV V bv' := fun id o l c e => by
          obtain ⟨a, l', c', rfl, ha⟩ := hcv
          cases e
          exact ha _ _ rfl
        refine ⟨hk1.trans hkall, i + 1, max (k - w.2) 0, putF F w.1 (bs.take n), _, _, by omega, rfl, rfl, by omega, by omega, by rw [hs2]; simp only [Heap.get_put, if_true], MOK.mput (kind_int .i64) g3 ⟨w.1, rfl⟩ _,
          er_put (er_kept g4 hkall hVm) hBV2 hIV, fun q hq => ?_, ?_, fun q hq => ?_, ?_, ?_⟩
        · rcases putF_mem hq with hq | rfl
          · exact g5 q hq
          · exact g5 (w.1, bs) (lookF_mem hbs)
        · rw [putF_len, hbs]; exact g6
        · rcases putF_mem hq with hq | rfl
          · exact g7 q hq
          · simp only [List.length_take]; omega
        · rw [hn, hlost]; exact hstep
        · rw [hn, hlost]; exact g9
      rw [hsH] at hfin
      simp only at hfin
      simp -implicitDefEqProofs only [go_sem, reduceIte, Nat.reduceEqDiff, Nat.reduceAdd, Nat.reduceMul, Nat.reduceLT, Nat.reduceLeDiff, reduceCtorEq, Int.reduceEq, Int.reduceNeg, Nat.reduceSub, Int.reduceLT, Int.reduceLE, Int.reduceGT, Int.reduceGE, Int.reduceAdd, Int.reduceSub, Int.reduceToNat, Int.reduceBNe, Int.reduceBEq, Nat.mul_one, Nat.zero_mul, hlt, hix, hg1, hp1, hpx, hidx, hle, hrw, f1, f2, f3, f4, f5, f6, w1, w2, w3, w4, ev_max0, el, hcutE, eu]
      exact hfin
end

end Go.Proofs.Ytgnpafmhdmmmhaa
