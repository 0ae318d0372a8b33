/-
  Rows of numbers: IndexFunc, DeleteFunc, Delete.
-/
import Derived.Test.YtehgdocbabaldaaGreatFZ2
set_option maxRecDepth 100000
set_option linter.unusedVariables false
set_option linter.unusedSimpArgs false
namespace Go.Proofs.YtehgdocbabaldaaGreat
open Go Go.Abs Go.Abs.K

theorem idxZ_filter {g : Int} {L : List Int} (h : idxZ g L = none) : L.filter (fun w => !(w == g)) = L := by
  rw [List.filter_eq_self]
  intro x hx
  have : g ∉ L := idxZ_none.1 h
  have : x ≠ g := fun e => this (e ▸ hx)
  simpa using this
theorem idxZ_some {g : Int} : ∀ {L : List Int} {i : Nat}, idxZ g L = some i → i < L.length ∧ (L.take (i + 1)).filter (fun w => !(w == g)) = L.take i := by
  intro L
  induction L with
  | nil => intro i h; cases h
  | cons w L ih =>
    intro i h
    simp only [idxZ] at h
    split at h
    · rename_i hw
      cases h
      refine ⟨by simp, ?_⟩
      simp [hw]
    · rename_i hw
      rw [Option.map_eq_some_iff] at h
      obtain ⟨j, hj, rfl⟩ := h
      obtain ⟨h1, h2⟩ := ih hj
      refine ⟨by simpa using h1, ?_⟩
      have : (w == g) = false := by simpa using hw
      rw [List.take_succ_cons, List.filter_cons, this, h2]; rfl

structure FTbl (tbl : FuncId → Option AFun) : Prop where
  t8 : tbl 8 = some fun8
  t11 : tbl 11 = some fun11
  t12 : tbl 12 = some fun12
  t14 : tbl 14 = some fun14
  t15 : tbl 15 = some fun15
  t16 : tbl 16 = some fun16
  t17 : tbl 17 = some fun17
  t20 : tbl 20 = some fun20
  t22 : tbl 22 = some fun22
  t23 : tbl 23 = some fun23
  t29 : tbl 29 = some fun29
  t31 : tbl 31 = some fun31
  t32 : tbl 32 = some fun32
  t34 : tbl 34 = some fun34
  t35 : tbl 35 = some fun35
  t38 : tbl 38 = some fun38
  t40 : tbl 40 = some fun40
  t53 : tbl 53 = some fun53
  t54 : tbl 54 = some fun54
  t57 : tbl 57 = some fun57

section
variable {tbl : FuncId → Option AFun} {ov : CallSem} {s : St} (T : FTbl tbl)
include T

theorem r35 {w : Int} {b : Nat} {g : Int} (hb : s.heap.get b = some (.cells [i64 g] 3 0 false)) (hl : b < s.next) : Pure tbl ov 35 [i64 w, ptr b] s (.bool (w == g)) := by
  refine WCall.pure T.t35 rfl (by decide) rfl ?_
  simp -implicitDefEqProofs only [fun35, code35, params, go_sem, hb]
  exact fun _ _ => rfl

theorem r57 {lv : Value} {L : List Int} {b : Nat} {g : Int} (hr : RowV 1 s lv (intsR L)) (hb : s.heap.get b = some (.cells [i64 g] 3 0 false)) (hl : b < s.next) (hn : L.length < 2 ^ 20) :
    Pure tbl ov 57 [lv, .func (.func 35) #[] #[ptr b]] s (i64 (posV (idxZ g L))) := by
  refine WCall.pure T.t57 rfl (by decide) rfl ?_
  obtain ⟨a, cap, hlv⟩ := hr.len
  rw [List.length_map] at hlv
  subst hlv
  simp -implicitDefEqProofs only [fun57, code57, params, go_sem]
  obtain ⟨I, hI⟩ : ∃ I : Nat → List Value → St → Prop, I = fun m vs s' => s'.heap = s.heap ∧ s.next ≤ s'.next ∧ ∃ i, i ≤ L.length ∧ m = L.length - i ∧ vs = [.slice a L.length cap, .func (.func 35) #[] #[ptr b], i64 (L.length : Nat), i64 (i : Nat)] ∧ idxZ g (L.take i) = none := ⟨_, rfl⟩
  refine wc_loopV I L.length ?_ ?_
  · simp -implicitDefEqProofs only [go_sem]
    rw [hI]
    exact ⟨rfl, Nat.le_refl _, 0, by omega, by omega, rfl, rfl⟩
  · intro m vs s1 hi _
    rw [hI] at hi
    obtain ⟨hh, hnx, i, hil, rfl, rfl, hx⟩ := hi
    obtain ⟨hp, nx⟩ := s1
    simp only at hh hnx
    subst hh
    cases hlt : decide ((i : Int) < (L.length : Int))
    · have hie : i = L.length := by have := of_decide_eq_false hlt; omega
      subst hie
      rw [List.take_length] at hx
      simp -implicitDefEqProofs only [go_sem, hlt, hx, posV]
      exact ⟨hnx, fun id _ => rfl⟩
    · have hiN : i < L.length := by have := of_decide_eq_true hlt; omega
      obtain ⟨w, hw⟩ : ∃ w, L[i]? = some w := ⟨_, List.getElem?_eq_getElem hiN⟩
      obtain ⟨id, o, cap', c, T', ro, hv, hid, hg, hc⟩ := row1_at hr hiN hw
      cases hv
      have hix : 0 ≤ (i : Int) ∧ (i : Int) < (L.length : Int) := by omega
      have h54 := r35 (ov := ov) (s := ⟨s.heap, nx⟩) T (w := w) hb (Nat.lt_of_lt_of_le hl hnx)
      have e59 := fun K => WCall.pureEq h54 K
      have n54 := nxt_le (fun k => call tbl ov k) 35 [i64 w, ptr b] ⟨s.heap, nx⟩
      generalize nxt (fun k => call tbl ov k) 35 [i64 w, ptr b] ⟨s.heap, nx⟩ = n2 at e59 n54
      simp only at n54
      have w4 : IntKind.i64.wrap ((i : Int) + 1) = ((i + 1 : Nat) : Int) := by rw [IntKind.wrap_i64]; omega
      cases hq : (w == g)
      · rw [hq] at e59
        simp -implicitDefEqProofs only [go_sem, hlt, hix, hg, hc, callee_clo, e59, w4]
        rw [hI]
        exact ⟨L.length - (i + 1), by omega, rfl, by simp only; omega, i + 1, by omega, rfl, rfl, idxZ_take hw hx (by simpa using hq)⟩
      · rw [hq] at e59
        have := idxZ_hit hw hx (by simpa using hq)
        simp -implicitDefEqProofs only [go_sem, hlt, hix, hg, hc, callee_clo, e59, this, posV]
        exact ⟨by omega, fun id _ => rfl⟩

theorem r34 {lv : Value} {L : List Int} {S : List Nat} {b : Nat} {g : Int} (hR : RowsP 3 1 s lv (intsR L) S) (hb : s.heap.get b = some (.cells [i64 g] 3 0 false)) (hl : b < s.next) (hbS : b ∉ S) (hn : L.length < 2 ^ 20) :
    WCall (fun k => call tbl ov k) 34 [lv, .func (.func 35) #[] #[ptr b]] s fun u s' => RowsP 3 1 s' u (intsR (L.filter fun w => !(w == g))) S ∧ Kept S s s' := by
  refine WCall.of T.t34 rfl ?_
  have h63 := r57 (ov := ov) T hR.toV hb hl hn
  have e66 := fun K => WCall.pureEq h63 K
  have n63 := nxt_le (fun k => call tbl ov k) 57 [lv, .func (.func 35) #[] #[ptr b]] s
  generalize nxt (fun k => call tbl ov k) 57 [lv, .func (.func 35) #[] #[ptr b]] s = n1 at e66 n63
  have hk0 : ∀ T, Kept T s ⟨s.heap, n1⟩ := fun T => ⟨n63, fun _ _ _ => rfl⟩
  obtain ⟨a, cap, hlv⟩ := hR.toV.len
  rw [List.length_map] at hlv
  subst hlv
  cases hix : idxZ g L with
  | none =>
    rw [hix] at e66
    have d0 : ((-1 : Int) == -1) = true := rfl
    simp -implicitDefEqProofs only [fun34, code34, params, go_sem, e66, posV, d0]
    rw [idxZ_filter hix]
    exact ⟨hR.kept (hk0 []) (by simp), hk0 S⟩
  | some i0 =>
    rw [hix] at e66
    obtain ⟨hi0, hf0⟩ := idxZ_some hix
    have d0 : (((i0 : Nat) : Int) == -1) = false := by simp
    have w0 : IntKind.i64.wrap ((i0 : Int) + 1) = ((i0 + 1 : Nat) : Int) := by rw [IntKind.wrap_i64]; omega
    simp -implicitDefEqProofs only [fun34, code34, params, go_sem, e66, posV, d0, w0]
    obtain ⟨I, hI⟩ : ∃ I : Nat → List Value → St → Prop, I = fun m vs s' => Kept S s s' ∧ ∃ (i j : Nat) (W : List Int), i < j ∧ j ≤ L.length ∧ m = L.length - j ∧ vs = [.slice a L.length cap, .func (.func 35) #[] #[ptr b], i64 (i : Nat), i64 (j : Nat)] ∧
      RowsP 3 1 s' (.slice a L.length cap) (intsR W) S ∧ W.length = L.length ∧ W.take i = (L.take j).filter (fun w => !(w == g)) ∧ W.drop j = L.drop j ∧ i = ((L.take j).filter fun w => !(w == g)).length := ⟨_, rfl⟩
    refine wc_loopV I (L.length - (i0 + 1)) ?_ ?_
    · simp -implicitDefEqProofs only [go_sem]
      rw [hI]
      exact ⟨hk0 S, i0, i0 + 1, L, by omega, by omega, rfl, rfl, hR.kept (hk0 []) (by simp), rfl, hf0.symm, rfl, by rw [hf0, List.length_take]; omega⟩
    · intro m vs s1 hi _
      rw [hI] at hi
      obtain ⟨hk1, i, j, W, hij, hjL, rfl, rfl, hR1, hW, hWt, hWd, hi⟩ := hi
      have hnn := hk1.1
      have hb1 : s1.heap.get b = some (.cells [i64 g] 3 0 false) := by rw [hk1.2 b hl hbS]; exact hb
      cases hlt : decide ((j : Int) < (L.length : Int))
      · have hje : j = L.length := by have := of_decide_eq_false hlt; omega
        subst hje
        rw [List.take_length] at hWt hi
        have hwl : (intsR W).length = L.length := by rw [List.length_map, hW]
        obtain ⟨id, o, c, rfl, _, hSe, hg, e1, e2, e3⟩ := hR1.cut (i := i) (by omega) (zl := [i64 0]) rfl rfl
        have hgp : (s1.heap.put id (some (.cells (storeL c (o + i * 1) (List.replicate (L.length - i) [i64 0]).flatten) 3 1 false))).get id = some (.cells (storeL c (o + i * 1) (List.replicate (L.length - i) [i64 0]).flatten) 3 1 false) := by rw [Heap.get_put, if_pos rfl]
        obtain ⟨e4, e5⟩ := e3 ⟨s1.heap.put id (some (.cells (storeL c (o + i * 1) (List.replicate (L.length - i) [i64 0]).flatten) 3 1 false)), s1.next⟩ hgp
        simp only at e4 e5
        simp only [Nat.mul_one] at e1 e2 e4 e5
        simp -implicitDefEqProofs only [go_sem, hlt, e1, e2, e4]
        have e5 := e5 (Nat.le_refl _)
        rw [← List.map_take, hWt] at e5
        refine ⟨e5, Nat.le_trans hnn (Nat.le_refl _), fun j hj hn => ?_⟩
        have hne : j ≠ id := fun e => hn (by rw [hSe, e]; exact List.mem_singleton.2 rfl)
        simp only [Heap.get_put, hne, if_false]
        exact hk1.2 j hj hn
      · have hjN : j < L.length := by have := of_decide_eq_true hlt; omega
        obtain ⟨w, hw⟩ : ∃ w, L[j]? = some w := ⟨_, List.getElem?_eq_getElem hjN⟩
        have hwW : W[j]? = some w := by
          have := congrArg (fun l => l[0]?) hWd
          simp only [List.getElem?_drop, Nat.add_zero] at this
          rw [this, hw]
        obtain ⟨id, o, cap', c, T', ro, hv, hid, hg, hc⟩ := row1_at hR1.toV (i := j) (by rw [hW]; exact hjN) hwW
        rw [hW] at hv
        simp only [Value.slice.injEq, true_and] at hv
        obtain ⟨rfl, rfl⟩ := hv
        have hixj : 0 ≤ (j : Int) ∧ (j : Int) < (L.length : Int) := by omega
        have hixi : 0 ≤ (i : Int) ∧ (i : Int) < (L.length : Int) := by omega
        have w4 : IntKind.i64.wrap ((j : Int) + 1) = ((j + 1 : Nat) : Int) := by rw [IntKind.wrap_i64]; omega
        have w5 : IntKind.i64.wrap ((i : Int) + 1) = ((i + 1 : Nat) : Int) := by rw [IntKind.wrap_i64]; omega
        obtain ⟨id', o', c', hv', hSe, hg', hle', hset⟩ := hR1.setRow (i := i) (by rw [List.length_map]; omega) (row := [i64 w]) rfl rfl
        cases hv'
        rw [hg] at hg'
        cases hg'
        have h54 := r35 (ov := ov) (s := s1) T (w := w) hb1 (by omega)
        have e59 := fun K => WCall.pureEq h54 K
        have n54 := nxt_le (fun k => call tbl ov k) 35 [i64 w, ptr b] s1
        generalize nxt (fun k => call tbl ov k) 35 [i64 w, ptr b] s1 = n2 at e59 n54
        have hkn : ∀ T, Kept T s1 ⟨s1.heap, n2⟩ := fun T => ⟨n54, fun j hj hn => rfl⟩
        have htake : ∀ (b : Bool), (!(w == g)) = b → (L.take (j + 1)).filter (fun w => !(w == g)) = (L.take j).filter (fun w => !(w == g)) ++ (if b = true then [w] else []) := fun b hb => by
          rw [List.take_add_one, hw, List.filter_append]
          simp only [Option.toList_some, List.filter_cons, List.filter_nil, hb]
        have hdrop : W.drop (j + 1) = L.drop (j + 1) := by
          have := congrArg (List.drop 1) hWd
          rw [List.drop_drop, List.drop_drop] at this
          exact this
        cases hq : (w == g)
        · rw [hq] at e59
          have hfin : ∃ m', m' < L.length - j ∧ I m' [.slice (some ⟨id, o, none⟩) L.length cap, .func (.func 35) #[] #[ptr b], i64 ((i + 1 : Nat) : Int), i64 ((j + 1 : Nat) : Int)] ⟨s1.heap.put id (some (.cells (storeL c (o + i * 1) [i64 w]) 3 1 false)), n2⟩ := by
            refine ⟨L.length - (j + 1), by omega, ?_⟩
            rw [hI]
            have hft := htake true (by rw [hq]; rfl)
            simp only [if_true] at hft
            have hWi : i < W.length := by omega
            refine ⟨⟨by simp only; omega, fun k hk hn => ?_⟩, i + 1, j + 1, W.set i w, by omega, by omega, rfl, rfl, ?_, by rw [List.length_set, hW], ?_, ?_, ?_⟩
            · have hne : k ≠ id := fun e => hn (by rw [hSe, e]; exact List.mem_singleton.2 rfl)
              simp only [Heap.get_put, hne, if_false]
              exact hk1.2 k hk hn
            · rw [show intsR (W.set i w) = (intsR W).set i [i64 w] from by simp only [intsR, List.map_set]]
              exact hset _ (by simp only; omega) (by simp only [Heap.get_put, if_true])
            · rw [hft, ← hWt, List.take_add_one, List.getElem?_set_self hWi, List.take_set_of_le (Nat.le_refl _)]
              rfl
            · rw [List.drop_set_of_lt (by omega)]; exact hdrop
            · rw [hft, List.length_append, ← hi]; rfl
          have hci : o + i + 1 ≤ c.length := by omega
          have hst : storeL c (o + i * 1) [i64 w] = c.set (o + i) (i64 w) := by rw [Nat.mul_one]; rfl
          rw [hst] at hfin
          simp -implicitDefEqProofs only [go_sem, hlt, hixj, hixi, hg, hc, hci, callee_clo, e59, w4, w5]
          exact hfin
        · rw [hq] at e59
          have hfin : ∃ m', m' < L.length - j ∧ I m' [.slice (some ⟨id, o, none⟩) L.length cap, .func (.func 35) #[] #[ptr b], i64 (i : Nat), i64 ((j + 1 : Nat) : Int)] ⟨s1.heap, n2⟩ := by
            refine ⟨L.length - (j + 1), by omega, ?_⟩
            rw [hI]
            have hft := htake false (by rw [hq]; rfl)
            simp only [Bool.false_eq_true, if_false, List.append_nil] at hft
            refine ⟨hk1.trans (hkn S), i, j + 1, W, by omega, by omega, rfl, rfl, hR1.kept (hkn []) (by simp), hW, by rw [hWt, hft], hdrop, by rw [hft]; exact hi⟩
          simp -implicitDefEqProofs only [go_sem, hlt, hixj, hixi, hg, hc, callee_clo, e59, w4]
          exact hfin

theorem r54 {lv : Value} {cs : List (List Value)} {S : List Nat} {k : Nat} (hR : RowsP 3 1 s lv cs S) (hk : k < cs.length) (hn : cs.length < 2 ^ 20) :
    WCall (fun k => call tbl ov k) 54 [lv, i64 (k : Nat), i64 ((k + 1 : Nat) : Int)] s fun u s' => RowsP 3 1 s' u (cs.take k ++ cs.drop (k + 1)) S ∧ Kept S s s' := by
  refine WCall.of T.t54 rfl ?_
  have hz := hR.toO.1
  have hz1 := hR.1
  obtain ⟨_, ⟨rfl, rfl, rfl⟩ | ⟨id, o, cap, c, rfl, rfl, h1, h2, h3, hcp, h4, h5⟩⟩ := hR
  · simp at hk
  obtain ⟨p, hp⟩ : ∃ p, cs.length = p + 1 := ⟨cs.length - 1, by omega⟩
  rw [hp] at h1 h5 hk hn ⊢
  have hm : (p + 1) * 1 ≤ cap * 1 := Nat.mul_le_mul_right _ h1
  have hln : ((c.drop (o + (k + 1) * 1)).take ((p - k) * 1)).length = (p - k) * 1 := by simp only [List.length_take, List.length_drop]; omega
  have hcell : ((c.drop (o + (k + 1) * 1)).take ((p - k) * 1)).all isCell = true := prim_cells (List.all_eq_true.2 fun v hv => List.all_eq_true.1 hcp v (List.mem_of_mem_drop (List.mem_of_mem_take hv)))
  have hcp2 : ((c.drop (o + (k + 1) * 1)).take ((p - k) * 1)).all primV = true := List.all_eq_true.2 fun v hv => List.all_eq_true.1 hcp v (List.mem_of_mem_drop (List.mem_of_mem_take hv))
  have hpk : p + 1 - (k + 1) = p - k := by omega
  have hkp : k + (p - k) = p := by omega
  have e1 : evP s.heap.get s.next (.slice (.slice 1) (.slice (some ⟨id, o, none⟩) (p + 1) cap) (some (.int .i64 (k : Nat))) (some (.int .i64 ((k + 1 : Nat) : Int))) (some (.int .i64 ((p + 1 : Nat) : Int)))) = _ := ev_slice3 h3 (.inr (.inl rfl)) (by omega) (by omega) h1
  have d1 : ((k : Int) == ((k + 1 : Nat) : Int)) = false := by simp; omega
  have e2 : evP s.heap.get s.next (.slice (.slice 1) (.slice (some ⟨id, o, none⟩) (p + 1) cap) none (some (.int .i64 (k : Nat))) none) = _ := ev_sliceH h3 (.inr (.inl rfl)) (by omega)
  have e3 : evP s.heap.get s.next (.slice (.slice 1) (.slice (some ⟨id, o, none⟩) (p + 1) cap) (some (.int .i64 ((k + 1 : Nat) : Int))) none none) = _ := ev_sliceL h3 (.inr (.inl rfl)) (by omega) h1
  rw [hpk] at e3
  have e4 : evP s.heap.get s.next (.append 3 1 8 (.slice (some ⟨id, o, none⟩) k cap) (.slice (some ⟨id, o + (k + 1) * 1, none⟩) (p - k) (cap - (k + 1)))) = _ :=
    ev_append_in (n := p - k) rfl (firstL_cells h3 (Nat.le_refl _) (by omega)) hcell hln h3 (by omega) (by omega)
  rw [hkp] at e4
  have hsl1 : (storeL c (o + k * 1) ((c.drop (o + (k + 1) * 1)).take ((p - k) * 1))).length = c.length := storeL_length ..
  have hsp1 := all_storeL (i := o + k * 1) hcp hcp2
  have hse1 := storeL_eq ((c.drop (o + (k + 1) * 1)).take ((p - k) * 1)) c (o + k * 1) (by omega)
  generalize hc1 : storeL c (o + k * 1) ((c.drop (o + (k + 1) * 1)).take ((p - k) * 1)) = c1 at e4 hsl1 hsp1 hse1
  have g1 : (s.heap.put id (some (.cells c1 3 1 false))).get id = some (.cells c1 3 1 false) := by simp only [Heap.get_put, if_true]
  have e5 : evP (s.heap.put id (some (.cells c1 3 1 false))).get s.next (.slice (.slice 1) (.slice (some ⟨id, o, none⟩) p cap) (some (.int .i64 (p : Nat))) (some (.int .i64 ((p + 1 : Nat) : Int))) none) = _ := ev_slice2 g1 (.inr (.inl rfl)) (by omega) h1
  rw [show p + 1 - p = 1 by omega] at e5
  have e6 : evP (s.heap.put id (some (.cells c1 3 1 false))).get s.next (.clear 1 [i64 0] (.slice (some ⟨id, o + p * 1, none⟩) 1 (cap - p))) = _ := ev_clear g1 (by decide) rfl (by omega)
  have hzf : (List.replicate 1 [i64 0]).flatten = [i64 0] := rfl
  rw [hzf] at e6
  have hsl2 : (storeL c1 (o + p * 1) [i64 0]).length = c1.length := storeL_length ..
  have hsp2 := all_storeL (vs := [i64 0]) (i := o + p * 1) hsp1 rfl
  have hse2 := storeL_eq [i64 0] c1 (o + p * 1) (by simp only [List.length_cons, List.length_nil]; omega)
  generalize hc2 : storeL c1 (o + p * 1) [i64 0] = c2 at e6 hsl2 hsp2 hse2
  have hlen : (cs.take k ++ cs.drop (k + 1)).length = p := by simp only [List.length_append, List.length_take, List.length_drop]; omega
  have hfin : (c2.drop o).take (p * 1) = (cs.take k ++ cs.drop (k + 1)).flatten := by
    rw [List.flatten_append, (row_flat hz k).1, (row_flat hz (k + 1)).2, ← h5, List.take_take, List.drop_take, List.drop_drop]
    have h6 : (c2.drop o).take (p * 1) = (c1.drop o).take (p * 1) := by
      rw [hse2, List.append_assoc, List.drop_append_of_le_length (by simp only [List.length_take]; omega), List.take_append_of_le_length (by simp only [List.length_take, List.length_drop]; omega), List.drop_take, List.take_take]
      congr 1; omega
    rw [h6, hse1, hln, List.append_assoc, List.drop_append_of_le_length (by simp only [List.length_take]; omega), List.drop_take]
    have h7 : ((c.drop o).take (o + k * 1 - o)).length = k * 1 := by simp only [List.length_take, List.length_drop]; omega
    rw [List.take_append, h7, List.take_append_of_le_length (by omega), List.take_of_length_le (i := p * 1) (by omega), List.take_of_length_le (l := (c.drop (o + (k + 1) * 1)).take ((p - k) * 1)) (by omega)]
    congr 2
    · omega
    · omega
  simp only [Nat.mul_one] at e1 e2 e3 e4 e5 e6
  simp -implicitDefEqProofs only [fun54, code54, params, go_sem, e1, d1, e2, e3, e4, e5, e6]
  refine ⟨⟨fun d hd => ?_, .inr ⟨id, o, cap, c2, by rw [hlen], rfl, by rw [hlen]; omega, h2, by simp only [Heap.get_put, if_true], hsp2, by omega, by rw [hlen]; exact hfin⟩⟩, Nat.le_refl _, fun j hj hn => ?_⟩
  · rcases List.mem_append.1 hd with hd | hd
    · exact hz1 d (List.mem_of_mem_take hd)
    · exact hz1 d (List.mem_of_mem_drop hd)
  · simp only [List.mem_cons, List.not_mem_nil, or_false] at hn
    simp only [Heap.get_put, hn, if_false]
end
end Go.Proofs.YtehgdocbabaldaaGreat
