/-
  A disk: Crash.
-/
import Derived.Test.YtehgdocbabaldaaGreatFD5
import Derived.Test.YtehgdocbabaldaaGreatA48
set_option maxRecDepth 100000
set_option linter.unusedVariables false
set_option linter.unusedSimpArgs false
namespace Go.Proofs.YtehgdocbabaldaaGreat
open Go Go.Abs Go.Abs.K

def sumW : List (Int × Int) → Int → Int
  | [], _ => 0
  | w :: L, g => (if w.1 = g then w.2 else 0) + sumW L g

def LooseOK (F : List (Int × List Int)) (L : List (Int × Int)) : Prop := (∀ w ∈ L, 0 ≤ w.2 ∧ (lookF F w.1).isSome = true) ∧ ∀ g bs, lookF F g = some bs → sumW L g ≤ bs.length

theorem sumW_nonneg {L : List (Int × Int)} (h : ∀ w ∈ L, 0 ≤ w.2) (g : Int) : 0 ≤ sumW L g := by
  induction L with
  | nil => simp [sumW]
  | cons w L ih =>
    simp only [sumW]
    have h1 := h w (List.mem_cons_self ..)
    have h2 := ih fun w hw => h w (List.mem_cons_of_mem _ hw)
    split <;> omega

theorem LooseOK.step {F : List (Int × List Int)} {w : Int × Int} {L : List (Int × Int)} {k : Int} (h : LooseOK F (w :: L)) (hk : 0 ≤ k) :
    LooseOK (putF F w.1 (((lookF F w.1).getD []).take (((lookF F w.1).getD []).length - (max (w.2 - k) 0).toNat))) L := by
  obtain ⟨h1, h2⟩ := h
  have hw := h1 w (List.mem_cons_self ..)
  obtain ⟨bs, hbs⟩ := Option.isSome_iff_exists.1 hw.2
  refine ⟨fun v hv => ⟨(h1 v (List.mem_cons_of_mem _ hv)).1, ?_⟩, fun g b hb => ?_⟩
  · rw [lookF_put]
    split
    · rfl
    · exact (h1 v (List.mem_cons_of_mem _ hv)).2
  · rw [lookF_put] at hb
    split at hb
    · rename_i hg
      subst hg
      cases hb
      have := h2 w.1 bs hbs
      simp only [sumW, if_true] at this
      have hn := sumW_nonneg (fun v hv => (h1 v (List.mem_cons_of_mem _ hv)).1) w.1
      rw [hbs, Option.getD_some, List.length_take]
      omega
    · rename_i hg
      have := h2 g b hb
      simp only [sumW] at this
      rw [if_neg (fun e => hg e.symm)] at this
      omega

section
variable {tbl : FuncId → Option AFun} {ov : CallSem} {s : St} (T : DTbl tbl)
include T

end

end Go.Proofs.YtehgdocbabaldaaGreat


/-
  A disk: Drop (with slices.IndexFunc and slices.DeleteFunc).
-/
set_option maxRecDepth 100000
set_option linter.unusedVariables false
set_option linter.unusedSimpArgs false
namespace Go.Proofs.YtehgdocbabaldaaGreat
open Go Go.Abs Go.Abs.K

def idxW (g : Int) : List (Int × Int) → Option Nat
  | [] => none
  | w :: L => if w.1 = g then some 0 else (idxW g L).map (· + 1)
def posV : Option Nat → Int
  | some i => i
  | none => -1

theorem idxW_take {g : Int} : ∀ {L : List (Int × Int)} {i : Nat} {w : Int × Int}, L[i]? = some w → idxW g (L.take i) = none → w.1 ≠ g → idxW g (L.take (i + 1)) = none := by
  intro L
  induction L with
  | nil => intro i w h; simp at h
  | cons r L ih =>
    intro i w hw h hne
    cases i with
    | zero =>
      simp only [List.getElem?_cons_zero, Option.some.injEq] at hw
      subst hw
      simp [idxW, hne]
    | succ i =>
      simp only [List.take_succ_cons, idxW, List.getElem?_cons_succ] at h hw ⊢
      by_cases hr : r.1 = g
      · rw [if_pos hr] at h; cases h
      · rw [if_neg hr] at h ⊢
        simp only [Option.map_eq_none_iff] at h ⊢
        exact ih hw h hne
theorem idxW_hit {g : Int} : ∀ {L : List (Int × Int)} {i : Nat} {w : Int × Int}, L[i]? = some w → idxW g (L.take i) = none → w.1 = g → idxW g L = some i := by
  intro L
  induction L with
  | nil => intro i w h; simp at h
  | cons r L ih =>
    intro i w hw h he
    cases i with
    | zero =>
      simp only [List.getElem?_cons_zero, Option.some.injEq] at hw
      subst hw
      simp [idxW, he]
    | succ i =>
      simp only [List.take_succ_cons, idxW, List.getElem?_cons_succ] at h hw ⊢
      by_cases hr : r.1 = g
      · rw [if_pos hr] at h; cases h
      · rw [if_neg hr] at h ⊢
        simp only [Option.map_eq_none_iff] at h
        rw [ih hw h he]; rfl
theorem idxW_none {g : Int} {L : List (Int × Int)} (h : idxW g L = none) : L.filter (fun w => !(w.1 == g)) = L := by
  induction L with
  | nil => rfl
  | cons w L ih =>
    simp only [idxW] at h
    split at h
    · cases h
    · rename_i hw
      simp only [Option.map_eq_none_iff] at h
      rw [List.filter_cons, ih h]
      have : (w.1 == g) = false := by simpa using hw
      rw [this]; rfl
theorem idxW_some {g : Int} : ∀ {L : List (Int × Int)} {i : Nat}, idxW g L = some i → i < L.length ∧ (L.take (i + 1)).filter (fun w => !(w.1 == g)) = L.take i := by
  intro L
  induction L with
  | nil => intro i h; cases h
  | cons w L ih =>
    intro i h
    simp only [idxW] at h
    split at h
    · rename_i hw
      cases h
      refine ⟨by simp, ?_⟩
      simp [hw]
    · rename_i hw
      rw [Option.map_eq_some_iff] at h
      obtain ⟨j, hj, rfl⟩ := h
      obtain ⟨h1, h2⟩ := ih hj
      refine ⟨by simpa using h1, ?_⟩
      have : (w.1 == g) = false := by simpa using hw
      rw [List.take_succ_cons, List.filter_cons, this, h2]; rfl

section
variable {tbl : FuncId → Option AFun} {ov : CallSem} {s : St} (T : DTbl tbl)
include T

theorem p107 {w : Int × Int} {b : Nat} {g : Int} (hb : s.heap.get b = some (.cells [i64 g] 3 0 false)) (hl : b < s.next) : Pure tbl ov 107 [.agg (rowW w).toArray, ptr b] s (.bool (w.1 == g)) := by
  refine WCall.pure T.t107 rfl (by decide) rfl ?_
  have hne : (b = s.next) = False := by simp; omega
  have c0 : (rowW w)[0]? = some (i64 w.1) := rfl
  simp -implicitDefEqProofs only [fun107, code107, params, go_sem, hb, hne, c0]
  exact ⟨Nat.le_succ _, kept_put⟩

theorem p115 {lv : Value} {L : List (Int × Int)} {b : Nat} {g : Int} (hr : RowV 2 s lv (L.map rowW)) (hb : s.heap.get b = some (.cells [i64 g] 3 0 false)) (hl : b < s.next) (hn : L.length < 2 ^ 20) :
    Pure tbl ov 115 [lv, .func (.func 107) #[] #[ptr b]] s (i64 (posV (idxW g L))) := by
  refine WCall.pure T.t115 rfl (by decide) rfl ?_
  obtain ⟨a, cap, hlv⟩ := hr.len
  rw [List.length_map] at hlv
  subst hlv
  simp -implicitDefEqProofs only [fun115, code115, params, go_sem]
  obtain ⟨I, hI⟩ : ∃ I : Nat → List Value → St → Prop, I = fun m vs s' => s'.heap = s.heap ∧ s.next ≤ s'.next ∧ ∃ i, i ≤ L.length ∧ m = L.length - i ∧ vs = [.slice a L.length cap, .func (.func 107) #[] #[ptr b], i64 (L.length : Nat), i64 (i : Nat)] ∧ idxW g (L.take i) = none := ⟨_, rfl⟩
  refine wc_loopV I L.length ?_ ?_
  · simp -implicitDefEqProofs only [go_sem]
    rw [hI]
    exact ⟨rfl, Nat.le_refl _, 0, by omega, by omega, rfl, rfl⟩
  · intro m vs s1 hi _
    rw [hI] at hi
    obtain ⟨hh, hnx, i, hil, rfl, rfl, hx⟩ := hi
    obtain ⟨hp, nx⟩ := s1
    simp only at hh hnx
    subst hh
    cases hlt : decide ((i : Int) < (L.length : Int))
    · have hie : i = L.length := by have := of_decide_eq_false hlt; omega
      subst hie
      rw [List.take_length] at hx
      simp -implicitDefEqProofs only [go_sem, hlt, hx, posV]
      exact ⟨hnx, fun id _ => rfl⟩
    · have hiN : i < L.length := by have := of_decide_eq_true hlt; omega
      obtain ⟨id, o, cap', c, T', ro, hv, hid, hg, hle, hrw, _⟩ := row_read hr (i := i) (by simpa using hiN)
      rw [List.length_map] at hv
      cases hv
      obtain ⟨w, hw⟩ : ∃ w, L[i]? = some w := ⟨_, List.getElem?_eq_getElem hiN⟩
      have hgw : (L.map rowW).getD i [] = rowW w := by rw [List.getD_eq_getElem?_getD, List.getElem?_map, hw]; rfl
      rw [hgw] at hrw
      have hix : 0 ≤ (i : Int) ∧ (i : Int) < (L.length : Int) := by omega
      have h54 := p107 (ov := ov) (s := ⟨s.heap, nx⟩) T (w := w) hb (Nat.lt_of_lt_of_le hl hnx)
      have e59 := fun K => WCall.pureEq h54 K
      have n54 := nxt_le (fun k => call tbl ov k) 107 [.agg (rowW w).toArray, ptr b] ⟨s.heap, nx⟩
      generalize nxt (fun k => call tbl ov k) 107 [.agg (rowW w).toArray, ptr b] ⟨s.heap, nx⟩ = n2 at e59 n54
      simp only at n54
      have w4 : IntKind.i64.wrap ((i : Int) + 1) = ((i + 1 : Nat) : Int) := by rw [IntKind.wrap_i64]; omega
      cases hq : (w.1 == g)
      · rw [hq] at e59
        simp -implicitDefEqProofs only [go_sem, hlt, hix, hg, hle, hrw, callee_clo, e59, w4]
        rw [hI]
        exact ⟨L.length - (i + 1), by omega, rfl, by simp only; omega, i + 1, by omega, rfl, rfl, idxW_take hw hx (by simpa using hq)⟩
      · rw [hq] at e59
        have := idxW_hit hw hx (by simpa using hq)
        simp -implicitDefEqProofs only [go_sem, hlt, hix, hg, hle, hrw, callee_clo, e59, this, posV]
        exact ⟨by omega, fun id _ => rfl⟩

theorem p106 {lv : Value} {L : List (Int × Int)} {S : List Nat} {b : Nat} {g : Int} (hR : RowsP 143 2 s lv (L.map rowW) S) (hb : s.heap.get b = some (.cells [i64 g] 3 0 false)) (hl : b < s.next) (hbS : b ∉ S) (hn : L.length < 2 ^ 20) :
    WCall (fun k => call tbl ov k) 106 [lv, .func (.func 107) #[] #[ptr b]] s fun u s' => RowsP 143 2 s' u ((L.filter fun w => !(w.1 == g)).map rowW) S ∧ Kept S s s' := by
  refine WCall.of T.t106 rfl ?_
  have h63 := p115 (ov := ov) T hR.toV hb hl hn
  have e66 := fun K => WCall.pureEq h63 K
  have n63 := nxt_le (fun k => call tbl ov k) 115 [lv, .func (.func 107) #[] #[ptr b]] s
  generalize nxt (fun k => call tbl ov k) 115 [lv, .func (.func 107) #[] #[ptr b]] s = n1 at e66 n63
  have hk0 : ∀ T, Kept T s ⟨s.heap, n1⟩ := fun T => ⟨n63, fun _ _ _ => rfl⟩
  obtain ⟨a, cap, hlv⟩ := hR.toV.len
  rw [List.length_map] at hlv
  subst hlv
  cases hix : idxW g L with
  | none =>
    rw [hix] at e66
    have d0 : ((-1 : Int) == -1) = true := rfl
    simp -implicitDefEqProofs only [fun106, code106, params, go_sem, e66, posV, d0]
    rw [idxW_none hix]
    exact ⟨hR.kept (hk0 []) (by simp), hk0 S⟩
  | some i0 =>
    rw [hix] at e66
    obtain ⟨hi0, hf0⟩ := idxW_some hix
    have d0 : (((i0 : Nat) : Int) == -1) = false := by simp
    have w0 : IntKind.i64.wrap ((i0 : Int) + 1) = ((i0 + 1 : Nat) : Int) := by rw [IntKind.wrap_i64]; omega
    simp -implicitDefEqProofs only [fun106, code106, params, go_sem, e66, posV, d0, w0]
    obtain ⟨I, hI⟩ : ∃ I : Nat → List Value → St → Prop, I = fun m vs s' => Kept S s s' ∧ ∃ (i j : Nat) (W : List (Int × Int)), i < j ∧ j ≤ L.length ∧ m = L.length - j ∧ vs = [.slice a L.length cap, .func (.func 107) #[] #[ptr b], i64 (i : Nat), i64 (j : Nat)] ∧
      RowsP 143 2 s' (.slice a L.length cap) (W.map rowW) S ∧ W.length = L.length ∧ W.take i = (L.take j).filter (fun w => !(w.1 == g)) ∧ W.drop j = L.drop j ∧ i = ((L.take j).filter fun w => !(w.1 == g)).length := ⟨_, rfl⟩
    refine wc_loopV I (L.length - (i0 + 1)) ?_ ?_
    · simp -implicitDefEqProofs only [go_sem]
      rw [hI]
      exact ⟨hk0 S, i0, i0 + 1, L, by omega, by omega, rfl, rfl, hR.kept (hk0 []) (by simp), rfl, hf0.symm, rfl, by rw [hf0, List.length_take]; omega⟩
    · intro m vs s1 hi _
      rw [hI] at hi
      obtain ⟨hk1, i, j, W, hij, hjL, rfl, rfl, hR1, hW, hWt, hWd, hi⟩ := hi
      have hnn := hk1.1
      have hb1 : s1.heap.get b = some (.cells [i64 g] 3 0 false) := by rw [hk1.2 b hl hbS]; exact hb
      cases hlt : decide ((j : Int) < (L.length : Int))
      · -- the end
        have hje : j = L.length := by have := of_decide_eq_false hlt; omega
        subst hje
        rw [List.take_length] at hWt hi
        have hwl : (W.map rowW).length = L.length := by rw [List.length_map, hW]
        obtain ⟨id, o, c, rfl, _, hSe, hg, e1, e2, e3⟩ := hR1.cut (i := i) (by omega) (zl := [i64 0, i64 0]) rfl rfl
        have hgp : (s1.heap.put id (some (.cells (storeL c (o + i * 2) (List.replicate (L.length - i) [i64 0, i64 0]).flatten) 143 2 false))).get id = some (.cells (storeL c (o + i * 2) (List.replicate (L.length - i) [i64 0, i64 0]).flatten) 143 2 false) := by rw [Heap.get_put, if_pos rfl]
        obtain ⟨e4, e5⟩ := e3 ⟨s1.heap.put id (some (.cells (storeL c (o + i * 2) (List.replicate (L.length - i) [i64 0, i64 0]).flatten) 143 2 false)), s1.next⟩ hgp
        simp only at e4 e5
        simp -implicitDefEqProofs only [go_sem, hlt, e1, e2, e4]
        have e5 := e5 (Nat.le_refl _)
        rw [← List.map_take, hWt] at e5
        refine ⟨e5, Nat.le_trans hnn (Nat.le_refl _), fun j hj hn => ?_⟩
        have hne : j ≠ id := fun e => hn (by rw [hSe, e]; exact List.mem_singleton.2 rfl)
        simp only [Heap.get_put, hne, if_false]
        exact hk1.2 j hj hn
      · have hjN : j < L.length := by have := of_decide_eq_true hlt; omega
        obtain ⟨w, hw⟩ : ∃ w, L[j]? = some w := ⟨_, List.getElem?_eq_getElem hjN⟩
        have hwW : W[j]? = some w := by
          have := congrArg (fun l => l[0]?) hWd
          simp only [List.getElem?_drop, Nat.add_zero] at this
          rw [this, hw]
        obtain ⟨id, o, cap', c, T', ro, hv, hid, hg, hle, hrw, _⟩ := row_read hR1.toV (i := j) (by rw [List.length_map, hW]; exact hjN)
        rw [List.length_map, hW] at hv
        simp only [Value.slice.injEq, true_and] at hv
        obtain ⟨rfl, rfl⟩ := hv
        have hgw : (W.map rowW).getD j [] = rowW w := by rw [List.getD_eq_getElem?_getD, List.getElem?_map, hwW]; rfl
        rw [hgw] at hrw
        have hixj : 0 ≤ (j : Int) ∧ (j : Int) < (L.length : Int) := by omega
        have hixi : 0 ≤ (i : Int) ∧ (i : Int) < (L.length : Int) := by omega
        have w4 : IntKind.i64.wrap ((j : Int) + 1) = ((j + 1 : Nat) : Int) := by rw [IntKind.wrap_i64]; omega
        have w5 : IntKind.i64.wrap ((i : Int) + 1) = ((i + 1 : Nat) : Int) := by rw [IntKind.wrap_i64]; omega
        obtain ⟨id', o', c', hv', hSe, hg', hle', hset⟩ := hR1.setRow (i := i) (by rw [List.length_map]; omega) (row := rowW w) rfl rfl
        cases hv'
        rw [hg] at hg'
        cases hg'
        have hbx : b ≠ s1.next := by omega
        have hidx : (id = s1.next) = False := by simp; omega
        obtain ⟨sH, hsH⟩ : ∃ sH : St, sH = ⟨(s1.heap.put s1.next (some (.cells [i64 0, i64 0] 143 0 false))).put s1.next (some (.cells (rowW w) 143 0 false)), s1.next + 1⟩ := ⟨_, rfl⟩
        have hkH : ∀ T, Kept T s1 sH := fun T => by
          rw [hsH]
          exact ⟨Nat.le_succ _, fun j hj _ => by simp only [Heap.get_put]; rw [if_neg (by omega), if_neg (by omega)]⟩
        have h54 := p107 (ov := ov) (s := sH) T (w := w) (by rw [(hkH []).2 b (by omega) (by simp)]; exact hb1) (by rw [hsH]; simp only; omega)
        have e59 := fun K => WCall.pureEq h54 K
        have n54 := nxt_le (fun k => call tbl ov k) 107 [.agg (rowW w).toArray, ptr b] sH
        generalize nxt (fun k => call tbl ov k) 107 [.agg (rowW w).toArray, ptr b] sH = n2 at e59 n54
        have hn2 : s1.next + 1 ≤ n2 := by rw [hsH] at n54; exact n54
        have hkn : ∀ T, Kept T s1 ⟨sH.heap, n2⟩ := fun T => ⟨by simp only; omega, fun j hj hn => (hkH T).2 j hj hn⟩
        have f1 : (rowW w).length = 2 := rfl
        have f2 : (rowW w).take 2 = rowW w := rfl
        have f3 : (rowW w).all isCell = true := rfl
        have f4 : storeL [i64 0, i64 0] 0 (rowW w) = rowW w := rfl
        have hidl : id < s1.next := hid
        have htake : ∀ (b : Bool), (!(w.1 == g)) = b → (L.take (j + 1)).filter (fun w => !(w.1 == g)) = (L.take j).filter (fun w => !(w.1 == g)) ++ (if b = true then [w] else []) := fun b hb => by
          rw [List.take_add_one, hw, List.filter_append]
          simp only [Option.toList_some, List.filter_cons, List.filter_nil, hb]
        have hdrop : W.drop (j + 1) = L.drop (j + 1) := by
          have := congrArg (List.drop 1) hWd
          rw [List.drop_drop, List.drop_drop] at this
          exact this
        cases hq : (w.1 == g)
        · -- it stays
          rw [hq] at e59
          have hfin : ∃ m', m' < L.length - j ∧ I m' [.slice (some ⟨id, o, none⟩) L.length cap, .func (.func 107) #[] #[ptr b], i64 ((i + 1 : Nat) : Int), i64 ((j + 1 : Nat) : Int)] ⟨sH.heap.put id (some (.cells (storeL c (o + i * 2) (rowW w)) 143 2 false)), n2⟩ := by
            refine ⟨L.length - (j + 1), by omega, ?_⟩
            rw [hI]
            have hft := htake true (by rw [hq]; rfl)
            simp only [if_true] at hft
            have hWi : i < W.length := by omega
            refine ⟨⟨by simp only; omega, fun k hk hn => ?_⟩, i + 1, j + 1, W.set i w, by omega, by omega, rfl, rfl, ?_, by rw [List.length_set, hW], ?_, ?_, ?_⟩
            · have hne : k ≠ id := fun e => hn (by rw [hSe, e]; exact List.mem_singleton.2 rfl)
              simp only [Heap.get_put, hne, if_false]
              rw [(hkn S).2 k (by omega) hn]
              exact hk1.2 k hk hn
            · rw [List.map_set]
              exact hset _ (by simp only; omega) (by simp only [Heap.get_put, if_true])
            · rw [hft, ← hWt, List.take_add_one, List.getElem?_set_self hWi, List.take_set_of_le (Nat.le_refl _)]
              rfl
            · rw [List.drop_set_of_lt (by omega)]; exact hdrop
            · rw [hft, List.length_append, ← hi]; rfl
          rw [hsH] at hfin e59
          simp -implicitDefEqProofs only [go_sem, hlt, hixj, hixi, hg, hle, hrw, hidx, f1, f2, f3, f4, List.drop_zero, callee_clo, e59, hle', w4, w5]
          exact hfin
        · rw [hq] at e59
          have hfin : ∃ m', m' < L.length - j ∧ I m' [.slice (some ⟨id, o, none⟩) L.length cap, .func (.func 107) #[] #[ptr b], i64 (i : Nat), i64 ((j + 1 : Nat) : Int)] ⟨sH.heap, n2⟩ := by
            refine ⟨L.length - (j + 1), by omega, ?_⟩
            rw [hI]
            have hft := htake false (by rw [hq]; rfl)
            simp only [Bool.false_eq_true, if_false, List.append_nil] at hft
            refine ⟨hk1.trans (hkn S), i, j + 1, W, by omega, by omega, rfl, rfl, hR1.kept (hkn []) (by simp), hW, by rw [hWt, hft], hdrop, by rw [hft]; exact hi⟩
          rw [hsH] at hfin e59
          simp -implicitDefEqProofs only [go_sem, hlt, hixj, hixi, hg, hle, hrw, hidx, f1, f2, f3, f4, List.drop_zero, callee_clo, e59, w4]
          exact hfin

def dropE (D : DM) (n : Int) : Int := if (lookF D.F n).isSome then (if wB D.first D.fails then 0 else 7) else 4
def dropD (D : DM) (n : Int) : DM := if (lookF D.F n).isSome then (if wB D.first D.fails then { wD D with F := delF D.F n, loose := D.loose.filter fun w => !(w.1 == n) } else wD D) else D

theorem p90 {p : Nat} {D : DM} {O V : List Nat} {n : Int} (h : DRep s p D O V) (hll : D.loose.length < 2 ^ 20) :
    WCall (fun k => call tbl ov k) 90 [ptr p, i64 n] s fun u s' => u = i64 (dropE D n) ∧ Kept O s s' ∧ DRep s' p (dropD D n) O V := by
  refine WCall.of T.t90 rfl ?_
  have h0 := h
  have hlt0 := h.lt
  obtain ⟨m, lv, S, es, clock, h1, rfl, h2, h3, h4, h5, h6, h7, h8, h9, h10, h11, h12⟩ := h
  obtain ⟨b, hbe⟩ : ∃ b, b = s.next := ⟨_, rfl⟩
  obtain ⟨s0, hs0⟩ : ∃ s0 : St, s0 = ⟨s.heap.put s.next (some (.cells [i64 n] 3 0 false)), s.next + 1⟩ := ⟨_, rfl⟩
  have hk0 : Kept [] s s0 := by rw [hs0]; exact kept_put_nil (Nat.le_refl _) (Nat.le_succ _)
  have hR0 := h0.kept hk0 (by simp) (by simp)
  have hb0 : s0.heap.get s.next = some (.cells [i64 n] 3 0 false) := by rw [hs0]; simp only [Heap.get_put, if_true]
  have hn0 : s0.next = s.next + 1 := by rw [hs0]
  obtain ⟨m', lv', S', es', clock', g1, gO, g2, g3, g4, g5, g6, g7, g8, g9, g10, g11, g12⟩ := hR0
  simp only [List.cons.injEq, true_and] at gO
  obtain ⟨rfl, rfl⟩ := gO
  have hpx : (p = s.next) = False := by simp; omega
  have g1h : s.heap.get p = some (.cells [i64 D.most, .map (some m), lv', i64 D.first, i64 D.fails] 75 0 false) := by rw [← hk0.2 p h9 (by simp)]; exact g1
  have el := ev_lookup (g := s0.heap.get) (nx := s0.next) (z := .slice none 0 0) (kind_int .i64) g3 g2 (k := i64 n) ⟨n, rfl⟩ true
  cases hl : lookF D.F n with
  | none =>
    rw [er_none g4 hl, hs0] at el
    simp only [Option.map_none, lookV, if_true] at el
    simp -implicitDefEqProofs only [fun90, code90, params, go_sem, g1h, hpx, el, Bool.not_false, dropE, dropD, hl, Option.isSome_none]
    rw [← hs0]
    exact ⟨hk0.sub (by simp), h0.kept hk0 (by simp) (by simp)⟩
  | some bs =>
    obtain ⟨v, hv, hB, _⟩ := er_some g4 hl
    rw [hv, hs0] at el
    simp only [Option.map_some, lookV, if_true] at el
    have h67 := p77 (ov := ov) T g1 g12.first g12.fails
    simp -implicitDefEqProofs only [fun90, code90, params, go_sem, g1h, hpx, el, Bool.not_true, dropE, dropD, hl, Option.isSome_some]
    rw [← hs0]
    refine WCall.mono h67 ?_
    rintro u s1 ⟨rfl, hn1, hp1, ho1⟩
    obtain ⟨k2, k4, k5, kR, kk⟩ := DRep.wrote g2 g3 g4 g5 g6 g7 g8 g9 g10 g11 g12 hn1 hp1 ho1 (wF_range g12.first) (wG_range (f := D.first) g12.fails)
    cases hb' : wB D.first D.fails
    · simp -implicitDefEqProofs only [go_sem, Bool.not_false]
      exact ⟨(hk0.sub (by simp)).trans (kk.sub (by simp)), kR⟩
    · have hb1 : s1.heap.get s.next = some (.cells [i64 n] 3 0 false) := by rw [ho1 s.next (by omega)]; exact hb0
      have ed := ev_delete (g := s1.heap.get) (nx := s1.next) (kind_int .i64) g3 k2 (k := i64 n) ⟨n, rfl⟩
      have hpm : (p = m) = False := by simpa using h6
      have hmx : s.next ≠ m := by omega
      obtain ⟨s2, hs2⟩ : ∃ s2 : St, s2 = ⟨s1.heap.put m (some (.map (mdel es' (i64 n)) clock')), s1.next⟩ := ⟨_, rfl⟩
      have hk2 : Kept [m] s1 s2 := by rw [hs2]; exact kept_put1 (Nat.le_refl _)
      have hR2 := k5.kept hk2 (fun x hx => by simp only [List.mem_singleton]; rintro rfl; exact g8 hx)
      have hSlt := k5.lt
      have h53 := p106 (ov := ov) (s := s2) T hR2 (b := s.next) (g := n) (by rw [hs2]; simp only [Heap.get_put, hmx, if_false]; exact hb1) (by rw [hs2]; simp only; omega) (fun hx => by
        have := (hlt0.1 s.next (by simp [hx])); omega) hll
      simp -implicitDefEqProofs only [go_sem, Bool.not_true, hp1, hb1, ed, hpm, wv_mkFunc]
      rw [← hs2]
      refine WCall.mono h53 ?_
      rintro u s3 ⟨hR3, hk3⟩
      obtain ⟨ua, uc, hu⟩ := hR3.toV.len
      subst hu
      have hp3 : s3.heap.get p = some (.cells [i64 D.most, .map (some m), lv', i64 (wF D.first), i64 (wG D.first D.fails)] 75 0 false) := by
        rw [hk3.2 p (by rw [hs2]; simp only; omega) h7, hk2.2 p (by omega) (by simpa using h6)]; exact hp1
      simp -implicitDefEqProofs only [go_sem, hp3]
      obtain ⟨s7, hs8⟩ : ∃ s7 : St, s7 = ⟨s3.heap.put p (some (.cells [i64 D.most, .map (some m), .slice ua ((D.loose.filter fun w => !(w.1 == n)).map rowW).length uc, i64 (wF D.first), i64 (wG D.first D.fails)] 75 0 false)), s3.next⟩ := ⟨_, rfl⟩
      rw [← hs8]
      have hk8 : Kept [p] s3 s7 := by rw [hs8]; exact kept_put1 (Nat.le_refl _)
      have hn2 : s2.next = s1.next := by rw [hs2]
      have hle3 := hk3.1
      have hle8 := hk8.1
      have hk18 : Kept (p :: m :: S) s1 s7 := ⟨by omega, fun j hj hn => by
        simp only [List.mem_cons, not_or] at hn
        rw [hk8.2 j (by omega) (by simpa using hn.1), hk3.2 j (by omega) hn.2.2, hk2.2 j hj (by simpa using hn.2.1)]⟩
      have hkall : Kept (p :: m :: S) s s7 := ((hk0.sub (by simp)).trans (kk.sub (by simp))).trans hk18
      have hle := hkall.1
      refine ⟨hkall, m, _, S, mdel es' (i64 n), clock', by rw [hs8]; simp only [Heap.get_put, if_true, wD], rfl, ?_, MOK.sub g3 (mdel_sub _ _), ?_, hR3.kept hk8 (fun x hx => by simp only [List.mem_singleton]; rintro rfl; exact h7 hx), h6, h7, h8, by omega, by omega, fun x hx => ⟨(h11 x hx).1, by have := (h11 x hx).2; omega⟩, ?_⟩
      · rw [hk8.2 m (by omega) (by simpa using Ne.symm h6), hk3.2 m (by omega) h8, hs2]; simp only [Heap.get_put, if_true]
      · exact er_kept (er_del k4 n) hk18 (fun x hx => (h11 x hx).1)
      · have hsub := delF_sub D.F n
        refine ⟨wF_range h12.first, wG_range h12.fails, h12.most, fun q hq => h12.keys q (hsub.subset hq), ?_, fun q hq => h12.len q (hsub.subset hq)⟩
        have := hsub.length_le
        have := h12.fit
        simp only [wD]; omega
end

end Go.Proofs.YtehgdocbabaldaaGreat
