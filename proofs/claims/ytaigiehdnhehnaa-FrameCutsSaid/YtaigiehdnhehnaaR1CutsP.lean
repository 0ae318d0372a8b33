/-
  Records cut off anywhere: those that are whole are read.
-/
import Derived.Test.YtaigiehdnhehnaaR1Snd
set_option maxRecDepth 100000
set_option linter.unusedVariables false
set_option linter.unusedSimpArgs false
namespace Go.Proofs.Ytaigiehdnhehnaa
open Go Go.Abs

abbrev flatR (L : List FRec) : List Int := (L.map recL).flatten

/-- How many records are whole in the first k bytes, if the first begins at a. -/
def wantL : Nat → List FRec → Nat → Nat
  | _, [], _ => 0
  | a, r :: L, k => if a + (recL r).length ≤ k then wantL (a + (recL r).length) L k + 1 else 0

theorem wantL_le : ∀ (L : List FRec) (a k : Nat), wantL a L k ≤ L.length := by
  intro L
  induction L with
  | nil => intro a k; exact Nat.le_refl _
  | cons r L ih =>
    intro a k
    simp only [wantL, List.length_cons]
    split
    · have := ih (a + (recL r).length) k; omega
    · omega

theorem flatR_cons (r : FRec) (L : List FRec) : flatR (r :: L) = recL r ++ flatR L := by simp [flatR]

theorem flatR_append (A B : List FRec) : flatR (A ++ B) = flatR A ++ flatR B := by simp only [flatR, List.map_append, List.flatten_append]

theorem want_iff : ∀ (L : List FRec) (a k w : Nat), w < L.length → (a + (flatR (L.take (w + 1))).length ≤ k ↔ w < wantL a L k) := by
  intro L
  induction L with
  | nil => intro a k w h; simp at h
  | cons r L ih =>
    intro a k w h
    simp only [List.length_cons] at h
    simp only [wantL, List.take_succ_cons, flatR_cons, List.length_append]
    cases w with
    | zero =>
      rw [List.take_zero]
      by_cases hc : a + (recL r).length ≤ k
      · rw [if_pos hc]; simp [flatR]; exact hc
      · rw [if_neg hc]; simp [flatR]; omega
    | succ w =>
      have := ih (a + (recL r).length) k w (by omega)
      by_cases hc : a + (recL r).length ≤ k
      · rw [if_pos hc]; omega
      · rw [if_neg hc]; omega

theorem take_lenAt {zs : List Int} {k i : Nat} (h : i + 2 ≤ k) : lenAt (zs.take k) i = lenAt zs i := by
  unfold lenAt
  rw [List.take_take]
  congr 4; omega

/-- A record that is cut off is none. -/
theorem step_cut {r : FRec} (hr : r.sound = true) (hw : r.Wide) (pre post : List Int) {k : Nat} (hk : k < pre.length + (recL r).length) : stepL ((pre ++ (recL r ++ post)).take k) pre.length = none := by
  have hl : lenAt (pre ++ (recL r ++ post)) pre.length = (bodyL r).length := by
    have hbs := body_small hr
    have e1 : pre ++ (recL r ++ post) = pre ++ (beL (bodyL r).length 2 ++ (beL (sumL (bodyL r)).toNat 4 ++ (bodyL r ++ post))) := by simp [recL]
    unfold lenAt
    rw [e1, cut_mid _ _ _ rfl (by rw [beL_length]), valL_beL, Nat.mod_eq_of_lt (by omega)]
  have hrl := recL_length r
  have hlen : ((pre ++ (recL r ++ post)).take k).length ≤ k := by rw [List.length_take]; omega
  by_cases h6 : pre.length + 6 ≤ ((pre ++ (recL r ++ post)).take k).length
  · unfold stepL
    rw [take_lenAt (by omega), hl, if_neg (by omega)]
  · exact step_end _ (by omega)

theorem scan_cut : ∀ (L : List FRec) (pre : List Int) (k f : Nat), (∀ r ∈ L, r.sound = true ∧ r.Wide) → pre.length ≤ k → k ≤ pre.length + (flatR L).length → k ≤ pre.length + f →
    scanL f ((pre ++ flatR L).take k) pre.length = (L.take (wantL pre.length L k), pre.length + (flatR (L.take (wantL pre.length L k))).length) := by
  intro L
  induction L with
  | nil =>
    intro pre k f _ h1 h2 h3
    have hst : stepL ((pre ++ flatR []).take k) pre.length = none := step_end _ (by rw [List.length_take]; simp [flatR] at h2 ⊢; omega)
    cases f with
    | zero => simp [scanL, wantL, flatR]
    | succ f => simp only [scanL, hst]; simp [wantL, flatR]
  | cons r L ih =>
    intro pre k f hL h1 h2 h3
    obtain ⟨hr, hw⟩ := hL r (List.mem_cons_self ..)
    have hrl := recL_length r
    rw [flatR_cons] at h2 ⊢
    simp only [List.length_append] at h2
    by_cases hc : pre.length + (recL r).length ≤ k
    · obtain ⟨f, rfl⟩ : ∃ g, f = g + 1 := ⟨f - 1, by omega⟩
      have e1 : (pre ++ (recL r ++ flatR L)).take k = pre ++ (recL r ++ (flatR L).take (k - pre.length - (recL r).length)) := by
        rw [List.take_append, List.take_of_length_le (l := pre) (by omega), List.take_append, List.take_of_length_le (l := recL r) (by omega)]
      have hst := step_rec hr hw pre ((flatR L).take (k - pre.length - (recL r).length))
      rw [← e1] at hst
      have e2 : pre ++ (recL r ++ flatR L) = (pre ++ recL r) ++ flatR L := by rw [List.append_assoc]
      have := ih (pre ++ recL r) k f (fun r hr => hL r (List.mem_cons_of_mem _ hr)) (by rw [List.length_append]; omega) (by rw [List.length_append]; omega) (by rw [List.length_append]; omega)
      rw [List.length_append] at this
      simp only [scanL, hst, wantL, if_pos hc]
      rw [e2, this]
      simp only [List.take_succ_cons, flatR_cons, List.length_append]
      congr 1
      omega
    · have hst := step_cut hr hw pre (flatR L) (k := k) (by omega)
      simp only [wantL, if_neg hc, List.take_zero]
      cases f with
      | zero => simp [scanL]
      | succ f => simp only [scanL, hst]; simp

/-- Where the records end. -/
def endsL (L : List FRec) : List Nat := (List.range L.length).map fun j => (flatR (L.take (j + 1))).length

theorem endsL_length (L : List FRec) : (endsL L).length = L.length := by simp [endsL]

theorem endsL_snoc (L : List FRec) (r : FRec) : endsL (L ++ [r]) = endsL L ++ [(flatR (L ++ [r])).length] := by
  unfold endsL
  rw [List.length_append, List.length_singleton, List.range_succ, List.map_append]
  congr 1
  · apply List.map_congr_left
    intro j hj
    have := List.mem_range.1 hj
    rw [List.take_append_of_le_length (by omega)]
  · simp only [List.map_cons, List.map_nil]
    rw [List.take_of_length_le (by simp)]

theorem endsL_get {L : List FRec} {j : Nat} (h : j < L.length) : (endsL L)[j]? = some (flatR (L.take (j + 1))).length := by
  unfold endsL
  rw [List.getElem?_map, List.getElem?_range h, Option.map_some]

theorem flatR_take_le (L : List FRec) (w : Nat) : (flatR (L.take w)).length ≤ (flatR L).length := by
  have : flatR L = flatR (L.take w) ++ flatR (L.drop w) := by rw [← flatR_append, List.take_append_drop]
  rw [this, List.length_append]; omega

theorem flatR_small : ∀ (L : List FRec), (∀ r ∈ L, r.sound = true) → (flatR L).length ≤ L.length * 1100 := by
  intro L
  induction L with
  | nil => intro _; simp [flatR]
  | cons r L ih =>
    intro h
    have hr := h r (List.mem_cons_self ..)
    have h2 := ih fun r hr => h r (List.mem_cons_of_mem _ hr)
    obtain ⟨h1, h3, _⟩ := r.of_sound hr
    have hrl := recL_length r
    have hbl := bodyL_length r
    rw [flatR_cons, List.length_append, List.length_cons, Nat.add_mul]
    omega

end Go.Proofs.Ytaigiehdnhehnaa
