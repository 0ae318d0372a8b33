/-
  DiskPlays, in plain terms: the disk and the reference's, side by side.
-/
import Derived.Test.YtgnpafmhdmmmhaaD15
set_option maxRecDepth 100000
set_option linter.unusedVariables false
set_option linter.unusedSimpArgs false
namespace Go.Proofs.Ytgnpafmhdmmmhaa
open Go Go.Abs

/-- What is found. -/
def lookS : List (Int × List (Int × Int)) → Int → Option (List (Int × Int))
  | [], _ => none
  | p :: L, n => if p.1 = n then some p.2 else lookS L n

theorem lookS_idx {n : Int} : ∀ (L : List (Int × List (Int × Int))), lookS L n = (idxS n L).bind fun i => (L[i]?).map fun p => p.2 := by
  intro L
  induction L with
  | nil => rfl
  | cons p L ih =>
    simp only [lookS, idxS]
    split
    · rfl
    · rw [ih]
      cases idxS n L <;> simp
theorem lookS_some_iff {n : Int} (L : List (Int × List (Int × Int))) : (idxS n L).isSome = (lookS L n).isSome := by
  rw [lookS_idx]
  cases hx : idxS n L with
  | none => rfl
  | some i =>
    obtain ⟨bs, hb⟩ := idxS_some hx
    simp [hb]
theorem rBytes_look (R : RM) (n : Int) : rBytes R n = (lookS R.segs n).getD [] := by
  rw [lookS_idx]
  unfold rBytes
  cases hx : idxS n R.segs with
  | none => rfl
  | some i =>
    obtain ⟨bs, hb⟩ := idxS_some hx
    simp [hb]
theorem lookS_mem {L : List (Int × List (Int × Int))} {n : Int} {bs : List (Int × Int)} (h : lookS L n = some bs) : (n, bs) ∈ L := by
  induction L with
  | nil => cases h
  | cons p L ih =>
    simp only [lookS] at h
    split at h
    · rename_i hk; cases h; subst hk; exact List.mem_cons_self ..
    · exact List.mem_cons_of_mem _ (ih h)
theorem lookS_none {L : List (Int × List (Int × Int))} {n : Int} : lookS L n = none ↔ ∀ p ∈ L, p.1 ≠ n := by
  induction L with
  | nil => simp [lookS]
  | cons p L ih =>
    simp only [lookS]
    split
    · rename_i h; simp [h]
    · rename_i h; rw [ih]; simp [h]
theorem lookS_of_mem {L : List (Int × List (Int × Int))} (hn : (L.map fun p => p.1).Nodup) {n : Int} {bs : List (Int × Int)} (h : (n, bs) ∈ L) : lookS L n = some bs := by
  induction L with
  | nil => cases h
  | cons p L ih =>
    simp only [List.map_cons, List.nodup_cons] at hn
    simp only [lookS]
    rcases List.mem_cons.1 h with rfl | h
    · rw [if_pos rfl]
    · rw [if_neg fun e => hn.1 (by rw [e]; exact List.mem_map_of_mem (f := fun p : Int × List (Int × Int) => p.1) h)]
      exact ih hn.2 h

/-! ### marks -/
/-- A write: the segment, how many bytes, and the first one's mark. -/
structure Wr where
  seg : Int
  size : Nat
  start : Int
def rangeM (start : Int) : Nat → List Int
  | 0 => []
  | n + 1 => start :: rangeM (start + 1) n
def Wr.marks (a : Wr) : List Int := rangeM a.start a.size
def marksOf (n : Int) (A : List Wr) : List Int := ((A.filter fun a => a.seg == n).map Wr.marks).flatten
def allMarks (A : List Wr) : List Int := (A.map Wr.marks).flatten
abbrev Wr.pair (a : Wr) : Int × Int := (a.seg, (a.size : Int))

theorem rangeM_len (x : Int) (n : Nat) : (rangeM x n).length = n := by
  induction n generalizing x with
  | zero => rfl
  | succ n ih => simp [rangeM, ih]
theorem rangeM_mem {x y : Int} {n : Nat} : y ∈ rangeM x n ↔ x ≤ y ∧ y < x + n := by
  induction n generalizing x with
  | zero => simp only [rangeM, List.not_mem_nil, false_iff]; omega
  | succ n ih => simp only [rangeM, List.mem_cons, ih]; omega
theorem markB_marks (bs : List Int) (nx : Int) : (markB bs nx).map (fun z => z.2) = rangeM nx bs.length := by
  induction bs generalizing nx with
  | nil => rfl
  | cons b r ih => simp [markB, rangeM, ih]
theorem markB_bytes (bs : List Int) (nx : Int) : (markB bs nx).map (fun z => z.1) = bs := by
  induction bs generalizing nx with
  | nil => rfl
  | cons b r ih => simp [markB, ih]
theorem marksOf_cons (n : Int) (a : Wr) (A : List Wr) : marksOf n (a :: A) = (if a.seg = n then a.marks else []) ++ marksOf n A := by
  unfold marksOf
  rw [List.filter_cons]
  by_cases h : a.seg = n
  · simp [h]
  · simp [h]
theorem marksOf_append (n : Int) (A B : List Wr) : marksOf n (A ++ B) = marksOf n A ++ marksOf n B := by
  simp [marksOf]
theorem marksOf_none {n : Int} {A : List Wr} (h : ∀ a ∈ A, a.seg ≠ n) : marksOf n A = [] := by
  induction A with
  | nil => rfl
  | cons a A ih => rw [marksOf_cons, if_neg (h a (List.mem_cons_self ..)), ih fun b hb => h b (List.mem_cons_of_mem _ hb)]; rfl

/-- The writes stand in order. -/
def WrOK (A : List Wr) (next : Int) : Prop := (∀ a ∈ A, 0 ≤ a.start ∧ a.start + a.size ≤ next) ∧ A.Pairwise fun a b => a.start + (a.size : Int) ≤ b.start

theorem flat_none (ks : List Int) : (ks.map fun n => marksOf n []).flatten = [] := by
  induction ks with
  | nil => rfl
  | cons k ks ih => rw [List.map_cons, List.flatten_cons, ih]; rfl

/-- All marks, by segments. -/
theorem marks_perm {ks : List Int} (hn : ks.Nodup) : ∀ {A : List Wr}, (∀ a ∈ A, a.seg ∈ ks) → ((ks.map fun n => marksOf n A).flatten).Perm (allMarks A) := by
  intro A
  induction A with
  | nil =>
    intro _
    have : (ks.map fun n => marksOf n []).flatten = [] := flat_none ks
    rw [this]; exact .refl _
  | cons a A ih =>
    intro h
    have h1 := ih fun b hb => h b (List.mem_cons_of_mem _ hb)
    have split : ∀ (ks : List Int), ks.Nodup → ((ks.map fun n => marksOf n (a :: A)).flatten).Perm ((if a.seg ∈ ks then a.marks else []) ++ (ks.map fun n => marksOf n A).flatten) := by
      intro ks
      induction ks with
      | nil => intro _; exact .refl _
      | cons k ks ihk =>
        intro hn
        have hn' := List.nodup_cons.1 hn
        have hk := ihk hn'.2
        simp only [marksOf_cons] at hk
        simp only [List.map_cons, List.flatten_cons, marksOf_cons]
        by_cases he : a.seg = k
        · subst he
          rw [if_pos rfl, if_pos (List.mem_cons_self ..)]
          rw [if_neg hn'.1, List.nil_append] at hk
          rw [List.append_assoc]
          exact (hk.append_left _).append_left _
        · rw [if_neg he, List.nil_append]
          have : (a.seg ∈ k :: ks) = (a.seg ∈ ks) := by simp [he]
          rw [show (if a.seg ∈ k :: ks then a.marks else []) = (if a.seg ∈ ks then a.marks else []) by simp [he]]
          refine (hk.append_left _).trans ?_
          rw [← List.append_assoc, ← List.append_assoc]
          exact List.perm_append_comm.append_right _
    refine (split ks hn).trans ?_
    rw [if_pos (h a (List.mem_cons_self ..))]
    unfold allMarks
    rw [List.map_cons, List.flatten_cons]
    exact h1.append_left _

def sizes : List Wr → Nat
  | [] => 0
  | a :: A => a.size + sizes A

theorem ahead_perm {a b : List Int} (h : a.Perm b) (x : Int) : aheadN a x = aheadN b x := (h.filter _).length_eq
theorem ahead_append (a b : List Int) (x : Int) : aheadN (a ++ b) x = aheadN a x + aheadN b x := by simp [aheadN]
theorem ahead_range (s : Int) (n : Nat) (x : Int) : aheadN (rangeM s n) x = min n (x - s).toNat := by
  induction n generalizing s with
  | zero => simp [rangeM, aheadN]
  | succ n ih =>
    have := ih (s + 1)
    unfold aheadN at this ⊢
    simp only [rangeM, List.filter_cons]
    split
    · rename_i h
      have := of_decide_eq_true h
      simp only [List.length_cons]; omega
    · rename_i h
      have : ¬ s < x := fun e => h (decide_eq_true e)
      omega
theorem ahead_below {A : List Wr} {x : Int} (h : ∀ a ∈ A, a.start + a.size ≤ x) : aheadN (allMarks A) x = sizes A := by
  induction A with
  | nil => rfl
  | cons a A ih =>
    unfold allMarks at ih ⊢
    rw [List.map_cons, List.flatten_cons, ahead_append, ih fun b hb => h b (List.mem_cons_of_mem _ hb)]
    have := h a (List.mem_cons_self ..)
    unfold Wr.marks
    rw [ahead_range]
    simp only [sizes]; omega
theorem ahead_above {A : List Wr} {x : Int} (h : ∀ a ∈ A, x ≤ a.start) : aheadN (allMarks A) x = 0 := by
  induction A with
  | nil => rfl
  | cons a A ih =>
    unfold allMarks at ih ⊢
    rw [List.map_cons, List.flatten_cons, ahead_append, ih fun b hb => h b (List.mem_cons_of_mem _ hb)]
    have := h a (List.mem_cons_self ..)
    unfold Wr.marks
    rw [ahead_range]; omega
theorem allMarks_append (A B : List Wr) : allMarks (A ++ B) = allMarks A ++ allMarks B := by simp [allMarks]

/-- How many of a segment's bytes a crash takes. -/
def lostW : List (Int × Int) → Int → Int → Int
  | [], _, _ => 0
  | w :: L, k, g => (if w.1 = g then max (w.2 - k) 0 else 0) + lostW L (max (k - w.2) 0) g
theorem lostW_nonneg (L : List (Int × Int)) (k g : Int) : 0 ≤ lostW L k g := by
  induction L generalizing k with
  | nil => simp [lostW]
  | cons w L ih =>
    simp only [lostW]
    have := ih (max (k - w.2) 0)
    split <;> omega
theorem lostW_le {L : List (Int × Int)} (h : ∀ w ∈ L, 0 ≤ w.2) {k : Int} (hk : 0 ≤ k) (g : Int) : lostW L k g ≤ sumW L g := by
  induction L generalizing k with
  | nil => simp [lostW, sumW]
  | cons w L ih =>
    simp only [lostW, sumW]
    have h1 := ih (fun v hv => h v (List.mem_cons_of_mem _ hv)) (k := max (k - w.2) 0) (by omega)
    have h2 := h w (List.mem_cons_self ..)
    split <;> omega
theorem lostW_zero {L : List (Int × Int)} (h : ∀ w ∈ L, 0 ≤ w.2) (g : Int) : lostW L 0 g = sumW L g := by
  induction L with
  | nil => rfl
  | cons w L ih =>
    simp only [lostW, sumW]
    have h2 := h w (List.mem_cons_self ..)
    rw [show max (0 - w.2) 0 = 0 by omega, ih fun v hv => h v (List.mem_cons_of_mem _ hv)]
    split <;> omega

theorem crash_look {g : Int} : ∀ {L : List (Int × Int)} {k : Int} {F : List (Int × List Int)}, 0 ≤ k → LooseOK F L → lookF (crashF L k F) g = (lookF F g).map fun b => b.take (b.length - (lostW L k g).toNat) := by
  intro L
  induction L with
  | nil =>
    intro k F _ _
    simp only [crashF, lostW]
    cases lookF F g <;> simp
  | cons w L ih =>
    intro k F hk hL
    obtain ⟨bs, hbs, hw0, hwl⟩ := hL.lost
    have hstep := hL.step hk
    simp only [crashF]
    rw [ih (by omega) hstep, lookF_put, hbs, Option.getD_some]
    have hnn := lostW_nonneg L (max (k - w.2) 0) g
    by_cases hg : g = w.1
    · subst hg
      rw [if_pos rfl, hbs]
      simp only [Option.map_some, lostW, if_true, Option.some.injEq]
      rw [List.take_take, List.length_take]
      congr 1; omega
    · rw [if_neg hg]
      simp only [lostW]
      rw [if_neg (fun e => hg e.symm), Int.zero_add]
theorem crash_keys : ∀ {L : List (Int × Int)} {k : Int} {F : List (Int × List Int)}, 0 ≤ k → LooseOK F L → (crashF L k F).map (fun p => p.1) = F.map fun p => p.1 := by
  intro L
  induction L with
  | nil => intro k F _ _; rfl
  | cons w L ih =>
    intro k F hk hL
    obtain ⟨bs, hbs, _, _⟩ := hL.lost
    simp only [crashF]
    rw [ih (by omega) (hL.step hk), putF_keys, hbs]
    rfl

/-- What stays is a beginning. -/
theorem filter_take {α : Type} (p : α → Bool) : ∀ (l : List α) (a : Nat), (∀ i x, l[i]? = some x → p x = decide (i < a)) → l.filter p = l.take a := by
  intro l
  induction l with
  | nil => intro a _; simp
  | cons x l ih =>
    intro a h
    have h0 := h 0 x rfl
    cases a with
    | zero =>
      simp only [Nat.lt_irrefl, decide_false] at h0
      rw [List.filter_cons, h0, List.take_zero]
      simp only [Bool.false_eq_true, if_false]
      rw [ih 0 fun i y hy => by have := h (i + 1) y (by simpa using hy); simpa using this, List.take_zero]
    | succ a =>
      have : decide (0 < a + 1) = true := by simp
      rw [this] at h0
      rw [List.filter_cons, h0, List.take_succ_cons]
      simp only [if_true]
      rw [ih a fun i y hy => by have := h (i + 1) y (by simpa using hy); simpa using this]

theorem sizes_snoc (B : List Wr) (a : Wr) : sizes (B ++ [a]) = sizes B + a.size := by
  induction B with
  | nil => simp [sizes]
  | cons b B ih => simp only [List.cons_append, sizes, ih]; omega

/-- Which of a segment's marks stay: the first ones. -/
theorem stays_prefix {n keep : Int} {P : Int → Bool} : ∀ {A B : List Wr}, (∀ a ∈ A, 0 ≤ a.start) → A.Pairwise (fun a b => a.start + (a.size : Int) ≤ b.start) → (∀ a ∈ B, ∀ b ∈ A, a.start + a.size ≤ b.start) →
    (∀ x, 0 ≤ x → P x = decide ((aheadN (allMarks (B ++ A)) x : Int) < keep)) →
    ∀ (i : Nat) (x : Int), (marksOf n A)[i]? = some x → P x = decide ((i : Int) < sumW (A.map Wr.pair) n - lostW (A.map Wr.pair) (max (keep - sizes B) 0) n) := by
  intro A
  induction A with
  | nil => intro B _ _ _ _ i x h; simp [marksOf] at h
  | cons a A ih =>
    intro B h0 hp hB hP i x hx
    have hp' := List.pairwise_cons.1 hp
    have hsz := sizes_snoc B a
    have hih := ih (B := B ++ [a]) (fun b hb => h0 b (List.mem_cons_of_mem _ hb)) hp'.2 (fun b hb c hc => by
      rcases List.mem_append.1 hb with hb | hb
      · exact hB b hb c (List.mem_cons_of_mem _ hc)
      · rw [List.mem_singleton.1 hb]; exact hp'.1 c hc) (fun x hx => by rw [hP x hx]; simp)
    rw [hsz] at hih
    obtain ⟨k, hk⟩ : ∃ k, k = max (keep - (sizes B : Int)) 0 := ⟨_, rfl⟩
    have hk2 : max (keep - ((sizes B + a.size : Nat) : Int)) 0 = max (k - a.size) 0 := by omega
    rw [hk2] at hih
    rw [← hk]
    have hpos : ∀ w ∈ A.map Wr.pair, 0 ≤ w.2 := fun w hw => by
      obtain ⟨b, _, rfl⟩ := List.mem_map.1 hw
      simp only; omega
    have hle := lostW_le hpos (k := max (k - a.size) 0) (by omega) n
    rw [marksOf_cons] at hx
    simp only [List.map_cons, sumW, lostW]
    by_cases hs : a.seg = n
    · rw [if_pos hs] at hx
      rw [if_pos hs, if_pos hs]
      have hl : a.marks.length = a.size := rangeM_len _ _
      by_cases hi : i < a.size
      · rw [List.getElem?_append_left (by omega)] at hx
        have hxv : x = a.start + i := by
          have : ∀ (s : Int) (m j : Nat) (y : Int), (rangeM s m)[j]? = some y → y = s + j := by
            intro s m
            induction m generalizing s with
            | zero => intro j y h; simp [rangeM] at h
            | succ m ih =>
              intro j y h
              cases j with
              | zero => simp only [rangeM, List.getElem?_cons_zero, Option.some.injEq] at h; omega
              | succ j => simp only [rangeM, List.getElem?_cons_succ] at h; have := ih _ _ _ h; omega
          exact this _ _ _ _ hx
        have ha0 := h0 a (List.mem_cons_self ..)
        rw [hP x (by omega), allMarks_append, ahead_append, ahead_below fun b hb => by
          have := hB b hb a (List.mem_cons_self ..)
          omega]
        have h3 : aheadN (allMarks (a :: A)) x = i := by
          have : allMarks (a :: A) = a.marks ++ allMarks A := rfl
          rw [this, ahead_append, ahead_above fun b hb => by have := hp'.1 b hb; omega]
          unfold Wr.marks
          rw [ahead_range]; omega
        rw [h3]
        have hz := lostW_zero hpos n
        by_cases hsk : (a.size : Int) ≤ k
        · apply decide_eq_decide.2
          omega
        · have h0k : max (k - (a.size : Int)) 0 = 0 := by omega
          rw [h0k] at hle ⊢
          rw [hz]
          apply decide_eq_decide.2
          omega
      · rw [List.getElem?_append_right (by omega), hl] at hx
        rw [hih _ x hx]
        have hz := lostW_zero hpos n
        by_cases hsk : (a.size : Int) ≤ k
        · apply decide_eq_decide.2
          omega
        · have h0k : max (k - (a.size : Int)) 0 = 0 := by omega
          rw [h0k] at hle ⊢
          rw [hz]
          apply decide_eq_decide.2
          omega
    · rw [if_neg hs, List.nil_append] at hx
      rw [if_neg hs, if_neg hs, hih i x hx]
      apply decide_eq_decide.2
      omega

end Go.Proofs.Ytgnpafmhdmmmhaa

/-
  DiskPlays, in plain terms: what an act does to both.
-/
set_option maxRecDepth 100000
set_option linter.unusedVariables false
set_option linter.unusedSimpArgs false
namespace Go.Proofs.Ytgnpafmhdmmmhaa
open Go Go.Abs

abbrev fstZ (z : Int × Int) : Int := z.1
abbrev sndZ (z : Int × Int) : Int := z.2
abbrev keyS (p : Int × List (Int × Int)) : Int := p.1

structure Cpl (D : DM) (R : RM) : Prop where
  most : D.most = R.most
  first : D.first = R.first
  fails : D.fails = R.fails
  nodup : (D.F.map fun p => p.1).Nodup
  sorted : (R.segs.map keyS).Pairwise (· < ·)
  look : ∀ n, lookF D.F n = (lookS R.segs n).map fun bs => bs.map fstZ
  marks : ∃ A, A.map Wr.pair = D.loose ∧ WrOK A R.next ∧ (∀ a ∈ A, (lookS R.segs a.seg).isSome = true) ∧ ∀ n bs, lookS R.segs n = some bs → ∃ c, bs.map sndZ = List.replicate c (-1) ++ marksOf n A

theorem lookS_append {L M : List (Int × List (Int × Int))} {n : Int} : lookS (L ++ M) n = (lookS L n).or (lookS M n) := by
  induction L with
  | nil => simp [lookS]
  | cons p L ih =>
    simp only [List.cons_append, lookS]
    split
    · rfl
    · exact ih
theorem lookS_set {n m : Int} {x : List (Int × Int)} : ∀ {L : List (Int × List (Int × Int))} {i : Nat}, idxS n L = some i → lookS (L.set i (n, x)) m = if m = n then some x else lookS L m := by
  intro L
  induction L with
  | nil => intro i h; cases h
  | cons p L ih =>
    intro i h
    simp only [idxS] at h
    split at h
    · rename_i hp
      cases h
      simp only [List.set_cons_zero, lookS]
      by_cases hm : m = n
      · subst hm; simp
      · rw [if_neg (fun e => hm e.symm), if_neg hm, if_neg (fun e => hm (e.symm.trans hp))]
    · rename_i hp
      rw [Option.map_eq_some_iff] at h
      obtain ⟨j, hj, rfl⟩ := h
      simp only [List.set_cons_succ, lookS, ih hj]
      by_cases hm : m = n
      · subst hm; simp [hp]
      · simp [hm]
theorem lookS_ins {L : List (Int × List (Int × Int))} {n m : Int} {x : List (Int × Int)} {i : Nat} (h : lookS L n = none) : lookS (L.take i ++ (n, x) :: L.drop i) m = if m = n then some x else lookS L m := by
  have h2 : lookS L m = (lookS (L.take i) m).or (lookS (L.drop i) m) := by rw [← lookS_append, List.take_append_drop]
  have h3 : (lookS (L.take i) n) = none ∧ lookS (L.drop i) n = none := by
    rw [lookS_none] at h
    exact ⟨lookS_none.2 fun p hp => h p (List.mem_of_mem_take hp), lookS_none.2 fun p hp => h p (List.mem_of_mem_drop hp)⟩
  rw [lookS_append]
  simp only [lookS]
  by_cases hm : m = n
  · subst hm
    rw [h3.1, if_pos rfl, if_pos rfl]; rfl
  · rw [if_neg (fun e => hm e.symm), if_neg hm, h2]
theorem set_keys {n : Int} {x : List (Int × Int)} : ∀ {L : List (Int × List (Int × Int))} {i : Nat}, idxS n L = some i → (L.set i (n, x)).map keyS = L.map keyS := by
  intro L
  induction L with
  | nil => intro i h; cases h
  | cons p L ih =>
    intro i h
    simp only [idxS] at h
    split at h
    · rename_i hp
      cases h
      simp [hp]
    · rw [Option.map_eq_some_iff] at h
      obtain ⟨j, hj, rfl⟩ := h
      simp [ih hj]
theorem insI_before {n : Int} : ∀ {L : List (Int × List (Int × Int))}, ∀ p ∈ L.take (insI n L), p.1 < n := by
  intro L
  induction L with
  | nil => intro p h; cases h
  | cons q L ih =>
    intro p h
    simp only [insI] at h
    split at h
    · rename_i hq
      rw [List.take_succ_cons] at h
      rcases List.mem_cons.1 h with rfl | h
      · exact hq
      · exact ih p h
    · cases h
theorem insI_after {n : Int} : ∀ {L : List (Int × List (Int × Int))}, (L.map keyS).Pairwise (· < ·) → lookS L n = none → ∀ p ∈ L.drop (insI n L), n < p.1 := by
  intro L
  induction L with
  | nil => intro _ _ p h; cases h
  | cons q L ih =>
    intro hs hn p h
    simp only [List.map_cons] at hs
    have hs' := List.pairwise_cons.1 hs
    simp only [lookS] at hn
    split at hn
    · cases hn
    · rename_i hq
      simp only [insI] at h
      split at h
      · rw [List.drop_succ_cons] at h
        exact ih hs'.2 hn p h
      · rename_i hqn
        rw [List.drop_zero] at h
        rcases List.mem_cons.1 h with rfl | h
        · omega
        · have := hs'.1 p.1 (List.mem_map_of_mem (f := keyS) h)
          have : q.1 < p.1 := this
          omega

/-- The segments with the bytes of n set. -/
def upS (R : RM) (n : Int) (x : List (Int × Int)) : List (Int × List (Int × Int)) := (rSegs R n).set (rIdx R n) (n, x)
theorem up_eq (R : RM) (n : Int) (x : List (Int × Int)) : upS R n x = match idxS n R.segs with | some i => R.segs.set i (n, x) | none => R.segs.take (insI n R.segs) ++ (n, x) :: R.segs.drop (insI n R.segs) := by
  unfold upS rSegs rIdx
  cases hx : idxS n R.segs with
  | some i => simp
  | none =>
    simp only [Option.isSome_none, Bool.false_eq_true, if_false]
    have hl := insI_le n R.segs
    rw [List.set_append_right _ _ (by rw [List.length_take]; omega), List.length_take, Nat.min_eq_left hl, Nat.sub_self, List.set_cons_zero]
theorem up_look (R : RM) (n m : Int) (x : List (Int × Int)) : lookS (upS R n x) m = if m = n then some x else lookS R.segs m := by
  rw [up_eq]
  cases hx : idxS n R.segs with
  | some i => exact lookS_set hx
  | none =>
    refine lookS_ins ?_
    have := lookS_some_iff (n := n) R.segs
    rw [hx] at this
    cases hl : lookS R.segs n with
    | none => rfl
    | some b => rw [hl] at this; cases this
theorem up_sorted {R : RM} (h : (R.segs.map keyS).Pairwise (· < ·)) (n : Int) (x : List (Int × Int)) : ((upS R n x).map keyS).Pairwise (· < ·) := by
  rw [up_eq]
  cases hx : idxS n R.segs with
  | some i => rw [set_keys hx]; exact h
  | none =>
    have hl : lookS R.segs n = none := by
      have := lookS_some_iff (n := n) R.segs
      rw [hx] at this
      cases hl : lookS R.segs n with
      | none => rfl
      | some b => rw [hl] at this; cases this
    have h1 : (R.segs.map keyS) = ((R.segs.take (insI n R.segs)).map keyS) ++ ((R.segs.drop (insI n R.segs)).map keyS) := by rw [← List.map_append, List.take_append_drop]
    have h2 := h
    rw [h1, List.pairwise_append] at h2
    simp only [List.map_append, List.map_cons]
    refine List.pairwise_append.2 ⟨h2.1, List.pairwise_cons.2 ⟨fun y hy => ?_, h2.2.1⟩, fun a ha b hb => ?_⟩
    · obtain ⟨p, hp, rfl⟩ := List.mem_map.1 hy
      exact insI_after h hl p hp
    · rcases List.mem_cons.1 hb with rfl | hb
      · obtain ⟨p, hp, rfl⟩ := List.mem_map.1 ha
        exact insI_before p hp
      · exact h2.2.2 a ha b hb

section
variable {D : DM} {R : RM}

theorem Cpl.some_iff (h : Cpl D R) (n : Int) : (lookF D.F n).isSome = (idxS n R.segs).isSome := by
  rw [lookS_some_iff, h.look]; simp
theorem Cpl.bytes (h : Cpl D R) (n : Int) : readB D n = (rBytes R n).map fstZ := by
  unfold readB
  rw [h.look, rBytes_look]
  cases lookS R.segs n <;> rfl
theorem Cpl.errno (h : Cpl D R) (n : Int) : readE D n = rE R n := by
  unfold readE rE
  rw [h.some_iff]
theorem Cpl.perm (h : Cpl D R) : (D.F.map fun p => p.1).Perm (R.segs.map keyS) := by
  refine (List.perm_ext_iff_of_nodup h.nodup (h.sorted.imp fun h e => by omega)).2 fun k => ?_
  have h1 : (k ∈ D.F.map fun p => p.1) ↔ lookF D.F k ≠ none := by
    rw [ne_eq, lookF_none]
    constructor
    · intro hk hn
      obtain ⟨p, hp, rfl⟩ := List.mem_map.1 hk
      exact hn p hp rfl
    · intro hn
      refine Classical.byContradiction fun hk => hn fun p hp e => hk (e ▸ List.mem_map_of_mem (f := fun p : Int × List Int => p.1) hp)
  have h2 : (k ∈ R.segs.map keyS) ↔ lookS R.segs k ≠ none := by
    rw [ne_eq, lookS_none]
    constructor
    · intro hk hn
      obtain ⟨p, hp, rfl⟩ := List.mem_map.1 hk
      exact hn p hp rfl
    · intro hn
      refine Classical.byContradiction fun hk => hn fun p hp e => hk (e ▸ List.mem_map_of_mem (f := keyS) hp)
  rw [h1, h2, h.look]
  cases lookS R.segs k <;> simp
theorem Cpl.keys (h : Cpl D R) : keysF D = R.segs.map keyS :=
  sorted_unique ((sortZ_perm _).trans h.perm) (sortZ_sorted _) (h.sorted.imp fun h => Int.le_of_lt h)
theorem Cpl.count (h : Cpl D R) : D.F.length = R.segs.length := by
  have := h.perm.length_eq
  simpa using this

theorem sum_marks (A : List Wr) (n : Int) : sumW (A.map Wr.pair) n = ((marksOf n A).length : Int) := by
  induction A with
  | nil => rfl
  | cons a A ih =>
    simp only [List.map_cons, sumW, ih, marksOf_cons, List.length_append]
    by_cases hs : a.seg = n
    · rw [if_pos hs, if_pos hs]
      have : a.marks.length = a.size := rangeM_len _ _
      omega
    · rw [if_neg hs, if_neg hs]; simp
theorem Cpl.loose (h : Cpl D R) : LooseOK D.F D.loose := by
  obtain ⟨A, hA, _, hs, hm⟩ := h.marks
  rw [← hA]
  refine ⟨fun w hw => ?_, fun g b hb => ?_⟩
  · obtain ⟨a, ha, rfl⟩ := List.mem_map.1 hw
    refine ⟨by simp only; omega, ?_⟩
    rw [h.look]
    simpa using hs a ha
  · rw [h.look] at hb
    obtain ⟨bs, hbs, rfl⟩ := Option.map_eq_some_iff.1 hb
    obtain ⟨c, hc⟩ := hm g bs hbs
    have := congrArg List.length hc
    rw [List.length_map, List.length_append, List.length_replicate] at this
    rw [sum_marks, List.length_map]; omega

theorem Cpl.full (h : Cpl D R) {n : Int} (hb : (readB D n).length ≤ 2048) (k : Nat) : fullD D n k = rFull R n k := by
  unfold fullD rFull
  rw [h.some_iff, h.bytes, List.length_map, h.count, h.most]
  cases hx : (idxS n R.segs).isSome
  · have hz : rBytes R n = [] := by
      rw [rBytes_look]
      rw [lookS_some_iff] at hx
      cases hl : lookS R.segs n with
      | none => rfl
      | some b => rw [hl] at hx; cases hx
    rw [hz]
    simp
  · simp only [Bool.not_true, Bool.false_and, Bool.false_or, if_true]
    apply decide_eq_decide.2
    omega

/-- Append. -/
theorem Cpl.append (h : Cpl D R) {n : Int} (hb : (readB D n).length ≤ 2048) (hnx : 0 ≤ R.next) (bs : List Int) : appE D n bs.length = rAppE R n bs.length ∧ Cpl (appD D n bs) (rAppR R n bs) := by
  have hf := h.full hb bs.length
  unfold appE rAppE appD rAppR
  rw [hf, h.first, h.fails]
  by_cases hn : n < 0
  · simp only [hn, if_true]; exact ⟨trivial, h⟩
  · simp only [hn, if_false]
    cases hx : rFull R n bs.length
    · simp only [Bool.false_eq_true, if_false]
      cases hw : wB R.first R.fails
      · simp only [Bool.false_eq_true, if_false]
        exact ⟨trivial, h.most, by simp only [wD, wR]; rw [h.first], by simp only [wD, wR]; rw [h.first, h.fails], h.nodup, h.sorted, h.look, h.marks⟩
      · simp only [if_true]
        refine ⟨trivial, h.most, by simp only [wD, wR]; rw [h.first], by simp only [wD, wR]; rw [h.first, h.fails], ?_, up_sorted h.sorted n _, fun m => ?_, ?_⟩
        · simp only [wD]
          rw [putF_keys]
          split
          · exact h.nodup
          · rename_i hnone
            refine List.nodup_append.2 ⟨h.nodup, by simp, fun a ha b hb e => ?_⟩
            rw [List.mem_singleton.1 hb] at e
            subst e
            have : lookF D.F a = none := by
              cases hl : lookF D.F a with
              | none => rfl
              | some v => rw [hl] at hnone; simp at hnone
            rw [lookF_none] at this
            obtain ⟨p, hp, rfl⟩ := List.mem_map.1 ha
            exact this p hp rfl
        · show lookF (putF D.F n (readB D n ++ bs)) m = _
          have hup := up_look R n m (rBytes R n ++ markB bs R.next)
          unfold upS at hup
          simp only
          rw [lookF_put, hup]
          by_cases hm : m = n
          · rw [if_pos hm, if_pos hm, Option.map_some, List.map_append, ← h.bytes, markB_bytes]
          · rw [if_neg hm, if_neg hm]; exact h.look m
        · obtain ⟨A, hA, hok, hs, hmk⟩ := h.marks
          have hup := fun m => up_look R n m (rBytes R n ++ markB bs R.next)
          unfold upS at hup
          refine ⟨A ++ [⟨n, bs.length, R.next⟩], by rw [List.map_append, hA]; rfl, ⟨fun a ha => ?_, ?_⟩, fun a ha => ?_, fun m b hb => ?_⟩
          · simp only
            rcases List.mem_append.1 ha with ha | ha
            · have := hok.1 a ha; omega
            · rw [List.mem_singleton.1 ha]; simp only; omega
          · refine List.pairwise_append.2 ⟨hok.2, by simp, fun a ha b hb => ?_⟩
            rw [List.mem_singleton.1 hb]
            exact (hok.1 a ha).2
          · simp only
            rw [hup]
            split
            · rfl
            · rename_i hne
              rcases List.mem_append.1 ha with ha | ha
              · exact hs a ha
              · rw [List.mem_singleton.1 ha] at hne; exact absurd rfl hne
          · simp only at hb
            rw [hup] at hb
            rw [marksOf_append]
            by_cases hm : m = n
            · subst hm
              rw [if_pos rfl] at hb
              cases hb
              have h1 : marksOf m [⟨m, bs.length, R.next⟩] = rangeM R.next bs.length := by
                rw [marksOf_cons, if_pos rfl]; simp [marksOf, Wr.marks]
              rw [h1, List.map_append, markB_marks, rBytes_look]
              cases hl : lookS R.segs m with
              | none =>
                have : marksOf m A = [] := marksOf_none fun a ha e => by
                  have := hs a ha
                  rw [e, hl] at this; cases this
                exact ⟨0, by rw [this]; rfl⟩
              | some b =>
                obtain ⟨c, hc⟩ := hmk m b hl
                exact ⟨c, by rw [Option.getD_some, hc, List.append_assoc]⟩
            · rw [if_neg hm] at hb
              obtain ⟨c, hc⟩ := hmk m b hb
              have h1 : marksOf m [⟨n, bs.length, R.next⟩] = [] := marksOf_none fun a ha e => by
                rw [List.mem_singleton.1 ha] at e; exact hm e.symm
              exact ⟨c, by rw [hc, h1, List.append_nil]⟩
    · simp only [if_true]; exact ⟨trivial, h⟩

/-- Sync. -/
theorem lookS_map {f : List (Int × Int) → List (Int × Int)} {L : List (Int × List (Int × Int))} {n : Int} : lookS (L.map fun p => (p.1, f p.2)) n = (lookS L n).map f := by
  induction L with
  | nil => rfl
  | cons p L ih =>
    simp only [List.map_cons, lookS]
    split
    · rfl
    · exact ih
theorem Cpl.sync (h : Cpl D R) : Cpl (if wB D.first D.fails then { wD D with loose := [] } else wD D) (syncR R) := by
  unfold syncR
  rw [h.first, h.fails]
  cases hw : wB R.first R.fails
  · simp only [Bool.false_eq_true, if_false]
    exact ⟨h.most, by simp only [wD, wR]; rw [h.first], by simp only [wD, wR]; rw [h.first, h.fails], h.nodup, h.sorted, h.look, h.marks⟩
  · simp only [if_true]
    refine ⟨h.most, by simp only [wD, wR]; rw [h.first], by simp only [wD, wR]; rw [h.first, h.fails], h.nodup, ?_, fun n => ?_, ⟨[], rfl, ⟨by simp, .nil⟩, by simp, fun n bs hb => ?_⟩⟩
    · have : (R.segs.map lastS).map keyS = R.segs.map keyS := by rw [List.map_map]; rfl
      simp only; rw [this]; exact h.sorted
    · show lookF D.F n = (lookS (R.segs.map lastS) n).map _
      rw [lookS_map (f := fun b => b.map lastZ), h.look]
      cases lookS R.segs n with
      | none => rfl
      | some b => simp
    · have hb' : lookS (R.segs.map lastS) n = some bs := hb
      rw [lookS_map (f := fun b => b.map lastZ)] at hb'
      obtain ⟨b, _, rfl⟩ := Option.map_eq_some_iff.1 hb'
      refine ⟨b.length, ?_⟩
      have h0 : marksOf n [] = [] := rfl
      rw [h0, List.append_nil, List.map_map]
      exact List.eq_replicate_iff.2 ⟨by rw [List.length_map], fun x hx => by obtain ⟨y, _, rfl⟩ := List.mem_map.1 hx; rfl⟩

/-- Drop. -/
theorem lookS_del {n m : Int} : ∀ {L : List (Int × List (Int × Int))} {i : Nat}, (L.map keyS).Nodup → idxS n L = some i → lookS (L.take i ++ L.drop (i + 1)) m = if m = n then none else lookS L m := by
  intro L
  induction L with
  | nil => intro i _ h; cases h
  | cons p L ih =>
    intro i hn h
    simp only [List.map_cons] at hn
    have hn' := List.nodup_cons.1 hn
    simp only [idxS] at h
    split at h
    · rename_i hp
      cases h
      simp only [List.take_zero, List.nil_append, List.drop_succ_cons, List.drop_zero, lookS]
      by_cases hm : m = n
      · subst hm
        rw [if_pos rfl, lookS_none]
        exact fun q hq e => hn'.1 (by rw [show keyS p = q.1 from hp.trans e.symm]; exact List.mem_map_of_mem (f := keyS) hq)
      · rw [if_neg hm, if_neg (fun e => hm (e.symm.trans hp))]
    · rename_i hp
      rw [Option.map_eq_some_iff] at h
      obtain ⟨j, hj, rfl⟩ := h
      simp only [List.take_succ_cons, List.cons_append, List.drop_succ_cons, lookS, ih hn'.2 hj]
      by_cases hm : m = n
      · subst hm; simp [hp]
      · simp [hm]
theorem marksOf_filter {m n : Int} (h : m ≠ n) (A : List Wr) : marksOf m (A.filter fun a => !(a.seg == n)) = marksOf m A := by
  unfold marksOf
  rw [List.filter_filter]
  congr 2
  apply List.filter_congr
  intro a _
  by_cases ha : a.seg = m
  · have : ¬ a.seg = n := fun e => h (ha.symm.trans e)
    simp [ha, h]
  · simp [ha]
theorem Cpl.drop (h : Cpl D R) (n : Int) : dropE D n = rDropE R n ∧ Cpl (dropD D n) (rDropR R n) := by
  unfold dropE rDropE dropD rDropR
  rw [h.some_iff, h.first, h.fails]
  cases hx : idxS n R.segs with
  | none => simp only [Option.isSome_none, Bool.false_eq_true, if_false]; exact ⟨trivial, h⟩
  | some i =>
    simp only [Option.isSome_some, if_true]
    cases hw : wB R.first R.fails
    · simp only [Bool.false_eq_true, if_false]
      exact ⟨trivial, h.most, by simp only [wD, wR]; rw [h.first], by simp only [wD, wR]; rw [h.first, h.fails], h.nodup, h.sorted, h.look, h.marks⟩
    · simp only [if_true]
      have hnd : (R.segs.map keyS).Nodup := h.sorted.imp fun h e => by omega
      have hlk := fun m => lookS_del (m := m) hnd hx
      refine ⟨trivial, h.most, by simp only [wD, wR]; rw [h.first], by simp only [wD, wR]; rw [h.first, h.fails], ?_, ?_, fun m => ?_, ?_⟩
      · exact h.nodup.sublist ((delF_sub D.F n).map _)
      · refine h.sorted.sublist ?_
        simp only
        have : (R.segs.take i ++ R.segs.drop (i + 1)).Sublist R.segs := by
          conv => rhs; rw [← List.take_append_drop i R.segs]
          refine List.Sublist.append_left ?_ _
          rw [← List.drop_drop]
          exact List.drop_sublist ..
        exact this.map _
      · simp only [wD]
        rw [lookF_del h.nodup, hlk]
        split
        · rfl
        · exact h.look m
      · obtain ⟨A, hA, hok, hs, hmk⟩ := h.marks
        refine ⟨A.filter fun a => !(a.seg == n), ?_, ⟨fun a ha => hok.1 a (List.mem_filter.1 ha).1, hok.2.sublist List.filter_sublist⟩, fun a ha => ?_, fun m b hb => ?_⟩
        · simp only
          rw [← hA, List.filter_map]; rfl
        · simp only
          rw [hlk]
          have := List.mem_filter.1 ha
          have h2 : ¬ a.seg = n := by simpa using this.2
          rw [if_neg h2]
          exact hs a this.1
        · simp only at hb
          rw [hlk] at hb
          split at hb
          · cases hb
          · rename_i hm
            rw [marksOf_filter hm]
            exact hmk m b hb

/-- Fault. -/
theorem Cpl.fault (h : Cpl D R) (a b : Int) : Cpl { D with first := a, fails := b } { R with first := a, fails := b } := ⟨h.most, rfl, rfl, h.nodup, h.sorted, h.look, h.marks⟩

/-- Crash. -/
theorem marksS_perm (h : Cpl D R) {A : List Wr} (hok : WrOK A R.next) (hs : ∀ a ∈ A, (lookS R.segs a.seg).isSome = true) (hmk : ∀ n bs, lookS R.segs n = some bs → ∃ c, bs.map sndZ = List.replicate c (-1) ++ marksOf n A) : (marksS R.segs).Perm (allMarks A) := by
  have hnd : (R.segs.map keyS).Nodup := h.sorted.imp fun h e => by omega
  have h1 : marksS R.segs = ((R.segs.map keyS).map fun n => marksOf n A).flatten := by
    unfold marksS
    rw [List.map_map]
    congr 1
    apply List.map_congr_left
    intro p hp
    have hl := lookS_of_mem hnd (n := p.1) (bs := p.2) hp
    obtain ⟨c, hc⟩ := hmk _ _ hl
    unfold marksZ
    have hc' : p.2.map (fun z => z.2) = List.replicate c (-1) ++ marksOf p.1 A := hc
    rw [hc', List.filter_append]
    have e1 : (List.replicate c (-1 : Int)).filter (fun x => decide (x ≥ 0)) = [] := by
      rw [List.filter_eq_nil_iff]
      intro x hx
      rw [List.eq_of_mem_replicate hx]; simp
    have e2 : (marksOf p.1 A).filter (fun x => decide (x ≥ 0)) = marksOf p.1 A := by
      rw [List.filter_eq_self]
      intro x hx
      unfold marksOf at hx
      obtain ⟨l, hl, hxl⟩ := List.mem_flatten.1 hx
      obtain ⟨a, ha, rfl⟩ := List.mem_map.1 hl
      have := (hok.1 a (List.mem_filter.1 ha).1).1
      have := rangeM_mem.1 hxl
      simp; omega
    rw [e1, e2]; rfl
  rw [h1]
  refine marks_perm hnd fun a ha => ?_
  have := hs a ha
  obtain ⟨b, hb⟩ := Option.isSome_iff_exists.1 this
  exact List.mem_map_of_mem (f := keyS) (lookS_mem hb)

theorem Cpl.crash (h : Cpl D R) (keep : Int) : Cpl ⟨D.most, 0, 0, crashF D.loose (max keep 0) D.F, []⟩ (rCrash R keep) := by
  obtain ⟨A, hA, hok, hs, hmk⟩ := h.marks
  have hperm := marksS_perm h hok hs hmk
  have hL := h.loose
  obtain ⟨ms, hms⟩ : ∃ ms, ms = marksS R.segs := ⟨_, rfl⟩
  have hkey : ∀ n bs, lookS R.segs n = some bs → (crashZ ms keep bs).map fstZ = (bs.map fstZ).take ((bs.map fstZ).length - (lostW D.loose (max keep 0) n).toNat) := by
    intro n bs hb
    obtain ⟨c, hc⟩ := hmk n bs hb
    have hsum := sum_marks A n
    rw [hA] at hsum
    have hlen := congrArg List.length hc
    rw [List.length_map, List.length_append, List.length_replicate] at hlen
    have hpos : ∀ w ∈ D.loose, 0 ≤ w.2 := fun w hw => (hL.1 w hw).1
    have hle := lostW_le hpos (k := max keep 0) (by omega) n
    have hnn := lostW_nonneg D.loose (max keep 0) n
    have hfil : bs.filter (staysB ms keep) = bs.take (bs.length - (lostW D.loose (max keep 0) n).toNat) := by
      refine filter_take _ _ _ fun i z hz => ?_
      have hzm : (bs.map sndZ)[i]? = some z.2 := by rw [List.getElem?_map, hz]; rfl
      rw [hc] at hzm
      have hil := (List.getElem?_eq_some_iff.1 hz).1
      by_cases hi : i < c
      · rw [List.getElem?_append_left (by rw [List.length_replicate]; exact hi), List.getElem?_replicate, if_pos hi] at hzm
        have he := Option.some.inj hzm
        have : decide (z.2 < 0) = true := by
          simp only [decide_eq_true_eq]; omega
        unfold staysB
        rw [this]
        symm
        simp only [Bool.true_or, decide_eq_true_eq]; omega
      · rw [List.getElem?_append_right (by rw [List.length_replicate]; omega), List.length_replicate] at hzm
        have hx0 : 0 ≤ z.2 := by
          have hmem := List.mem_of_getElem? hzm
          unfold marksOf at hmem
          obtain ⟨l, hl, hxl⟩ := List.mem_flatten.1 hmem
          obtain ⟨a, ha, rfl⟩ := List.mem_map.1 hl
          have := (hok.1 a (List.mem_filter.1 ha).1).1
          have := rangeM_mem.1 hxl
          omega
        have hpre := stays_prefix (n := n) (keep := keep) (P := fun x => decide ((aheadN ms x : Int) < keep)) (A := A) (B := []) (fun a ha => (hok.1 a ha).1) hok.2 (by simp) (fun x _ => by show decide _ = decide _; rw [hms, ahead_perm hperm x]; rfl) (i - c) z.2 hzm
        rw [hA] at hpre
        have hd : decide (z.2 < 0) = false := by simp; omega
        unfold staysB
        rw [hd, Bool.false_or, hpre]
        have e0 : max (keep - ((sizes ([] : List Wr) : Nat) : Int)) 0 = max keep 0 := by simp only [sizes]; omega
        apply decide_eq_decide.2
        rw [e0]
        omega
    unfold crashZ
    rw [List.map_map, hfil, List.length_map, ← List.map_take]
    rfl
  refine ⟨h.most, rfl, rfl, ?_, ?_, fun n => ?_, ⟨[], rfl, ⟨by simp, .nil⟩, by simp, fun n bs hb => ?_⟩⟩
  · simp only
    rw [crash_keys (by omega) hL]; exact h.nodup
  · have : ((rCrash R keep).segs).map keyS = R.segs.map keyS := by
      simp only [rCrash, List.map_map]; rfl
    rw [this]; exact h.sorted
  · simp only [rCrash]
    rw [crash_look (by omega) hL, lookS_map (f := crashZ (marksS R.segs) keep), h.look, ← hms]
    cases hl : lookS R.segs n with
    | none => rfl
    | some b =>
      simp only [Option.map_some]
      rw [hkey n b hl]
  · simp only [rCrash] at hb
    rw [lookS_map (f := crashZ (marksS R.segs) keep)] at hb
    obtain ⟨b, _, rfl⟩ := Option.map_eq_some_iff.1 hb
    refine ⟨(crashZ (marksS R.segs) keep b).length, ?_⟩
    have : marksOf n [] = [] := rfl
    rw [this, List.append_nil]
    refine List.eq_replicate_iff.2 ⟨by rw [List.length_map], fun x hx => ?_⟩
    unfold crashZ at hx
    rw [List.map_map] at hx
    obtain ⟨y, _, rfl⟩ := List.mem_map.1 hx
    rfl
end

end Go.Proofs.Ytgnpafmhdmmmhaa
