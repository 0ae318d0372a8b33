/-
  The heap's plain law: up and down keep the nodes and restore the order.
-/
import Derived.Test.YtaigiehdnhehnaaR1Heap3
set_option linter.unusedVariables false
set_option linter.unusedSimpArgs false
namespace Go.Proofs.Ytaigiehdnhehnaa
open Go Go.Abs

abbrev nd (L : List Node) (i : Nat) : Node := L.getD i (0, 0)

theorem nd_def (L : List Node) (i : Nat) : nd L i = L.getD i (0, 0) := rfl

theorem lt_iff (a b : Node) : lt a b = true ↔ a.2 < b.2 ∨ (a.2 = b.2 ∧ a.1 < b.1) := by
  simp [lt]

theorem lt_false (a b : Node) : lt a b = false ↔ ¬ (a.2 < b.2 ∨ (a.2 = b.2 ∧ a.1 < b.1)) := by
  rw [← lt_iff]; cases lt a b <;> simp

/-- a is not behind b. -/
def le (a b : Node) : Prop := lt b a = false

theorem le_iff (a b : Node) : le a b ↔ a.2 < b.2 ∨ (a.2 = b.2 ∧ a.1 ≤ b.1) := by
  unfold le
  rw [lt_false]
  omega

theorem le_refl (a : Node) : le a a := by rw [le_iff]; omega
theorem le_trans {a b c : Node} (h : le a b) (k : le b c) : le a c := by
  rw [le_iff] at *; omega
theorem le_of_lt {a b : Node} (h : lt a b = true) : le a b := by
  rw [lt_iff] at h; rw [le_iff]; omega
theorem le_antisymm {a b : Node} (h : le a b) (k : le b a) : a = b := by
  rw [le_iff] at *
  obtain ⟨a1, a2⟩ := a
  obtain ⟨b1, b2⟩ := b
  simp only at *
  have : a1 = b1 := by omega
  have : a2 = b2 := by omega
  simp_all

theorem mem_nd {L : List Node} {n : Node} : n ∈ L ↔ ∃ i, i < L.length ∧ nd L i = n := by
  constructor
  · intro h
    obtain ⟨i, hi, rfl⟩ := List.mem_iff_getElem.1 h
    exact ⟨i, hi, by simp [nd, List.getD_eq_getElem?_getD, hi]⟩
  · rintro ⟨i, hi, rfl⟩
    simp only [nd, List.getD_eq_getElem?_getD, List.getElem?_eq_getElem hi, Option.getD_some]
    exact List.getElem_mem hi

theorem swapL_nd (L : List Node) {i k : Nat} (hi : i < L.length) (hk : k < L.length) (j : Nat) : nd (swapL L i k) j = if j = k then nd L i else if j = i then nd L k else nd L j := swapL_get L hi hk j

theorem swapL_mem {L : List Node} {i k : Nat} (hi : i < L.length) (hk : k < L.length) (n : Node) : n ∈ swapL L i k ↔ n ∈ L := by
  rw [mem_nd, mem_nd]
  constructor
  · rintro ⟨j, hj, rfl⟩
    rw [swapL_length] at hj
    rw [swapL_nd L hi hk]
    split
    · exact ⟨i, hi, rfl⟩
    · split
      · exact ⟨k, hk, rfl⟩
      · exact ⟨j, hj, rfl⟩
  · rintro ⟨j, hj, rfl⟩
    by_cases h1 : j = i
    · subst h1
      exact ⟨k, by rw [swapL_length]; exact hk, by rw [swapL_nd L hi hk, if_pos rfl]⟩
    · by_cases h2 : j = k
      · subst h2
        exact ⟨i, by rw [swapL_length]; exact hi, by
          rw [swapL_nd L hi hk]
          split
          · rename_i e; rw [e]
          · rw [if_pos rfl]⟩
      · exact ⟨j, by rw [swapL_length]; exact hj, by rw [swapL_nd L hi hk, if_neg h2, if_neg h1]⟩

theorem upL_mem : ∀ (f : Nat) (L : List Node) (i : Nat), i < L.length → ∀ n, n ∈ (upL f L i).1 ↔ n ∈ L := by
  intro f
  induction f with
  | zero => intro L i _ n; exact Iff.rfl
  | succ f ih =>
    intro L i hi n
    rw [upL]
    split
    · exact Iff.rfl
    · split
      · rw [ih _ _ (by rw [swapL_length]; omega), swapL_mem hi (by omega)]
      · exact Iff.rfl

/-- Every edge that does not touch i is in order; and i's children are not ahead of its parent. -/
def W (L : List Node) (i : Nat) : Prop :=
  (∀ c, 0 < c → c < L.length → c ≠ i → (c - 1) / 2 ≠ i → le (nd L ((c - 1) / 2)) (nd L c)) ∧
  (∀ c, 0 < c → c < L.length → (c - 1) / 2 = i → 0 < i → le (nd L ((i - 1) / 2)) (nd L c))

/-- Every edge but those from i to its children is in order; and i's children are not ahead of its parent. -/
def D (L : List Node) (i : Nat) : Prop :=
  (∀ c, 0 < c → c < L.length → (c - 1) / 2 ≠ i → le (nd L ((c - 1) / 2)) (nd L c)) ∧
  (∀ c, 0 < c → c < L.length → (c - 1) / 2 = i → 0 < i → le (nd L ((i - 1) / 2)) (nd L c))

def Ord (L : List Node) : Prop := ∀ c, 0 < c → c < L.length → le (nd L ((c - 1) / 2)) (nd L c)

theorem upL_ord : ∀ (f : Nat) (L : List Node) (i : Nat), i < L.length → i ≤ f → W L i → ∃ j, j < L.length ∧ nd (upL f L i).1 j = nd L i ∧ D (upL f L i).1 j := by
  intro f
  induction f with
  | zero =>
    intro L i hi hf hw
    have : i = 0 := by omega
    subst this
    refine ⟨0, hi, rfl, fun c h0 hc hp => hw.1 c h0 hc (by omega) hp, hw.2⟩
  | succ f ih =>
    intro L i hi hf hw
    rw [upL]
    by_cases h0 : i = 0
    · subst h0
      rw [if_pos rfl]
      exact ⟨0, hi, rfl, fun c h0 hc hp => hw.1 c h0 hc (by omega) hp, hw.2⟩
    · rw [if_neg h0]
      by_cases hb : lt (L.getD i (0, 0)) (L.getD ((i - 1) / 2) (0, 0)) = true
      · rw [if_pos hb]
        have hp : (i - 1) / 2 < L.length := by omega
        have hpi : (i - 1) / 2 ≠ i := by omega
        have hl := swapL_length L i ((i - 1) / 2)
        have hg := swapL_nd L hi hp
        obtain ⟨j, hj, he, hd⟩ := ih (swapL L i ((i - 1) / 2)) ((i - 1) / 2) (by omega) (by omega) (by
          constructor
          · intro c hc0 hc hci hcp
            rw [hl] at hc
            rw [hg, hg]
            by_cases h1 : (c - 1) / 2 = i
            · rw [if_neg hcp, if_pos h1, if_neg hci, if_neg (by omega)]
              exact hw.2 c hc0 hc h1 (by omega)
            · rw [if_neg hcp, if_neg h1]
              by_cases h2 : c = i
              · subst h2; exact absurd rfl hcp
              · rw [if_neg hci, if_neg h2]
                exact hw.1 c hc0 hc h2 h1
          · intro c hc0 hc hcp hi0
            rw [hl] at hc
            have hgp : ((i - 1) / 2 - 1) / 2 ≠ (i - 1) / 2 := by omega
            have hgi : ((i - 1) / 2 - 1) / 2 ≠ i := by omega
            have hedge := hw.1 ((i - 1) / 2) hi0 hp hpi hgi
            rw [hg, hg, if_neg hgp, if_neg hgi, if_neg (by omega)]
            by_cases h1 : c = i
            · rw [if_pos h1]; exact hedge
            · rw [if_neg h1]
              exact le_trans hedge (by have := hw.1 c hc0 hc h1 (by omega); rwa [hcp] at this))
        refine ⟨j, by omega, ?_, hd⟩
        rw [he, hg, if_pos rfl]
      · rw [if_neg hb]
        have hb' : le (nd L ((i - 1) / 2)) (nd L i) := by unfold le; simpa using hb
        refine ⟨i, hi, rfl, fun c hc0 hc hp => ?_, hw.2⟩
        by_cases h1 : c = i
        · subst h1; exact hb'
        · exact hw.1 c hc0 hc h1 hp

theorem downL_mem : ∀ (f : Nat) (L : List Node) (i : Nat), i < L.length → ∀ n, n ∈ (downL f L i).1 ↔ n ∈ L := by
  intro f
  induction f with
  | zero => intro L i _ n; exact Iff.rfl
  | succ f ih =>
    intro L i hi n
    by_cases hs : L.length ≤ 2 * i + 1
    · rw [downL_stop hs]
    · obtain ⟨k, hk⟩ : ∃ k, k = if 2 * i + 2 < L.length ∧ lt (L.getD (2 * i + 2) (0, 0)) (L.getD (2 * i + 1) (0, 0)) = true then 2 * i + 2 else 2 * i + 1 := ⟨_, rfl⟩
      have hkl : k < L.length := by rw [hk]; split <;> omega
      rw [downL_step hs hk rfl]
      split
      · simp only
        rw [ih _ _ (by rw [swapL_length]; exact hkl), swapL_mem hi hkl]
      · exact Iff.rfl

theorem downL_ord : ∀ (f : Nat) (L : List Node) (i : Nat), i < L.length → L.length ≤ i + f → D L i → Ord (downL f L i).1 := by
  intro f
  induction f with
  | zero => intro L i hi hf; omega
  | succ f ih =>
    intro L i hi hf hd
    by_cases hs : L.length ≤ 2 * i + 1
    · rw [downL_stop hs]
      intro c h0 hc
      have hc' : c < L.length := hc
      exact hd.1 c h0 hc' (by omega)
    · obtain ⟨k, hk⟩ : ∃ k, k = if 2 * i + 2 < L.length ∧ lt (L.getD (2 * i + 2) (0, 0)) (L.getD (2 * i + 1) (0, 0)) = true then 2 * i + 2 else 2 * i + 1 := ⟨_, rfl⟩
      have hkl : k < L.length := by rw [hk]; split <;> omega
      have hki : k = 2 * i + 1 ∨ k = 2 * i + 2 := by rw [hk]; split <;> simp
      have hmin : ∀ c, 0 < c → c < L.length → (c - 1) / 2 = i → le (nd L k) (nd L c) := by
        intro c hc0 hc hci
        have hcc : c = 2 * i + 1 ∨ c = 2 * i + 2 := by omega
        by_cases hcond : 2 * i + 2 < L.length ∧ lt (L.getD (2 * i + 2) (0, 0)) (L.getD (2 * i + 1) (0, 0)) = true
        · rw [if_pos hcond] at hk
          subst hk
          rcases hcc with rfl | rfl
          · exact le_of_lt hcond.2
          · exact le_refl _
        · rw [if_neg hcond] at hk
          subst hk
          rcases hcc with rfl | rfl
          · exact le_refl _
          · unfold le
            have : ¬ lt (L.getD (2 * i + 2) (0, 0)) (L.getD (2 * i + 1) (0, 0)) = true := fun h => hcond ⟨hc, h⟩
            simpa using this
      rw [downL_step hs hk rfl]
      by_cases hb : lt (L.getD k (0, 0)) (L.getD i (0, 0)) = true
      · rw [if_pos hb]
        simp only
        have hg := swapL_nd L hi hkl
        have hl := swapL_length L i k
        refine ih _ _ (by omega) (by omega) ⟨fun c hc0 hc hcp => ?_, fun c hc0 hc hcp hk0 => ?_⟩
        · rw [hl] at hc
          rw [hg, hg, if_neg hcp]
          by_cases h1 : (c - 1) / 2 = i
          · rw [if_pos h1]
            by_cases h2 : c = k
            · rw [if_pos h2]; exact le_of_lt hb
            · rw [if_neg h2, if_neg (by omega)]; exact hmin c hc0 hc h1
          · rw [if_neg h1, if_neg (by omega)]
            by_cases h2 : c = i
            · subst h2
              rw [if_pos rfl]
              exact hd.2 k (by omega) hkl (by omega) hc0
            · rw [if_neg h2]; exact hd.1 c hc0 hc h1
        · rw [hl] at hc
          have hpk : (k - 1) / 2 = i := by omega
          rw [hg, hg, hpk, if_neg (by omega), if_pos rfl, if_neg (by omega), if_neg (by omega)]
          have := hd.1 c hc0 hc (by omega)
          rwa [hcp] at this
      · rw [if_neg hb]
        intro c hc0 hc
        by_cases h1 : (c - 1) / 2 = i
        · have : le (nd L i) (nd L k) := by unfold le; simpa using hb
          rw [h1]
          exact le_trans this (hmin c hc0 hc h1)
        · exact hd.1 c hc0 hc h1

/-- The first is the least. -/
theorem Ord.first {L : List Node} (h : Ord L) : ∀ i, i < L.length → le (nd L 0) (nd L i) := by
  intro i
  induction i using Nat.strongRecOn with
  | _ i ih =>
    intro hi
    by_cases h0 : i = 0
    · subst h0; exact le_refl _
    · exact le_trans (ih ((i - 1) / 2) (by omega) (by omega)) (h i (by omega) hi)

theorem Ord.le_mem {L : List Node} (h : Ord L) {n : Node} (hn : n ∈ L) : le (nd L 0) n := by
  obtain ⟨i, hi, rfl⟩ := mem_nd.1 hn
  exact h.first i hi

/-- One node of an ordered row is put in another's place. -/
theorem Ord.set {L : List Node} (h : Ord L) {i : Nat} (hi : i < L.length) (n : Node) : W (L.set i n) i := by
  have hg : ∀ j, j ≠ i → nd (L.set i n) j = nd L j := by
    intro j hj
    simp only [nd, List.getD_eq_getElem?_getD, List.getElem?_set]
    rw [if_neg (fun e => hj e.symm)]
  constructor
  · intro c h0 hc hci hcp
    rw [List.length_set] at hc
    rw [hg _ hci, hg _ hcp]
    exact h c h0 hc
  · intro c h0 hc hcp hi0
    rw [List.length_set] at hc
    rw [hg _ (by omega), hg _ (by omega)]
    refine le_trans (h i hi0 hi) ?_
    have := h c h0 hc
    rwa [hcp] at this

/-- One more node stands at the end. -/
theorem Ord.push {L : List Node} (h : Ord L) (n : Node) : W (L ++ [n]) L.length := by
  have hg : ∀ j, j < L.length → nd (L ++ [n]) j = nd L j := by
    intro j hj
    simp only [nd, List.getD_eq_getElem?_getD, List.getElem?_append_left hj]
  constructor
  · intro c h0 hc hci hcp
    rw [List.length_append] at hc
    simp only [List.length_cons, List.length_nil] at hc
    rw [hg _ (by omega), hg _ (by omega)]
    exact h c h0 (by omega)
  · intro c h0 hc hcp
    rw [List.length_append] at hc
    simp only [List.length_cons, List.length_nil] at hc
    omega

/-- The last goes. -/
theorem Ord.pop {L : List Node} (h : Ord L) (n : Nat) : Ord (L.take n) := by
  intro c h0 hc
  rw [List.length_take] at hc
  have hg : ∀ j, j < n → nd (L.take n) j = nd L j := by
    intro j hj
    simp only [nd, List.getD_eq_getElem?_getD, List.getElem?_take, hj, if_true]
  rw [hg _ (by omega), hg _ (by omega)]
  exact h c h0 (by omega)

/-- One and the last change places; the last goes. -/
theorem Ord.drop {L : List Node} (h : Ord L) {i : Nat} (hi : i + 1 < L.length) : W ((swapL L i (L.length - 1)).take (L.length - 1)) i := by
  have hg : ∀ j, j < L.length - 1 → j ≠ i → nd ((swapL L i (L.length - 1)).take (L.length - 1)) j = nd L j := by
    intro j hj hji
    have : nd ((swapL L i (L.length - 1)).take (L.length - 1)) j = nd (swapL L i (L.length - 1)) j := by
      simp only [nd, List.getD_eq_getElem?_getD, List.getElem?_take, hj, if_true]
    rw [this, swapL_nd L (by omega) (by omega), if_neg (by omega), if_neg hji]
  constructor
  · intro c h0 hc hci hcp
    rw [List.length_take, swapL_length] at hc
    rw [hg _ (by omega) hcp, hg _ (by omega) hci]
    exact h c h0 (by omega)
  · intro c h0 hc hcp hi0
    rw [List.length_take, swapL_length] at hc
    rw [hg _ (by omega) (by omega), hg _ (by omega) (by omega)]
    refine le_trans (h i hi0 (by omega)) ?_
    have := h c h0 (by omega)
    rwa [hcp] at this

/-! ### How many are compared -/

/-- How many binary digits a number has. -/
def bitsN (n : Nat) : Nat := if n = 0 then 0 else bitsN (n / 2) + 1
termination_by n
decreasing_by omega

theorem bitsN_zero : bitsN 0 = 0 := by rw [bitsN]; rfl
theorem bitsN_pos {n : Nat} (h : 0 < n) : bitsN n = bitsN (n / 2) + 1 := by rw [bitsN, if_neg (by omega)]

theorem bitsN_mono {m n : Nat} (h : m ≤ n) : bitsN m ≤ bitsN n := by
  revert m
  induction n using Nat.strongRecOn with
  | _ n ih =>
    intro m h
    by_cases h0 : m = 0
    · subst h0; rw [bitsN_zero]; omega
    · rw [bitsN_pos (n := m) (by omega), bitsN_pos (n := n) (by omega)]
      have := @ih (n / 2) (by omega) (m / 2) (by omega)
      omega

theorem bitsN_lt (n : Nat) : n < 2 ^ bitsN n := by
  induction n using Nat.strongRecOn with
  | _ n ih =>
    by_cases h0 : n = 0
    · subst h0; rw [bitsN_zero]; decide
    · rw [bitsN_pos (by omega), Nat.pow_succ]
      have := ih (n / 2) (by omega)
      omega

theorem upL_few : ∀ (f : Nat) (L : List Node) (i : Nat), (upL f L i).2 ≤ bitsN i := by
  intro f
  induction f with
  | zero => intro L i; exact Nat.zero_le _
  | succ f ih =>
    intro L i
    rw [upL]
    split
    · exact Nat.zero_le _
    · rename_i h0
      rw [bitsN_pos (by omega)]
      split
      · have := ih (swapL L i ((i - 1) / 2)) ((i - 1) / 2)
        have := bitsN_mono (m := (i - 1) / 2) (n := i / 2) (by omega)
        simp only
        omega
      · simp only; omega

theorem downL_few : ∀ (f : Nat) (L : List Node) (i e : Nat), L.length < (i + 1) * 2 ^ (e + 1) → (downL f L i).2 ≤ 2 * e := by
  intro f
  induction f with
  | zero => intro L i e h; exact Nat.zero_le _
  | succ f ih =>
    intro L i e h
    by_cases hs : L.length ≤ 2 * i + 1
    · rw [downL_stop hs]; exact Nat.zero_le _
    · obtain ⟨k, hk⟩ : ∃ k, k = if 2 * i + 2 < L.length ∧ lt (L.getD (2 * i + 2) (0, 0)) (L.getD (2 * i + 1) (0, 0)) = true then 2 * i + 2 else 2 * i + 1 := ⟨_, rfl⟩
      have hki : 2 * i + 1 ≤ k := by rw [hk]; split <;> omega
      have he : e ≠ 0 := by
        rintro rfl
        simp only [Nat.zero_add, Nat.pow_one] at h
        omega
      obtain ⟨e, rfl⟩ : ∃ e', e = e' + 1 := ⟨e - 1, by omega⟩
      rw [downL_step hs hk rfl]
      split
      · have hlt : (swapL L i k).length < (k + 1) * 2 ^ (e + 1) := by
          rw [swapL_length]
          refine Nat.lt_of_lt_of_le h ?_
          rw [Nat.pow_succ 2 (e + 1), Nat.mul_comm (2 ^ (e + 1)) 2, ← Nat.mul_assoc]
          exact Nat.mul_le_mul_right _ (by omega)
        have := ih (swapL L i k) k e hlt
        simp only
        split <;> omega
      · simp only; split <;> omega

theorem few_le (L L2 : List Node) (i j n : Nat) (h : L.length = n) (h2 : L2.length = n) (hi : i < n) : (downL n L2 j).2 + (upL i L i).2 ≤ 3 * bitsN n := by
  have h3 := upL_few i L i
  have h4 := bitsN_mono (m := i) (n := n) (by omega)
  have h5 := downL_few n L2 j (bitsN n) (by
    rw [h2]
    have := bitsN_lt n
    have h6 : 2 ^ bitsN n ≤ (j + 1) * 2 ^ (bitsN n + 1) := by
      rw [Nat.pow_succ]
      have : 2 ^ bitsN n * 1 ≤ 2 ^ bitsN n * (2 * (j + 1)) := Nat.mul_le_mul_left _ (by omega)
      calc 2 ^ bitsN n = 2 ^ bitsN n * 1 := by omega
        _ ≤ 2 ^ bitsN n * (2 * (j + 1)) := this
        _ = (j + 1) * (2 ^ bitsN n * 2) := by rw [← Nat.mul_assoc, Nat.mul_comm]
    omega)
  omega

end Go.Proofs.Ytaigiehdnhehnaa
