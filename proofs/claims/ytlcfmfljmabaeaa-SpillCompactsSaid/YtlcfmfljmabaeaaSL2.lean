/-
  The log's disk in plain terms: records in segments.
-/
import Derived.Test.YtlcfmfljmabaeaaSP11
set_option maxRecDepth 100000
set_option linter.unusedVariables false
set_option linter.unusedSimpArgs false
namespace Go.Proofs.Ytlcfmfljmabaeaa
open Go Go.Abs Go.Abs.K

abbrev flatR (L : List FRec) : List Int := (L.map recL).flatten
theorem flatR_cons (r : FRec) (L : List FRec) : flatR (r :: L) = recL r ++ flatR L := by simp [flatR]
theorem flatR_append (A B : List FRec) : flatR (A ++ B) = flatR A ++ flatR B := by simp only [flatR, List.map_append, List.flatten_append]

def Dead (t : List Int) : Prop := ∀ pre : List Int, stepL (pre ++ t) pre.length = none

theorem dead_nil : Dead [] := fun pre => step_end _ (by simp)

theorem take_lenAt {zs : List Int} {k i : Nat} (h : i + 2 ≤ k) : lenAt (zs.take k) i = lenAt zs i := by
  unfold lenAt
  rw [List.take_take]
  congr 4; omega

theorem dead_cut {r : FRec} (hr : r.sound = true) {j : Nat} (hj : j < (recL r).length) : Dead ((recL r).take j) := by
  intro pre
  have hl : lenAt (pre ++ recL r) pre.length = (bodyL r).length := by
    have hbs := body_small hr
    have e1 : pre ++ recL r = pre ++ (beL (bodyL r).length 2 ++ (beL (sumL (bodyL r)).toNat 4 ++ bodyL r)) := by simp [recL]
    unfold lenAt
    rw [e1, cut_mid _ _ _ rfl (by rw [beL_length]), valL_beL, Nat.mod_eq_of_lt (by omega)]
  have hrl := recL_length r
  have e2 : pre ++ (recL r).take j = (pre ++ recL r).take (pre.length + j) := by
    rw [List.take_append, List.take_of_length_le (l := pre) (by omega), Nat.add_sub_cancel_left]
  rw [e2]
  have hlen : ((pre ++ recL r).take (pre.length + j)).length = pre.length + j := by rw [List.length_take, List.length_append]; omega
  by_cases h6 : 6 ≤ j
  · unfold stepL
    rw [take_lenAt (by omega), hl, if_neg (by omega)]
  · exact step_end _ (by omega)

theorem scan_dead {t : List Int} (ht : Dead t) : ∀ (L : List FRec) (pre : List Int) (f : Nat), (∀ r ∈ L, r.sound = true ∧ r.Wide) → (flatR L ++ t).length ≤ f →
    scanL f (pre ++ (flatR L ++ t)) pre.length = (L, pre.length + (flatR L).length) := by
  intro L
  induction L with
  | nil =>
    intro pre f _ _
    have hs : stepL (pre ++ (flatR [] ++ t)) pre.length = none := by simpa [flatR] using ht pre
    cases f with
    | zero => simp [scanL, flatR]
    | succ f => simp only [scanL, hs]; simp [flatR]
  | cons r L ih =>
    intro pre f hL hf
    obtain ⟨hr, hw⟩ := hL r (List.mem_cons_self ..)
    have hrl := recL_length r
    rw [flatR_cons] at hf ⊢
    simp only [List.length_append] at hf
    obtain ⟨f, rfl⟩ : ∃ g, f = g + 1 := ⟨f - 1, by omega⟩
    have hst := step_rec hr hw pre (flatR L ++ t)
    have := ih (pre ++ recL r) f (fun r hr => hL r (List.mem_cons_of_mem _ hr)) (by rw [List.length_append]; omega)
    rw [List.length_append, List.append_assoc] at this
    simp only [List.append_assoc, scanL, hst, this, List.length_append]
    congr 1
    omega

abbrev Ent := Int × FRec
def recsAt (E : List Ent) (n : Int) : List FRec := (E.filter fun e => decide (e.1 = n)).map fun e => e.2
def cont (E : List Ent) (n : Int) : List Int := flatR (recsAt E n)
def szs (E : List Ent) : List (Int × Int) := E.map fun e => (e.1, ((recL e.2).length : Int))

theorem recsAt_append (A B : List Ent) (n : Int) : recsAt (A ++ B) n = recsAt A n ++ recsAt B n := by simp [recsAt]
theorem cont_append (A B : List Ent) (n : Int) : cont (A ++ B) n = cont A n ++ cont B n := by simp only [cont, recsAt_append, flatR_append]
theorem cont_nil (n : Int) : cont [] n = [] := rfl
theorem cont_cons (e : Ent) (B : List Ent) (n : Int) : cont (e :: B) n = (if e.1 = n then recL e.2 else []) ++ cont B n := by
  unfold cont recsAt
  by_cases h : e.1 = n
  · simp [h, flatR_cons]
  · simp [h]
theorem cont_one (n k : Int) (r : FRec) : cont [(n, r)] k = if n = k then recL r else [] := by rw [cont_cons, cont_nil, List.append_nil]
theorem cont_none {E : List Ent} {n : Int} (h : ∀ e ∈ E, e.1 ≠ n) : cont E n = [] := by
  unfold cont recsAt
  rw [List.filter_eq_nil_iff.2 (fun e he => by simpa using h e he)]
  rfl
theorem cont_filter (E : List Ent) (n k : Int) : cont (E.filter fun e => decide (e.1 ≠ n)) k = if k = n then [] else cont E k := by
  split
  · rename_i h; subst h
    exact cont_none fun e he => by simpa using (List.mem_filter.1 he).2
  · rename_i h
    unfold cont recsAt
    have : (E.filter fun e => decide (e.1 ≠ n)).filter (fun e => decide (e.1 = k)) = E.filter fun e => decide (e.1 = k) := by
      rw [List.filter_filter]
      refine List.filter_congr fun e he => ?_
      by_cases hk : e.1 = k
      · subst hk; simp [h]
      · simp [hk]
    rw [this]

structure Holds (D : DM) (E : List Ent) (m : Nat) (T : Int → List Int) : Prop where
  nodup : (D.F.map fun p => p.1).Nodup
  look : ∀ n, lookF D.F n = if n ∈ keysF D then some (cont E n ++ T n) else none
  mem : ∀ e ∈ E, e.1 ∈ keysF D
  sort : E.Pairwise fun a b => a.1 ≤ b.1
  ok : ∀ e ∈ E, e.2.sound = true ∧ e.2.Wide
  tail : ∀ n, Dead (T n)
  off : ∀ n, n ∉ keysF D → T n = []
  le : m ≤ E.length
  loose : D.loose = szs (E.drop (E.length - m))
  clean : ∀ e ∈ E.drop (E.length - m), T e.1 = []

theorem mem_keysF {D : DM} {n : Int} : n ∈ keysF D ↔ (lookF D.F n).isSome = true := by
  rw [(sortZ_perm _).mem_iff]
  cases h : lookF D.F n with
  | none =>
    rw [lookF_none] at h
    simp only [Option.isSome_none, Bool.false_eq_true, iff_false]
    intro hm
    obtain ⟨p, hp, he⟩ := List.mem_map.1 hm
    exact h p hp he
  | some b => simp only [Option.isSome_some, iff_true]; exact List.mem_map.2 ⟨_, lookF_mem h, rfl⟩

theorem keysF_sorted {D : DM} (h : (D.F.map fun p => p.1).Nodup) : (keysF D).Pairwise (· < ·) := by
  have h1 := sortZ_sorted (D.F.map fun p => p.1)
  have h2 : (keysF D).Nodup := (sortZ_perm _).nodup_iff.2 h
  exact (h1.and h2).imp fun ⟨a, b⟩ => by omega

theorem Holds.read {D : DM} {E : List Ent} {m : Nat} {T : Int → List Int} (h : Holds D E m T) (n : Int) : readB D n = cont E n ++ T n := by
  unfold readB
  rw [h.look]
  split
  · rfl
  · rename_i hn
    rw [h.off n hn, cont_none fun e he hc => hn (by rw [← hc]; exact h.mem e he)]
    rfl
theorem Holds.scan {D : DM} {E : List Ent} {m : Nat} {T : Int → List Int} (h : Holds D E m T) (n : Int) : scanD D n = (recsAt E n, (cont E n).length) := by
  unfold scanD
  rw [h.read]
  have := scan_dead (h.tail n) (recsAt E n) [] (cont E n ++ T n).length (fun r hr => ?_) (Nat.le_refl _)
  · simpa [cont] using this
  · obtain ⟨e, he, rfl⟩ := List.mem_map.1 hr
    exact h.ok e (List.mem_filter.1 he).1

theorem Holds.congr {D D' : DM} {E : List Ent} {m : Nat} {T : Int → List Int} (h : Holds D E m T) (hF : D'.F = D.F) (hl : D'.loose = D.loose) : Holds D' E m T := by
  have hk : keysF D' = keysF D := by unfold keysF; rw [hF]
  refine ⟨by rw [hF]; exact h.nodup, fun n => by rw [hF, hk]; exact h.look n, by rw [hk]; exact h.mem, h.sort, h.ok, h.tail, by rw [hk]; exact h.off, h.le, by rw [hl]; exact h.loose, h.clean⟩

theorem Holds.sync {D D' : DM} {E : List Ent} {m : Nat} {T : Int → List Int} (h : Holds D E m T) (hF : D'.F = D.F) (hl : D'.loose = []) : Holds D' E 0 T := by
  have hk : keysF D' = keysF D := by unfold keysF; rw [hF]
  refine ⟨by rw [hF]; exact h.nodup, fun n => by rw [hF, hk]; exact h.look n, by rw [hk]; exact h.mem, h.sort, h.ok, h.tail, by rw [hk]; exact h.off, Nat.zero_le _, by rw [hl]; simp [szs], by simp⟩

theorem mem_putF {F : List (Int × List Int)} {n k : Int} {b : List Int} : (lookF (putF F n b) k).isSome = true ↔ k = n ∨ (lookF F k).isSome = true := by
  rw [lookF_put]
  by_cases h : k = n
  · simp [h]
  · simp [h]
theorem putF_nodup {F : List (Int × List Int)} (h : (F.map fun p => p.1).Nodup) (n : Int) (b : List Int) : ((putF F n b).map fun p => p.1).Nodup := by
  rw [putF_keys]
  split
  · exact h
  · rename_i hs
    have hs : lookF F n = none := by simpa using hs
    rw [lookF_none] at hs
    refine List.nodup_append.2 ⟨h, by simp, fun a ha b hb => ?_⟩
    obtain ⟨p, hp, rfl⟩ := List.mem_map.1 ha
    rw [List.mem_singleton.1 hb]
    exact hs p hp

theorem Holds.append {D D' : DM} {E : List Ent} {m : Nat} {T : Int → List Int} {n : Int} {r : FRec} (h : Holds D E m T) (hr : r.sound = true ∧ r.Wide) (hn : ∀ e ∈ E, e.1 ≤ n) (hT : T n = [])
    (hF : D'.F = putF D.F n (readB D n ++ recL r)) (hl : D'.loose = D.loose ++ [(n, ((recL r).length : Int))]) : Holds D' (E ++ [(n, r)]) (m + 1) T := by
  have hk : ∀ k, k ∈ keysF D' ↔ k = n ∨ k ∈ keysF D := fun k => by rw [mem_keysF, mem_keysF, hF, mem_putF]
  have hd : (E ++ [(n, r)]).drop ((E ++ [(n, r)]).length - (m + 1)) = E.drop (E.length - m) ++ [(n, r)] := by
    have := h.le
    rw [List.length_append, List.drop_append_of_le_length (by simp)]
    congr 2
    simp
  refine ⟨by rw [hF]; exact putF_nodup h.nodup _ _, fun k => ?_, fun e he => ?_, ?_, fun e he => ?_, h.tail, fun k hk' => ?_, ?_, ?_, fun e he => ?_⟩
  · rw [hF, lookF_put, cont_append, cont_one]
    by_cases hkn : k = n
    · subst hkn
      rw [if_pos rfl, if_pos ((hk k).2 (.inl rfl)), if_pos rfl, h.read, hT, List.append_nil, List.append_nil]
    · have hnk : ¬ n = k := fun e => hkn e.symm
      rw [if_neg hkn, if_neg hnk, List.append_nil, h.look k]
      by_cases hkk : k ∈ keysF D
      · rw [if_pos hkk, if_pos ((hk k).2 (.inr hkk))]
      · rw [if_neg hkk, if_neg (fun e => ((hk k).1 e).elim hkn hkk)]
  · rcases List.mem_append.1 he with he | he
    · exact (hk _).2 (.inr (h.mem e he))
    · rw [List.mem_singleton.1 he]; exact (hk _).2 (.inl rfl)
  · refine List.pairwise_append.2 ⟨h.sort, List.pairwise_singleton .., fun a ha b hb => ?_⟩
    rw [List.mem_singleton.1 hb]; exact hn a ha
  · rcases List.mem_append.1 he with he | he
    · exact h.ok e he
    · rw [List.mem_singleton.1 he]; exact hr
  · exact h.off k fun hx => hk' ((hk k).2 (.inr hx))
  · have := h.le; simp; omega
  · rw [hl, hd, h.loose, szs, szs, List.map_append]; rfl
  · rw [hd] at he
    rcases List.mem_append.1 he with he | he
    · exact h.clean e he
    · rw [List.mem_singleton.1 he]; exact hT

theorem delF_nodup {F : List (Int × List Int)} (h : (F.map fun p => p.1).Nodup) (n : Int) : ((delF F n).map fun p => p.1).Nodup := ((delF_sub F n).map _).nodup h

theorem Holds.drop {D D' : DM} {E : List Ent} {m : Nat} {T : Int → List Int} {n : Int} (h : Holds D E m T) (hF : D'.F = delF D.F n) (hl : D'.loose = D.loose.filter fun w => !(w.1 == n)) :
    Holds D' (E.filter fun e => decide (e.1 ≠ n)) ((E.drop (E.length - m)).filter fun e => decide (e.1 ≠ n)).length (fun k => if k = n then [] else T k) := by
  have hk : ∀ k, k ∈ keysF D' ↔ k ≠ n ∧ k ∈ keysF D := fun k => by
    rw [mem_keysF, mem_keysF, hF, lookF_del h.nodup]
    by_cases hkn : k = n
    · simp [hkn]
    · simp [hkn]
  have hE : (E.filter fun e => decide (e.1 ≠ n)) = ((E.take (E.length - m)).filter fun e => decide (e.1 ≠ n)) ++ ((E.drop (E.length - m)).filter fun e => decide (e.1 ≠ n)) := by
    rw [← List.filter_append, List.take_append_drop]
  have hd : (E.filter fun e => decide (e.1 ≠ n)).drop ((E.filter fun e => decide (e.1 ≠ n)).length - ((E.drop (E.length - m)).filter fun e => decide (e.1 ≠ n)).length) = (E.drop (E.length - m)).filter fun e => decide (e.1 ≠ n) := by
    rw [hE, List.length_append, Nat.add_sub_cancel, List.drop_left']
    rfl
  refine ⟨by rw [hF]; exact delF_nodup h.nodup _, fun k => ?_, fun e he => ?_, h.sort.filter _, fun e he => h.ok e (List.mem_filter.1 he).1, fun k => ?_, fun k hk' => ?_, ?_, ?_, fun e he => ?_⟩
  · rw [hF, lookF_del h.nodup, cont_filter]
    by_cases hkn : k = n
    · rw [if_pos hkn, if_neg (fun e => ((hk k).1 e).1 hkn)]
    · rw [if_neg hkn, if_neg hkn, if_neg hkn, h.look k]
      by_cases hkk : k ∈ keysF D
      · rw [if_pos hkk, if_pos ((hk k).2 ⟨hkn, hkk⟩)]
      · rw [if_neg hkk, if_neg (fun e => hkk ((hk k).1 e).2)]
  · obtain ⟨h1, h2⟩ := List.mem_filter.1 he
    exact (hk _).2 ⟨by simpa using h2, h.mem e h1⟩
  · show Dead (if k = n then [] else T k)
    split
    · exact dead_nil
    · exact h.tail k
  · show (if k = n then [] else T k) = []
    split
    · rfl
    · rename_i hkn
      exact h.off k fun hx => hk' ((hk k).2 ⟨hkn, hx⟩)
  · rw [hE, List.length_append]; omega
  · rw [hl, hd, h.loose]
    unfold szs
    rw [List.filter_map]
    congr 1
    refine List.filter_congr fun e he => ?_
    simp only [Function.comp]
    by_cases hx : e.1 = n <;> simp [hx]
  · rw [hd] at he
    obtain ⟨h1, h2⟩ := List.mem_filter.1 he
    have h2 : e.1 ≠ n := by simpa using h2
    simp only [if_neg h2]
    exact h.clean e h1
end Go.Proofs.Ytlcfmfljmabaeaa


/-
  A crash in plain terms; what Open reads.
-/
set_option maxRecDepth 100000
set_option linter.unusedVariables false
set_option linter.unusedSimpArgs false
namespace Go.Proofs.Ytlcfmfljmabaeaa
open Go Go.Abs Go.Abs.K

def lostW : List (Int × Int) → Int → Int → Nat
  | [], _, _ => 0
  | w :: L, k, g => (if w.1 = g then (max (w.2 - k) 0).toNat else 0) + lostW L (max (k - w.2) 0) g

theorem crash_look : ∀ (L : List (Int × Int)) (k : Int) (F : List (Int × List Int)) (g : Int), (∀ w ∈ L, (lookF F w.1).isSome = true) →
    lookF (crashF L k F) g = (lookF F g).map fun b => b.take (b.length - lostW L k g) := by
  intro L
  induction L with
  | nil => intro k F g h; simp [crashF, lostW]
  | cons w L ih =>
    intro k F g h
    simp only [crashF]
    rw [ih]
    · obtain ⟨b, hb⟩ := Option.isSome_iff_exists.1 (h w (List.mem_cons_self ..))
      rw [lookF_put]
      simp only [lostW]
      by_cases hg : g = w.1
      · subst hg
        rw [if_pos rfl, if_pos rfl, hb, Option.getD_some, Option.map_some, Option.map_some]
        congr 1
        rw [List.length_take, List.take_take]
        congr 1
        omega
      · have hg' : ¬ w.1 = g := fun e => hg e.symm
        rw [if_neg hg, if_neg hg', Nat.zero_add]
    · intro v hv
      rw [mem_putF]
      exact .inr (h v (List.mem_cons_of_mem _ hv))

theorem crash_keys : ∀ (L : List (Int × Int)) (k : Int) (F : List (Int × List Int)), (∀ w ∈ L, (lookF F w.1).isSome = true) → (crashF L k F).map (fun p => p.1) = F.map fun p => p.1 := by
  intro L
  induction L with
  | nil => intro k F h; rfl
  | cons w L ih =>
    intro k F h
    simp only [crashF]
    rw [ih, putF_keys, if_pos (h w (List.mem_cons_self ..))]
    intro v hv
    rw [mem_putF]
    exact .inr (h v (List.mem_cons_of_mem _ hv))

theorem lost_all : ∀ (M : List Ent) (g : Int), lostW (szs M) 0 g = (cont M g).length := by
  intro M
  induction M with
  | nil => intro g; rfl
  | cons e M ih =>
    intro g
    have h1 := ih g
    have h0 : max ((0 : Int) - ((recL e.2).length : Int)) 0 = 0 := by omega
    simp only [szs, List.map_cons, lostW, h0, cont_cons, List.length_append]
    rw [show lostW (List.map (fun e => (e.1, ((recL e.2).length : Int))) M) 0 g = lostW (szs M) 0 g from rfl, h1]
    split
    · omega
    · simp

theorem lost_split : ∀ (M : List Ent) (k : Int), 0 ≤ k → ∃ M1 M2, M = M1 ++ M2 ∧
    ((M2 = [] ∧ ∀ g, lostW (szs M) k g = 0) ∨ ∃ x M3 j, M2 = x :: M3 ∧ j < (recL x.2).length ∧ ∀ g, lostW (szs M) k g = (if x.1 = g then (recL x.2).length - j else 0) + (cont M3 g).length) := by
  intro M
  induction M with
  | nil => intro k hk; exact ⟨[], [], rfl, .inl ⟨rfl, fun g => rfl⟩⟩
  | cons e M ih =>
    intro k hk
    by_cases hc : ((recL e.2).length : Int) ≤ k
    · obtain ⟨M1, M2, h1, h2⟩ := ih (k - (recL e.2).length) (by omega)
      have hz : ∀ g, lostW (szs (e :: M)) k g = lostW (szs M) (k - (recL e.2).length) g := fun g => by
        have a1 : (max (((recL e.2).length : Int) - k) 0).toNat = 0 := by omega
        have a2 : max (k - ((recL e.2).length : Int)) 0 = k - (recL e.2).length := by omega
        simp only [szs, List.map_cons, lostW, a1, a2]
        split <;> simp
      refine ⟨e :: M1, M2, by rw [h1]; rfl, ?_⟩
      rcases h2 with ⟨rfl, h2⟩ | ⟨x, M3, j, rfl, hj, h2⟩
      · exact .inl ⟨rfl, fun g => by rw [hz, h2]⟩
      · exact .inr ⟨x, M3, j, rfl, hj, fun g => by rw [hz, h2]⟩
    · refine ⟨[], e :: M, rfl, .inr ⟨e, M, k.toNat, rfl, by omega, fun g => ?_⟩⟩
      have a2 : max (k - ((recL e.2).length : Int)) 0 = 0 := by omega
      simp only [szs, List.map_cons, lostW, a2]
      rw [show lostW (List.map (fun e => (e.1, ((recL e.2).length : Int))) M) 0 g = lostW (szs M) 0 g from rfl, lost_all]
      split <;> omega

theorem Holds.crash {D : DM} {E : List Ent} {m : Nat} {T : Int → List Int} (h : Holds D E m T) {k : Int} (hk : 0 ≤ k) :
    ∃ j T', j ≤ m ∧ Holds ⟨D.most, 0, 0, crashF D.loose k D.F, []⟩ (E.take (E.length - m + j)) 0 T' ∧ keysF ⟨D.most, 0, 0, crashF D.loose k D.F, []⟩ = keysF D := by
  have hs : ∀ w ∈ D.loose, (lookF D.F w.1).isSome = true := fun w hw => by
    rw [h.loose] at hw
    obtain ⟨e, he, rfl⟩ := List.mem_map.1 hw
    exact mem_keysF.1 (h.mem e (List.mem_of_mem_drop he))
  have hkeys : keysF ⟨D.most, 0, 0, crashF D.loose k D.F, []⟩ = keysF D := by
    unfold keysF; simp only; rw [crash_keys _ _ _ hs]
  have hlook := fun n => crash_look D.loose k D.F n hs
  obtain ⟨M1, M2, hM, hcase⟩ := lost_split (E.drop (E.length - m)) k hk
  have hlen : (E.drop (E.length - m)).length = m := by rw [List.length_drop]; have := h.le; omega
  have hM1 : M1.length ≤ m := by rw [← hlen, hM, List.length_append]; omega
  have hsub : E = E.take (E.length - m) ++ M1 ++ M2 := by rw [List.append_assoc, ← hM, List.take_append_drop]
  have htk : E.take (E.length - m + M1.length) = E.take (E.length - m) ++ M1 := by
    rw [List.take_add, hM, List.take_left']
    rfl
  have hsubl : (E.take (E.length - m) ++ M1).Sublist E := by rw [← htk]; exact List.take_sublist ..
  rcases hcase with ⟨rfl, hl⟩ | ⟨x, M3, j, rfl, hj, hl⟩
  · refine ⟨M1.length, T, hM1, ?_, hkeys⟩
    rw [htk]
    have hE : E = E.take (E.length - m) ++ M1 := by simpa using hsub
    rw [← hE]
    refine ⟨by simp only; rw [crash_keys _ _ _ hs]; exact h.nodup, fun n => ?_, fun e he => by rw [hkeys]; exact h.mem e he, h.sort, h.ok, h.tail, fun n hn => h.off n (by rw [← hkeys]; exact hn), Nat.zero_le _, by simp [szs], fun e he => by rw [Nat.sub_zero, List.drop_length] at he; cases he⟩
    simp only
    rw [hlook, hkeys, h.loose, hl, h.look]
    split
    · rw [Option.map_some, Nat.sub_zero, List.take_length]
    · rfl
  · refine ⟨M1.length, fun n => if n = x.1 then (recL x.2).take j else T n, hM1, ?_, hkeys⟩
    rw [htk]
    have hxE : x ∈ E := by rw [hsub]; simp
    have hclean : ∀ e ∈ x :: M3, T e.1 = [] := fun e he => h.clean e (by rw [hM]; exact List.mem_append_right _ he)
    refine ⟨by simp only; rw [crash_keys _ _ _ hs]; exact h.nodup, fun n => ?_, fun e he => by rw [hkeys]; exact h.mem e (hsubl.subset he), h.sort.sublist hsubl, fun e he => h.ok e (hsubl.subset he), fun n => ?_, fun n hn => ?_, Nat.zero_le _, by simp [szs], fun e he => by rw [Nat.sub_zero, List.drop_length] at he; cases he⟩
    · simp only
      rw [hlook, hkeys, h.loose, hl, h.look]
      by_cases hn : n ∈ keysF D
      · rw [if_pos hn, if_pos hn, Option.map_some]
        congr 1
        conv => lhs; rw [hsub]
        rw [cont_append _ (x :: M3), cont_cons]
        by_cases hx : x.1 = n
        · have hT : T n = [] := by rw [← hx]; exact hclean x (List.mem_cons_self ..)
          rw [if_pos hx, if_pos hx, if_pos hx.symm, hT, List.append_nil]
          have e1 : (cont (E.take (E.length - m) ++ M1) n ++ (recL x.2 ++ cont M3 n)).length - ((recL x.2).length - j + (cont M3 n).length) = (cont (E.take (E.length - m) ++ M1) n).length + j := by
            simp only [List.length_append]; omega
          rw [e1, List.take_append, List.take_of_length_le (l := cont (E.take (E.length - m) ++ M1) n) (by omega), Nat.add_sub_cancel_left, List.take_append_of_le_length (by omega)]
        · have hx' : ¬ n = x.1 := fun e => hx e.symm
          rw [if_neg hx, if_neg hx, if_neg hx', List.nil_append, Nat.zero_add]
          by_cases h0 : ∃ e ∈ M3, e.1 = n
          · obtain ⟨e, he, hen⟩ := h0
            have hT : T n = [] := by rw [← hen]; exact hclean e (List.mem_cons_of_mem _ he)
            rw [hT, List.append_nil, List.append_nil, List.length_append, Nat.add_sub_cancel, List.take_left']
            rfl
          · have : cont M3 n = [] := cont_none fun e he hc => h0 ⟨e, he, hc⟩
            rw [this, List.append_nil, List.length_nil, Nat.sub_zero, List.take_length]
      · rw [if_neg hn, if_neg hn]; rfl
    · show Dead (if n = x.1 then (recL x.2).take j else T n)
      split
      · exact dead_cut (h.ok x hxE).1 hj
      · exact h.tail n
    · rw [hkeys] at hn
      show (if n = x.1 then (recL x.2).take j else T n) = []
      rw [if_neg (fun e => hn (by rw [e]; exact h.mem x hxE))]
      exact h.off n hn

theorem sumW_szs : ∀ (M : List Ent) (g : Int), sumW (szs M) g = (cont M g).length := by
  intro M
  induction M with
  | nil => intro g; rfl
  | cons e M ih =>
    intro g
    simp only [szs, List.map_cons, sumW, cont_cons, List.length_append]
    rw [show sumW (List.map (fun e => (e.1, ((recL e.2).length : Int))) M) g = sumW (szs M) g from rfl, ih]
    split
    · simp
    · simp

theorem Holds.looseOK {D : DM} {E : List Ent} {m : Nat} {T : Int → List Int} (h : Holds D E m T) : LooseOK D.F D.loose := by
  refine ⟨fun w hw => ?_, fun g bs hg => ?_⟩
  · rw [h.loose] at hw
    obtain ⟨e, he, rfl⟩ := List.mem_map.1 hw
    exact ⟨by simp, mem_keysF.1 (h.mem e (List.mem_of_mem_drop he))⟩
  · rw [h.loose, sumW_szs]
    rw [h.look] at hg
    split at hg
    · cases hg
      have : cont E g = cont (E.take (E.length - m)) g ++ cont (E.drop (E.length - m)) g := by rw [← cont_append, List.take_append_drop]
      rw [this]
      simp only [List.length_append]; omega
    · cases hg

/-! ### what Open reads -/
theorem split_min {E : List Ent} (hs : E.Pairwise fun a b => a.1 ≤ b.1) {n : Int} (hn : ∀ e ∈ E, n ≤ e.1) : (E.filter fun e => decide (e.1 = n)) ++ (E.filter fun e => decide (e.1 ≠ n)) = E := by
  induction E with
  | nil => rfl
  | cons e E ih =>
    have hs' := List.pairwise_cons.1 hs
    by_cases he : e.1 = n
    · rw [List.filter_cons_of_pos (by simpa using he), List.filter_cons_of_neg (by simpa using he), List.cons_append, ih hs'.2 fun e he => hn e (List.mem_cons_of_mem _ he)]
    · have h1 : (E.filter fun e => decide (e.1 = n)) = [] := List.filter_eq_nil_iff.2 fun x hx => by
        have := hs'.1 x hx
        have := hn e (List.mem_cons_self ..)
        simp only [decide_eq_true_eq]; omega
      have h2 : (E.filter fun e => decide (e.1 ≠ n)) = E := List.filter_eq_self.2 fun x hx => by
        have := hs'.1 x hx
        have := hn e (List.mem_cons_self ..)
        simp only [decide_eq_true_eq]; omega
      rw [List.filter_cons_of_neg (by simpa using he), List.filter_cons_of_pos (by simpa using he), h1, h2]
      rfl

theorem flat_keys : ∀ (N : List Int) (E : List Ent), N.Pairwise (· < ·) → E.Pairwise (fun a b => a.1 ≤ b.1) → (∀ e ∈ E, e.1 ∈ N) → N.flatMap (fun n => recsAt E n) = E.map fun e => e.2 := by
  intro N
  induction N with
  | nil =>
    intro E _ _ h
    cases E with
    | nil => rfl
    | cons e E => cases h e (List.mem_cons_self ..)
  | cons n N ih =>
    intro E hN hE h
    have hN' := List.pairwise_cons.1 hN
    have hmin : ∀ e ∈ E, n ≤ e.1 := fun e he => by
      rcases List.mem_cons.1 (h e he) with h | h
      · omega
      · have := hN'.1 _ h; omega
    have hsp := split_min hE hmin
    rw [List.flatMap_cons]
    have h2 : N.flatMap (fun k => recsAt E k) = N.flatMap (fun k => recsAt (E.filter fun e => decide (e.1 ≠ n)) k) := by
      rw [List.flatMap_def, List.flatMap_def]
      congr 1
      refine List.map_congr_left fun k hk => ?_
      have := hN'.1 k hk
      unfold recsAt
      rw [List.filter_filter]
      congr 1
      refine List.filter_congr fun e he => ?_
      by_cases hx : e.1 = k
      · simp only [hx, decide_true, Bool.true_and]
        have : k ≠ n := by omega
        simp [this]
      · simp [hx]
    rw [h2, ih _ hN'.2 (hE.filter _) fun e he => ?_]
    · conv => rhs; rw [← hsp]
      rw [List.map_append]; rfl
    · obtain ⟨h1, h3⟩ := List.mem_filter.1 he
      rcases List.mem_cons.1 (h e h1) with h | h
      · simp [h] at h3
      · exact h

theorem applyAll_last (rs : List FRec) (L : LM) (x : Int) : applyAll { L with last := x } rs = { applyAll L rs with last := x } := by
  induction rs generalizing L with
  | nil => rfl
  | cons r rs ih =>
    simp only [applyAll, List.foldl_cons] at *
    exact ih (applyL L r)
theorem applyAll_append (A B : List FRec) (L : LM) : applyAll L (A ++ B) = applyAll (applyAll L A) B := by simp [applyAll]
theorem applyAll_most (rs : List FRec) (L : LM) : (applyAll L rs).most = L.most := by
  induction rs generalizing L with
  | nil => rfl
  | cons r rs ih => simp only [applyAll, List.foldl_cons] at *; rw [ih]; rfl

def lastN (T : Int → List Int) (d : Int) : List Int → Int
  | [] => d
  | n :: N => lastN T (if T n = [] then n else n + 1) N

theorem open_fold {D : DM} {E : List Ent} {m : Nat} {T : Int → List Int} (h : Holds D E m T) : ∀ (N : List Int) (L : LM),
    N.foldl (openStep D) L = { applyAll L (N.flatMap fun n => recsAt E n) with last := lastN T L.last N } := by
  intro N
  induction N with
  | nil => intro L; rfl
  | cons n N ih =>
    intro L
    rw [List.foldl_cons, ih]
    have hst : openStep D L n = { applyAll L (recsAt E n) with last := if T n = [] then n else n + 1 } := by
      unfold openStep
      rw [h.scan, h.read]
      simp only [List.length_append]
      by_cases hT : T n = []
      · rw [if_pos hT, if_neg (by rw [hT]; simp)]
      · rw [if_neg hT, if_pos (by have := List.length_pos_iff.2 hT; omega)]
    rw [hst, applyAll_last, List.flatMap_cons, applyAll_append]
    rfl

def L0 (segs : Int) : LM := ⟨segs, 0, 1, [], []⟩
theorem open_holds {D : DM} {E : List Ent} {m : Nat} {T : Int → List Int} (h : Holds D E m T) (segs : Int) : openM D segs = { applyAll (L0 segs) (E.map fun e => e.2) with last := lastN T 0 (keysF D) } := by
  unfold openM
  rw [open_fold h, flat_keys _ _ (keysF_sorted h.nodup) h.sort h.mem]
  rfl

theorem lastN_eq (T : Int → List Int) : ∀ (N : List Int) (d : Int), N.Pairwise (· < ·) → N ≠ [] → ∃ x ∈ N, (∀ n ∈ N, n ≤ x) ∧ lastN T d N = if T x = [] then x else x + 1 := by
  intro N
  induction N with
  | nil => intro d _ h; exact absurd rfl h
  | cons n N ih =>
    intro d hp _
    have hp' := List.pairwise_cons.1 hp
    by_cases hN : N = []
    · subst hN
      exact ⟨n, by simp, by simp, rfl⟩
    · obtain ⟨x, h1, h2, h3⟩ := ih (if T n = [] then n else n + 1) hp'.2 hN
      refine ⟨x, List.mem_cons_of_mem _ h1, fun k hk => ?_, h3⟩
      rcases List.mem_cons.1 hk with rfl | hk
      · have := hp'.1 x h1; omega
      · exact h2 k hk

theorem lastN_spec {D : DM} {E : List Ent} {m : Nat} {T : Int → List Int} (h : Holds D E m T) : (∀ n ∈ keysF D, n ≤ lastN T 0 (keysF D)) ∧ T (lastN T 0 (keysF D)) = [] ∧ ∀ B, 0 ≤ B → (∀ n ∈ keysF D, n ≤ B) → lastN T 0 (keysF D) ≤ B + 1 := by
  by_cases hN : keysF D = []
  · rw [hN]
    refine ⟨by simp, h.off _ (by rw [hN]; simp), fun B hB _ => ?_⟩
    show (0 : Int) ≤ B + 1
    omega
  · obtain ⟨x, h1, h2, h3⟩ := lastN_eq T (keysF D) 0 (keysF_sorted h.nodup) hN
    rw [h3]
    by_cases hT : T x = []
    · rw [if_pos hT]
      exact ⟨h2, hT, fun B _ hB => by have := hB x h1; omega⟩
    · rw [if_neg hT]
      refine ⟨fun n hn => by have := h2 n hn; omega, h.off _ fun hx => ?_, fun B _ hB => by have := hB x h1; omega⟩
      have := h2 _ hx; omega
end Go.Proofs.Ytlcfmfljmabaeaa
