/-
  SpillLasts, in plain terms: what is sure, and what ever was.
-/
import Derived.Test.YtlcfmfljmabaeaaSL6
set_option maxRecDepth 100000
set_option linter.unusedVariables false
set_option linter.unusedSimpArgs false
namespace Go.Proofs.Ytlcfmfljmabaeaa
open Go Go.Abs Go.Abs.K

def liveF (R : List FRec) (id : Int) : Option RQ := R.foldl (stepI id) none

structure PA (b : Nat) (N : Int) (sure ever : List RQ) (R : List FRec) (m : Nat) : Prop where
  sure : ∀ j, j ≤ m → ∀ r ∈ sure, liveF (R.take (R.length - j)) r.id = some r
  ever : ∀ c ∈ R, c.kind = 1 → c.rq ∈ ever
  good : ∀ c ∈ R, GoodR b N c

def Keeps (sure : List RQ) (c : FRec) : Prop := ∀ r ∈ sure, c.id = r.id → (c.kind = 1 → c.rq = r) ∧ c.kind ≠ 2

theorem keeps_step {sure : List RQ} {c : FRec} (h : Keeps sure c) {r : RQ} (hr : r ∈ sure) : stepI r.id (some r) c = some r := by
  unfold stepI
  by_cases h1 : c.kind = 1
  · rw [if_pos h1]
    split
    · rename_i he; rw [(h r hr he.symm).1 h1]
    · rfl
  · rw [if_neg h1]
    by_cases h2 : c.kind = 2
    · rw [if_pos h2]
      split
      · rename_i he; exact absurd h2 (h r hr he.symm).2
      · rfl
    · rw [if_neg h2]

theorem keeps_fold {sure : List RQ} {r : RQ} (hr : r ∈ sure) : ∀ {C : List FRec}, (∀ c ∈ C, Keeps sure c) → C.foldl (stepI r.id) (some r) = some r := by
  intro C
  induction C with
  | nil => intro _; rfl
  | cons c C ih =>
    intro h
    rw [List.foldl_cons, keeps_step (h c (List.mem_cons_self ..)) hr]
    exact ih fun x hx => h x (List.mem_cons_of_mem _ hx)

theorem put_fold {sure : List RQ} {r : RQ} (hr : r ∈ sure) : ∀ {C : List FRec} (o : Option RQ), (∀ c ∈ C, Keeps sure c) → (∃ c ∈ C, c.kind = 1 ∧ c.id = r.id) → C.foldl (stepI r.id) o = some r := by
  intro C
  induction C with
  | nil => intro o _ ⟨c, hc, _⟩; cases hc
  | cons c C ih =>
    intro o h hx
    rw [List.foldl_cons]
    by_cases h1 : c.kind = 1 ∧ c.id = r.id
    · have : stepI r.id o c = some r := by
        unfold stepI
        rw [if_pos h1.1, if_pos h1.2.symm, (h c (List.mem_cons_self ..) r hr h1.2).1 h1.1]
      rw [this]
      exact keeps_fold hr fun x hx => h x (List.mem_cons_of_mem _ hx)
    · refine ih _ (fun x hx => h x (List.mem_cons_of_mem _ hx)) ?_
      obtain ⟨x, hx, hx1⟩ := hx
      rcases List.mem_cons.1 hx with rfl | hx
      · exact absurd hx1 h1
      · exact ⟨x, hx, hx1⟩

theorem PA.app {b : Nat} {N : Int} {sure ever : List RQ} {R : List FRec} {m : Nat} {c : FRec} (h : PA b N sure ever R m) (hk : Keeps sure c) (he : c.kind = 1 → c.rq ∈ ever) (hg : GoodR b N c) : PA b N sure ever (R ++ [c]) (m + 1) := by
  refine ⟨fun j hj r hr => ?_, fun x hx hk1 => ?_, fun x hx => ?_⟩
  · cases j with
    | zero =>
      rw [Nat.sub_zero, List.take_length, liveF, List.foldl_append]
      have := h.sure 0 (Nat.zero_le _) r hr
      rw [Nat.sub_zero, List.take_length, liveF] at this
      rw [this]
      exact keeps_step hk hr
    | succ j =>
      have : (R ++ [c]).take ((R ++ [c]).length - (j + 1)) = R.take (R.length - j) := by
        rw [List.length_append, List.length_singleton, List.take_append_of_le_length (by omega)]
        congr 1; omega
      rw [this]
      exact h.sure j (by omega) r hr
  · rcases List.mem_append.1 hx with hx | hx
    · exact h.ever x hx hk1
    · rw [List.mem_singleton.1 hx] at hk1 ⊢; exact he hk1
  · rcases List.mem_append.1 hx with hx | hx
    · exact h.good x hx
    · rw [List.mem_singleton.1 hx]; exact hg

theorem PA.sync {b : Nat} {N : Int} {sure ever : List RQ} {R : List FRec} {m : Nat} (h : PA b N sure ever R m) : PA b N sure ever R 0 := ⟨fun j hj => h.sure j (by omega), h.ever, h.good⟩
theorem PA.cut {b : Nat} {N : Int} {sure ever : List RQ} {R : List FRec} {m j : Nat} (h : PA b N sure ever R m) (hj : j ≤ m) (hm : m ≤ R.length) : PA b N sure ever (R.take (R.length - m + j)) 0 := by
  refine ⟨fun i hi r hr => ?_, fun c hc => h.ever c (List.mem_of_mem_take hc), fun c hc => h.good c (List.mem_of_mem_take hc)⟩
  have h0 : i = 0 := by omega
  subst h0
  rw [Nat.sub_zero, List.take_length]
  have := h.sure (m - j) (by omega) r hr
  rw [show R.length - (m - j) = R.length - m + j by omega] at this
  exact this
theorem PA.mono {b : Nat} {N M : Int} {sure sure' ever ever' : List RQ} {R : List FRec} {m : Nat} (h : PA b N sure ever R m) (hs : ∀ r ∈ sure', r ∈ sure) (he : ∀ r ∈ ever, r ∈ ever') (hN : N ≤ M) : PA b M sure' ever' R m :=
  ⟨fun j hj r hr => h.sure j hj r (hs r hr), fun c hc hk => he _ (h.ever c hc hk), fun c hc => (h.good c hc).up hN⟩

structure LA (sure ever : List RQ) (L : LM) : Prop where
  sure : ∀ r ∈ sure, lookG L.live r.id = some r
  ever : ∀ q ∈ L.live, q.2 ∈ ever
  idl : ∀ q ∈ L.live, q.1 < L.next

theorem LA.last {sure ever : List RQ} {L L' : LM} (h : LA sure ever L) (hl : L' = { L with last := L'.last }) : LA sure ever L' := by
  obtain ⟨a1, a2, a3, a4⟩ := lm_last hl
  exact ⟨by rw [a2]; exact h.sure, by rw [a2]; exact h.ever, by rw [a2, a1]; exact h.idl⟩

theorem recs_keep {b : Nat} {N : Int} {sure ever : List RQ} {L : LM} (hl : LA sure ever L) (hg : LG b N L) : (∀ c ∈ recsL L, Keeps sure c) ∧ (∀ r ∈ sure, ∃ c ∈ recsL L, c.kind = 1 ∧ c.id = r.id) ∧ ∀ c ∈ recsL L, c.kind = 1 → c.rq ∈ ever := by
  have hput : ∀ c ∈ putsR L, ∃ k q, lookG L.live k = some q ∧ c = q.toF 1 ∧ q.id = k := by
    intro c hc
    obtain ⟨q, hq, rfl⟩ := List.mem_map.1 hc
    obtain ⟨k, hk, rfl⟩ := List.mem_map.1 hq
    obtain ⟨q, hq⟩ := idsL_mem.1 hk
    cases hx : lookG L.live k with
    | none => rw [lookG_none] at hx; exact absurd rfl (hx _ hq)
    | some y => exact ⟨k, y, hx, rfl, (hg.live _ (lookG_mem hx)).1⟩
  refine ⟨fun c hc r hr he => ?_, fun r hr => ?_, fun c hc hk => ?_⟩
  · simp only [recsL, List.mem_append] at hc
    rcases hc with (hc | hc) | hc
    · obtain ⟨a, ha, rfl⟩ := List.mem_map.1 hc
      exact ⟨fun h => by simp [waitF] at h, by simp [waitF]⟩
    · unfold tellR at hc
      split at hc
      · cases hc
      · rename_i hs
        rw [List.mem_singleton.1 hc] at he
        simp only [doneF] at he
        rw [he, hl.sure r hr] at hs
        simp at hs
    · obtain ⟨k, q, h1, rfl, h3⟩ := hput c hc
      refine ⟨fun _ => ?_, by simp [RQ.toF]⟩
      have : r.id = k := by rw [← he]; exact h3
      have h4 := hl.sure r hr
      rw [this, h1] at h4
      cases h4
      rfl
  · have h1 := lookG_mem (hl.sure r hr)
    refine ⟨r.toF 1, List.mem_append_right _ (List.mem_map.2 ⟨r, List.mem_map.2 ⟨r.id, idsL_mem.2 ⟨r, h1⟩, by rw [hl.sure r hr]; rfl⟩, rfl⟩), rfl, rfl⟩
  · simp only [recsL, List.mem_append] at hc
    rcases hc with (hc | hc) | hc
    · obtain ⟨a, ha, rfl⟩ := List.mem_map.1 hc
      simp [waitF] at hk
    · unfold tellR at hc
      split at hc
      · cases hc
      · rw [List.mem_singleton.1 hc] at hk
        simp [doneF] at hk
    · obtain ⟨k, q, h1, rfl, h3⟩ := hput c hc
      exact hl.ever _ (lookG_mem h1)

theorem clo_PA {b : Nat} {N : Int} {sure ever : List RQ} {L : LM} (hl : LA sure ever L) (hg : LG b N L) (hb : 26 ≤ b) (hN : N ≤ 9223372036854775807) : Clo (PA b N sure ever) (recsL L) := by
  obtain ⟨h1, h2, h3⟩ := recs_keep hl hg
  have h4 := hg.recs hb hN
  refine ⟨fun R m c hp hc => hp.app (h1 c hc) (h3 c hc) (h4 c hc), fun R m i hp => ⟨fun j hj r hr => ?_, fun c hc hk => ?_, fun c hc => ?_⟩, fun R m hp => hp.sync⟩
  · have h0 : j = 0 := by omega
    subst h0
    rw [Nat.sub_zero, List.take_length, liveF, List.foldl_append]
    exact put_fold hr _ h1 (h2 r hr)
  · rcases List.mem_append.1 hc with hc | hc
    · exact hp.ever c (List.mem_of_mem_drop hc) hk
    · exact h3 c hc hk
  · rcases List.mem_append.1 hc with hc | hc
    · exact hp.good c (List.mem_of_mem_drop hc)
    · exact h4 c hc

theorem few_recs {D : DM} {E : List Ent} {m : Nat} {T : Int → List Int} (h : Holds D E m T) (hw : DW D) : E.length ≤ 1260 := by
  have hfl := flat_keys _ _ (keysF_sorted h.nodup) h.sort h.mem
  have key : ∀ N : List Int, (∀ n ∈ N, n ∈ keysF D) → (N.flatMap fun n => recsAt E n).length * 26 ≤ N.length * 2048 := by
    intro N
    induction N with
    | nil => intro _; simp
    | cons n N ih =>
      intro hm
      have hi := ih fun x hx => hm x (List.mem_cons_of_mem _ hx)
      have h1 := hw.read n
      rw [h.read, List.length_append] at h1
      have h2 : (recsAt E n).length * 26 ≤ (cont E n).length := by
        unfold cont
        generalize recsAt E n = R
        induction R with
        | nil => simp
        | cons r R ih =>
          rw [flatR_cons, List.length_append, List.length_cons, Nat.add_mul]
          have := recL_len r
          omega
      rw [List.flatMap_cons, List.length_append, List.length_cons, Nat.add_mul, Nat.add_mul]
      omega
  have := key (keysF D) fun n hn => hn
  rw [hfl, List.length_map] at this
  have := hw.keysLen
  have : (keysF D).length * 2048 ≤ 16 * 2048 := Nat.mul_le_mul_right _ (by omega)
  omega

structure N6 (D : DM) (L : LM) (E : List Ent) (m : Nat) (T : Int → List Int) (sure ever : List RQ) (i : Nat) : Prop where
  ld : LD D L E m T
  dm : D.most = 9
  lg : LG 1050 ((i : Int) + 1) L
  pa : PA 1050 ((i : Int) + 1) sure ever (rcs E) m
  la : LA sure ever L
  cL : L.live.length ≤ 1260 + i
  cW : L.wait.length ≤ 1260 + i
  lst : L.last ≤ 6000 * i
  dup : NoDup L

theorem N6.few {D : DM} {L : LM} {E : List Ent} {m : Nat} {T : Int → List Int} {sure ever : List RQ} {i : Nat} (h : N6 D L E m T sure ever i) (hw : DW D) : D.loose.length ≤ 1260 := by
  have h1 := few_recs h.ld.h hw
  rw [h.ld.h.loose, szs, List.length_map, List.length_drop]
  omega
theorem N6.room {D : DM} {L : LM} {E : List Ent} {m : Nat} {T : Int → List Int} {sure ever : List RQ} {i : Nat} (h : N6 D L E m T sure ever i) (hw : DW D) (hi : i ≤ 60) : Room D L := by
  have h1 := h.few hw; have h2 := h.cL; have h3 := h.cW; have h4 := h.lst
  exact ⟨h.lg.lo, by omega, by omega, by omega, by omega⟩
theorem N6.recs {D : DM} {L : LM} {E : List Ent} {m : Nat} {T : Int → List Int} {sure ever : List RQ} {i : Nat} (h : N6 D L E m T sure ever i) (hi : i ≤ 60) : ∀ r ∈ recsL L, r.sound = true ∧ r.Wide ∧ (recL r).length ≤ 1050 :=
  fun r hr => (h.lg.recs (by decide) (by omega) r hr).three

theorem n6_add {D : DM} {L1 : LM} {E : List Ent} {m : Nat} {T : Int → List Int} {sure ever : List RQ} {N : Int} {r : FRec} (hld : LD D L1 E m T) (hlg : LG 1050 N L1) (hN : N ≤ 9223372036854775807) (hpa : PA 1050 N sure ever (rcs E) m) (hla : LA sure ever L1) (hw : r.Wide) (hid : r.id < N) (hk : Keeps sure r) (he : r.kind = 1 → r.rq ∈ ever) :
    ∃ E' m' T', LD (addM D L1 r).1 (addM D L1 r).2.1 E' m' T' ∧ PA 1050 N sure ever (rcs E') m' ∧ (addM D L1 r).1.most = D.most ∧ ((addM D L1 r).2.2 = 0 → m' = 0 ∧ ∃ R0, rcs E' = R0 ++ [r]) := by
  refine add_P (b := 1050) (by decide) hld (fun r hr => (hlg.recs (by decide) hN r hr).three) ⟨hw, fun hs => ?_⟩ (clo_PA hla hlg (by decide) hN) (fun hs R m hp => hp.app hk he ⟨hs, hw, ?_, hid⟩) hpa
  · obtain ⟨s1, s2, _⟩ := r.of_sound hs
    rw [recL_len]; omega
  · obtain ⟨s1, s2, _⟩ := r.of_sound hs
    omega
end Go.Proofs.Ytlcfmfljmabaeaa


/-
  SpillLasts, in plain terms: what each act does.
-/
set_option maxRecDepth 100000
set_option linter.unusedVariables false
set_option linter.unusedSimpArgs false
namespace Go.Proofs.Ytlcfmfljmabaeaa
open Go Go.Abs Go.Abs.K

section
variable {D : DM} {L : LM} {E : List Ent} {m : Nat} {T : Int → List Int} {sure ever : List RQ} {i : Nat}

theorem N6.next (h : N6 D L E m T sure ever i) {sure' : List RQ} (hs : ∀ r ∈ sure', r ∈ sure) : N6 D L E m T sure' ever (i + 1) := by
  have h1 := h.cL; have h2 := h.cW; have h3 := h.lst
  exact ⟨h.ld, h.dm, h.lg.up (by push_cast; omega), h.pa.mono hs (fun _ h => h) (by push_cast; omega), ⟨fun r hr => h.la.sure r (hs r hr), h.la.ever, h.la.idl⟩, by omega, by omega, by push_cast; omega, h.dup⟩

theorem n6_put {r : RQ} (h : N6 D L E m T sure ever i) (hi : i < 60) (hr : r.id = L.next) (hw : r.Wide) :
    ∃ E' m' T', N6 (putM D L r).1 (putM D L r).2.1 E' m' T' (if (putM D L r).2.2 = 0 then sure ++ [r] else sure) (ever ++ [r]) (i + 1) := by
  have hlo := h.lg.lo; have hhi := h.lg.hi
  have hN : ((i + 1 : Nat) : Int) + 1 ≤ 9223372036854775807 := by omega
  have hlg : LG 1050 (((i + 1 : Nat) : Int) + 1) L := h.lg.up (by push_cast; omega)
  have hpa : PA 1050 (((i + 1 : Nat) : Int) + 1) sure (ever ++ [r]) (rcs E) m := h.pa.mono (fun _ h => h) (fun x hx => List.mem_append_left _ hx) (by push_cast; omega)
  have hla : LA sure (ever ++ [r]) L := ⟨h.la.sure, fun q hq => List.mem_append_left _ (h.la.ever q hq), h.la.idl⟩
  have hne : ∀ q ∈ sure, q.id ≠ r.id := fun q hq he => by
    have := h.la.idl _ (lookG_mem (h.la.sure q hq))
    simp only at this
    omega
  have hk : Keeps sure (r.toF 1) := fun q hq he => absurd he.symm (hne q hq)
  obtain ⟨E', m', T', a1, a2, a3, a4⟩ := n6_add (r := r.toF 1) h.ld hlg hN hpa hla ⟨hw.id, hw.till, by simp [RQ.toF], hw.prio⟩ (by simp only [RQ.toF]; push_cast; omega) hk (fun _ => List.mem_append_right _ (List.mem_singleton.2 rfl))
  have haf := addM_facts D L (r.toF 1)
  obtain ⟨b1, b2, b3, b4⟩ := lm_last haf.1
  obtain ⟨W, hW⟩ : ∃ W, W = addM D L (r.toF 1) := ⟨_, rfl⟩
  have hp : putM D L r = (W.1, putL W.2.1 r W.2.2, W.2.2) := by rw [hW]; rfl
  rw [← hW] at a1 a3 a4 haf b1 b2 b3 b4
  rw [hp]
  have h1 := h.cL; have h2 := h.cW; have h3 := h.lst
  have hlast : W.2.1.last ≤ 6000 * ((i + 1 : Nat) : Int) := by have := haf.2.2.1; push_cast; omega
  have hlw : LG 1050 (((i + 1 : Nat) : Int) + 1) W.2.1 := hlg.of_last haf.1
  have hlaw : LA sure (ever ++ [r]) W.2.1 := hla.last haf.1
  have hmx : max W.2.1.next (r.id + 1) = L.next + 1 := by omega
  refine ⟨E', m', T', ?_⟩
  by_cases e0 : W.2.2 = 0
  · obtain ⟨hm0, R0, hR0⟩ := a4 e0
    have hL : putL W.2.1 r W.2.2 = { W.2.1 with next := L.next + 1, live := putG W.2.1.live r.id r } := by unfold putL; simp only [e0, hmx]; rfl
    have hg : GoodR 1050 (((i + 1 : Nat) : Int) + 1) (r.toF 1) := a2.good _ (by rw [hR0]; simp)
    rw [hL]
    simp only [e0, if_true]
    refine ⟨a1.lm rfl, a3.trans h.dm, ⟨fun q hq => ?_, fun q hq => hlw.wait q hq, by simp only; omega, by simp only; push_cast; omega⟩, ⟨fun j hj q hq => ?_, a2.ever, a2.good⟩, ⟨fun q hq => ?_, fun q hq => ?_, fun q hq => ?_⟩, ?_, ?_, hlast, ?_⟩
    · simp only at hq
      rcases putG_mem hq with hq | hq
      · exact hlw.live q hq
      · subst hq; exact ⟨rfl, hg⟩
    · rcases List.mem_append.1 hq with hq | hq
      · exact a2.sure j hj q hq
      · rw [List.mem_singleton.1 hq, show j = 0 by omega, Nat.sub_zero, List.take_length, hR0, liveF, List.foldl_append]
        simp only [List.foldl_cons, List.foldl_nil, stepI, RQ.toF, if_true]
        rfl
    · simp only [lookG_put]
      rcases List.mem_append.1 hq with hq | hq
      · rw [if_neg (hne q hq)]; exact hlaw.sure q hq
      · rw [List.mem_singleton.1 hq, if_pos rfl]
    · simp only at hq
      rcases putG_mem hq with hq | hq
      · exact hlaw.ever q hq
      · subst hq; simp
    · simp only at hq ⊢
      rcases putG_mem hq with hq | hq
      · have := hlaw.idl q hq; omega
      · subst hq; simp only; omega
    · simp only
      have := putG_len W.2.1.live r.id r
      rw [b2] at this ⊢; omega
    · simp only; rw [b3]; omega
    · refine ⟨?_, ?_⟩
      · simp only; rw [b2]; exact putG_nodup h.dup.live _ _
      · simp only; rw [b3]; exact h.dup.wait
  · simp only [if_neg e0]
    by_cases e2 : W.2.2 = 2
    · have hL : putL W.2.1 r W.2.2 = W.2.1 := by unfold putL; rw [if_neg e0, if_pos e2]
      rw [hL]
      exact ⟨a1, a3.trans h.dm, hlw, a2, hlaw, by rw [b2]; omega, by rw [b3]; omega, hlast, ⟨by rw [b2]; exact h.dup.live, by rw [b3]; exact h.dup.wait⟩⟩
    · have hL : putL W.2.1 r W.2.2 = { W.2.1 with next := L.next + 1 } := by unfold putL; rw [if_neg e0, if_neg e2, hmx]
      rw [hL]
      refine ⟨a1.lm rfl, a3.trans h.dm, ⟨hlw.live, hlw.wait, by simp only; omega, by simp only; push_cast; omega⟩, a2, ⟨hlaw.sure, hlaw.ever, fun q hq => ?_⟩, by simp only; rw [b2]; omega, by simp only; rw [b3]; omega, hlast, ⟨by simp only; rw [b2]; exact h.dup.live, by simp only; rw [b3]; exact h.dup.wait⟩⟩
      have := hlaw.idl q hq
      simp only; omega

theorem n6_turn {L1 : LM} {r : FRec} {sure' : List RQ} (h : N6 D L E m T sure ever i) (hi : i < 60) (hll : L1.last = L.last) (hs : ∀ q ∈ sure', q ∈ sure) (hlg : LG 1050 ((i : Int) + 1) L1) (hla : LA sure' ever L1) (hw : r.Wide) (hid : r.id < (i : Int) + 1) (hk : Keeps sure' r) (hk1 : r.kind ≠ 1)
    (h1 : L1.live.length ≤ 1260 + i) (h2 : L1.wait.length ≤ 1260 + (i + 1)) (hd : NoDup L1) :
    ∃ E' m' T', N6 (addM D L1 r).1 (addM D L1 r).2.1 E' m' T' sure' ever (i + 1) := by
  have h3 := h.lst
  obtain ⟨E', m', T', a1, a2, a3, a4⟩ := n6_add (N := (i : Int) + 1) (r := r) (h.ld.lm hll) hlg (by omega) (h.pa.mono hs (fun _ h => h) (Int.le_refl _)) hla hw hid hk (fun h => absurd h hk1)
  have haf := addM_facts D L1 r
  obtain ⟨b1, b2, b3, b4⟩ := lm_last haf.1
  have hlast := haf.2.2.1
  exact ⟨E', m', T', a1, a3.trans h.dm, (hlg.of_last haf.1).up (by push_cast; omega), a2.mono (fun _ h => h) (fun _ h => h) (by push_cast; omega), hla.last haf.1, by rw [b2]; omega, by rw [b3]; omega, by push_cast; omega, ⟨by rw [b2]; exact hd.live, by rw [b3]; exact hd.wait⟩⟩

def dropR (n : Int) (l : List RQ) : List RQ := l.filter fun q => !(q.id == n)
theorem mem_dropR {n : Int} {l : List RQ} {q : RQ} : q ∈ dropR n l ↔ q ∈ l ∧ q.id ≠ n := by
  unfold dropR
  rw [List.mem_filter]
  simp

theorem n6_done {n : Int} (h : N6 D L E m T sure ever i) (hi : i < 60) : ∃ E' m' T', N6 (doneM D L n).1 (doneM D L n).2.1 E' m' T' (dropR n sure) ever (i + 1) := by
  have hsub : ∀ q ∈ dropR n sure, q ∈ sure := fun q hq => (mem_dropR.1 hq).1
  unfold doneM
  split
  · rename_i hs
    obtain ⟨q, hq⟩ := Option.isSome_iff_exists.1 hs
    obtain ⟨g1, g2⟩ := h.lg.live _ (lookG_mem hq)
    obtain ⟨_, _, g3, _⟩ := FRec.of_sound g2.sound
    have g4 := g2.id
    simp only [RQ.toF] at g1 g3 g4
    have hdl : (delG L.live n).length ≤ L.live.length := (delG_sub _ _).length_le
    have h1 := h.cL; have h2 := h.cW
    refine n6_turn (L1 := { L with live := delG L.live n }) h hi rfl hsub ⟨fun q hq => h.lg.live q ((delG_sub _ _).subset hq), h.lg.wait, h.lg.lo, h.lg.hi⟩ ⟨fun q hq => ?_, fun q hq => h.la.ever q ((delG_sub _ _).subset hq), fun q hq => h.la.idl q ((delG_sub _ _).subset hq)⟩ ⟨by simp only [doneF]; omega, by simp [doneF], by simp [doneF], by simp [doneF]⟩ (by simp only [doneF]; omega) (fun q hq he => absurd he.symm (mem_dropR.1 hq).2) (by simp [doneF]) (by simp only; omega) (by simp only; omega) ⟨delG_nodup h.dup.live _, h.dup.wait⟩
    simp only
    rw [lookG_del h.dup.live, if_neg (mem_dropR.1 hq).2]
    exact h.la.sure q (hsub q hq)
  · exact ⟨E, m, T, h.next hsub⟩

theorem n6_wait {b : ByteArray} {t : Int} (h : N6 D L E m T sure ever i) (hi : i < 60) (ht : W64 t) : ∃ E' m' T', N6 (waitM D L b t).1 (waitM D L b t).2.1 E' m' T' sure ever (i + 1) := by
  unfold waitM
  split
  · rename_i hs
    obtain ⟨s1, _, _, s4, _⟩ := FRec.of_sound hs
    simp only [waitF] at s1 s4
    unfold W64 at ht
    have hg : GoodR 1050 ((i : Int) + 1) (waitF b t) := goodR_wait s1 (by omega) (by omega) (by omega)
    have hlen := apply_len L (waitF b t)
    have h1 := h.cL; have h2 := h.cW
    have hlv : (applyL L (waitF b t)).live = L.live := by simp only [applyL, waitF]; rfl
    have hnx : (applyL L (waitF b t)).next = L.next := by simp only [applyL, waitF]; rfl
    refine n6_turn (L1 := applyL L (waitF b t)) h hi rfl (fun _ h => h) (h.lg.apply hg) ⟨by rw [hlv]; exact h.la.sure, by rw [hlv]; exact h.la.ever, by rw [hlv, hnx]; exact h.la.idl⟩ hg.wide (by simp only [waitF]; omega) (fun q hq he => ⟨fun h => by simp [waitF] at h, by simp [waitF]⟩) (by simp [waitF]) (by rw [hlv]; omega) (by omega) (h.dup.apply _)
  · exact ⟨E, m, T, h.next fun _ h => h⟩

theorem n6_compact (h : N6 D L E m T sure ever i) (hi : i < 60) : ∃ E' m' T', N6 (compactM D L).1 (compactM D L).2.1 E' m' T' sure ever (i + 1) := by
  obtain ⟨E', m', T', a1, a2, a3⟩ := compact_P (by decide) h.ld (h.recs (by omega)) (clo_PA h.la h.lg (by decide) (by omega)) h.pa
  have haf := compactM_facts D L
  have hrl := recsL_len L
  obtain ⟨b1, b2, b3, b4⟩ := lm_last haf.1
  have hlast := haf.2.2.1
  have h1 := h.cL; have h2 := h.cW; have h3 := h.lst
  exact ⟨E', m', T', a1, a3.trans h.dm, (h.lg.of_last haf.1).up (by push_cast; omega), a2.mono (fun _ h => h) (fun _ h => h) (by push_cast; omega), h.la.last haf.1, by rw [b2]; omega, by rw [b3]; omega, by push_cast; omega, ⟨by rw [b2]; exact h.dup.live, by rw [b3]; exact h.dup.wait⟩⟩

theorem all_mem : ∀ {R : List FRec} {L : LM} {q : Int × RQ}, q ∈ (applyAll L R).live → q ∈ L.live ∨ ∃ c ∈ R, c.kind = 1 ∧ q = (c.id, c.rq) := by
  intro R
  induction R with
  | nil => intro L q h; exact .inl h
  | cons r R ih =>
    intro L q h
    rcases ih (L := applyL L r) h with h | ⟨c, hc, h⟩
    · simp only [applyL] at h
      split at h
      · rename_i h1
        rcases putG_mem h with h | h
        · exact .inl h
        · exact .inr ⟨r, List.mem_cons_self .., h1, h⟩
      · split at h
        · exact .inl ((delG_sub _ _).subset h)
        · exact .inl h
    · exact .inr ⟨c, List.mem_cons_of_mem _ hc, h⟩

theorem n6_reopen {B : Int} (hh : Holds D E m T) (hlow : ∀ n ∈ keysF D, 0 ≤ n) (hB : ∀ n ∈ keysF D, n ≤ B) (hB0 : 0 ≤ B) (hB1 : B + 1 ≤ 6000 * i) (hd : D.most = 9) (hw : DW D) (hp : PA 1050 ((i : Int) + 1) sure ever (rcs E) m) : N6 D (openM D 4) E m T sure ever i := by
  obtain ⟨o1, o2, o3, o4, o5⟩ := openM_eq hh 4
  have hal := all_len (rcs E) (L0 4)
  rw [List.length_map] at hal
  have hl0 : (L0 4).live.length = 0 ∧ (L0 4).wait.length = 0 := ⟨rfl, rfl⟩
  have hfew := few_recs hh hw
  have hlv : ∀ q ∈ (openM D 4).live, ∃ c ∈ rcs E, c.kind = 1 ∧ q = (c.id, c.rq) := fun q hq => by
    rw [o2] at hq
    rcases all_mem hq with hq | hq
    · cases hq
    · exact hq
  have hnm := next_max (rcs E) 1
  have hnx : (openM D 4).next = (rcs E).foldl stepN 1 := by rw [o1, all_next]; rfl
  refine ⟨open_LD hh hlow 4, hd, open_LG hh 4 (by omega) hp.good, hp, ⟨fun r hr => ?_, fun q hq => ?_, fun q hq => ?_⟩, by rw [o2]; omega, by rw [o3]; omega, ?_, open_dup hh 4⟩
  · rw [o2, all_live (nodup0 4)]
    have := hp.sure 0 (Nat.zero_le _) r hr
    rw [Nat.sub_zero, List.take_length] at this
    exact this
  · obtain ⟨c, hc, h1, rfl⟩ := hlv q hq
    exact hp.ever c hc h1
  · obtain ⟨c, hc, h1, rfl⟩ := hlv q hq
    have := hnm.2.1 c hc (by omega)
    rw [hnx]; simp only; omega
  · rw [o5]
    have := (lastN_spec hh).2.2 B hB0 hB
    omega

theorem n6_open (h : N6 D L E m T sure ever i) (hw : DW D) : N6 D (openM D 4) E m T sure ever (i + 1) := by
  have h3 := h.lst
  exact n6_reopen (B := L.last) h.ld.h h.ld.low h.ld.top h.ld.pos (by push_cast; omega) h.dm hw (h.pa.mono (fun _ h => h) (fun _ h => h) (by push_cast; omega))

theorem n6_crash {D2 : DM} {k : Int} (h : N6 D L E m T sure ever i) (hk : 0 ≤ k) (hD2 : D2 = ⟨D.most, 0, 0, crashF D.loose k D.F, []⟩) (hw : DW D2) : ∃ E' T', N6 D2 (openM D2 4) E' 0 T' sure ever (i + 1) := by
  have h3 := h.lst
  obtain ⟨j, T', hj, hh, hkeys⟩ := h.ld.h.crash hk
  rw [← hD2] at hh hkeys
  refine ⟨_, T', n6_reopen (B := L.last) hh (by rw [hkeys]; exact h.ld.low) (by rw [hkeys]; exact h.ld.top) h.ld.pos (by push_cast; omega) (by rw [hD2]; exact h.dm) hw ?_⟩
  have := h.pa.cut hj (by rw [List.length_map]; exact h.ld.h.le)
  rw [List.length_map] at this
  rw [show rcs (E.take (E.length - m + j)) = (rcs E).take (E.length - m + j) from List.map_take ..]
  exact this.mono (fun _ h => h) (fun _ h => h) (by push_cast; omega)
end

theorem n6_zero : N6 ⟨9, 0, 0, [], []⟩ (openM ⟨9, 0, 0, [], []⟩ 4) [] 0 (fun _ => []) [] [] 0 := by
  have hh : Holds ⟨9, 0, 0, [], []⟩ [] 0 (fun _ => []) := ⟨by simp, fun n => by simp [lookF, keysF, sortZ], by simp, by simp, by simp, fun n => dead_nil, fun n _ => rfl, by simp, by simp [szs], by simp⟩
  have he : openM ⟨9, 0, 0, [], []⟩ 4 = L0 4 := rfl
  rw [he]
  exact ⟨⟨hh, by simp [keysF, sortZ], rfl, by simp [L0], by simp [keysF, sortZ]⟩, rfl, lg0 4 (by simp), ⟨by simp, by simp, by simp⟩, ⟨by simp, by simp [L0], by simp [L0]⟩, by simp [L0], by simp [L0], by simp [L0], nodup0 4⟩
end Go.Proofs.Ytlcfmfljmabaeaa
