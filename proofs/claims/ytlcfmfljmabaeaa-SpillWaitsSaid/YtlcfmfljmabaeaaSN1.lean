/-
  SpillNext: the acts, in plain terms.
-/
import Derived.Test.YtlcfmfljmabaeaaSL6
set_option maxRecDepth 100000
set_option linter.unusedVariables false
set_option linter.unusedSimpArgs false
namespace Go.Proofs.Ytlcfmfljmabaeaa
open Go Go.Abs Go.Abs.K

structure N3 (D : DM) (L : LM) (E : List Ent) (T : Int → List Int) (last i : Nat) : Prop where
  ld : LD D L E 0 T
  tz : ∀ n, T n = []
  full : Full 28 D L E
  dm : D.most = 16
  df : D.fails = 0
  lm : L.most = 7
  next : L.next = (last : Int) + 1
  le : last ≤ i
  cE : E.length ≤ i + 1
  cL : L.live.length ≤ i + 1
  cW : L.wait = []
  lg : LG 28 L.next L
  good : ∀ r ∈ rcs E, GoodR 28 L.next r
  nx : (rcs E).foldl stepN 1 = L.next
  lst : L.last ≤ 200 * i
  dup : NoDup L
  kin : ∀ r ∈ rcs E, r.kind ≠ 3

theorem holds_loose0 {D : DM} {E : List Ent} {T : Int → List Int} (h : Holds D E 0 T) : D.loose = [] := by
  have := h.loose
  rw [Nat.sub_zero, List.drop_length] at this
  exact this

theorem N3.room {D : DM} {L : LM} {E : List Ent} {T : Int → List Int} {last i : Nat} (h : N3 D L E T last i) (hi : i < 80) : Room D L := by
  have h1 := h.next; have h2 := h.cL; have h3 := h.lst
  exact ⟨by omega, by omega, by rw [h.cW]; simp, by rw [holds_loose0 h.ld.h]; simp, by omega⟩

theorem N3.segs {D : DM} {L : LM} {E : List Ent} {T : Int → List Int} {last i : Nat} (h : N3 D L E T last i) (hi : i < 80) : (keysF D).length ≤ 2 := by
  have h1 := few_segs h.full h.ld
  have h2 := bytesN_le (R := rcs E) (b := 28) fun r hr => (h.good r hr).le
  rw [List.length_map] at h2
  have h3 := h.cE
  have h4 : E.length * 28 ≤ 80 * 28 := Nat.mul_le_mul_right _ (by omega)
  refine Decidable.byContradiction fun hc => ?_
  have : 2 * (2048 - 28) ≤ ((keysF D).length - 1) * (2048 - 28) := Nat.mul_le_mul_right _ (by omega)
  omega

def rqN (id : Int) : RQ := ⟨id, ⟨#[104]⟩, ⟨#[47]⟩, 0, 0⟩

theorem goodN {id N : Int} (h : 0 ≤ id) (h2 : id < N) (h3 : N ≤ 9223372036854775807) : GoodR 28 N ((rqN id).toF 1) := by
  have e1 : (⟨#[104]⟩ : ByteArray).size = 1 := rfl
  have e2 : (⟨#[47]⟩ : ByteArray).size = 1 := rfl
  refine ⟨sound_of ?_ ?_ ?_ ?_ ?_ ?_ ?_ ?_, ⟨?_, ?_, ?_, ?_⟩, ?_, ?_⟩ <;> simp only [rqN, RQ.toF] <;> omega

theorem recs_next {b : Nat} {L : LM} (h : LG b L.next L) (hb : 26 ≤ b) (hN : L.next ≤ 9223372036854775807) (hd : NoDup L) : (recsL L).foldl stepN 1 = L.next := by
  have hg := h.recs hb hN
  obtain ⟨a1, a2, a3⟩ := next_max (recsL L) 1
  refine Int.le_antisymm (a3 _ h.lo fun r hr _ => by have := (hg r hr).id; omega) ?_
  cases hx : lookG L.live (L.next - 1) with
  | none =>
    have hm : doneF (L.next - 1) ∈ recsL L := by
      refine List.mem_append_left _ (List.mem_append_right _ ?_)
      unfold tellR; rw [hx]; simp
    have := a2 _ hm (by simp [doneF])
    simp only [doneF] at this
    omega
  | some q =>
    have hq := lookG_mem hx
    have hm : q.toF 1 ∈ recsL L := by
      refine List.mem_append_right _ (List.mem_map.2 ⟨q, List.mem_map.2 ⟨L.next - 1, idsL_mem.2 ⟨q, hq⟩, by rw [hx]; rfl⟩, rfl⟩)
    have := a2 _ hm (by simp [RQ.toF])
    have h1 := (h.live _ hq).1
    simp only [RQ.toF] at this
    simp only at h1
    omega

theorem n3_put {D : DM} {L : LM} {E : List Ent} {T : Int → List Int} {last i : Nat} (h : N3 D L E T last i) (hi : i < 80) :
    (putM D L (rqN ((last : Int) + 1))).2.2 = 0 ∧ ∃ E', N3 (putM D L (rqN ((last : Int) + 1))).1 (putM D L (rqN ((last : Int) + 1))).2.1 E' T (last + 1) (i + 1) := by
  have hN := h.next; have hle := h.le; have hsg := h.segs hi; have hcL := h.cL; have hcE := h.cE; have hlst := h.lst
  have hg : GoodR 28 ((last : Int) + 2) ((rqN ((last : Int) + 1)).toF 1) := goodN (by omega) (by omega) (by omega)
  obtain ⟨a1, a2, a3, ⟨n, a4⟩, a5⟩ := add_ok (by decide) h.ld hg.three h.df (by rw [h.lm]; omega) (by rw [h.dm]; omega)
  have haf := addM_facts D L ((rqN ((last : Int) + 1)).toF 1)
  obtain ⟨b1, b2, b3, b4⟩ := lm_last haf.1
  obtain ⟨W, hW⟩ : ∃ W, W = addM D L ((rqN ((last : Int) + 1)).toF 1) := ⟨_, rfl⟩
  have hp : putM D L (rqN ((last : Int) + 1)) = (W.1, { W.2.1 with next := max W.2.1.next ((last : Int) + 1 + 1), live := putG W.2.1.live ((last : Int) + 1) (rqN ((last : Int) + 1)) }, 0) := by
    unfold putM putL
    rw [← hW]
    rw [← hW] at a1
    rw [a1]
    rfl
  rw [← hW] at a1 a2 a3 a4 a5 haf b1 b2 b3 b4
  rw [hp]
  refine ⟨rfl, E ++ [(n, (rqN ((last : Int) + 1)).toF 1)], ?_⟩
  have hmax : max W.2.1.next ((last : Int) + 1 + 1) = (last : Int) + 2 := by omega
  have hlw : W.2.1.wait = [] := b3.trans h.cW
  have hll : W.2.1.last ≤ L.last + 4 + (i + 1) := by
    have h1 := haf.2.2.1
    rw [h.cW] at h1
    simp only [List.length_nil] at h1
    omega
  refine ⟨a4.lm rfl, h.tz, a5 h.full _, a3.trans h.dm, a2, b4.trans h.lm, ?_, by omega, ?_, ?_, hlw, ?_, fun r hr => ?_, ?_, ?_, ?_, fun r hr => ?_⟩
  · simp only; omega
  · simp only [List.length_append, List.length_cons, List.length_nil]; omega
  · simp only
    have := putG_len W.2.1.live ((last : Int) + 1) (rqN ((last : Int) + 1))
    rw [b2] at this ⊢; omega
  · simp only [hmax]
    refine ⟨fun q hq => ?_, fun q hq => ?_, by simp only; omega, by simp only; omega⟩
    · simp only at hq
      rcases putG_mem hq with hq | hq
      · rw [b2] at hq
        obtain ⟨c1, c2⟩ := h.lg.live q hq
        exact ⟨c1, c2.up (by omega)⟩
      · subst hq
        exact ⟨rfl, hg⟩
    · simp only [hlw] at hq; cases hq
  · simp only [hmax]
    rw [rcs, List.map_append] at hr
    rcases List.mem_append.1 hr with hr | hr
    · exact (h.good r hr).up (by omega)
    · simp only [List.map_cons, List.map_nil, List.mem_singleton] at hr
      rw [hr]; exact hg
  · simp only [hmax]
    rw [rcs, List.map_append, List.foldl_append, show List.foldl stepN 1 (List.map (fun e => e.2) E) = _ from h.nx]
    simp only [List.map_cons, List.map_nil, List.foldl_cons, List.foldl_nil, stepN, rqN, RQ.toF]
    rw [if_neg (by decide)]; omega
  · simp only; push_cast; omega
  · have := h.dup
    refine ⟨?_, ?_⟩
    · simp only; rw [b2]; exact putG_nodup h.dup.live _ _
    · simp only; rw [b3]; exact h.dup.wait
  · rw [rcs, List.map_append] at hr
    rcases List.mem_append.1 hr with hr | hr
    · exact h.kin r hr
    · simp only [List.map_cons, List.map_nil, List.mem_singleton] at hr
      rw [hr]; simp [RQ.toF]

theorem n3_done {D : DM} {L : LM} {E : List Ent} {T : Int → List Int} {last i : Nat} (h : N3 D L E T last i) (hi : i < 80) :
    ∃ E', N3 (doneM D L (last : Int)).1 (doneM D L (last : Int)).2.1 E' T last (i + 1) := by
  have hN := h.next; have hle := h.le; have hsg := h.segs hi; have hcL := h.cL; have hcE := h.cE; have hlst := h.lst
  unfold doneM
  split
  · obtain ⟨L1, hL1⟩ : ∃ L1, L1 = { L with live := delG L.live (last : Int) } := ⟨_, rfl⟩
    have hdl : (delG L.live (last : Int)).length ≤ L.live.length := (delG_sub _ _).length_le
    have hg : GoodR 28 L.next (doneF (last : Int)) := goodR_done (by omega) (by omega) (by omega) (by decide)
    have hl1 : L1.last = L.last := by rw [hL1]
    have hld1 : LD D L1 E 0 T := h.ld.lm hl1
    obtain ⟨a1, a2, a3, ⟨n, a4⟩, a5⟩ := add_ok (by decide) hld1 hg.three h.df (by rw [hL1]; simp only; rw [h.lm]; omega) (by rw [h.dm]; omega)
    have haf := addM_facts D L1 (doneF (last : Int))
    obtain ⟨b1, b2, b3, b4⟩ := lm_last haf.1
    rw [← hL1]
    obtain ⟨W, hW⟩ : ∃ W, W = addM D L1 (doneF (last : Int)) := ⟨_, rfl⟩
    rw [← hW] at a1 a2 a3 a4 a5 haf b1 b2 b3 b4 ⊢
    have hx1 : L1.next = L.next := by rw [hL1]
    have hx2 : L1.wait = [] := by rw [hL1]; exact h.cW
    have hx3 : L1.live = delG L.live (last : Int) := by rw [hL1]
    have hx4 : L1.most = L.most := by rw [hL1]
    have hfl : Full 28 D L1 E := fun n hn hnl => h.full n hn (by rw [hl1] at hnl; exact hnl)
    refine ⟨E ++ [(n, doneF (last : Int))], a4, h.tz, a5 hfl _, a3.trans h.dm, a2, (b4.trans hx4).trans h.lm, by omega, by omega, ?_, ?_, b3.trans hx2, ?_, fun r hr => ?_, ?_, ?_, ?_, fun r hr => ?_⟩
    · simp only [List.length_append, List.length_cons, List.length_nil]; omega
    · rw [b2, hx3]; omega
    · rw [b1, hx1]
      refine ⟨fun q hq => ?_, fun q hq => ?_, by omega, by omega⟩
      · rw [b2, hx3] at hq
        exact h.lg.live q ((delG_sub _ _).subset hq)
      · rw [b3, hx2] at hq; cases hq
    · rw [b1, hx1]
      rw [rcs, List.map_append] at hr
      rcases List.mem_append.1 hr with hr | hr
      · exact h.good r hr
      · simp only [List.map_cons, List.map_nil, List.mem_singleton] at hr
        rw [hr]; exact hg
    · rw [b1, hx1, rcs, List.map_append, List.foldl_append, show List.foldl stepN 1 (List.map (fun e => e.2) E) = _ from h.nx]
      simp only [List.map_cons, List.map_nil, List.foldl_cons, List.foldl_nil, stepN, doneF]
      rw [if_neg (by decide)]; omega
    · have h1 := haf.2.2.1
      rw [hx2, hx3, hl1] at h1
      simp only [List.length_nil] at h1
      push_cast; omega
    · refine ⟨?_, ?_⟩
      · rw [b2, hx3]; exact delG_nodup h.dup.live _
      · rw [b3, hx2]; simp
    · rw [rcs, List.map_append] at hr
      rcases List.mem_append.1 hr with hr | hr
      · exact h.kin r hr
      · simp only [List.map_cons, List.map_nil, List.mem_singleton] at hr
        rw [hr]; simp [doneF]
  · exact ⟨E, h.ld, h.tz, h.full, h.dm, h.df, h.lm, h.next, by omega, by omega, by simp only; omega, h.cW, h.lg, h.good, h.nx, by simp only; push_cast; omega, h.dup, h.kin⟩

theorem n3_compact {D : DM} {L : LM} {E : List Ent} {T : Int → List Int} {last i : Nat} (h : N3 D L E T last i) (hi : i < 80) :
    (compactM D L).2.2 = 0 ∧ ∃ E' T', N3 (compactM D L).1 (compactM D L).2.1 E' T' last (i + 1) := by
  have hN := h.next; have hle := h.le; have hsg := h.segs hi; have hcL := h.cL; have hcE := h.cE; have hlst := h.lst
  have hrg := h.lg.recs (by decide) (by omega)
  have hrl := recsL_len L
  rw [h.cW] at hrl
  simp only [List.length_nil] at hrl
  have hby := bytesN_le (R := recsL L) (b := 28) fun r hr => (hrg r hr).le
  have hby2 : (recsL L).length * 28 ≤ 82 * 28 := Nat.mul_le_mul_right _ (by omega)
  obtain ⟨E', m', T', q, a1, a2, a3, a4, a5, a6, a7, a8, a9⟩ := compact_holds (b := 28) (by decide) h.ld fun r hr => (hrg r hr).three
  have hq : q ≤ 1 := by
    refine Decidable.byContradiction fun hc => ?_
    have : 2 * (2048 - 28) ≤ q * (2048 - 28) := Nat.mul_le_mul_right _ (by omega)
    omega
  obtain ⟨c1, c2⟩ := a9 h.df
  have he : (compactM D L).2.2 = 0 := by
    rcases a7 with h0 | h5 | h7
    · exact h0
    · have := a6 h5
      rw [h.dm] at this; omega
    · exact absurd h7 c1
  obtain ⟨d1, d2, d3, d4⟩ := c2 he
  have hm0 : m' = 0 := by
    rcases a5 with ⟨h0, _⟩ | ⟨_, _, h0⟩
    · exact absurd he h0
    · exact h0
  rw [hm0] at a1
  have hcf := compactM_facts D L
  obtain ⟨b1, b2, b3, b4⟩ := lm_last hcf.1
  refine ⟨he, E', T', a1, a8 h.tz, d4, a2.trans h.dm, d1, b4.trans h.lm, by omega, by omega, ?_, by rw [b2]; omega, b3.trans h.cW, ?_, fun r hr => ?_, ?_, ?_, ?_, fun r hr => ?_⟩
  · have := congrArg List.length d2
    rw [List.length_map] at this
    omega
  · rw [b1]; exact h.lg.of_last hcf.1
  · rw [b1]; rw [show rcs E' = recsL L from d2] at hr; exact hrg r hr
  · rw [b1, show rcs E' = recsL L from d2]; exact recs_next h.lg (by decide) (by omega) h.dup
  · rw [a3]; push_cast; omega
  · refine ⟨?_, ?_⟩
    · rw [b2]; exact h.dup.live
    · rw [b3]; exact h.dup.wait
  · rw [show rcs E' = recsL L from d2] at hr
    simp only [recsL, List.mem_append] at hr
    rcases hr with (hr | hr) | hr
    · obtain ⟨a, ha, rfl⟩ := List.mem_map.1 hr
      obtain ⟨l, hl, rfl⟩ := List.mem_map.1 ha
      rw [(sortS_perm _).mem_iff, h.cW] at hl
      cases hl
    · unfold tellR at hr
      split at hr
      · cases hr
      · rw [List.mem_singleton.1 hr]; simp [doneF]
    · obtain ⟨q, hq, rfl⟩ := List.mem_map.1 hr
      simp [RQ.toF]

theorem n3_open {D : DM} {L : LM} {E : List Ent} {T : Int → List Int} {last i : Nat} (h : N3 D L E T last i) (hi : i < 80) :
    N3 D (openM D 7) E T last (i + 1) := by
  have hN := h.next; have hle := h.le; have hcE := h.cE; have hlst := h.lst
  obtain ⟨o1, o2, o3, o4, o5⟩ := openM_eq h.ld.h 7
  have hnx : (openM D 7).next = L.next := by rw [o1, all_next]; exact h.nx
  have hal := all_len (rcs E) (L0 7)
  rw [List.length_map] at hal
  have hl0 : (L0 7).live.length = 0 ∧ (L0 7).wait.length = 0 := ⟨rfl, rfl⟩
  have hlle : (openM D 7).last ≤ L.last := by
    rw [o5]
    by_cases hk : keysF D = []
    · rw [hk]; exact h.ld.pos
    · obtain ⟨x, x1, x2, x3⟩ := lastN_eq T (keysF D) 0 (keysF_sorted h.ld.h.nodup) hk
      rw [x3, if_pos (h.tz x)]; exact h.ld.top x x1
  refine ⟨open_LD h.ld.h h.ld.low 7, h.tz, fun n hn hnl => h.full n hn (by omega), h.dm, h.df, o4, by omega, by omega, by omega, by rw [o2]; omega, by rw [o3, all_nowait h.kin]; rfl, ?_, fun r hr => by rw [hnx]; exact h.good r hr, by rw [hnx]; exact h.nx, by push_cast; omega, open_dup h.ld.h 7, h.kin⟩
  rw [hnx]
  exact open_LG h.ld.h 7 (by omega) h.good

theorem n3_zero : N3 ⟨16, 0, 0, [], []⟩ (openM ⟨16, 0, 0, [], []⟩ 7) [] (fun _ => []) 0 0 := by
  have hh : Holds ⟨16, 0, 0, [], []⟩ [] 0 (fun _ => []) := ⟨by simp, fun n => by simp [lookF, keysF, sortZ], by simp, by simp, by simp, fun n => dead_nil, fun n _ => rfl, by simp, by simp [szs], by simp⟩
  have he : openM ⟨16, 0, 0, [], []⟩ 7 = L0 7 := rfl
  rw [he]
  exact ⟨⟨hh, by simp [keysF, sortZ], rfl, by simp [L0], by simp [keysF, sortZ]⟩, fun _ => rfl, fun n hn => by simp [keysF, sortZ] at hn, rfl, rfl, rfl, rfl, by omega, by simp, by simp [L0], rfl, lg0 7 (by simp [L0]), by simp, rfl, by simp [L0], nodup0 7, by simp⟩
end Go.Proofs.Ytlcfmfljmabaeaa
