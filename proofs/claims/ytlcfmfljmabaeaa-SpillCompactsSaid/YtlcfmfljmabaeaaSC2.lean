/-
  SpillNext: the acts, in plain terms.
-/
import Derived.Test.YtlcfmfljmabaeaaSL6
import Derived.Test.YtlcfmfljmabaeaaSA2
set_option maxRecDepth 100000
set_option linter.unusedVariables false
set_option linter.unusedSimpArgs false
namespace Go.Proofs.Ytlcfmfljmabaeaa
open Go Go.Abs Go.Abs.K

structure N3 (D : DM) (L : LM) (E : List Ent) (T : Int → List Int) (last i : Nat) : Prop where
  ld : LD D L E 0 T
  tz : ∀ n, T n = []
  full : Full 28 D L E
  dm : D.most = 16
  df : D.fails = 0
  lm : L.most = 7
  next : L.next = (last : Int) + 1
  le : last ≤ i
  cE : E.length ≤ i + 1
  cL : L.live.length ≤ i + 1
  cW : L.wait = []
  lg : LG 28 L.next L
  good : ∀ r ∈ rcs E, GoodR 28 L.next r
  nx : (rcs E).foldl stepN 1 = L.next
  lst : L.last ≤ 200 * i
  dup : NoDup L
  kin : ∀ r ∈ rcs E, r.kind ≠ 3

theorem holds_loose0 {D : DM} {E : List Ent} {T : Int → List Int} (h : Holds D E 0 T) : D.loose = [] := by
  have := h.loose
  rw [Nat.sub_zero, List.drop_length] at this
  exact this

theorem N3.room {D : DM} {L : LM} {E : List Ent} {T : Int → List Int} {last i : Nat} (h : N3 D L E T last i) (hi : i < 80) : Room D L := by
  have h1 := h.next; have h2 := h.cL; have h3 := h.lst
  exact ⟨by omega, by omega, by rw [h.cW]; simp, by rw [holds_loose0 h.ld.h]; simp, by omega⟩

theorem N3.segs {D : DM} {L : LM} {E : List Ent} {T : Int → List Int} {last i : Nat} (h : N3 D L E T last i) (hi : i < 80) : (keysF D).length ≤ 2 := by
  have h1 := few_segs h.full h.ld
  have h2 := bytesN_le (R := rcs E) (b := 28) fun r hr => (h.good r hr).le
  rw [List.length_map] at h2
  have h3 := h.cE
  have h4 : E.length * 28 ≤ 80 * 28 := Nat.mul_le_mul_right _ (by omega)
  refine Decidable.byContradiction fun hc => ?_
  have : 2 * (2048 - 28) ≤ ((keysF D).length - 1) * (2048 - 28) := Nat.mul_le_mul_right _ (by omega)
  omega

theorem n3_zero : N3 ⟨16, 0, 0, [], []⟩ (openM ⟨16, 0, 0, [], []⟩ 7) [] (fun _ => []) 0 0 := by
  have hh : Holds ⟨16, 0, 0, [], []⟩ [] 0 (fun _ => []) := ⟨by simp, fun n => by simp [lookF, keysF, sortZ], by simp, by simp, by simp, fun n => dead_nil, fun n _ => rfl, by simp, by simp [szs], by simp⟩
  have he : openM ⟨16, 0, 0, [], []⟩ 7 = L0 7 := rfl
  rw [he]
  exact ⟨⟨hh, by simp [keysF, sortZ], rfl, by simp [L0], by simp [keysF, sortZ]⟩, fun _ => rfl, fun n hn => by simp [keysF, sortZ] at hn, rfl, rfl, rfl, rfl, by omega, by simp, by simp [L0], rfl, lg0 7 (by simp [L0]), by simp, rfl, by simp [L0], nodup0 7, by simp⟩
end Go.Proofs.Ytlcfmfljmabaeaa


/-
  SpillCompacts, in plain terms: records that say the same.
-/
set_option maxRecDepth 100000
set_option linter.unusedVariables false
set_option linter.unusedSimpArgs false
namespace Go.Proofs.Ytlcfmfljmabaeaa
open Go Go.Abs Go.Abs.K

def waitV (R : List FRec) (h : ByteArray) : Int := (R.foldl (stepH h) none).getD 0

structure SameR (L : LM) (R : List FRec) : Prop where
  live : ∀ id, liveF R id = lookG L.live id
  wait : ∀ h, waitV R h = (lookG L.wait h).getD 0
  next : R.foldl stepN 1 = L.next

def IdL (L : LM) : Prop := ∀ q ∈ L.live, q.1 < L.next

theorem liveF_snoc (R : List FRec) (c : FRec) (id : Int) : liveF (R ++ [c]) id = stepI id (liveF R id) c := by unfold liveF; rw [List.foldl_append]; rfl
theorem waitV_snoc (R : List FRec) (c : FRec) (h : ByteArray) : waitV (R ++ [c]) h = if c.kind = 3 ∧ h = c.host then max (waitV R h) c.till else waitV R h := by
  unfold waitV
  rw [List.foldl_append]
  simp only [List.foldl_cons, List.foldl_nil, stepH]
  by_cases h1 : c.kind = 3
  · by_cases h2 : h = c.host
    · rw [if_pos h1, if_pos h2, if_pos ⟨h1, h2⟩]; rfl
    · rw [if_pos h1, if_neg h2, if_neg fun e => h2 e.2]
  · rw [if_neg h1, if_neg fun e => h1 e.1]
theorem next_snoc (R : List FRec) (c : FRec) : (R ++ [c]).foldl stepN 1 = stepN (R.foldl stepN 1) c := by rw [List.foldl_append]; rfl

theorem recs_cases {b : Nat} {N : Int} {L : LM} (hg : LG b N L) {c : FRec} (hc : c ∈ recsL L) : (∃ h t, lookG L.wait h = some t ∧ c = waitF h t) ∨ (lookG L.live (L.next - 1) = none ∧ c = doneF (L.next - 1)) ∨ ∃ k q, lookG L.live k = some q ∧ q.id = k ∧ c = q.toF 1 := by
  simp only [recsL, List.mem_append] at hc
  rcases hc with (hc | hc) | hc
  · obtain ⟨a, ha, rfl⟩ := List.mem_map.1 hc
    obtain ⟨l, hl, rfl⟩ := List.mem_map.1 ha
    rw [(sortS_perm _).mem_iff] at hl
    obtain ⟨q, hq, rfl⟩ := List.mem_map.1 hl
    rw [toBA_data]
    cases hx : lookG L.wait q.1 with
    | none => rw [lookG_none] at hx; exact absurd rfl (hx _ hq)
    | some t => exact .inl ⟨_, t, hx, rfl⟩
  · unfold tellR at hc
    split at hc
    · cases hc
    · rename_i hs
      exact .inr (.inl ⟨by simpa using hs, List.mem_singleton.1 hc⟩)
  · obtain ⟨q, hq, rfl⟩ := List.mem_map.1 hc
    obtain ⟨k, hk, rfl⟩ := List.mem_map.1 hq
    obtain ⟨q, hq⟩ := idsL_mem.1 hk
    cases hx : lookG L.live k with
    | none => rw [lookG_none] at hx; exact absurd rfl (hx _ hq)
    | some y => exact .inr (.inr ⟨k, y, hx, (hg.live _ (lookG_mem hx)).1, rfl⟩)

theorem stepI_done (id n : Int) (o : Option RQ) : stepI id o (doneF n) = if id = n then none else o := rfl
theorem stepI_put (id : Int) (q : RQ) (o : Option RQ) : stepI id o (q.toF 1) = if id = q.id then some q else o := rfl
theorem stepN_done (n k : Int) : stepN n (doneF k) = max n (k + 1) := by simp [stepN, doneF]
theorem stepN_put (n : Int) (q : RQ) : stepN n (q.toF 1) = max n (q.id + 1) := by simp [stepN, RQ.toF]
theorem SameR.app {b : Nat} {N : Int} {L : LM} {R : List FRec} {c : FRec} (h : SameR L R) (hg : LG b N L) (hi : IdL L) (hc : c ∈ recsL L) : SameR L (R ++ [c]) := by
  rcases recs_cases hg hc with ⟨x, t, hx, rfl⟩ | ⟨hx, rfl⟩ | ⟨k, q, hx, hk, rfl⟩
  · refine ⟨fun id => ?_, fun y => ?_, ?_⟩
    · rw [liveF_snoc, h.live]; simp [stepI, waitF]
    · rw [waitV_snoc, h.wait]
      split
      · rename_i hy
        have : y = x := hy.2
        subst this
        rw [hx]; simp [waitF]
      · rfl
    · rw [next_snoc, h.next]; simp [stepN, waitF]
  · refine ⟨fun id => ?_, fun y => ?_, ?_⟩
    · rw [liveF_snoc, h.live, stepI_done]
      split
      · rename_i he; rw [he, hx]
      · rfl
    · rw [waitV_snoc, h.wait, if_neg (by simp [doneF])]
    · rw [next_snoc, h.next, stepN_done]; omega
  · refine ⟨fun id => ?_, fun y => ?_, ?_⟩
    · rw [liveF_snoc, h.live, stepI_put]
      split
      · rename_i he; rw [he, hk, hx]
      · rfl
    · rw [waitV_snoc, h.wait, if_neg (by simp [RQ.toF])]
    · rw [next_snoc, h.next, stepN_put]
      have := hi _ (lookG_mem hx)
      simp only at this
      omega

theorem stepI_two (id : Int) : ∀ (R : List FRec) (o o' : Option RQ), R.foldl (stepI id) o = R.foldl (stepI id) o' ∨ (R.foldl (stepI id) o = o ∧ R.foldl (stepI id) o' = o') := by
  intro R
  induction R with
  | nil => intro o o'; exact .inr ⟨rfl, rfl⟩
  | cons r R ih =>
    intro o o'
    rw [List.foldl_cons, List.foldl_cons]
    have : stepI id o r = stepI id o' r ∨ (stepI id o r = o ∧ stepI id o' r = o') := by
      unfold stepI
      by_cases h1 : r.kind = 1
      · rw [if_pos h1, if_pos h1]
        split
        · exact .inl rfl
        · exact .inr ⟨rfl, rfl⟩
      · rw [if_neg h1, if_neg h1]
        by_cases h2 : r.kind = 2
        · rw [if_pos h2, if_pos h2]
          split
          · exact .inl rfl
          · exact .inr ⟨rfl, rfl⟩
        · rw [if_neg h2, if_neg h2]; exact .inr ⟨rfl, rfl⟩
    rcases this with h | ⟨h1, h2⟩
    · exact .inl (by rw [h])
    · rw [h1, h2]; exact ih o o'

theorem waitV_app (x : ByteArray) : ∀ (R : List FRec) (o : Option Int), 0 ≤ o.getD 0 → (∀ r ∈ R, 0 ≤ r.till) → (R.foldl (stepH x) o).getD 0 = max (o.getD 0) (waitV R x) ∧ 0 ≤ waitV R x := by
  intro R
  induction R with
  | nil => intro o ho _; simp [waitV]; omega
  | cons r R ih =>
    intro o ho hr
    have hrt := hr r (List.mem_cons_self ..)
    have hR := fun y hy => hr y (List.mem_cons_of_mem _ hy)
    unfold waitV
    rw [List.foldl_cons, List.foldl_cons]
    have hs : ∀ o : Option Int, 0 ≤ o.getD 0 → (stepH x o r).getD 0 = (if r.kind = 3 ∧ x = r.host then max (o.getD 0) r.till else o.getD 0) ∧ 0 ≤ (stepH x o r).getD 0 := by
      intro o ho
      unfold stepH
      by_cases h1 : r.kind = 3
      · by_cases h2 : x = r.host
        · rw [if_pos h1, if_pos h2, if_pos ⟨h1, h2⟩, Option.getD_some]; omega
        · rw [if_pos h1, if_neg h2, if_neg fun e => h2 e.2]; omega
      · rw [if_neg h1, if_neg fun e => h1 e.1]; omega
    obtain ⟨a1, a2⟩ := hs o ho
    obtain ⟨b1, b2⟩ := hs none (by simp)
    obtain ⟨c1, c2⟩ := ih (stepH x o r) a2 hR
    obtain ⟨d1, d2⟩ := ih (stepH x none r) b2 hR
    rw [c1, d1, a1, b1]
    simp only [Option.getD_none]
    split <;> omega

theorem waitV_append (A B : List FRec) (x : ByteArray) (hA : ∀ r ∈ A, 0 ≤ r.till) (hB : ∀ r ∈ B, 0 ≤ r.till) : waitV (A ++ B) x = max (waitV A x) (waitV B x) := by
  have h0 := (waitV_app x A none (by simp) hA).2
  unfold waitV
  rw [List.foldl_append]
  exact (waitV_app x B _ h0 hB).1

theorem waitV_bound {x : ByteArray} {t : Int} (h0 : 0 ≤ t) : ∀ {R : List FRec}, (∀ r ∈ R, 0 ≤ r.till) → (∀ r ∈ R, r.kind = 3 → r.host = x → r.till = t) → waitV R x ≤ t ∧ ((∃ r ∈ R, r.kind = 3 ∧ r.host = x) → waitV R x = t) := by
  intro R
  induction R with
  | nil => intro _ _; exact ⟨by simpa [waitV] using h0, fun ⟨r, hr, _⟩ => by cases hr⟩
  | cons r R ih =>
    intro hr h
    obtain ⟨i1, i2⟩ := ih (fun y hy => hr y (List.mem_cons_of_mem _ hy)) fun y hy => h y (List.mem_cons_of_mem _ hy)
    have hrt := hr r (List.mem_cons_self ..)
    have e : waitV (r :: R) x = max (waitV [r] x) (waitV R x) := waitV_append [r] R x (fun y hy => by rw [List.mem_singleton.1 hy]; exact hrt) fun y hy => hr y (List.mem_cons_of_mem _ hy)
    have e1 : waitV [r] x = if r.kind = 3 ∧ x = r.host then max 0 r.till else 0 := by
      have := waitV_snoc [] r x
      rw [List.nil_append] at this
      rw [this]; rfl
    have hn : 0 ≤ waitV R x := (waitV_app x R none (by simp) fun y hy => hr y (List.mem_cons_of_mem _ hy)).2
    rw [e, e1]
    by_cases h3 : r.kind = 3 ∧ x = r.host
    · rw [if_pos h3]
      have := h r (List.mem_cons_self ..) h3.1 h3.2.symm
      exact ⟨by omega, fun _ => by omega⟩
    · rw [if_neg h3]
      refine ⟨by omega, fun ⟨y, hy, hy1, hy2⟩ => ?_⟩
      rcases List.mem_cons.1 hy with rfl | hy
      · exact absurd ⟨hy1, hy2.symm⟩ h3
      · have := i2 ⟨y, hy, hy1, hy2⟩; omega

theorem till_good {b : Nat} {N : Int} {r : FRec} (h : GoodR b N r) : 0 ≤ r.till := (r.of_sound h.sound).2.2.2.1

theorem SameR.dump {b : Nat} {N : Int} {L : LM} {R : List FRec} (h : SameR L R) (hg : LG b N L) (hb : 26 ≤ b) (hN : N ≤ 9223372036854775807) (hi : IdL L) (hd : NoDup L) (hR : ∀ r ∈ R, GoodR b N r) (i : Nat) : SameR L (R.drop i ++ recsL L) := by
  have hrec := hg.recs hb hN
  have hRt : ∀ r ∈ R, 0 ≤ r.till := fun r hr => till_good (hR r hr)
  have hDt : ∀ r ∈ R.drop i, 0 ≤ r.till := fun r hr => hRt r (List.mem_of_mem_drop hr)
  have hCt : ∀ r ∈ recsL L, 0 ≤ r.till := fun r hr => till_good (hrec r hr)
  refine ⟨fun id => ?_, fun x => ?_, ?_⟩
  · unfold liveF
    rw [List.foldl_append]
    cases hx : lookG L.live id with
    | some q =>
      have hq := (hg.live _ (lookG_mem hx)).1
      simp only at hq
      rw [← hq]
      refine put_fold (sure := [q]) (List.mem_singleton.2 rfl) _ (fun c hc r hr he => ?_) ?_
      · rw [List.mem_singleton.1 hr] at he ⊢
        rcases recs_cases hg hc with ⟨y, t, hy, rfl⟩ | ⟨hy, rfl⟩ | ⟨k, z, hy, hk, rfl⟩
        · exact ⟨fun h => by simp [waitF] at h, by simp [waitF]⟩
        · simp only [doneF] at he
          rw [he, hq, hx] at hy; cases hy
        · refine ⟨fun _ => ?_, by simp [RQ.toF]⟩
          have he : z.id = q.id := he
          rw [← hk, he, hq, hx] at hy
          cases hy; rfl
      · exact ⟨q.toF 1, List.mem_append_right _ (List.mem_map.2 ⟨q, List.mem_map.2 ⟨id, idsL_mem.2 ⟨q, lookG_mem hx⟩, by rw [hx]; rfl⟩, rfl⟩), rfl, rfl⟩
    | none =>
      have h1 : (R.drop i).foldl (stepI id) none = none := by
        have h2 : R.foldl (stepI id) none = none := (h.live id).trans hx
        have h3 : (R.drop i).foldl (stepI id) ((R.take i).foldl (stepI id) none) = none := by rw [← List.foldl_append, List.take_append_drop]; exact h2
        rcases stepI_two id (R.drop i) none ((R.take i).foldl (stepI id) none) with h4 | ⟨h4, _⟩
        · rw [h4]; exact h3
        · exact h4
      rw [h1]
      have key : ∀ C : List FRec, (∀ c ∈ C, c ∈ recsL L) → C.foldl (stepI id) none = none := by
        intro C
        induction C with
        | nil => intro _; rfl
        | cons c C ih =>
          intro hC
          rw [List.foldl_cons]
          have : stepI id none c = none := by
            rcases recs_cases hg (hC c (List.mem_cons_self ..)) with ⟨y, t, hy, rfl⟩ | ⟨hy, rfl⟩ | ⟨k, z, hy, hk, rfl⟩
            · simp [stepI, waitF]
            · rw [stepI_done]; split <;> rfl
            · rw [stepI_put, if_neg]
              intro he
              rw [he, hk, hy] at hx; cases hx
          rw [this]
          exact ih fun x hx => hC x (List.mem_cons_of_mem _ hx)
      exact key _ fun c hc => hc
  · rw [waitV_append _ _ _ hDt hCt]
    have h0 : 0 ≤ (lookG L.wait x).getD 0 := by rw [← h.wait]; exact (waitV_app x R none (by simp) hRt).2
    have h1 : waitV (R.drop i) x ≤ (lookG L.wait x).getD 0 := by
      rw [← h.wait]
      have := waitV_append (R.take i) (R.drop i) x (fun r hr => hRt r (List.mem_of_mem_take hr)) hDt
      rw [List.take_append_drop] at this
      omega
    have hC : ∀ r ∈ recsL L, r.kind = 3 → r.host = x → r.till = (lookG L.wait x).getD 0 := fun r hr hk he => by
      rcases recs_cases hg hr with ⟨y, t, hy, rfl⟩ | ⟨hy, rfl⟩ | ⟨k, z, hy, hk', rfl⟩
      · have he : y = x := he
        rw [← he, hy]; rfl
      · simp [doneF] at hk
      · simp [RQ.toF] at hk
    obtain ⟨b1, b2⟩ := waitV_bound h0 hCt hC
    cases hx : lookG L.wait x with
    | none =>
      rw [hx] at h1 b1
      simp only [Option.getD_none] at *
      have h2 : 0 ≤ waitV (R.drop i) x := (waitV_app x (R.drop i) none (by simp) hDt).2
      have h3 : 0 ≤ waitV (recsL L) x := (waitV_app x (recsL L) none (by simp) hCt).2
      omega
    | some t =>
      have hm : waitF x t ∈ recsL L := by
        refine List.mem_append_left _ (List.mem_append_left _ (List.mem_map.2 ⟨x, List.mem_map.2 ⟨x.data.toList, ?_, toBA_data x⟩, by rw [hx]; rfl⟩))
        rw [(sortS_perm _).mem_iff]
        exact List.mem_map.2 ⟨_, lookG_mem hx, rfl⟩
      have := b2 ⟨_, hm, rfl, rfl⟩
      rw [hx] at this h1
      omega
  · have hlo : L.next ≤ L.next := Int.le_refl _
    obtain ⟨a1, a2, a3⟩ := next_max (R.drop i ++ recsL L) 1
    obtain ⟨b1, b2, b3⟩ := next_max R 1
    rw [h.next] at b1 b2
    have hCid : ∀ c ∈ recsL L, c.kind ≠ 3 → c.id + 1 ≤ L.next := fun c hc hk => by
      rcases recs_cases hg hc with ⟨y, t, hy, rfl⟩ | ⟨hy, rfl⟩ | ⟨k, z, hy, hk', rfl⟩
      · simp [waitF] at hk
      · simp only [doneF]; omega
      · have := hi _ (lookG_mem hy)
        simp only [RQ.toF] at this ⊢
        omega
    refine Int.le_antisymm (a3 _ hg.lo fun r hr hk => ?_) ?_
    · rcases List.mem_append.1 hr with hr | hr
      · exact b2 r (List.mem_of_mem_drop hr) hk
      · exact hCid r hr hk
    · cases hx : lookG L.live (L.next - 1) with
      | none =>
        have hm : doneF (L.next - 1) ∈ recsL L := by
          refine List.mem_append_left _ (List.mem_append_right _ ?_)
          unfold tellR; rw [hx]; simp
        have := a2 _ (List.mem_append_right _ hm) (by simp [doneF])
        simp only [doneF] at this
        omega
      | some q =>
        have hq := lookG_mem hx
        have hm : q.toF 1 ∈ recsL L := List.mem_append_right _ (List.mem_map.2 ⟨q, List.mem_map.2 ⟨L.next - 1, idsL_mem.2 ⟨q, hq⟩, by rw [hx]; rfl⟩, rfl⟩)
        have := a2 _ (List.mem_append_right _ hm) (by simp [RQ.toF])
        have h1 := (hg.live _ hq).1
        simp only [RQ.toF] at this
        simp only at h1
        omega

structure PC (b : Nat) (N : Int) (L : LM) (R : List FRec) (m : Nat) : Prop where
  same : ∀ j, j ≤ m → SameR L (R.take (R.length - j))
  good : ∀ c ∈ R, GoodR b N c

theorem clo_PC {b : Nat} {N : Int} {L : LM} (hg : LG b N L) (hb : 26 ≤ b) (hN : N ≤ 9223372036854775807) (hi : IdL L) (hd : NoDup L) : Clo (PC b N L) (recsL L) := by
  have h4 := hg.recs hb hN
  refine ⟨fun R m c hp hc => ⟨fun j hj => ?_, fun x hx => ?_⟩, fun R m i hp => ⟨fun j hj => ?_, fun c hc => ?_⟩, fun R m hp => ⟨fun j hj => hp.same j (by omega), hp.good⟩⟩
  · cases j with
    | zero =>
      have := hp.same 0 (Nat.zero_le _)
      rw [Nat.sub_zero, List.take_length] at this ⊢
      exact this.app hg hi hc
    | succ j =>
      have : (R ++ [c]).take ((R ++ [c]).length - (j + 1)) = R.take (R.length - j) := by
        rw [List.length_append, List.length_singleton, List.take_append_of_le_length (by omega)]
        congr 1; omega
      rw [this]
      exact hp.same j (by omega)
  · rcases List.mem_append.1 hx with hx | hx
    · exact hp.good x hx
    · rw [List.mem_singleton.1 hx]; exact h4 c hc
  · have h0 : j = 0 := by omega
    subst h0
    have := hp.same 0 (Nat.zero_le _)
    rw [Nat.sub_zero, List.take_length] at this ⊢
    exact this.dump hg hb hN hi hd hp.good i
  · rcases List.mem_append.1 hc with hc | hc
    · exact hp.good c (List.mem_of_mem_drop hc)
    · exact h4 c hc

theorem pend_same {L L2 : LM} (h : ∀ id, lookG L.live id = lookG L2.live id) (hd : NoDup L) (hd2 : NoDup L2) : pendL L = pendL L2 := by
  have hk : idsL L = idsL L2 := by
    refine sorted_unique ?_ (sortZ_sorted _) (sortZ_sorted _)
    refine ((sortZ_perm _).trans ?_).trans (sortZ_perm _).symm
    refine (List.perm_ext_iff_of_nodup hd.live hd2.live).2 fun k => ?_
    have key : ∀ F : List (Int × RQ), k ∈ F.map (fun q => q.1) ↔ (lookG F k).isSome = true := fun F => by
      cases hx : lookG F k with
      | none =>
        rw [lookG_none] at hx
        simp only [Option.isSome_none, Bool.false_eq_true, iff_false]
        intro hm
        obtain ⟨q, hq, he⟩ := List.mem_map.1 hm
        exact hx q hq he
      | some y => simp only [Option.isSome_some, iff_true]; exact List.mem_map.2 ⟨_, lookG_mem hx, rfl⟩
    rw [key, key, h]
  unfold pendL
  rw [hk]
  exact List.map_congr_left fun k _ => by rw [h]
end Go.Proofs.Ytlcfmfljmabaeaa


/-
  SpillCompacts, in plain terms: the acts; compacting, failing anywhere, and a crash.
-/
set_option maxRecDepth 100000
set_option linter.unusedVariables false
set_option linter.unusedSimpArgs false
namespace Go.Proofs.Ytlcfmfljmabaeaa
open Go Go.Abs Go.Abs.K

structure N7 (D : DM) (L : LM) (E : List Ent) (T : Int → List Int) (i : Nat) : Prop where
  ld : LD D L E 0 T
  full : Full 176 D L E
  dm : D.most = 16
  df : D.fails = 0
  lm : L.most = 7
  cE : E.length ≤ i
  cL : L.live.length + L.wait.length ≤ i
  lg : LG 176 ((i : Int) + 1) L
  idl : IdL L
  good : ∀ r ∈ rcs E, GoodR 176 ((i : Int) + 1) r
  same : SameR L (rcs E)
  lst : L.last ≤ 100 * i
  dup : NoDup L

section
variable {D : DM} {L : LM} {E : List Ent} {T : Int → List Int} {i : Nat}

theorem N7.step (h : N7 D L E T i) : N7 D L E T (i + 1) := by
  have h1 := h.cE; have h2 := h.cL; have h3 := h.lst
  exact ⟨h.ld, h.full, h.dm, h.df, h.lm, by omega, by omega, h.lg.up (by push_cast; omega), h.idl, fun r hr => (h.good r hr).up (by push_cast; omega), h.same, by push_cast; omega, h.dup⟩

theorem N7.room (h : N7 D L E T i) (hi : i ≤ 25) : Room D L := by
  have h1 := h.lg.lo; have h2 := h.cL; have h3 := h.lst
  exact ⟨h1, by omega, by omega, by rw [holds_loose0 h.ld.h]; simp, by omega⟩

theorem N7.segs (h : N7 D L E T i) (hi : i ≤ 25) : (keysF D).length ≤ 3 := by
  have h1 := few_segs h.full h.ld
  have h2 := bytesN_le (R := rcs E) (b := 176) fun r hr => (h.good r hr).le
  rw [List.length_map] at h2
  have h3 := h.cE
  have h4 : E.length * 176 ≤ 25 * 176 := Nat.mul_le_mul_right _ (by omega)
  refine Decidable.byContradiction fun hc => ?_
  have : 3 * (2048 - 176) ≤ ((keysF D).length - 1) * (2048 - 176) := Nat.mul_le_mul_right _ (by omega)
  omega

theorem add7 {L1 : LM} {r : FRec} (h : N7 D L E T i) (hi : i < 25) (hll : L1.last = L.last) (hlm : L1.most = 7) (hg : GoodR 176 ((i : Int) + 2) r) :
    (addM D L1 r).2.2 = 0 ∧ (addM D L1 r).1.fails = 0 ∧ (addM D L1 r).1.most = 16 ∧ ∃ n, LD (addM D L1 r).1 (addM D L1 r).2.1 (E ++ [(n, r)]) 0 T ∧ Full 176 (addM D L1 r).1 (addM D L1 r).2.1 (E ++ [(n, r)]) := by
  have hsg := h.segs (by omega)
  obtain ⟨a1, a2, a3, ⟨n, a4⟩, a5⟩ := add_ok (by decide) (h.ld.lm hll) hg.three h.df (by rw [hlm]; omega) (by rw [h.dm]; omega)
  exact ⟨a1, a2, a3.trans h.dm, n, a4, a5 (fun n hn hnl => h.full n hn (by rw [hll] at hnl; exact hnl)) _⟩

theorem goods {r : FRec} {N : Int} (h : ∀ r ∈ rcs E, GoodR 176 ((i : Int) + 1) r) (hN : (i : Int) + 1 ≤ N) (hg : GoodR 176 N r) (n : Int) : ∀ x ∈ rcs (E ++ [(n, r)]), GoodR 176 N x := by
  intro x hx
  rw [rcs, List.map_append] at hx
  rcases List.mem_append.1 hx with hx | hx
  · exact (h x hx).up hN
  · simp only [List.map_cons, List.map_nil, List.mem_singleton] at hx
    rw [hx]; exact hg

theorem rcs_snoc (E : List Ent) (n : Int) (r : FRec) : rcs (E ++ [(n, r)]) = rcs E ++ [r] := by rw [rcs, List.map_append]; rfl

theorem n7_put {r : RQ} (h : N7 D L E T i) (hi : i < 25) (hr : r.id = L.next) (hw : r.Wide) (hsz : (r.toF 1).sound = true → r.host.size + r.path.size ≤ 150) : ∃ E', N7 (putM D L r).1 (putM D L r).2.1 E' T (i + 1) := by
  have hlo := h.lg.lo; have hhi := h.lg.hi; have hcE := h.cE; have hcL := h.cL; have hls := h.lst
  unfold putM
  cases hs : (r.toF 1).sound with
  | false =>
    have ha : addM D L (r.toF 1) = (D, L, 2) := by unfold addM; rw [if_neg (by rw [hs]; simp)]
    rw [ha]
    have : putL L r 2 = L := rfl
    simp only [this]
    exact ⟨E, h.step⟩
  | true =>
    have hg : GoodR 176 ((i : Int) + 2) (r.toF 1) := ⟨hs, ⟨hw.id, hw.till, by simp [RQ.toF], hw.prio⟩, by have := hsz hs; simp only [RQ.toF]; omega, by simp only [RQ.toF]; omega⟩
    obtain ⟨a1, a2, a3, n, a4, a5⟩ := add7 (r := r.toF 1) h hi rfl h.lm hg
    have haf := addM_facts D L (r.toF 1)
    obtain ⟨b1, b2, b3, b4⟩ := lm_last haf.1
    obtain ⟨W, hW⟩ : ∃ W, W = addM D L (r.toF 1) := ⟨_, rfl⟩
    rw [← hW] at a1 a2 a3 a4 a5 haf b1 b2 b3 b4 ⊢
    have hmx : max W.2.1.next (r.id + 1) = L.next + 1 := by omega
    have hL : putL W.2.1 r W.2.2 = { W.2.1 with next := L.next + 1, live := putG W.2.1.live r.id r } := by unfold putL; simp only [a1, hmx]; rfl
    simp only [hL]
    refine ⟨E ++ [(n, r.toF 1)], a4.lm rfl, a5, a3, a2, b4.trans h.lm, ?_, ?_, ⟨fun q hq => ?_, fun q hq => ?_, by simp only; omega, by simp only; push_cast; omega⟩, fun q hq => ?_, fun x hx => ?_, ⟨fun id => ?_, fun x => ?_, ?_⟩, ?_, ⟨?_, ?_⟩⟩
    · simp only [List.length_append, List.length_cons, List.length_nil]; omega
    · simp only
      have := putG_len W.2.1.live r.id r
      rw [b2] at this ⊢
      rw [b3]; omega
    · simp only at hq
      rcases putG_mem hq with hq | hq
      · rw [b2] at hq
        exact ⟨(h.lg.live q hq).1, (h.lg.live q hq).2.up (by push_cast; omega)⟩
      · subst hq; exact ⟨rfl, hg.up (by push_cast; omega)⟩
    · simp only at hq
      rw [b3] at hq
      exact (h.lg.wait q hq).up (by push_cast; omega)
    · simp only at hq ⊢
      rcases putG_mem hq with hq | hq
      · rw [b2] at hq
        have := h.idl q hq; omega
      · subst hq; simp only; omega
    · exact goods h.good (by push_cast; omega) (hg.up (by push_cast; omega)) n x hx
    · rw [rcs_snoc, liveF_snoc, stepI_put, h.same.live]
      simp only [lookG_put, b2]
    · rw [rcs_snoc, waitV_snoc, if_neg (by simp [RQ.toF]), h.same.wait]
      simp only [b3]
    · rw [rcs_snoc, next_snoc, h.same.next, stepN_put]
      simp only; omega
    · simp only
      have := haf.2.2.1
      push_cast; omega
    · simp only; rw [b2]; exact putG_nodup h.dup.live _ _
    · simp only; rw [b3]; exact h.dup.wait

theorem n7_turn {L1 : LM} {r : FRec} (h : N7 D L E T i) (hi : i < 25) (hll : L1.last = L.last) (hlm : L1.most = 7) (hg : GoodR 176 ((i : Int) + 2) r) (hlg : LG 176 ((i : Int) + 2) L1) (hil : IdL L1) (hs : SameR L1 (rcs E ++ [r])) (hc : L1.live.length + L1.wait.length ≤ i + 1) (hd : NoDup L1) :
    ∃ E', N7 (addM D L1 r).1 (addM D L1 r).2.1 E' T (i + 1) := by
  have hcE := h.cE; have hls := h.lst
  obtain ⟨a1, a2, a3, n, a4, a5⟩ := add7 (r := r) h hi hll hlm hg
  have haf := addM_facts D L1 r
  obtain ⟨b1, b2, b3, b4⟩ := lm_last haf.1
  have hl := haf.2.2.1
  refine ⟨E ++ [(n, r)], a4, a5, a3, a2, b4.trans hlm, ?_, by rw [b2, b3]; exact hc, (hlg.of_last haf.1).up (by push_cast; omega), fun q hq => ?_, goods h.good (by push_cast; omega) (hg.up (by push_cast; omega)) n, ⟨?_, ?_, ?_⟩, by push_cast; omega, ⟨by rw [b2]; exact hd.live, by rw [b3]; exact hd.wait⟩⟩
  · simp only [List.length_append, List.length_cons, List.length_nil]; omega
  · rw [b2] at hq; rw [b1]; exact hil q hq
  · rw [rcs_snoc, b2]; exact hs.live
  · rw [rcs_snoc, b3]; exact hs.wait
  · rw [rcs_snoc, b1]; exact hs.next

theorem n7_done {n : Int} (h : N7 D L E T i) (hi : i < 25) : ∃ E', N7 (doneM D L n).1 (doneM D L n).2.1 E' T (i + 1) := by
  have hlo := h.lg.lo; have hhi := h.lg.hi; have hcL := h.cL
  unfold doneM
  split
  · rename_i hs
    obtain ⟨q, hq⟩ := Option.isSome_iff_exists.1 hs
    obtain ⟨g1, g2⟩ := h.lg.live _ (lookG_mem hq)
    obtain ⟨_, _, g3, _⟩ := FRec.of_sound g2.sound
    have g4 := h.idl _ (lookG_mem hq)
    simp only [RQ.toF] at g1 g3 g4
    have hdl : (delG L.live n).length ≤ L.live.length := (delG_sub _ _).length_le
    refine n7_turn (L1 := { L with live := delG L.live n }) h hi rfl h.lm (goodR_done (by omega) (by omega) (by omega) (by decide)) ⟨fun q hq => ⟨(h.lg.live q ((delG_sub _ _).subset hq)).1, (h.lg.live q ((delG_sub _ _).subset hq)).2.up (by omega)⟩, fun q hq => (h.lg.wait q hq).up (by omega), hlo, by simp only; omega⟩ (fun q hq => h.idl q ((delG_sub _ _).subset hq)) ⟨fun id => ?_, fun x => ?_, ?_⟩ (by simp only; omega) ⟨delG_nodup h.dup.live _, h.dup.wait⟩
    · rw [liveF_snoc, stepI_done, h.same.live]
      simp only [lookG_del h.dup.live]
    · rw [waitV_snoc, if_neg (by simp [doneF]), h.same.wait]
    · rw [next_snoc, h.same.next, stepN_done]
      simp only; omega
  · exact ⟨E, h.step⟩

theorem n7_wait {b : ByteArray} {t : Int} (h : N7 D L E T i) (hi : i < 25) (ht : W64 t) (hb : b.size ≤ 100) : ∃ E', N7 (waitM D L b t).1 (waitM D L b t).2.1 E' T (i + 1) := by
  have hlo := h.lg.lo; have hhi := h.lg.hi; have hcL := h.cL
  unfold waitM
  split
  · rename_i hs
    obtain ⟨s1, _, _, s4, _⟩ := FRec.of_sound hs
    simp only [waitF] at s1 s4
    unfold W64 at ht
    have hg : GoodR 176 ((i : Int) + 2) (waitF b t) := goodR_wait s1 (by omega) (by omega) (by omega)
    have hlv : (applyL L (waitF b t)).live = L.live := by simp only [applyL, waitF]; rfl
    have hnx : (applyL L (waitF b t)).next = L.next := by simp only [applyL, waitF]; rfl
    have hlen := apply_len L (waitF b t)
    have hlg2 : LG 176 ((i : Int) + 2) L := h.lg.up (by omega)
    refine n7_turn (L1 := applyL L (waitF b t)) h hi rfl h.lm hg (hlg2.apply hg) (by rw [IdL, hlv, hnx]; exact h.idl) ⟨fun id => ?_, fun x => ?_, ?_⟩ (by rw [hlv]; omega) (h.dup.apply _)
    · rw [liveF_snoc, h.same.live, hlv]; simp [stepI, waitF]
    · rw [waitV_snoc, h.same.wait, apply_wait]
      unfold stepH
      by_cases hx : x = b
      · subst hx; simp [waitF]
      · simp [waitF, hx]
    · rw [next_snoc, h.same.next, hnx]; simp [stepN, waitF]
  · exact ⟨E, h.step⟩

theorem n7_zero : N7 ⟨16, 0, 0, [], []⟩ (openM ⟨16, 0, 0, [], []⟩ 7) [] (fun _ => []) 0 := by
  have h := n3_zero
  have he : openM ⟨16, 0, 0, [], []⟩ 7 = L0 7 := rfl
  rw [he] at h ⊢
  exact ⟨h.ld, fun n hn => by simp [keysF, sortZ] at hn, rfl, rfl, rfl, by simp, by simp [L0], lg0 7 (by simp), by simp [IdL, L0], by simp, ⟨fun id => rfl, fun x => rfl, rfl⟩, by simp [L0], h.dup⟩

theorem n7_compact {f g : Int} (h : N7 D L E T i) (hi : i ≤ 25) (hg : 0 ≤ g) {D1 : DM} (hD1 : D1 = { D with first := f, fails := g }) :
    ((compactM D1 L).2.2 = 0 ∨ (compactM D1 L).2.2 = 7) ∧ (g = 0 → (compactM D1 L).2.2 = 0) ∧ ∃ E' m' T', LD (compactM D1 L).1 (compactM D1 L).2.1 E' m' T' ∧ PC 176 ((i : Int) + 1) L (rcs E') m' ∧ (compactM D1 L).2.1.last ≤ 10000 := by
  have hhi := h.lg.hi; have hcL := h.cL; have hls := h.lst; have hsg := h.segs hi
  have hkeys : keysF D1 = keysF D := by rw [hD1]
  have hld : LD D1 L E 0 T := ⟨h.ld.h.congr (by rw [hD1]) (by rw [hD1]), by rw [hkeys]; exact h.ld.top, h.ld.cur, h.ld.pos, by rw [hkeys]; exact h.ld.low⟩
  have hrg := h.lg.recs (by decide) (by omega)
  have hrl := recsL_len L
  have hby := bytesN_le (R := recsL L) (b := 176) fun r hr => (hrg r hr).le
  have hby2 : (recsL L).length * 176 ≤ 26 * 176 := Nat.mul_le_mul_right _ (by omega)
  obtain ⟨E', m', T', q, a1, a2, a3, a4, a5, a6, a7, a8, a9⟩ := compact_holds (b := 176) (by decide) hld fun r hr => (hrg r hr).three
  have hq : q ≤ 2 := by
    refine Decidable.byContradiction fun hc => ?_
    have : 3 * (2048 - 176) ≤ q * (2048 - 176) := Nat.mul_le_mul_right _ (by omega)
    omega
  have h5 : (compactM D1 L).2.2 ≠ 5 := fun h5 => by
    have := a6 h5
    rw [hkeys, show D1.most = 16 by rw [hD1]; exact h.dm] at this
    omega
  obtain ⟨E2, m2, T2, c1, c2, c3⟩ := compact_P (P := PC 176 ((i : Int) + 1) L) (b := 176) (by decide) hld (fun r hr => (hrg r hr).three) (clo_PC h.lg (by decide) (by omega) h.idl h.dup) ⟨fun j hj => by rw [show j = 0 by omega, Nat.sub_zero, List.take_length]; exact h.same, h.good⟩
  refine ⟨by omega, fun hg0 => ?_, E2, m2, T2, c1, c2, by omega⟩
  have := (a9 (by rw [hD1]; exact hg0)).1
  omega

theorem n7_crash {D1 D2 : DM} {L1 : LM} {E' : List Ent} {m' : Nat} {T' : Int → List Int} {k : Int} {N : Int} (hd : NoDup L) (hN : N ≤ 9223372036854775807) (h : LD D1 L1 E' m' T') (hp : PC 176 N L (rcs E') m') (hl : L1.last ≤ 10000) (hk : 0 ≤ k) (hD2 : D2 = ⟨D1.most, 0, 0, crashF D1.loose k D1.F, []⟩) :
    (∀ n ∈ keysF D2, n < 9223372036854775807 ∧ ∀ r ∈ (scanD D2 n).1, r.Wide ∧ r.id < 9223372036854775807 ∧ r.host.size ≤ 4611686018427387904) ∧ pendL (openM D2 7) = pendL L ∧ (∀ x, (lookG (openM D2 7).wait x).getD 0 = (lookG L.wait x).getD 0) ∧ (openM D2 7).next = L.next ∧ (openM D2 7).live.length ≤ E'.length := by
  obtain ⟨j, T2, hj, hh, hkeys⟩ := h.h.crash hk
  rw [← hD2] at hh hkeys
  have hR : rcs (E'.take (E'.length - m' + j)) = (rcs E').take ((rcs E').length - (m' - j)) := by
    rw [rcs, List.map_take, List.length_map]
    congr 1
    have := h.h.le
    omega
  have hs := hp.same (m' - j) (by omega)
  rw [← hR] at hs
  obtain ⟨o1, o2, o3, o4, o5⟩ := openM_eq hh 7
  have hal := all_len (rcs (E'.take (E'.length - m' + j))) (L0 7)
  have hl0 : (L0 7).live.length = 0 := rfl
  refine ⟨open_ask (B := L1.last) hh (fun r hr => hp.good r ?_) hN (by omega) (by rw [hkeys]; exact h.top), pend_same (fun id => ?_) (open_dup hh 7) hd, fun x => ?_, ?_, ?_⟩
  · rw [rcs, List.map_take] at hr
    exact List.mem_of_mem_take hr
  · rw [o2, all_live (nodup0 7)]; exact hs.live id
  · rw [o3, all_wait]; exact hs.wait x
  · rw [o1, all_next]; exact hs.next
  · rw [o2]
    rw [List.length_map, List.length_take] at hal
    omega
end
end Go.Proofs.Ytlcfmfljmabaeaa
