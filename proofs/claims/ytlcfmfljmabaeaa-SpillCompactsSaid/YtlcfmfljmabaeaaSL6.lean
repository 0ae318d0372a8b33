/-
  write and add in plain terms.
-/
import Derived.Test.YtlcfmfljmabaeaaSL4
set_option maxRecDepth 100000
set_option linter.unusedVariables false
set_option linter.unusedSimpArgs false
namespace Go.Proofs.Ytlcfmfljmabaeaa
open Go Go.Abs Go.Abs.K

def Full (b : Nat) (D : DM) (L : LM) (E : List Ent) : Prop := ∀ n ∈ keysF D, n < L.last → 2048 - b < (cont E n).length

theorem write_holds {D : DM} {L : LM} {E : List Ent} {m : Nat} {T : Int → List Int} {r : FRec} {b : Nat} (hb : b < 2048) (h : LD D L E m T) (hr : r.sound = true ∧ r.Wide ∧ (recL r).length ≤ b) :
    (writeM D L (recL r)).1.most = D.most ∧ (D.fails = 0 → (writeM D L (recL r)).1.fails = 0 ∧ (writeM D L (recL r)).2.2 ≠ 7) ∧ (Full b D L E → ∀ E1, Full b (writeM D L (recL r)).1 (writeM D L (recL r)).2.1 (E ++ E1)) ∧
    (((writeM D L (recL r)).2.2 = 0 ∧ ∃ n, LD (writeM D L (recL r)).1 (writeM D L (recL r)).2.1 (E ++ [(n, r)]) (m + 1) T) ∨
     (((writeM D L (recL r)).2.2 = 5 ∨ (writeM D L (recL r)).2.2 = 7) ∧ LD (writeM D L (recL r)).1 (writeM D L (recL r)).2.1 E m T ∧ ((writeM D L (recL r)).2.2 = 5 → L.most ≤ ((keysF D).length : Nat) ∨ D.most ≤ ((keysF D).length : Nat)))) := by
  have hw : writeM D L (recL r) = (wrD D L (recL r), wrL D L (recL r).length, wrE D L (recL r).length) := rfl
  rw [hw]
  simp only
  have hrd := h.h.read L.last
  rw [h.cur, List.append_nil] at hrd
  obtain ⟨L', hL'⟩ : ∃ L', L' = wrL D L (recL r).length := ⟨_, rfl⟩
  have hlm := wrL_eq D L (recL r).length
  have hmost : L'.most = L.most := by rw [hL']; exact (lm_last hlm.1).2.2.2
  have hcase : (L'.last = L.last ∧ (recL r).length ≤ 2048 - (cont E L.last).length) ∨ (L'.last = L.last + 1 ∧ 2048 - b < (cont E L.last).length) := by
    rw [hL']
    unfold wrL
    rw [hrd]
    split
    · exact .inr ⟨rfl, by omega⟩
    · exact .inl ⟨rfl, by omega⟩
  unfold wrD wrE
  rw [← hL']
  rw [← hL'] at hlm
  have hfull : Full b D L E → ∀ E1 (D2 : DM), (∀ n ∈ keysF D2, n = L'.last ∨ n ∈ keysF D) → Full b D2 L' (E ++ E1) := by
    intro hF E1 D2 hk n hn hnl
    rw [cont_append, List.length_append]
    rcases hk n hn with hk | hk
    · omega
    · rcases hcase with ⟨h1, _⟩ | ⟨h1, h2⟩
      · have := hF n hk (by omega); omega
      · by_cases hne : n = L.last
        · rw [hne]; omega
        · have := hF n hk (by omega); omega
  have hLD : ∀ D2 : DM, D2.F = D.F → D2.loose = D.loose → LD D2 L' E m T := fun D2 h1 h2 => by
    refine ⟨h.h.congr h1 h2, fun n hn => ?_, ?_, by have := h.pos; omega, fun n hn => h.low n (by unfold keysF at hn; rw [h1] at hn; exact hn)⟩
    · have hk : keysF D2 = keysF D := by unfold keysF; rw [h1]
      rw [hk] at hn
      have := h.top n hn; omega
    · exact h.above _ (by omega)
  cases hnr : noRoom D L'
  · simp only [Bool.false_eq_true, if_false]
    have hread : (recL r).length + (readB D L'.last).length ≤ 2048 := by
      rw [h.h.read, h.above _ (by omega), List.append_nil]
      rcases hcase with ⟨h1, h2⟩ | ⟨h1, h2⟩
      · rw [h1]
        have : 6 ≤ (recL r).length := by rw [recL_length]; omega
        omega
      · rw [h1, cont_none fun e he hx => by have := h.top _ (h.h.mem e he); omega]
        simp only [List.length_nil]; omega
    rcases appE_cases D L'.last (recL r).length (by have := h.pos; omega) with ⟨he, hf, hwb⟩ | ⟨he, hf⟩ | ⟨he, hf, hwb⟩
    · have hD : appD D L'.last (recL r) = { wD D with F := putF D.F L'.last (readB D L'.last ++ recL r), loose := D.loose ++ [(L'.last, ((recL r).length : Int))] } := by
        unfold appD
        rw [if_neg (by have := h.pos; omega), hf, hwb]; rfl
      have hk2 : ∀ n, n ∈ keysF (appD D L'.last (recL r)) ↔ n = L'.last ∨ n ∈ keysF D := fun n => by rw [mem_keysF, mem_keysF, hD, mem_putF]
      refine ⟨by rw [hD]; rfl, fun hf0 => ⟨by rw [hD]; simp only [wD, hf0, wG_zero], by rw [he]; decide⟩, fun hF E1 => hfull hF E1 _ fun n hn => (hk2 n).1 hn, .inl ⟨he, L'.last, ?_, fun n hn => ?_, h.above _ (by omega), by have := h.pos; omega, fun n hn => ((hk2 n).1 hn).elim (fun e => by have := h.pos; omega) (h.low n)⟩⟩
      · exact h.h.append ⟨hr.1, hr.2.1⟩ (fun e he => by have := h.top _ (h.h.mem e he); omega) (h.above _ (by omega)) (by rw [hD]) (by rw [hD])
      · rcases (hk2 n).1 hn with rfl | hn
        · omega
        · have := h.top n hn; omega
    · have hD : appD D L'.last (recL r) = D := by
        unfold appD
        rw [if_neg (by have := h.pos; omega), hf]; rfl
      rw [hD, he]
      refine ⟨by trivial, fun hf0 => ⟨hf0, by decide⟩, fun hF E1 => hfull hF E1 _ fun n hn => .inr hn, .inr ⟨.inl (by trivial), hLD D rfl rfl, fun _ => .inr ?_⟩⟩
      unfold fullD at hf
      simp only [Bool.or_eq_true, Bool.and_eq_true, decide_eq_true_eq] at hf
      rcases hf with ⟨_, hf⟩ | hf
      · rw [keys_len]; omega
      · omega
    · have hD : appD D L'.last (recL r) = wD D := by
        unfold appD
        rw [if_neg (by have := h.pos; omega), hf, hwb]; rfl
      rw [hD, he]
      refine ⟨rfl, fun hf0 => ?_, fun hF E1 => hfull hF E1 _ fun n hn => .inr hn, .inr ⟨.inr rfl, hLD (wD D) rfl rfl, fun h5 => by simp at h5⟩⟩
      rw [hf0, wB_zero] at hwb; cases hwb
  · simp only [if_true]
    refine ⟨by trivial, fun hf0 => ⟨hf0, by decide⟩, fun hF E1 => hfull hF E1 _ fun n hn => .inr hn, .inr ⟨.inl (by trivial), hLD D rfl rfl, fun _ => .inl ?_⟩⟩
    unfold noRoom at hnr
    simp only [Bool.and_eq_true, decide_eq_true_eq] at hnr
    rw [← hmost]; omega

abbrev rcs (E : List Ent) : List FRec := E.map fun e => e.2

structure Clo (P : List FRec → Nat → Prop) (C : List FRec) : Prop where
  app : ∀ R m c, P R m → c ∈ C → P (R ++ [c]) (m + 1)
  dump : ∀ R m i, P R m → P (R.drop i ++ C) 0
  sync : ∀ R m, P R m → P R 0

theorem Clo.apps {P : List FRec → Nat → Prop} {C : List FRec} (h : Clo P C) : ∀ (C1 : List FRec) (R : List FRec) (m : Nat), (∀ c ∈ C1, c ∈ C) → P R m → P (R ++ C1) (m + C1.length) := by
  intro C1
  induction C1 with
  | nil => intro R m _ hp; simpa using hp
  | cons c C1 ih =>
    intro R m hc hp
    have := ih (R ++ [c]) (m + 1) (fun x hx => hc x (List.mem_cons_of_mem _ hx)) (h.app R m c hp (hc c (List.mem_cons_self ..)))
    rw [List.append_assoc] at this
    rw [List.length_cons, show m + (C1.length + 1) = m + 1 + C1.length by omega]
    exact this

theorem LD.lm {D : DM} {L L' : LM} {E : List Ent} {m : Nat} {T : Int → List Int} (h : LD D L E m T) (hl : L'.last = L.last) : LD D L' E m T :=
  ⟨h.h, by rw [hl]; exact h.top, by rw [hl]; exact h.cur, by rw [hl]; exact h.pos, h.low⟩

section
variable {P : List FRec → Nat → Prop} {D : DM} {L : LM} {E : List Ent} {m : Nat} {T : Int → List Int} {r : FRec} {b : Nat}

theorem compact_P (hb : b < 2048) (h : LD D L E m T) (hr : ∀ r ∈ recsL L, r.sound = true ∧ r.Wide ∧ (recL r).length ≤ b) (hc : Clo P (recsL L)) (hP : P (rcs E) m) :
    ∃ E' m' T', LD (compactM D L).1 (compactM D L).2.1 E' m' T' ∧ P (rcs E') m' ∧ (compactM D L).1.most = D.most := by
  obtain ⟨E', m', T', q, h1, h2, _, _, hcase, _⟩ := compact_holds hb h hr
  refine ⟨E', m', T', h1, ?_, h2⟩
  rcases hcase with ⟨_, C1, C2, hC, hE, hm⟩ | ⟨i, hE, hm⟩
  · rw [show rcs E' = rcs E ++ C1 from hE, hm]
    exact hc.apps C1 _ _ (fun c hx => by rw [hC]; exact List.mem_append_left _ hx) hP
  · rw [show rcs E' = (E.drop i).map (fun e => e.2) ++ recsL L from hE, hm, List.map_drop]
    exact hc.dump _ _ i hP

theorem room_P (hb : b < 2048) (h : LD D L E m T) (hr : ∀ r ∈ recsL L, r.sound = true ∧ r.Wide ∧ (recL r).length ≤ b) (hrr : r.sound = true ∧ r.Wide ∧ (recL r).length ≤ b) (hc : Clo P (recsL L)) (hx : ∀ R m, P R m → P (R ++ [r]) (m + 1)) (hP : P (rcs E) m) :
    ∃ E' m' T', LD (roomM D L (recL r)).1 (roomM D L (recL r)).2.1 E' m' T' ∧ P (rcs E') m' ∧ (roomM D L (recL r)).1.most = D.most ∧ ((roomM D L (recL r)).2.2 = 0 → ∃ R0, rcs E' = R0 ++ [r]) := by
  have step : ∀ (D : DM) (L : LM) (E : List Ent) (m : Nat) (T : Int → List Int), LD D L E m T → P (rcs E) m → ∃ E' m' T', LD (writeM D L (recL r)).1 (writeM D L (recL r)).2.1 E' m' T' ∧ P (rcs E') m' ∧ (writeM D L (recL r)).1.most = D.most ∧ ((writeM D L (recL r)).2.2 = 0 → ∃ R0, rcs E' = R0 ++ [r]) := by
    intro D L E m T h hP
    obtain ⟨h1, _, _, ⟨_, n, h2⟩ | ⟨h5, h2, _⟩⟩ := write_holds hb h hrr
    · exact ⟨_, _, _, h2, by rw [rcs, List.map_append]; exact hx _ _ hP, h1, fun _ => ⟨rcs E, by rw [rcs, List.map_append]; rfl⟩⟩
    · exact ⟨_, _, _, h2, hP, h1, fun h0 => by rw [h0] at h5; simp at h5⟩
  unfold roomM
  simp only
  obtain ⟨E1, m1, T1, a1, a2, a3, a4⟩ := step D L E m T h hP
  have hre := recsL_last (writeM_facts D L (recL r)).1
  split
  · obtain ⟨E2, m2, T2, b1, b2, b3⟩ := compact_P hb a1 (by rw [hre]; exact hr) (by rw [hre]; exact hc) a2
    split
    · obtain ⟨E3, m3, T3, c1, c2, c3, c4⟩ := step _ _ E2 m2 T2 b1 b2
      exact ⟨E3, m3, T3, c1, c2, c3.trans (b3.trans a3), c4⟩
    · exact ⟨E2, m2, T2, b1, b2, b3.trans a3, fun h => by contradiction⟩
  · exact ⟨E1, m1, T1, a1, a2, a3, a4⟩

theorem syncM_LD (h : LD D L E m T) : (syncM D).most = D.most ∧ ∃ m', LD (syncM D) L E m' T ∧ (m' = m ∨ m' = 0) ∧ (syncE D = 0 → m' = 0) := by
  unfold syncM syncE
  cases hw : wB D.first D.fails
  · exact ⟨rfl, m, ⟨h.h.congr rfl rfl, h.top, h.cur, h.pos, h.low⟩, .inl rfl, fun h => by simp at h⟩
  · exact ⟨rfl, 0, ⟨h.h.sync rfl rfl, h.top, h.cur, h.pos, h.low⟩, .inr rfl, fun _ => rfl⟩

theorem add_P (hb : b < 2048) (h : LD D L E m T) (hr : ∀ r ∈ recsL L, r.sound = true ∧ r.Wide ∧ (recL r).length ≤ b) (hrr : r.Wide ∧ (r.sound = true → (recL r).length ≤ b)) (hc : Clo P (recsL L)) (hx : r.sound = true → ∀ R m, P R m → P (R ++ [r]) (m + 1)) (hP : P (rcs E) m) :
    ∃ E' m' T', LD (addM D L r).1 (addM D L r).2.1 E' m' T' ∧ P (rcs E') m' ∧ (addM D L r).1.most = D.most ∧ ((addM D L r).2.2 = 0 → m' = 0 ∧ ∃ R0, rcs E' = R0 ++ [r]) := by
  unfold addM
  cases hs : r.sound with
  | false => exact ⟨E, m, T, h, hP, rfl, fun h => by simp at h⟩
  | true =>
    simp only [if_true]
    obtain ⟨E1, m1, T1, a1, a2, a3, a4⟩ := room_P hb h hr ⟨hs, hrr.1, hrr.2 hs⟩ hc (hx hs) hP
    split
    · rename_i h0
      obtain ⟨s1, m2, s2, s3, s4⟩ := syncM_LD a1
      refine ⟨E1, m2, T1, s2, ?_, s1.trans a3, fun h => ⟨s4 h, a4 h0⟩⟩
      rcases s3 with rfl | rfl
      · exact a2
      · exact hc.sync _ _ a2
    · exact ⟨E1, m1, T1, a1, a2, a3, fun h => by contradiction⟩

theorem add_ok (hb : b < 2048) (h : LD D L E 0 T) (hrr : r.sound = true ∧ r.Wide ∧ (recL r).length ≤ b) (hf : D.fails = 0) (h1 : ((keysF D).length : Int) < L.most) (h2 : ((keysF D).length : Int) < D.most) :
    (addM D L r).2.2 = 0 ∧ (addM D L r).1.fails = 0 ∧ (addM D L r).1.most = D.most ∧ (∃ n, LD (addM D L r).1 (addM D L r).2.1 (E ++ [(n, r)]) 0 T) ∧ (Full b D L E → ∀ E1, Full b (addM D L r).1 (addM D L r).2.1 (E ++ E1)) := by
  obtain ⟨a1, a2, a3, ⟨a4, n, a5⟩ | ⟨a4, a5, a6⟩⟩ := write_holds hb h hrr
  · have hrm : roomM D L (recL r) = writeM D L (recL r) := by
      unfold roomM
      simp only
      rw [if_neg (by rw [a4]; decide)]
    have had : addM D L r = (syncM (writeM D L (recL r)).1, (writeM D L (recL r)).2.1, syncE (writeM D L (recL r)).1) := by
      unfold addM
      rw [if_pos hrr.1]
      simp only
      rw [hrm, if_pos a4]
    rw [had]
    obtain ⟨f1, f2⟩ := a2 hf
    have hw : wB (writeM D L (recL r)).1.first (writeM D L (recL r)).1.fails = true := by rw [f1]; exact wB_zero _
    obtain ⟨s1, m2, s2, s3, s4⟩ := syncM_LD a5
    have he : syncE (writeM D L (recL r)).1 = 0 := by unfold syncE; rw [if_pos hw]
    rw [s4 he] at s2
    refine ⟨he, ?_, s1.trans a1, ⟨n, s2⟩, fun hF E1 n hn => a3 hF E1 n ?_⟩
    · simp only [syncM]; rw [if_pos hw]; simp only [wD, f1, wG_zero]
    · simp only [syncM] at hn
      rw [if_pos hw] at hn
      exact hn
  · obtain ⟨f1, f2⟩ := a2 hf
    rcases a4 with a4 | a4
    · have := a6 a4; omega
    · exact absurd a4 f2

theorem few_segs (hF : Full b D L E) (h : LD D L E m T) : ((keysF D).length - 1) * (2048 - b) ≤ bytesN (rcs E) := by
  have hk := keysF_sorted h.h.nodup
  have hfl := flat_keys _ _ hk h.h.sort h.h.mem
  unfold bytesN
  rw [show rcs E = E.map (fun e => e.2) from rfl, ← hfl]
  have key : ∀ N : List Int, N.Pairwise (· < ·) → (∀ n ∈ N, n ≤ L.last) → (∀ n ∈ N, n ∈ keysF D) → (N.length - 1) * (2048 - b) ≤ (flatR (N.flatMap fun n => recsAt E n)).length := by
    intro N
    induction N with
    | nil => intro _ _ _; simp
    | cons n N ih =>
      intro hp ht hm
      have hp' := List.pairwise_cons.1 hp
      have hi := ih hp'.2 (fun n hn => ht n (List.mem_cons_of_mem _ hn)) (fun n hn => hm n (List.mem_cons_of_mem _ hn))
      rw [List.flatMap_cons, flatR_append, List.length_append]
      cases N with
      | nil => simp
      | cons k N =>
        have h1 := hp'.1 k (List.mem_cons_self ..)
        have h2 := ht k (by simp)
        have h3 := hF n (hm n (List.mem_cons_self ..)) (by omega)
        have h4 : (cont E n).length = (flatR (recsAt E n)).length := rfl
        simp only [List.length_cons] at hi ⊢
        have h5 : (N.length + 1 + 1 - 1) * (2048 - b) = (N.length + 1 - 1) * (2048 - b) + (2048 - b) := by
          rw [show N.length + 1 + 1 - 1 = (N.length + 1 - 1) + 1 by omega, Nat.add_mul, Nat.one_mul]
        omega
  exact key _ hk h.top fun n hn => hn
end
end Go.Proofs.Ytlcfmfljmabaeaa


/-
  What a log holds behind records, in plain terms.
-/
set_option maxRecDepth 100000
set_option linter.unusedVariables false
set_option linter.unusedSimpArgs false
namespace Go.Proofs.Ytlcfmfljmabaeaa
open Go Go.Abs Go.Abs.K

structure GoodR (b : Nat) (N : Int) (r : FRec) : Prop where
  sound : r.sound = true
  wide : r.Wide
  len : 26 + r.host.size + r.path.size ≤ b
  id : r.id < N

theorem recL_len (r : FRec) : (recL r).length = 26 + r.host.size + r.path.size := by rw [recL_length, bodyL_length]; omega
theorem GoodR.le {b : Nat} {N : Int} {r : FRec} (h : GoodR b N r) : (recL r).length ≤ b := by rw [recL_len]; exact h.len
theorem GoodR.up {b : Nat} {N M : Int} {r : FRec} (h : GoodR b N r) (hm : N ≤ M) : GoodR b M r := ⟨h.sound, h.wide, h.len, by have := h.id; omega⟩
theorem GoodR.three {b : Nat} {N : Int} {r : FRec} (h : GoodR b N r) : r.sound = true ∧ r.Wide ∧ (recL r).length ≤ b := ⟨h.sound, h.wide, h.le⟩

structure LG (b : Nat) (N : Int) (L : LM) : Prop where
  live : ∀ q ∈ L.live, q.2.id = q.1 ∧ GoodR b N (q.2.toF 1)
  wait : ∀ q ∈ L.wait, GoodR b N (waitF q.1 q.2)
  lo : 1 ≤ L.next
  hi : L.next ≤ N

theorem LG.last {b : Nat} {N : Int} {L : LM} (h : LG b N L) (x : Int) : LG b N { L with last := x } := ⟨h.live, h.wait, h.lo, h.hi⟩
theorem LG.of_last {b : Nat} {N : Int} {L L' : LM} (h : LG b N L) (hl : L' = { L with last := L'.last }) : LG b N L' := by rw [hl]; exact h.last _
theorem LG.up {b : Nat} {N M : Int} {L : LM} (h : LG b N L) (hm : N ≤ M) : LG b M L := ⟨fun q hq => ⟨(h.live q hq).1, (h.live q hq).2.up hm⟩, fun q hq => (h.wait q hq).up hm, h.lo, by have := h.hi; omega⟩

theorem sound_of {r : FRec} (h1 : r.host.size ≤ 256) (h2 : r.path.size ≤ 768) (h3 : 0 ≤ r.id) (h4 : 0 ≤ r.till) (h5 : 1 ≤ r.kind) (h6 : r.kind ≤ 3) (h7 : 0 ≤ r.prio) (h8 : r.prio ≤ 7) : r.sound = true := by
  simp only [FRec.sound, FRec.small, Bool.and_eq_true, decide_eq_true_eq]
  omega

theorem goodR_wait {b : Nat} {N : Int} {h : ByteArray} {t : Int} (h1 : h.size ≤ 256) (h2 : 26 + h.size ≤ b) (h3 : 0 ≤ t ∧ t ≤ 9223372036854775807) (h4 : 1 ≤ N) : GoodR b N (waitF h t) := by
  refine ⟨sound_of h1 (by simp [waitF]) (by simp [waitF]) h3.1 (by simp [waitF]) (by simp [waitF]) (by simp [waitF]) (by simp [waitF]), ⟨by simp [waitF], by simp only [waitF]; omega, by simp [waitF], by simp [waitF]⟩, by simp [waitF]; omega, by simp only [waitF]; omega⟩
theorem goodR_done {b : Nat} {N n : Int} (h1 : 0 ≤ n) (h2 : n < N) (h3 : N ≤ 9223372036854775807) (hb : 26 ≤ b) : GoodR b N (doneF n) := by
  refine ⟨sound_of (by simp [doneF]) (by simp [doneF]) h1 (by simp [doneF]) (by simp [doneF]) (by simp [doneF]) (by simp [doneF]) (by simp [doneF]), ⟨by simp only [doneF]; omega, by simp [doneF], by simp [doneF], by simp [doneF]⟩, by simp [doneF]; omega, h2⟩

theorem LG.apply {b : Nat} {N : Int} {L : LM} {r : FRec} (h : LG b N L) (hr : GoodR b N r) : LG b N (applyL L r) := by
  obtain ⟨s1, s2, s3, s4, s5, s6, s7, s8⟩ := r.of_sound hr.sound
  have hid := hr.id; have hl := hr.len; have ht := hr.wide.till; have hlo := h.lo; have hhi := h.hi
  refine ⟨fun q hq => ?_, fun q hq => ?_, ?_, ?_⟩
  · simp only [applyL] at hq
    split at hq
    · rename_i k1
      rcases putG_mem hq with hq | hq
      · exact h.live q hq
      · subst hq
        refine ⟨rfl, ?_⟩
        have : r.rq.toF 1 = r := by
          obtain ⟨a, b, c, d, e, f⟩ := r
          simp only at k1
          subst k1; rfl
        simp only [this]; exact hr
    · split at hq
      · exact h.live q ((delG_sub _ _).subset hq)
      · exact h.live q hq
  · simp only [applyL] at hq
    split at hq
    · rcases putG_mem hq with hq | hq
      · exact h.wait q hq
      · subst hq
        refine goodR_wait s1 (by simp only; omega) ?_ (by omega)
        cases hx : lookG L.wait r.host with
        | none => simp only [Option.getD_none]; omega
        | some x =>
          have hw := h.wait _ (lookG_mem hx)
          have h1 := hw.wide.till
          simp only [waitF] at h1
          simp only [Option.getD_some]; omega
    · exact h.wait q hq
  · simp only [applyL]; split <;> omega
  · simp only [applyL]; split <;> omega

theorem LG.all {b : Nat} {N : Int} : ∀ {R : List FRec} {L : LM}, LG b N L → (∀ r ∈ R, GoodR b N r) → LG b N (applyAll L R) := by
  intro R
  induction R with
  | nil => intro L h _; exact h
  | cons r R ih =>
    intro L h hr
    exact ih (h.apply (hr r (List.mem_cons_self ..))) fun x hx => hr x (List.mem_cons_of_mem _ hx)

theorem lg0 {b : Nat} {N : Int} (segs : Int) (hN : 1 ≤ N) : LG b N (L0 segs) := ⟨by simp [L0], by simp [L0], by simp [L0], by simp [L0]; exact hN⟩

theorem LG.recs {b : Nat} {N : Int} {L : LM} (h : LG b N L) (hb : 26 ≤ b) (hN : N ≤ 9223372036854775807) : ∀ r ∈ recsL L, GoodR b N r := by
  intro r hr
  have hlo := h.lo; have hhi := h.hi
  simp only [recsL, List.mem_append] at hr
  rcases hr with (hr | hr) | hr
  · obtain ⟨a, ha, rfl⟩ := List.mem_map.1 hr
    obtain ⟨l, hl, rfl⟩ := List.mem_map.1 ha
    rw [(sortS_perm _).mem_iff] at hl
    obtain ⟨q, hq, rfl⟩ := List.mem_map.1 hl
    rw [toBA_data]
    have hw := h.wait q hq
    obtain ⟨s1, _⟩ := FRec.of_sound hw.sound
    have h1 := hw.len
    simp only [waitF] at s1 h1
    cases hx : lookG L.wait q.1 with
    | none => exact goodR_wait s1 (by omega) (by simp) (by omega)
    | some x =>
      have := h.wait _ (lookG_mem hx)
      exact this
  · unfold tellR at hr
    split at hr
    · cases hr
    · rw [List.mem_singleton.1 hr]
      exact goodR_done (by omega) (by omega) hN hb
  · obtain ⟨q, hq, rfl⟩ := List.mem_map.1 hr
    obtain ⟨k, hk, rfl⟩ := List.mem_map.1 hq
    obtain ⟨q, hq⟩ := idsL_mem.1 hk
    cases hx : lookG L.live k with
    | none => rw [lookG_none] at hx; exact absurd rfl (hx _ hq)
    | some y => exact (h.live _ (lookG_mem hx)).2

/-! ### what is found -/
def stepI (id : Int) (o : Option RQ) (r : FRec) : Option RQ := if r.kind = 1 then (if id = r.id then some r.rq else o) else if r.kind = 2 then (if id = r.id then none else o) else o
def stepH (h : ByteArray) (o : Option Int) (r : FRec) : Option Int := if r.kind = 3 then (if h = r.host then some (max (o.getD 0) r.till) else o) else o
def stepN (n : Int) (r : FRec) : Int := if r.kind = 3 then n else max n (r.id + 1)

structure NoDup (L : LM) : Prop where
  live : (L.live.map fun q => q.1).Nodup
  wait : (L.wait.map fun q => q.1).Nodup

theorem NoDup.apply {L : LM} (h : NoDup L) (r : FRec) : NoDup (applyL L r) := by
  refine ⟨?_, ?_⟩
  · simp only [applyL]
    split
    · exact putG_nodup h.live _ _
    · split
      · exact delG_nodup h.live _
      · exact h.live
  · simp only [applyL]
    split
    · exact putG_nodup h.wait _ _
    · exact h.wait
theorem apply_live {L : LM} (h : NoDup L) (r : FRec) (id : Int) : lookG (applyL L r).live id = stepI id (lookG L.live id) r := by
  simp only [applyL, stepI]
  split
  · rw [lookG_put]
  · split
    · rw [lookG_del h.live]
    · rfl
theorem apply_wait {L : LM} (r : FRec) (x : ByteArray) : lookG (applyL L r).wait x = stepH x (lookG L.wait x) r := by
  simp only [applyL, stepH]
  split
  · rw [lookG_put]
    by_cases hx : x = r.host
    · subst hx; simp
    · simp [hx]
  · rfl
theorem apply_next (L : LM) (r : FRec) : (applyL L r).next = stepN L.next r := rfl

theorem NoDup.all : ∀ {R : List FRec} {L : LM}, NoDup L → NoDup (applyAll L R) := by
  intro R
  induction R with
  | nil => intro L h; exact h
  | cons r R ih => intro L h; exact ih (h.apply r)
theorem all_live : ∀ {R : List FRec} {L : LM}, NoDup L → ∀ id, lookG (applyAll L R).live id = R.foldl (stepI id) (lookG L.live id) := by
  intro R
  induction R with
  | nil => intro L h id; rfl
  | cons r R ih =>
    intro L h id
    rw [List.foldl_cons, ← apply_live h]
    exact ih (h.apply r) id
theorem all_wait : ∀ {R : List FRec} {L : LM} (x : ByteArray), lookG (applyAll L R).wait x = R.foldl (stepH x) (lookG L.wait x) := by
  intro R
  induction R with
  | nil => intro L x; rfl
  | cons r R ih =>
    intro L x
    rw [List.foldl_cons, ← apply_wait]
    exact ih x
theorem all_next : ∀ {R : List FRec} {L : LM}, (applyAll L R).next = R.foldl stepN L.next := by
  intro R
  induction R with
  | nil => intro L; rfl
  | cons r R ih =>
    intro L
    rw [List.foldl_cons, ← apply_next]
    exact ih

theorem putG_len {κ υ : Type} [DecidableEq κ] (F : List (κ × υ)) (k : κ) (v : υ) : (putG F k v).length ≤ F.length + 1 := by
  have := congrArg List.length (putG_keys F k v)
  rw [List.length_map] at this
  rw [this]
  split <;> simp
theorem apply_len (L : LM) (r : FRec) : (applyL L r).live.length ≤ L.live.length + 1 ∧ (applyL L r).wait.length ≤ L.wait.length + 1 := by
  simp only [applyL]
  have h1 := putG_len L.live r.id r.rq
  have h2 := putG_len L.wait r.host (max ((lookG L.wait r.host).getD 0) r.till)
  have h3 := (delG_sub L.live r.id).length_le
  refine ⟨?_, ?_⟩
  · repeat' split
    all_goals omega
  · split <;> omega
theorem all_len : ∀ (R : List FRec) (L : LM), (applyAll L R).live.length ≤ L.live.length + R.length ∧ (applyAll L R).wait.length ≤ L.wait.length + R.length := by
  intro R
  induction R with
  | nil => intro L; exact ⟨Nat.le_refl _, Nat.le_refl _⟩
  | cons r R ih =>
    intro L
    have h1 := ih (applyL L r)
    have h2 := apply_len L r
    have h3 : applyAll L (r :: R) = applyAll (applyL L r) R := rfl
    rw [h3, List.length_cons]
    omega

theorem next_max : ∀ (R : List FRec) (n : Int), n ≤ R.foldl stepN n ∧ (∀ r ∈ R, r.kind ≠ 3 → r.id + 1 ≤ R.foldl stepN n) ∧ ∀ B, n ≤ B → (∀ r ∈ R, r.kind ≠ 3 → r.id + 1 ≤ B) → R.foldl stepN n ≤ B := by
  intro R
  induction R with
  | nil => intro n; exact ⟨by simp, by simp, fun B h _ => h⟩
  | cons r R ih =>
    intro n
    obtain ⟨a1, a2, a3⟩ := ih (stepN n r)
    rw [List.foldl_cons]
    have hs : n ≤ stepN n r ∧ (r.kind ≠ 3 → r.id + 1 ≤ stepN n r) := by unfold stepN; split <;> omega
    refine ⟨by omega, fun x hx hk => ?_, fun B hB hR => a3 B ?_ fun x hx => hR x (List.mem_cons_of_mem _ hx)⟩
    · rcases List.mem_cons.1 hx with rfl | hx
      · have := hs.2 hk; omega
      · exact a2 x hx hk
    · have := hR r (List.mem_cons_self ..)
      unfold stepN
      split
      · exact hB
      · rename_i hk; have := this hk; omega

theorem bytesN_cons (r : FRec) (R : List FRec) : bytesN (r :: R) = (recL r).length + bytesN R := by simp [bytesN, flatR_cons]
theorem bytesN_le {b : Nat} : ∀ {R : List FRec}, (∀ r ∈ R, (recL r).length ≤ b) → bytesN R ≤ R.length * b := by
  intro R
  induction R with
  | nil => intro _; simp [bytesN]
  | cons r R ih =>
    intro h
    have h1 := h r (List.mem_cons_self ..)
    have h2 := ih fun x hx => h x (List.mem_cons_of_mem _ hx)
    rw [bytesN_cons, List.length_cons, Nat.add_mul, Nat.one_mul]
    omega
theorem nodup0 (segs : Int) : NoDup (L0 segs) := ⟨by simp [L0], by simp [L0]⟩

theorem open_ask {D : DM} {E : List Ent} {m : Nat} {T : Int → List Int} {b : Nat} {N B : Int} (h : Holds D E m T) (hE : ∀ r ∈ rcs E, GoodR b N r) (hN : N ≤ 9223372036854775807) (hB : B < 9223372036854775807) (hk : ∀ n ∈ keysF D, n ≤ B) :
    ∀ n ∈ keysF D, n < 9223372036854775807 ∧ ∀ r ∈ (scanD D n).1, r.Wide ∧ r.id < 9223372036854775807 ∧ r.host.size ≤ 4611686018427387904 := by
  intro n hn
  refine ⟨by have := hk n hn; omega, fun r hr => ?_⟩
  rw [h.scan] at hr
  obtain ⟨e, he, rfl⟩ := List.mem_map.1 hr
  have hg := hE e.2 (List.mem_map_of_mem (f := fun e => e.2) (List.mem_filter.1 he).1)
  obtain ⟨s1, _⟩ := e.2.of_sound hg.sound
  have := hg.id
  exact ⟨hg.wide, by omega, by omega⟩
theorem lastN_low {D : DM} {E : List Ent} {m : Nat} {T : Int → List Int} (h : Holds D E m T) (hk : ∀ n ∈ keysF D, 0 ≤ n) : 0 ≤ lastN T 0 (keysF D) := by
  by_cases h0 : keysF D = []
  · rw [h0]; exact Int.le_refl _
  · obtain ⟨x, x1, x2, x3⟩ := lastN_eq T (keysF D) 0 (keysF_sorted h.nodup) h0
    have := hk x x1
    rw [x3]; split <;> omega
theorem open_LD {D : DM} {E : List Ent} {m : Nat} {T : Int → List Int} (h : Holds D E m T) (hk : ∀ n ∈ keysF D, 0 ≤ n) (segs : Int) : LD D (openM D segs) E m T := by
  obtain ⟨l1, l2, l3⟩ := lastN_spec h
  rw [open_holds h]
  exact ⟨h, l1, l2, lastN_low h hk, hk⟩
theorem openM_eq {D : DM} {E : List Ent} {m : Nat} {T : Int → List Int} (h : Holds D E m T) (segs : Int) : (openM D segs).next = (applyAll (L0 segs) (rcs E)).next ∧ (openM D segs).live = (applyAll (L0 segs) (rcs E)).live ∧ (openM D segs).wait = (applyAll (L0 segs) (rcs E)).wait ∧ (openM D segs).most = segs ∧ (openM D segs).last = lastN T 0 (keysF D) := by
  rw [open_holds h]
  exact ⟨rfl, rfl, rfl, applyAll_most _ _, rfl⟩
theorem open_LG {D : DM} {E : List Ent} {m : Nat} {T : Int → List Int} {b : Nat} {N : Int} (h : Holds D E m T) (segs : Int) (hN : 1 ≤ N) (hE : ∀ r ∈ rcs E, GoodR b N r) : LG b N (openM D segs) := by
  rw [open_holds h]
  exact ((lg0 segs hN).all hE).last _
theorem open_dup {D : DM} {E : List Ent} {m : Nat} {T : Int → List Int} (h : Holds D E m T) (segs : Int) : NoDup (openM D segs) := by
  have := (nodup0 segs).all (R := rcs E)
  obtain ⟨_, h2, h3, _⟩ := openM_eq h segs
  exact ⟨by rw [h2]; exact this.live, by rw [h3]; exact this.wait⟩
end Go.Proofs.Ytlcfmfljmabaeaa
