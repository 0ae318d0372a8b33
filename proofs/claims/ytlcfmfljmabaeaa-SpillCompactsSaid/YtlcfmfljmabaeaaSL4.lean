/-
  lay, drop and Compact in plain terms.
-/
import Derived.Test.YtlcfmfljmabaeaaSL2
set_option maxRecDepth 100000
set_option linter.unusedVariables false
set_option linter.unusedSimpArgs false
namespace Go.Proofs.Ytlcfmfljmabaeaa
open Go Go.Abs Go.Abs.K

def up (a : Int) (q : Nat) : List Int := (List.range q).map fun (i : Nat) => a + 1 + (i : Int)
theorem up_zero (a : Int) : up a 0 = [] := rfl
theorem up_succ (a : Int) (q : Nat) : up a (q + 1) = (a + 1) :: up (a + 1) q := by
  unfold up
  rw [List.range_succ_eq_map, List.map_cons, List.map_map]
  congr 1
  · simp
  · refine List.map_congr_left fun i _ => ?_
    simp only [Function.comp]; omega
theorem mem_up {a n : Int} {q : Nat} : n ∈ up a q ↔ a < n ∧ n ≤ a + q := by
  unfold up
  rw [List.mem_map]
  constructor
  · rintro ⟨i, hi, rfl⟩
    have := List.mem_range.1 hi
    omega
  · rintro ⟨h1, h2⟩
    exact ⟨(n - a - 1).toNat, List.mem_range.2 (by omega), by omega⟩
theorem up_sorted (a : Int) (q : Nat) : (a :: up a q).Pairwise (· < ·) := by
  induction q generalizing a with
  | zero => simp [up]
  | succ q ih =>
    refine List.pairwise_cons.2 ⟨fun n hn => (mem_up.1 hn).1, ?_⟩
    rw [up_succ]
    exact ih (a + 1)
theorem up_last (a : Int) (q : Nat) : (a :: up a q).getLastD 0 = a + q := by
  induction q generalizing a with
  | zero => simp [up]
  | succ q ih =>
    rw [up_succ]
    have := ih (a + 1)
    simp only [List.getLastD_cons] at this ⊢
    rw [this]; push_cast; omega

def bytesN (rs : List FRec) : Nat := (flatR rs).length

theorem wG_zero (f : Int) : wG f 0 = 0 := by unfold wG; split <;> simp
theorem wB_zero (f : Int) : wB f 0 = true := by unfold wB; simp
theorem keys_len {D : DM} : (keysF D).length = D.F.length := by rw [sortZ_length, List.length_map]

theorem appE_cases (D : DM) (n : Int) (k : Nat) (hn : 0 ≤ n) : (appE D n k = 0 ∧ fullD D n k = false ∧ wB D.first D.fails = true) ∨ (appE D n k = 5 ∧ fullD D n k = true) ∨ (appE D n k = 7 ∧ fullD D n k = false ∧ wB D.first D.fails = false) := by
  unfold appE
  rw [if_neg (by omega)]
  cases fullD D n k
  · cases wB D.first D.fails
    · exact .inr (.inr ⟨rfl, rfl, rfl⟩)
    · exact .inl ⟨rfl, rfl, rfl⟩
  · exact .inr (.inl ⟨rfl, rfl⟩)

def nk (D : DM) (n : Int) : Nat := if n ∈ keysF D then 0 else 1

theorem putF_length {D : DM} {n : Int} {b : List Int} : (putF D.F n b).length = (keysF D).length + nk D n := by
  rw [putF_len, keys_len]
  unfold nk
  by_cases h : n ∈ keysF D
  · rw [if_pos h, if_pos (mem_keysF.1 h)]; rfl
  · rw [if_neg h, if_neg (fun e => h (mem_keysF.2 e))]

structure Lay (D : DM) (E : List Ent) (m : Nat) (T : Int → List Int) (at_ : Int) (sz : Nat) (news : List Int) (rs : List FRec) (b : Nat) (x : DM × List Int × Int) (q : Nat) (C1 C2 : List FRec) (E1 : List Ent) : Prop where
  split : rs = C1 ++ C2
  e1 : E1.map (fun e => e.2) = C1
  seg : ∀ e ∈ E1, at_ ≤ e.1 ∧ e.1 ≤ at_ + q
  news : x.2.1 = news ++ up at_ q
  h : Holds x.1 (E ++ E1) (if x.2.2 = 0 then 0 else m + C1.length) T
  all : x.2.2 = 0 → C2 = []
  keys : ∀ n ∈ keysF x.1, n ∈ keysF D ∨ (at_ ≤ n ∧ n ≤ at_ + q)
  err : x.2.2 = 0 ∨ x.2.2 = 5 ∨ x.2.2 = 7
  most : x.1.most = D.most
  fails : D.fails = 0 → x.1.fails = 0 ∧ x.2.2 ≠ 7
  room : x.2.2 = 5 → D.most ≤ ((keysF D).length + nk D at_ + q : Nat)
  len : (keysF x.1).length ≤ (keysF D).length + nk D at_ + q
  few : q * (2048 - b) ≤ sz + bytesN rs
  full : ∀ n, at_ ≤ n → n < at_ + q → 2048 - b < (cont (E ++ E1) n).length

theorem lay_holds {T : Int → List Int} {b : Nat} (hb : b < 2048) : ∀ (rs : List FRec) (D : DM) (E : List Ent) (m : Nat) (at_ : Int) (sz : Nat) (news : List Int), Holds D E m T → (∀ n ∈ keysF D, n ≤ at_) → (∀ n, at_ ≤ n → T n = []) → sz = (cont E at_).length → 0 ≤ at_ →
    (∀ r ∈ rs, r.sound = true ∧ r.Wide ∧ (recL r).length ≤ b) → ∃ q C1 C2 E1, Lay D E m T at_ sz news rs b (layM D at_ sz news rs) q C1 C2 E1 := by
  intro rs
  induction rs with
  | nil =>
    intro D E m at_ sz news h ht hT hsz h0 hr
    refine ⟨0, [], [], [], rfl, rfl, by simp, by simp [layM, up], ?_, fun _ => rfl, ?_, ?_, ?_, ?_, ?_, ?_, by simp, fun n h1 h2 => by omega⟩
    · simp only [layM, List.append_nil, syncM, syncE]
      cases hw : wB D.first D.fails
      · simp only [Bool.false_eq_true, if_false]
        exact h.congr rfl rfl
      · simp only [if_true]
        exact h.sync rfl rfl
    · intro n hn
      refine .inl ?_
      simp only [layM, syncM] at hn
      split at hn <;> exact hn
    · simp only [layM, syncE]
      split <;> simp
    · simp only [layM, syncM]
      split <;> rfl
    · intro hf
      simp only [layM, syncM, syncE, hf, wB_zero, if_true]
      exact ⟨by simp only [wD, hf, wG_zero], by simp⟩
    · intro he
      simp only [layM, syncE] at he
      split at he <;> simp at he
    · simp only [layM, syncM]
      split <;> (simp only [keys_len]; simp only [wD]; omega)
  | cons r rs ih =>
    intro D E m at_ sz news h ht hT hsz h0 hr
    obtain ⟨hrs, hrw, hrb⟩ := hr r (List.mem_cons_self ..)
    have hr' : ∀ r ∈ rs, r.sound = true ∧ r.Wide ∧ (recL r).length ≤ b := fun r hx => hr r (List.mem_cons_of_mem _ hx)
    have henc : encB r = recL r := by unfold encB; rw [if_pos hrs]
    -- where it goes
    obtain ⟨c, hc⟩ : ∃ c, c = decide (((recL r).length : Int) > 2048 - (sz : Int)) := ⟨_, rfl⟩
    obtain ⟨at2, hat2⟩ : ∃ at2, at2 = if c then at_ + 1 else at_ := ⟨_, rfl⟩
    obtain ⟨sz2, hsz2⟩ : ∃ sz2 : Nat, sz2 = if c then 0 else sz := ⟨_, rfl⟩
    obtain ⟨q0, hq0⟩ : ∃ q0 : Nat, q0 = if c then 1 else 0 := ⟨_, rfl⟩
    have hnw : (if c then news ++ [at_ + 1] else news) = news ++ up at_ q0 := by rw [hq0]; cases c <;> simp [up]
    have hat3 : at2 = at_ + q0 := by rw [hat2, hq0]; cases c <;> simp
    have hlay : layM D at_ sz news (r :: rs) = if appE D at2 (recL r).length = 0 then layM (appD D at2 (recL r)) at2 ((sz2 + (recL r).length : Nat) : Int) (news ++ up at_ q0) rs else (appD D at2 (recL r), news ++ up at_ q0, appE D at2 (recL r).length) := by
      simp only [layM, henc, ← hc, ← hat2, hnw]
      have : (if c = true then (0 : Int) else (sz : Int)) = (sz2 : Int) := by rw [hsz2]; cases c <;> rfl
      rw [this, Int.natCast_add]
    have hcont : (cont E at2).length = sz2 := by
      rw [hat2, hsz2]
      cases c
      · exact hsz.symm
      · simp only [if_true]
        rw [cont_none fun e he hx => ?_]
        · rfl
        · have := ht _ (h.mem e he); omega
    have hle : (recL r).length ≤ 2048 - sz2 ∧ sz2 ≤ 2048 := by
      rw [hsz2]
      cases c
      · have := of_decide_eq_false hc.symm
        simp only [Bool.false_eq_true, if_false]; omega
      · simp only [if_true]; omega
    have hfew0 : q0 * (2048 - b) + sz2 ≤ sz := by
      rw [hsz2, hq0]
      cases c
      · simp
      · have := of_decide_eq_true hc.symm
        simp only [if_true]; omega
    have hfull0 : at_ < at2 → 2048 - b < sz := by
      rw [hat2]
      cases c
      · simp
      · have := of_decide_eq_true hc.symm
        omega
    have hTat : T at2 = [] := hT at2 (by omega)
    have hread : (readB D at2).length = sz2 := by rw [h.read, hTat, List.append_nil, hcont]
    have htop2 : ∀ n ∈ keysF D, n ≤ at2 := fun n hn => by have := ht n hn; omega
    have hby : bytesN (r :: rs) = (recL r).length + bytesN rs := by simp [bytesN, flatR_cons]
    have hnk : nk D at2 + 0 ≤ nk D at_ + q0 := by
      rw [hat3]
      have h1 : ∀ n, nk D n ≤ 1 := fun n => by unfold nk; split <;> omega
      rw [hq0]
      cases c
      · simp
      · simp only [if_true]
        have := h1 (at_ + ((1 : Nat) : Int)); omega
    rw [hlay]
    rcases appE_cases D at2 (recL r).length (by omega) with ⟨he, hf, hw⟩ | ⟨he, hf⟩ | ⟨he, hf, hw⟩
    · rw [if_pos he]
      have hD : appD D at2 (recL r) = { wD D with F := putF D.F at2 (readB D at2 ++ recL r), loose := D.loose ++ [(at2, ((recL r).length : Int))] } := by
        unfold appD
        rw [if_neg (by omega), hf, hw]; rfl
      obtain ⟨D2, hD2⟩ : ∃ D2, D2 = appD D at2 (recL r) := ⟨_, rfl⟩
      rw [← hD2] at hD ⊢
      have hF2 : D2.F = putF D.F at2 (readB D at2 ++ recL r) := by rw [hD]
      have hk2 : ∀ n, n ∈ keysF D2 ↔ n = at2 ∨ n ∈ keysF D := fun n => by rw [mem_keysF, mem_keysF, hF2, mem_putF]
      have h2 : Holds D2 (E ++ [(at2, r)]) (m + 1) T := h.append ⟨hrs, hrw⟩ (fun e he => htop2 _ (h.mem e he)) hTat hF2 (by rw [hD])
      have hkl : (keysF D2).length = (keysF D).length + nk D at2 := by rw [keys_len, hF2, putF_length]
      have hnk2 : nk D2 at2 = 0 := by unfold nk; rw [if_pos ((hk2 _).2 (.inl rfl))]
      obtain ⟨q, C1, C2, E1, i⟩ := ih D2 (E ++ [(at2, r)]) (m + 1) at2 (sz2 + (recL r).length) (news ++ up at_ q0) h2 (fun n hn => ((hk2 n).1 hn).elim (fun e => by omega) fun hn => htop2 n hn) (fun n hn => hT n (by omega)) (by rw [cont_append, cont_one, if_pos rfl, List.length_append, hcont]) (by omega) hr'
      refine ⟨q0 + q, r :: C1, C2, (at2, r) :: E1, ⟨by rw [i.split]; rfl, by rw [List.map_cons, i.e1], fun e he => ?_, ?_, ?_, i.all, fun n hn => ?_, i.err, by rw [i.most, hD]; rfl, fun hf0 => ?_, fun h5 => ?_, ?_, ?_, fun n hn1 hn2 => ?_⟩⟩
      · rcases List.mem_cons.1 he with rfl | he
        · simp only; omega
        · have := i.seg e he; omega
      · rw [i.news, List.append_assoc]
        congr 1
        rw [hat3, hq0]
        cases c
        · simp [up]
        · simp only [if_true]
          rw [Nat.add_comm, up_succ, up_succ, up_zero]
          simp
      · have := i.h
        rw [List.append_assoc] at this
        simp only [List.length_cons]
        rw [show m + (C1.length + 1) = m + 1 + C1.length by omega]
        exact this
      · rcases i.keys n hn with hn | hn
        · rcases (hk2 n).1 hn with rfl | hn
          · exact .inr (by omega)
          · exact .inl hn
        · exact .inr (by omega)
      · exact i.fails (by rw [hD]; simp only [wD, hf0, wG_zero])
      · have := i.room h5
        rw [hkl, hnk2] at this
        have hm2 : D2.most = D.most := by rw [hD]; rfl
        rw [hm2] at this
        refine Int.le_trans this ?_
        have := hnk
        omega
      · have := i.len
        rw [hkl, hnk2] at this
        omega
      · have := i.few
        rw [Nat.add_mul, hby]; omega
      · by_cases hn3 : at2 ≤ n
        · have := i.full n hn3 (by omega)
          rw [List.append_assoc] at this
          exact this
        · have hne : n = at_ := by rw [hq0] at hat3; cases c <;> simp at hat3 <;> omega
          rw [hne, cont_append, List.length_append, ← hsz]
          have := hfull0 (by omega)
          omega
    · rw [if_neg (by rw [he]; decide)]
      have hD : appD D at2 (recL r) = D := by
        unfold appD
        rw [if_neg (by omega), hf]; rfl
      rw [hD, he]
      refine ⟨q0, [], r :: rs, [], ⟨rfl, rfl, by simp, rfl, ?_, fun h => by simp at h, fun n hn => .inl hn, .inr (.inl rfl), rfl, fun hf0 => ⟨hf0, by simp⟩, fun _ => ?_, by simp only; omega, ?_, fun n hn1 hn2 => ?_⟩⟩
      · simpa using h
      · unfold fullD at hf
        simp only [Bool.or_eq_true, Bool.and_eq_true, decide_eq_true_eq] at hf
        rcases hf with ⟨_, hf⟩ | hf
        · rw [keys_len]; omega
        · rw [hread] at hf; omega
      · rw [hby]; omega
      · have hne : n = at_ := by rw [hq0] at hn2; cases c <;> simp at hn2 <;> omega
        rw [List.append_nil, hne, ← hsz]
        exact hfull0 (by omega)
    · rw [if_neg (by rw [he]; decide)]
      have hD : appD D at2 (recL r) = wD D := by
        unfold appD
        rw [if_neg (by omega), hf, hw]; rfl
      rw [hD, he]
      refine ⟨q0, [], r :: rs, [], ⟨rfl, rfl, by simp, rfl, ?_, fun h => by simp at h, fun n hn => .inl hn, .inr (.inr rfl), rfl, fun hf0 => ?_, fun h => by simp at h, ?_, ?_, fun n hn1 hn2 => ?_⟩⟩
      · have : Holds (wD D) E m T := h.congr rfl rfl
        simpa using this
      · rw [hf0, wB_zero] at hw; cases hw
      · simp only [keys_len, wD]; omega
      · rw [hby]; omega
      · have hne : n = at_ := by rw [hq0] at hn2; cases c <;> simp at hn2 <;> omega
        rw [List.append_nil, hne, ← hsz]
        exact hfull0 (by omega)
end Go.Proofs.Ytlcfmfljmabaeaa


/-
  drop and Compact in plain terms.
-/
set_option maxRecDepth 100000
set_option linter.unusedVariables false
set_option linter.unusedSimpArgs false
namespace Go.Proofs.Ytlcfmfljmabaeaa
open Go Go.Abs Go.Abs.K

theorem split_max {E : List Ent} (hs : E.Pairwise fun a b => a.1 ≤ b.1) {n : Int} (hn : ∀ e ∈ E, e.1 ≤ n) : (E.filter fun e => decide (e.1 ≠ n)) ++ (E.filter fun e => decide (e.1 = n)) = E := by
  induction E with
  | nil => rfl
  | cons e E ih =>
    have hs' := List.pairwise_cons.1 hs
    by_cases he : e.1 = n
    · have h1 : (E.filter fun e => decide (e.1 ≠ n)) = [] := List.filter_eq_nil_iff.2 fun x hx => by
        have := hs'.1 x hx
        have := hn x (List.mem_cons_of_mem _ hx)
        simp only [decide_eq_true_eq]; omega
      have h2 : (E.filter fun e => decide (e.1 = n)) = E := List.filter_eq_self.2 fun x hx => by
        have := hs'.1 x hx
        have := hn x (List.mem_cons_of_mem _ hx)
        simp only [decide_eq_true_eq]; omega
      rw [List.filter_cons_of_neg (by simpa using he), List.filter_cons_of_pos (by simpa using he), h1, h2]
      rfl
    · rw [List.filter_cons_of_pos (by simpa using he), List.filter_cons_of_neg (by simpa using he), List.cons_append, ih hs'.2 fun e he => hn e (List.mem_cons_of_mem _ he)]

theorem filter_drop {E : List Ent} (hs : E.Pairwise fun a b => a.1 ≤ b.1) {n : Int} (hn : ∀ e ∈ E, n ≤ e.1) : ∃ i, (E.filter fun e => decide (e.1 ≠ n)) = E.drop i ∧ ∀ e ∈ E.take i, e.1 = n := by
  have h := split_min hs hn
  refine ⟨(E.filter fun e => decide (e.1 = n)).length, ?_, fun e he => ?_⟩
  · have : (E.filter fun e => decide (e.1 = n)) ++ (E.filter fun e => decide (e.1 ≠ n)) = E.take (E.filter fun e => decide (e.1 = n)).length ++ E.drop (E.filter fun e => decide (e.1 = n)).length := by rw [h, List.take_append_drop]
    exact (List.append_inj this (by rw [List.length_take]; have := List.length_filter_le (fun e : Ent => decide (e.1 = n)) E; omega)).2
  · have : (E.filter fun e => decide (e.1 = n)) ++ (E.filter fun e => decide (e.1 ≠ n)) = E.take (E.filter fun e => decide (e.1 = n)).length ++ E.drop (E.filter fun e => decide (e.1 = n)).length := by rw [h, List.take_append_drop]
    rw [← (List.append_inj this (by rw [List.length_take]; have := List.length_filter_le (fun e : Ent => decide (e.1 = n)) E; omega)).1] at he
    simpa using (List.mem_filter.1 he).2
theorem filter_take {E : List Ent} (hs : E.Pairwise fun a b => a.1 ≤ b.1) {n : Int} (hn : ∀ e ∈ E, e.1 ≤ n) : (E.filter fun e => decide (e.1 ≠ n)) = E.take (E.filter fun e => decide (e.1 ≠ n)).length ∧ ∀ e ∈ E.drop (E.filter fun e => decide (e.1 ≠ n)).length, e.1 = n := by
  have h := split_max hs hn
  have : (E.filter fun e => decide (e.1 ≠ n)) ++ (E.filter fun e => decide (e.1 = n)) = E.take (E.filter fun e => decide (e.1 ≠ n)).length ++ E.drop (E.filter fun e => decide (e.1 ≠ n)).length := by rw [h, List.take_append_drop]
  have hi := List.append_inj this (by rw [List.length_take]; have := List.length_filter_le (fun e : Ent => decide (e.1 ≠ n)) E; omega)
  refine ⟨hi.1, fun e he => ?_⟩
  rw [← hi.2] at he
  simpa using (List.mem_filter.1 he).2

theorem stretch_len : ∀ (N : List Int) (a : Int) (q : Nat), N.Pairwise (· < ·) → (∀ n ∈ N, a ≤ n ∧ n ≤ a + q) → N.length ≤ q + 1 := by
  intro N
  induction N with
  | nil => intro a q _ _; exact Nat.zero_le _
  | cons n N ih =>
    intro a q hp h
    have hp' := List.pairwise_cons.1 hp
    have hn := h n (List.mem_cons_self ..)
    cases N with
    | nil => simp
    | cons k N =>
      have hk := h k (by simp)
      have hnk := hp'.1 k (List.mem_cons_self ..)
      have := ih (n + 1) (a + q - (n + 1)).toNat hp'.2 fun x hx => by
        have := hp'.1 x hx
        have := h x (List.mem_cons_of_mem _ hx)
        omega
      simp only [List.length_cons] at this ⊢
      omega

theorem drop_one {D : DM} {E : List Ent} {m : Nat} {T : Int → List Int} (h : Holds D E m T) (n : Int) :
    (dropE D n = 7 ∧ n ∈ keysF D ∧ wB D.first D.fails = false ∧ dropD D n = wD D) ∨
    (dropE D n ≠ 7 ∧ (dropD D n).most = D.most ∧ (D.fails = 0 → (dropD D n).fails = 0) ∧ (∀ k, k ∈ keysF (dropD D n) ↔ k ≠ n ∧ k ∈ keysF D) ∧
      Holds (dropD D n) (E.filter fun e => decide (e.1 ≠ n)) ((E.drop (E.length - m)).filter fun e => decide (e.1 ≠ n)).length (fun k => if k = n then [] else T k)) := by
  unfold dropE dropD
  by_cases hn : n ∈ keysF D
  · rw [if_pos (mem_keysF.1 hn), if_pos (mem_keysF.1 hn)]
    cases hw : wB D.first D.fails
    · exact .inl ⟨rfl, hn, rfl, rfl⟩
    · refine .inr ⟨by simp, rfl, fun hf => by simp only [if_true, wD, hf, wG_zero], fun k => ?_, h.drop rfl rfl⟩
      simp only [if_true]
      rw [mem_keysF, mem_keysF]
      simp only
      rw [lookF_del h.nodup]
      by_cases hkn : k = n <;> simp [hkn]
  · have hn' : ¬ (lookF D.F n).isSome = true := fun e => hn (mem_keysF.2 e)
    rw [if_neg hn', if_neg hn']
    have hE : ∀ e ∈ E, e.1 ≠ n := fun e he hx => hn (by rw [← hx]; exact h.mem e he)
    have h1 : (E.filter fun e => decide (e.1 ≠ n)) = E := List.filter_eq_self.2 fun e he => by simpa using hE e he
    have h2 : ((E.drop (E.length - m)).filter fun e => decide (e.1 ≠ n)) = E.drop (E.length - m) := List.filter_eq_self.2 fun e he => by simpa using hE e (List.mem_of_mem_drop he)
    refine .inr ⟨by decide, rfl, fun hf => hf, fun k => ⟨fun hk => ⟨fun e => hn (by rw [← e]; exact hk), hk⟩, fun hk => hk.2⟩, ?_⟩
    rw [h1, h2, List.length_drop, show E.length - (E.length - m) = m by have := h.le; omega]
    have hT : (fun k => if k = n then [] else T k) = T := by
      funext k
      split
      · rename_i hk; subst hk; exact (h.off _ hn).symm
      · rfl
    rw [hT]
    exact h

theorem drops_front : ∀ (ns : List Int) (D : DM) (E : List Ent) (T : Int → List Int), Holds D E 0 T → ns.Pairwise (· < ·) → (∀ e ∈ E, e.1 ∈ ns ∨ ∀ n ∈ ns, n < e.1) →
    ∃ i T', Holds (dropsM D ns).1 (E.drop i) 0 T' ∧ (∀ n ∈ keysF (dropsM D ns).1, n ∈ keysF D) ∧ (∀ n, T n = [] → T' n = []) ∧ (dropsM D ns).1.most = D.most ∧ ((dropsM D ns).2 = 0 ∨ (dropsM D ns).2 = 7) ∧
      (D.fails = 0 → (dropsM D ns).2 = 0 ∧ (dropsM D ns).1.fails = 0 ∧ ∀ n ∈ keysF (dropsM D ns).1, n ∉ ns) ∧ ∀ e ∈ E.take i, e.1 ∈ ns := by
  intro ns
  induction ns with
  | nil =>
    intro D E T h _ _
    exact ⟨0, T, h, fun n hn => hn, fun n hn => hn, rfl, .inl rfl, fun hf => ⟨rfl, hf, by simp⟩, by simp⟩
  | cons n ns ih =>
    intro D E T h hp hE
    have hp' := List.pairwise_cons.1 hp
    have hmin : ∀ e ∈ E, n ≤ e.1 := fun e he => by
      rcases hE e he with h | h
      · rcases List.mem_cons.1 h with h | h
        · omega
        · have := hp'.1 _ h; omega
      · have := h n (List.mem_cons_self ..); omega
    simp only [dropsM]
    rcases drop_one h n with ⟨h1, hk, hw, hD⟩ | ⟨h1, hm, hf, hk, hH⟩
    · rw [if_pos h1, hD]
      refine ⟨0, T, h.congr rfl rfl, fun n hn => hn, fun n hn => hn, rfl, .inr rfl, fun hf => ?_, by simp⟩
      rw [hf, wB_zero] at hw; cases hw
    · rw [if_neg h1]
      simp only [Nat.sub_zero, List.drop_length, List.filter_nil, List.length_nil] at hH
      obtain ⟨i0, hi0, hi1⟩ := filter_drop h.sort hmin
      rw [hi0] at hH
      obtain ⟨i, T', a1, a2, a3, a4, a5, a6, a7⟩ := ih (dropD D n) (E.drop i0) _ hH hp'.2 fun e he => by
        have he' : e ∈ E.filter fun e => decide (e.1 ≠ n) := by rw [hi0]; exact he
        obtain ⟨b1, b2⟩ := List.mem_filter.1 he'
        rcases hE e b1 with h | h
        · rcases List.mem_cons.1 h with h | h
          · simp [h] at b2
          · exact .inl h
        · exact .inr fun k hk => h k (List.mem_cons_of_mem _ hk)
      refine ⟨i0 + i, T', ?_, fun k hk' => ((hk k).1 (a2 k hk')).2, fun k hk' => a3 k (by show (if k = n then [] else T k) = []; split <;> simp [hk']), a4.trans hm, a5, fun hf0 => ?_, fun e he => ?_⟩
      · rw [List.drop_drop] at a1
        exact a1
      · obtain ⟨c1, c2, c3⟩ := a6 (hf hf0)
        refine ⟨c1, c2, fun k hk' hx => ?_⟩
        rcases List.mem_cons.1 hx with rfl | hx
        · exact ((hk k).1 (a2 k hk')).1 rfl
        · exact c3 k hk' hx
      · rw [List.take_add] at he
        rcases List.mem_append.1 he with he | he
        · rw [hi1 e he]; exact List.mem_cons_self ..
        · exact List.mem_cons_of_mem _ (a7 e he)

theorem drop_split {α : Type} {l : List α} {a b : Nat} (h : a ≤ b) (hb : b ≤ l.length) : l.drop a = (l.take b).drop a ++ l.drop b := by
  have h1 : (l.take b ++ l.drop b).drop a = (l.take b).drop a ++ l.drop b := List.drop_append_of_le_length (by rw [List.length_take]; omega)
  rw [List.take_append_drop] at h1
  exact h1

theorem drops_back : ∀ (ns : List Int) (D : DM) (E : List Ent) (m : Nat) (T : Int → List Int), Holds D E m T → ns.Pairwise (fun a b => b < a) → (∀ e ∈ E, e.1 ∈ ns ∨ ∀ n ∈ ns, e.1 < n) → (∀ e ∈ E.take (E.length - m), ∀ n ∈ ns, e.1 < n) →
    ∃ i T', i ≤ m ∧ Holds (dropsM D ns).1 (E.take (E.length - m + i)) i T' ∧ (∀ n ∈ keysF (dropsM D ns).1, n ∈ keysF D) ∧ (∀ n, T n = [] → T' n = []) ∧ (dropsM D ns).1.most = D.most ∧ ∀ e ∈ E.drop (E.length - m + i), e.1 ∈ ns := by
  intro ns
  induction ns with
  | nil =>
    intro D E m T h _ _ _
    refine ⟨m, T, Nat.le_refl _, ?_, fun n hn => hn, fun n hn => hn, rfl, ?_⟩
    all_goals rw [show E.length - m + m = E.length by have := h.le; omega]
    · rw [List.take_length]; exact h
    · simp
  | cons n ns ih =>
    intro D E m T h hp hE hE2
    have hp' := List.pairwise_cons.1 hp
    have hmax : ∀ e ∈ E, e.1 ≤ n := fun e he => by
      rcases hE e he with h | h
      · rcases List.mem_cons.1 h with h | h
        · omega
        · have := hp'.1 _ h; omega
      · have := h n (List.mem_cons_self ..); omega
    simp only [dropsM]
    rcases drop_one h n with ⟨h1, hk, hw, hD⟩ | ⟨h1, hm, hf, hk, hH⟩
    · rw [if_pos h1, hD]
      refine ⟨m, T, Nat.le_refl _, ?_, fun n hn => hn, fun n hn => hn, rfl, ?_⟩
      all_goals rw [show E.length - m + m = E.length by have := h.le; omega]
      · rw [List.take_length]; exact h.congr rfl rfl
      · simp
    · rw [if_neg h1]
      obtain ⟨hft, hfd⟩ := filter_take h.sort hmax
      obtain ⟨m', hm'⟩ : ∃ m', m' = ((E.drop (E.length - m)).filter fun e => decide (e.1 ≠ n)).length := ⟨_, rfl⟩
      have hm'le : m' ≤ m := by
        rw [hm']
        refine Nat.le_trans (List.length_filter_le ..) ?_
        rw [List.length_drop]; omega
      have hfl : (E.filter fun e => decide (e.1 ≠ n)).length = E.length - m + m' := by
        have : (E.filter fun e => decide (e.1 ≠ n)) = ((E.take (E.length - m)).filter fun e => decide (e.1 ≠ n)) ++ ((E.drop (E.length - m)).filter fun e => decide (e.1 ≠ n)) := by rw [← List.filter_append, List.take_append_drop]
        rw [this, List.length_append, ← hm', List.filter_eq_self.2 fun e he => by have := hE2 e he n (List.mem_cons_self ..); simp only [decide_eq_true_eq]; omega, List.length_take]
        omega
      rw [hfl] at hfd hft
      rw [← hm', hft] at hH
      have hlen : (E.take (E.length - m + m')).length = E.length - m + m' := by rw [List.length_take]; have := h.le; omega
      obtain ⟨i, T', a0, a1, a2, a3, a4, a5⟩ := ih (dropD D n) (E.take (E.length - m + m')) m' _ hH hp'.2 (fun e he => by
        have he' : e ∈ E.filter fun e => decide (e.1 ≠ n) := by rw [hft]; exact he
        obtain ⟨b1, b2⟩ := List.mem_filter.1 he'
        rcases hE e b1 with h | h
        · rcases List.mem_cons.1 h with h | h
          · simp [h] at b2
          · exact .inl h
        · exact .inr fun k hk => h k (List.mem_cons_of_mem _ hk)) (fun e he k hk => by
          rw [hlen, Nat.add_sub_cancel, List.take_take, Nat.min_eq_left (Nat.le_add_right ..)] at he
          exact hE2 e he k (List.mem_cons_of_mem _ hk))
      refine ⟨i, T', by omega, ?_, fun k hk' => ((hk k).1 (a2 k hk')).2, fun k hk' => a3 k (by show (if k = n then [] else T k) = []; split <;> simp [hk']), a4.trans hm, fun e he => ?_⟩
      · rw [hlen, Nat.add_sub_cancel, List.take_take, Nat.min_eq_left (by omega)] at a1
        exact a1
      · rw [hlen, Nat.add_sub_cancel] at a5
        have hsp : E.drop (E.length - m + i) = (E.take (E.length - m + m')).drop (E.length - m + i) ++ E.drop (E.length - m + m') := drop_split (by omega) (by have := h.le; omega)
        rw [hsp] at he
        rcases List.mem_append.1 he with he | he
        · exact List.mem_cons_of_mem _ (a5 e he)
        · rw [hfd e he]; exact List.mem_cons_self ..

structure LD (D : DM) (L : LM) (E : List Ent) (m : Nat) (T : Int → List Int) : Prop where
  h : Holds D E m T
  top : ∀ n ∈ keysF D, n ≤ L.last
  cur : T L.last = []
  pos : 0 ≤ L.last
  low : ∀ n ∈ keysF D, 0 ≤ n

theorem LD.above {D : DM} {L : LM} {E : List Ent} {m : Nat} {T : Int → List Int} (h : LD D L E m T) : ∀ n, L.last ≤ n → T n = [] := fun n hn => by
  by_cases he : n = L.last
  · rw [he]; exact h.cur
  · exact h.h.off n fun hx => by have := h.top n hx; omega

theorem compact_holds {D : DM} {L : LM} {E : List Ent} {m : Nat} {T : Int → List Int} {b : Nat} (hb : b < 2048) (h : LD D L E m T) (hr : ∀ r ∈ recsL L, r.sound = true ∧ r.Wide ∧ (recL r).length ≤ b) :
    ∃ E' m' T', ∃ q : Nat, LD (compactM D L).1 (compactM D L).2.1 E' m' T' ∧ (compactM D L).1.most = D.most ∧ (compactM D L).2.1.last = L.last + 1 + (q : Int) ∧ q * (2048 - b) ≤ bytesN (recsL L) ∧
      (((compactM D L).2.2 ≠ 0 ∧ ∃ C1 C2, recsL L = C1 ++ C2 ∧ E'.map (fun e => e.2) = E.map (fun e => e.2) ++ C1 ∧ m' = m + C1.length) ∨
       (∃ i, E'.map (fun e => e.2) = (E.drop i).map (fun e => e.2) ++ recsL L ∧ m' = 0)) ∧
      ((compactM D L).2.2 = 5 → D.most ≤ (((keysF D).length + 1 + q : Nat) : Int)) ∧ ((compactM D L).2.2 = 0 ∨ (compactM D L).2.2 = 5 ∨ (compactM D L).2.2 = 7) ∧
      ((∀ n, T n = []) → ∀ n, T' n = []) ∧
      (D.fails = 0 → (compactM D L).2.2 ≠ 7 ∧ ((compactM D L).2.2 = 0 → (compactM D L).1.fails = 0 ∧ E'.map (fun e => e.2) = recsL L ∧ (keysF (compactM D L).1).length ≤ 1 + q ∧ ∀ n ∈ keysF (compactM D L).1, n < (compactM D L).2.1.last → 2048 - b < (cont E' n).length)) := by
  have hL1 : ∀ n ∈ keysF D, n ≤ L.last + 1 := fun n hn => by have := h.top n hn; omega
  have hc0 : cont E (L.last + 1) = [] := cont_none fun e he hx => by have := h.top _ (h.h.mem e he); omega
  obtain ⟨q, C1, C2, E1, y⟩ := lay_holds hb (recsL L) D E m (L.last + 1) 0 [L.last + 1] h.h hL1 (fun n hn => h.above n (by omega)) (by rw [hc0]; rfl) (by have := h.pos; omega) hr
  have hcm : compactM D L = if (layM D (L.last + 1) 0 [L.last + 1] (recsL L)).2.2 = 0 then ((dropsM (layM D (L.last + 1) 0 [L.last + 1] (recsL L)).1 (keysF D)).1, { L with last := (layM D (L.last + 1) 0 [L.last + 1] (recsL L)).2.1.getLastD 0 }, (dropsM (layM D (L.last + 1) 0 [L.last + 1] (recsL L)).1 (keysF D)).2)
    else ((dropsM (layM D (L.last + 1) 0 [L.last + 1] (recsL L)).1 (layM D (L.last + 1) 0 [L.last + 1] (recsL L)).2.1.reverse).1, { L with last := (layM D (L.last + 1) 0 [L.last + 1] (recsL L)).2.1.getLastD 0 }, (layM D (L.last + 1) 0 [L.last + 1] (recsL L)).2.2) := rfl
  rw [show ((0 : Nat) : Int) = 0 from rfl] at y
  obtain ⟨X, hX⟩ : ∃ X, X = layM D (L.last + 1) 0 [L.last + 1] (recsL L) := ⟨_, rfl⟩
  rw [← hX] at y hcm
  have hnews : X.2.1 = (L.last + 1) :: up (L.last + 1) q := y.news
  have hlast : X.2.1.getLastD 0 = L.last + 1 + q := by rw [hnews, up_last]
  have hnk : nk D (L.last + 1) ≤ 1 := by unfold nk; split <;> omega
  have hmem : ∀ n, n ∈ X.2.1 ↔ L.last + 1 ≤ n ∧ n ≤ L.last + 1 + q := fun n => by
    rw [hnews, List.mem_cons, mem_up]; omega
  have hEl : ∀ e ∈ E, e.1 ≤ L.last := fun e he => h.top _ (h.h.mem e he)
  have hfew : q * (2048 - b) ≤ bytesN (recsL L) := by have := y.few; omega
  by_cases h0 : X.2.2 = 0
  · rw [if_pos h0] at hcm
    have hH := y.h
    rw [if_pos h0] at hH
    have hall : recsL L = C1 := by rw [y.split, y.all h0, List.append_nil]
    obtain ⟨i, T', a1, a2, a3, a4, a5, a6, a7⟩ := drops_front (keysF D) X.1 (E ++ E1) T hH (keysF_sorted h.h.nodup) (fun e he => by
      rcases List.mem_append.1 he with he | he
      · exact .inl (h.h.mem e he)
      · exact .inr fun n hn => by have := h.top n hn; have := y.seg e he; omega)
    have hiE : i ≤ E.length ∨ E1 = [] := by
      by_cases hx : i ≤ E.length
      · exact .inl hx
      · refine .inr ?_
        cases hE1 : E1 with
        | nil => rfl
        | cons e E2 =>
          have he1 : e ∈ E1 := by rw [hE1]; exact List.mem_cons_self ..
          have hin : e ∈ (E ++ E1).take i := by
            rw [List.take_append, hE1]
            refine List.mem_append_right _ ?_
            rw [show i - E.length = (i - E.length - 1) + 1 by omega, List.take_succ_cons]
            exact List.mem_cons_self ..
          have := h.top _ (a7 e hin)
          have := y.seg e he1
          omega
    have hi : (E ++ E1).drop i = E.drop i ++ E1 := by
      rcases hiE with hx | hx
      · rw [List.drop_append_of_le_length hx]
      · rw [hx, List.append_nil, List.append_nil]
    rw [hi] at a1
    rw [hcm]
    have hD7 : (dropsM X.1 (keysF D)).2 = 0 ∨ (dropsM X.1 (keysF D)).2 = 7 := a5
    refine ⟨E.drop i ++ E1, 0, T', q, ⟨a1, fun n hn => ?_, ?_, ?_, fun n hn => (y.keys n (a2 n hn)).elim (h.low n) fun hx => by have := h.pos; omega⟩, a4.trans y.most, hlast, hfew, .inr ⟨i, by rw [List.map_append, y.e1, ← hall], rfl⟩, fun h5 => ?_, ?_, fun hz n => a3 n (hz n), fun hf => ?_⟩
    · simp only at hn ⊢
      rw [hlast]
      rcases y.keys n (a2 n hn) with h' | h'
      · have := h.top n h'; omega
      · omega
    · simp only; rw [hlast]; exact a3 _ (h.above _ (by omega))
    · simp only; rw [hlast]; have := h.pos; omega
    · simp only at h5; omega
    · simp only; omega
    · obtain ⟨f1, f2⟩ := y.fails hf
      obtain ⟨c1, c2, c3⟩ := a6 f1
      have hE0 : E.drop i = [] := by
        cases hE : E.drop i with
        | nil => rfl
        | cons e E2 =>
          have h1 : e ∈ E.drop i := by rw [hE]; exact List.mem_cons_self ..
          exact absurd (h.h.mem e (List.mem_of_mem_drop h1)) (c3 _ (a1.mem e (List.mem_append_left _ h1)))
      refine ⟨by simp only; rw [c1]; decide, fun _ => ⟨c2, ?_, ?_, fun n hn hnl => ?_⟩⟩
      · rw [hE0, List.nil_append, y.e1, ← hall]
      · have := stretch_len _ (L.last + 1) q (keysF_sorted a1.nodup) fun n hn => by
          rcases y.keys n (a2 n hn) with h' | h'
          · exact absurd h' (c3 n hn)
          · exact h'
        simp only; omega
      · simp only at hn hnl
        rw [hlast] at hnl
        rcases y.keys n (a2 n hn) with h' | h'
        · exact absurd h' (c3 n hn)
        · have := y.full n h'.1 hnl
          rw [cont_append, cont_none fun e he hx => by have := hEl e he; omega, List.nil_append] at this
          rw [hE0, List.nil_append]
          exact this
  · rw [if_neg h0] at hcm
    have hH := y.h
    rw [if_neg h0] at hH
    have hlen1 : E1.length = C1.length := by rw [← y.e1, List.length_map]
    have hsub : (E ++ E1).length - (m + C1.length) = E.length - m := by rw [List.length_append]; omega
    have hml := h.h.le
    obtain ⟨i, T', a0, a1, a2, a3, a4, a5⟩ := drops_back X.2.1.reverse X.1 (E ++ E1) (m + C1.length) T hH (by
      rw [List.pairwise_reverse, hnews]; exact up_sorted _ _) (fun e he => by
      rcases List.mem_append.1 he with he | he
      · exact .inr fun n hn => by rw [List.mem_reverse, hmem] at hn; have := hEl e he; omega
      · exact .inl (by rw [List.mem_reverse, hmem]; exact y.seg e he)) (fun e he n hn => by
      rw [hsub, List.take_append_of_le_length (by omega)] at he
      rw [List.mem_reverse, hmem] at hn
      have := hEl e (List.mem_of_mem_take he)
      omega)
    rw [hsub] at a1 a5
    have him : m ≤ i := by
      refine Decidable.byContradiction fun hlt => ?_
      have hlt' : E.length - m + i < E.length := by omega
      have hin : E[E.length - m + i] ∈ (E ++ E1).drop (E.length - m + i) := by
        rw [List.drop_append_of_le_length (by omega), List.drop_eq_getElem_cons hlt']
        exact List.mem_append_left _ (List.mem_cons_self ..)
      have h1 := a5 _ hin
      rw [List.mem_reverse, hmem] at h1
      have := hEl _ (List.getElem_mem hlt')
      omega
    have htk : (E ++ E1).take (E.length - m + i) = E ++ E1.take (i - m) := by
      rw [List.take_append, List.take_of_length_le (by omega)]
      congr 2; omega
    rw [htk] at a1
    rw [hcm]
    refine ⟨E ++ E1.take (i - m), i, T', q, ⟨a1, fun n hn => ?_, ?_, ?_, fun n hn => (y.keys n (a2 n hn)).elim (h.low n) fun hx => by have := h.pos; omega⟩, a4.trans y.most, hlast, hfew, .inl ⟨h0, C1.take (i - m), C1.drop (i - m) ++ C2, ?_, ?_, ?_⟩, fun h5 => ?_, y.err, fun hz n => a3 n (hz n), fun hf => ⟨(y.fails hf).2, fun hx => absurd hx h0⟩⟩
    · simp only at hn ⊢
      rw [hlast]
      rcases y.keys n (a2 n hn) with h' | h'
      · have := h.top n h'; omega
      · omega
    · simp only; rw [hlast]; exact a3 _ (h.above _ (by omega))
    · simp only; rw [hlast]; have := h.pos; omega
    · rw [← List.append_assoc, List.take_append_drop]; exact y.split
    · rw [List.map_append, List.map_take, y.e1]
    · rw [List.length_take]; omega
    · refine Int.le_trans (y.room h5) ?_
      omega
end Go.Proofs.Ytlcfmfljmabaeaa
