/-
  A front's rows, in plain terms: sorted lists of requests.
-/
import Derived.Test.YtehgdocbabaldaaGreatFT7
import Derived.Test.YtehgdocbabaldaaGreatFT10
set_option maxRecDepth 100000
set_option linter.unusedVariables false
set_option linter.unusedSimpArgs false
namespace Go.Proofs.YtehgdocbabaldaaGreat.Q
open Go Go.Abs Go.Abs.K

theorem insL_length (r : QReq) (L : List QReq) : (insL r L).length = L.length + 1 := by
  have := insI_le r L
  unfold insL
  simp only [List.length_append, List.length_cons, List.length_take, List.length_drop]
  omega

theorem posL_none {x : Int} {L : List QReq} : posL x L = none ↔ ∀ r ∈ L, r.id ≠ x := by
  induction L with
  | nil => simp [posL]
  | cons r L ih =>
    simp only [posL, List.mem_cons, forall_eq_or_imp]
    by_cases h : r.id = x
    · simp [h]
    · rw [if_neg h, Option.map_eq_none_iff, ih]; simp [h]

theorem insL_sorted {r : QReq} {L : List QReq} (hs : SortedR L) (hp : posL r.id L = none) : SortedR (insL r L) := by
  rw [posL_none] at hp
  have h1 : ∀ {L : List QReq}, ∀ x ∈ L.take (insI r L), beforeR x r = true := by
    intro L
    induction L with
    | nil => simp [insI]
    | cons a L ih =>
      intro x hx
      simp only [insI] at hx
      cases ha : beforeR a r
      · rw [ha] at hx; simp at hx
      · rw [ha] at hx
        simp only [if_true, List.take_succ_cons, List.mem_cons] at hx
        rcases hx with rfl | hx
        · exact ha
        · exact ih x hx
  have h2 : ∀ {L : List QReq}, SortedR L → (∀ x ∈ L, x.id ≠ r.id) → ∀ x ∈ L.drop (insI r L), beforeR r x = true := by
    intro L
    induction L with
    | nil => simp [insI]
    | cons a L ih =>
      intro hs hp x hx
      obtain ⟨ha, hs'⟩ := List.pairwise_cons.1 hs
      simp only [insI] at hx
      cases hb : beforeR a r
      · rw [hb] at hx
        simp only [Bool.false_eq_true, if_false, List.drop_zero] at hx
        have hra : beforeR r a = true := by
          have hne := hp a (List.mem_cons_self ..)
          have hnb : ¬ beforeR a r = true := by rw [hb]; decide
          rw [before_iff] at hnb ⊢
          omega
        rcases List.mem_cons.1 hx with rfl | hx
        · exact hra
        · exact before_trans hra (ha x hx)
      · rw [hb] at hx
        simp only [if_true, List.drop_succ_cons] at hx
        exact ih hs' (fun y hy => hp y (List.mem_cons_of_mem _ hy)) x hx
  have hs0 := hs
  rw [SortedR, ← List.take_append_drop (insI r L) L, List.pairwise_append] at hs0
  unfold insL SortedR
  rw [List.pairwise_append, List.pairwise_cons]
  refine ⟨hs0.1, ⟨h2 hs hp, hs0.2.1⟩, fun x hx y hy => ?_⟩
  rcases List.mem_cons.1 hy with rfl | hy
  · exact h1 x hx
  · exact hs0.2.2 x hx y hy

end Go.Proofs.YtehgdocbabaldaaGreat.Q


/-
  A front: Has; New.
-/
set_option maxRecDepth 100000
set_option linter.unusedVariables false
set_option linter.unusedSimpArgs false
namespace Go.Proofs.YtehgdocbabaldaaGreat
open Go Go.Abs Go.Abs.K

def posF (p : Q.QReq → Bool) : List Q.QReq → Option Nat
  | [] => none
  | r :: L => if p r = true then some 0 else (posF p L).map (· + 1)

theorem posF_none {p : Q.QReq → Bool} {L : List Q.QReq} : posF p L = none ↔ L.any p = false := by
  induction L with
  | nil => simp [posF]
  | cons r L ih =>
    simp only [posF, List.any_cons]
    cases h : p r
    · simp [ih]
    · simp
theorem posF_take {p : Q.QReq → Bool} : ∀ {L : List Q.QReq} {i : Nat}, i < L.length → posF p (L.take i) = none → p (Q.rG L i) = false → posF p (L.take (i + 1)) = none := by
  intro L i hi h1 h2
  rw [posF_none] at h1 ⊢
  rw [List.take_add_one, List.getElem?_eq_getElem hi, List.any_append, h1, ← Q.rG_lt hi]
  simp [h2]
theorem posF_hit {p : Q.QReq → Bool} : ∀ {L : List Q.QReq} {i : Nat}, i < L.length → posF p (L.take i) = none → p (Q.rG L i) = true → posF p L = some i := by
  intro L
  induction L with
  | nil => intro i hi; simp at hi
  | cons r L ih =>
    intro i hi h1 h2
    cases i with
    | zero => simp only [posF]; rw [if_pos (by simpa [Q.rG] using h2)]
    | succ i =>
      simp only [List.take_succ_cons, posF] at h1 ⊢
      split at h1
      · cases h1
      · rename_i hr
        rw [if_neg hr, ih (by simpa using hi) (by simpa using h1) (by simpa [Q.rG] using h2)]; rfl

def toR (q : Q.QReq) : RQ := ⟨q.id, q.host, q.path, q.prio, q.til⟩

theorem callee_clo2 (f : FuncId) (p q : Value) (l : List Value) : callee (.func (.func f) #[] #[p, q]) l = some (f, l ++ [p, q]) := by simp [callee]

section
variable {tbl : FuncId → Option AFun} {ov : CallSem} {s : St} (T : FTbl tbl)
include T

theorem r40 {f l p : Nat} {M : FM} {O : List Nat} {L : LM} {OL : List Nat} {r : RQ} {b c : Nat} {pa : ByteArray} (h : FRep s f l M O) (hl : LRep s l p L OL) (hb : s.heap.get b = some (.cells [ptr f] 30 0 false)) (hbl : b < s.next) (hc : s.heap.get c = some (.cells [.string pa] 9 0 false)) (hcl : c < s.next) :
    Pure tbl ov 40 [r.val, ptr b, ptr c] s (.bool ((wholeR M L r).path.toList == pa.toList)) := by
  refine WCall.pure T.t40 rfl (by decide) rfl ?_
  obtain ⟨c1, c2, c3, c4, c5, c6, c7⟩ := cells_facts r
  obtain ⟨sA, hsA⟩ : ∃ sA : St, sA = ⟨s.heap.put s.next (some (.cells r.cells 34 0 false)), s.next + 1⟩ := ⟨_, rfl⟩
  have hkA : Kept [] s sA := by
    rw [hsA]
    exact ⟨by simp only; omega, fun j hj _ => by simp only [Heap.get_put]; rw [if_neg (by omega)]⟩
  have h31 := r31 (ov := ov) T (r := r) (h.kept hkA (by simp)) (hl.kept hkA (by simp))
  have e31 := fun K => WCall.pureEq h31 K
  have nn2 := nxt_le (fun k => call tbl ov k) 31 [ptr f, r.val] sA
  generalize nxt (fun k => call tbl ov k) 31 [ptr f, r.val] sA = n3' at e31 nn2
  rw [hsA] at e31 nn2
  simp only at nn2
  have n1 : ¬ b = s.next := by omega
  have n2 : ¬ c = s.next := by omega
  have hbe : ∀ a b : ByteArray, binV .eql (.string a) (.string b) = some (.bool (a.toList == b.toList)) := fun _ _ => rfl
  simp -implicitDefEqProofs only [fun40, code40, params, go_sem, n1, n2, hb, hc, c1, c2, c3, c6, e31, List.drop_zero, (cells_facts (wholeR M L r)).2.2.2.2.2.1, hbe]
  refine ⟨fun i hi f' hf' => ?_, by omega, fun j hj => ?_⟩
  · rw [List.mem_singleton.1 hi] at hf'
    cases hf'
    exact fun _ _ => rfl
  · simp only [Heap.get_put]
    rw [if_neg (by omega)]

theorem r61 (TQ : Q.QTbl tbl) {f l p : Nat} {M : FM} {O : List Nat} {LG : LM} {OL : List Nat} {b c : Nat} {pa : ByteArray} {L : List Q.QReq} {lv : Value} (h : FRep s f l M O) (hl : LRep s l p LG OL) (hb : s.heap.get b = some (.cells [ptr f] 30 0 false)) (hbl : b < s.next) (hc : s.heap.get c = some (.cells [.string pa] 9 0 false)) (hcl : c < s.next)
    (hr : RowV 5 s lv (Q.cellsL L)) (hn : L.length < 2 ^ 62) :
    Pure tbl ov 61 [lv, .func (.func 40) #[] #[ptr b, ptr c]] s (i64 (Q.posV (posF (fun q => (wholeR M LG (toR q)).path.toList == pa.toList) L))) := by
  obtain ⟨P, hP⟩ : ∃ P, P = fun q : Q.QReq => (wholeR M LG (toR q)).path.toList == pa.toList := ⟨_, rfl⟩
  rw [← hP]
  refine WCall.pure TQ.t61 rfl (by decide) rfl ?_
  obtain ⟨a, cap, hlv⟩ := hr.len
  rw [List.length_map] at hlv
  subst hlv
  simp -implicitDefEqProofs only [fun61, code61, params, go_sem]
  refine wc_loopV (fun m vs s' => s'.heap = s.heap ∧ s.next ≤ s'.next ∧ ∃ i, i ≤ L.length ∧ m = L.length - i ∧ vs = [.slice a L.length cap, .func (.func 40) #[] #[ptr b, ptr c], i64 L.length, i64 i] ∧ posF P (L.take i) = none) L.length ?_ ?_
  · simp -implicitDefEqProofs only [go_sem]
    exact ⟨0, by omega, by omega, rfl, rfl⟩
  · rintro m vs s1 ⟨hh, hnx, i, hi, rfl, rfl, hp⟩ _
    cases hlt : decide ((i : Int) < (L.length : Int))
    · simp -implicitDefEqProofs only [go_sem, hlt]
      simp only [decide_eq_false_iff_not] at hlt
      have : i = L.length := by omega
      subst this
      rw [List.take_length] at hp
      rw [hp]
      exact ⟨rfl, hnx, fun id _ => by rw [hh]⟩
    · simp only [decide_eq_true_eq] at hlt
      obtain ⟨id, o, cap', cc, T', ro, hv, hg, hle, hrow, _⟩ := Q.row_read hr (i := i) (by omega)
      cases hv
      have hk : Kept [] s s1 := ⟨hnx, fun j _ _ => by rw [hh]⟩
      have h40 := r40 (ov := ov) (s := s1) T (r := toR (Q.rG L i)) (h.kept hk (by simp)) (hl.kept hk (by simp)) (b := b) (c := c) (pa := pa) (by rw [hh]; exact hb) (by omega) (by rw [hh]; exact hc) (by omega)
      rw [show ((wholeR M LG (toR (Q.rG L i))).path.toList == pa.toList) = P (Q.rG L i) from by rw [hP], show (toR (Q.rG L i)).val = (Q.rG L i).val from rfl] at h40
      have e58 := fun K => WCall.pureEq h40 K
      have n58 := nxt_le (fun k => call tbl ov k) 40 [(Q.rG L i).val, ptr b, ptr c] s1
      have hd : decide ((i : Int) < (L.length : Int)) = true := by simp; omega
      have hix : 0 ≤ (i : Int) ∧ (i : Int) < (L.length : Int) := by omega
      have hg1 : s1.heap.get id = some (.cells cc T' 5 ro) := by rw [hh]; exact hg
      have w1 : IntKind.i64.wrap ((i : Int) + 1) = ((i + 1 : Nat) : Int) := by rw [IntKind.wrap_i64]; omega
      cases hc2 : P (Q.rG L i)
      · simp -implicitDefEqProofs only [go_sem, hd, hix, hg1, hle, hrow, callee_clo2, e58, hc2, w1]
        exact ⟨L.length - (i + 1), by omega, hh, Nat.le_trans hnx n58, i + 1, by omega, rfl, rfl, posF_take (by omega) hp hc2⟩
      · simp -implicitDefEqProofs only [go_sem, hd, hix, hg1, hle, hrow, callee_clo2, e58, hc2, w1]
        rw [posF_hit (by omega) hp hc2]
        exact ⟨rfl, Nat.le_trans hnx n58, fun id _ => by rw [hh]⟩

theorem r38 (TQ : Q.QTbl tbl) {f l p : Nat} {M : FM} {O : List Nat} {LG : LM} {OL : List Nat} {b c : Nat} {pa : ByteArray} {L : List Q.QReq} {lv : Value} (h : FRep s f l M O) (hl : LRep s l p LG OL) (hb : s.heap.get b = some (.cells [ptr f] 30 0 false)) (hbl : b < s.next) (hc : s.heap.get c = some (.cells [.string pa] 9 0 false)) (hcl : c < s.next)
    (hr : RowV 5 s lv (Q.cellsL L)) (hn : L.length < 2 ^ 62) :
    Pure tbl ov 38 [lv, .func (.func 40) #[] #[ptr b, ptr c]] s (.bool (L.any fun q => (wholeR M LG (toR q)).path.toList == pa.toList)) := by
  refine WCall.pure T.t38 rfl (by decide) rfl ?_
  have h61 := r61 (ov := ov) T TQ h hl hb hbl hc hcl hr hn
  have e61 := fun K => WCall.pureEq h61 K
  have n61 := nxt_le (fun k => call tbl ov k) 61 [lv, .func (.func 40) #[] #[ptr b, ptr c]] s
  have hd : decide (Q.posV (posF (fun q => (wholeR M LG (toR q)).path.toList == pa.toList) L) ≥ 0) = L.any fun q => (wholeR M LG (toR q)).path.toList == pa.toList := by
    cases hx : posF (fun q => (wholeR M LG (toR q)).path.toList == pa.toList) L with
    | none => rw [posF_none.1 hx]; rfl
    | some i =>
      cases hy : L.any fun q => (wholeR M LG (toR q)).path.toList == pa.toList
      · rw [posF_none.2 hy] at hx; cases hx
      · simp [Q.posV]
  simp -implicitDefEqProofs only [fun38, code38, params, go_sem, e61, hd]
  exact ⟨n61, fun _ _ => rfl⟩

theorem r23 (TQ : Q.QTbl tbl) {f l p : Nat} {M : FM} {O : List Nat} {L : LM} {OL : List Nat} {k : Int} {pa : ByteArray} (h : FRep s f l M O) (hlg : LRep s l p L OL) (hd : ∀ x ∈ OL, x ∉ O) (hp : 0 ≤ M.per) (hn : (rowsQ M.qs k).length < 2 ^ 19) :
    WCall (fun k => call tbl ov k) 23 [ptr f, i64 k, .string pa] s fun u s' => u = .bool ((rowsQ M.qs k).any fun r => (wholeR M L (bareR r)).path.toList == pa.toList) ∧ ∃ O' qs', FRep s' f l { M with qs := qs' } O' ∧ (∀ j, rowsQ qs' j = rowsQ M.qs j) ∧ Kept O s s' ∧ ∀ x ∈ O', x ∈ O ∨ s.next ≤ x := by
  refine WCall.of T.t23 rfl ?_
  have hlt := h.lt
  obtain ⟨sA, hsA⟩ : ∃ sA : St, sA = ⟨(s.heap.put s.next (some (.cells [ptr f] 30 0 false))).put (s.next + 1) (some (.cells [.string pa] 9 0 false)), s.next + 1 + 1⟩ := ⟨_, rfl⟩
  have hkA : Kept [] s sA := by
    rw [hsA]
    exact ⟨by simp only; omega, fun j hj _ => by simp only [Heap.get_put]; rw [if_neg (by omega), if_neg (by omega)]⟩
  have hA := h.kept hkA (by simp)
  have hbO : ∀ x, s.next ≤ x → x ∉ O := fun x hx hx' => by have := hlt x hx'; omega
  have hsn : s.next + 1 < sA.next := by rw [hsA]; exact Nat.lt_succ_self _
  have n1 : ¬ s.next = s.next + 1 := by omega
  simp -implicitDefEqProofs only [fun23, code23, params, go_sem, n1]
  rw [← hsA]
  refine WCall.mono (r29 T TQ hA hp k) ?_
  rintro u s1 ⟨n, O1, qs1, rfl, hF1, hl1, hr1, ⟨hk1, _⟩, hO1⟩
  have hb1 : s1.heap.get s.next = some (.cells [ptr f] 30 0 false) := by
    rw [hk1.2 s.next (by omega) (hbO _ (Nat.le_refl _)), hsA]; simp only [Heap.get_put, n1, if_true, if_false]
  have hc1 : s1.heap.get (s.next + 1) = some (.cells [.string pa] 9 0 false) := by
    rw [hk1.2 (s.next + 1) hsn (hbO _ (Nat.le_succ _)), hsA]; simp only [Heap.get_put, if_true]
  have hL1 : LRep s1 l p L OL := (hlg.kept hkA (by simp)).kept hk1 hd
  have hrl : rowsQ M.qs k = n.L := by rw [← hr1 k, rowsQ, hl1]; rfl
  have hQ : Q.QRep s1 n.q M.per (n.L.map bareQ) n.S := by
    obtain ⟨mq', mh', mp', rv', SR', eq', cq', eh', ch', ep', cp', g1, rfl, g2, g3, g4, g5, g6, g7, g8, g9, g10, g11, g12, g13, g14⟩ := hF1
    exact g14 _ (lookG_mem hl1)
  rw [hrl] at hn ⊢
  have l0 := hkA.1; have l1 := hk1.1
  simp -implicitDefEqProofs only [go_sem]
  refine WCall.mono (Q.p39 TQ hQ (by rw [List.length_map]; omega)) ?_
  rintro v s2 ⟨S2, hR2, hk2, hS2⟩
  have l2 := hk2.1
  have h38 := r38 (ov := ov) T TQ (hF1.kept hk2 (by simp)) (hL1.kept hk2 (by simp)) (b := s.next) (c := s.next + 1) (pa := pa) (by rw [hk2.2 _ (by omega) (by simp)]; exact hb1) (by omega) (by rw [hk2.2 _ (by omega) (by simp)]; exact hc1) (by omega) hR2.toV (by rw [List.length_map]; omega)
  rw [show ((n.L.map bareQ).any fun q => (wholeR { M with qs := qs1 } L (toR q)).path.toList == pa.toList) = n.L.any fun r => (wholeR M L (bareR r)).path.toList == pa.toList from by rw [List.any_map]; rfl] at h38
  have e38 := fun K => WCall.pureEq h38 K
  have n38 := nxt_le (fun k => call tbl ov k) 38 [v, .func (.func 40) #[] #[ptr s.next, ptr (s.next + 1)]] s2
  generalize nxt (fun k => call tbl ov k) 38 [v, .func (.func 40) #[] #[ptr s.next, ptr (s.next + 1)]] s2 = n3 at e38 n38
  have hk3 : Kept [] s2 ⟨s2.heap, n3⟩ := ⟨n38, fun _ _ _ => rfl⟩
  simp -implicitDefEqProofs only [go_sem, Q.wv_mkFunc, e38]
  refine ⟨O1, qs1, (hF1.kept hk2 (by simp)).kept hk3 (by simp), hr1, ⟨by simp only; omega, fun j hj hn => ?_⟩, fun x hx => ?_⟩
  · rw [hk2.2 j (by omega) (by simp), hk1.2 j (by omega) hn, hkA.2 j hj (by simp)]
  · rcases hO1 x hx with h | h
    · exact .inl h
    · exact .inr (by omega)

theorem r8 {per mem : Int} {l : Nat} :
    WCall (fun k => call tbl ov k) 8 [i64 per, i64 mem, ptr l] s fun u s' => ∃ f O, u = ptr f ∧ FRep s' f l ⟨max per 0, max mem 1, [], [], [], []⟩ O ∧ Kept [] s s' ∧ ∀ x ∈ O, s.next ≤ x := by
  refine WCall.of T.t8 rfl ?_
  simp -implicitDefEqProofs only [fun8, code8, params, go_sem, fillL, ev_max]
  have n1 : ¬ s.next = s.next + 1 := by omega
  have n2 : ¬ s.next = s.next + 1 + 1 := by omega
  have n3 : ¬ s.next = s.next + 1 + 1 + 1 := by omega
  have n4 : ¬ s.next + 1 = s.next + 1 + 1 := by omega
  have n5 : ¬ s.next + 1 = s.next + 1 + 1 + 1 := by omega
  have n6 : ¬ s.next + 1 + 1 = s.next + 1 + 1 + 1 := by omega
  refine ⟨s.next + 1 + 1 + 1, _, rfl, ⟨s.next, s.next + 1, s.next + 1 + 1, .slice none 0 0, [], [], 0, [], 0, [], 0, ?_, rfl, ?_, ?_, ?_, ⟨by simp, by simp, by simp, .nil⟩, .nil, ?_, ⟨by simp, by simp, by simp, .nil⟩, .nil, ?_, ⟨by simp, by simp, by simp, .nil⟩, .nil, Abs.RowsP.nil, by simp⟩, ⟨by simp only; omega, fun j hj _ => ?_⟩, ?_⟩
  · simp only [Heap.get_put, if_true]
  · simp only [ownQ, List.flatMap_nil, List.append_nil, List.nodup_cons, List.mem_cons, List.not_mem_nil, not_false_eq_true, List.nodup_nil, or_false, not_or, and_true]
    omega
  · intro x hx
    simp only [ownQ, List.flatMap_nil, List.append_nil, List.mem_cons, List.not_mem_nil, or_false] at hx
    simp only; omega
  · simp only [Heap.get_put, n1, n2, n3, if_false, if_true]
  · simp only [Heap.get_put, n4, n5, if_false, if_true]
  · simp only [Heap.get_put, n6, if_false, if_true]
  · simp only [Heap.get_put]
    rw [if_neg (by omega), if_neg (by omega), if_neg (by omega), if_neg (by omega)]
  · intro x hx
    simp only [ownQ, List.flatMap_nil, List.append_nil, List.mem_cons, List.not_mem_nil, or_false] at hx
    omega
end
end Go.Proofs.YtehgdocbabaldaaGreat


/-
  A front, plainly: what holds of its rows, its maps and the log.
-/
set_option maxRecDepth 100000
set_option linter.unusedVariables false
set_option linter.unusedSimpArgs false
namespace Go.Proofs.YtehgdocbabaldaaGreat
open Go Go.Abs Go.Abs.K

structure FI (M : FM) (L : LM) : Prop where
  srt : ∀ k, Q.SortedR ((rowsQ M.qs k).map bareQ)
  hst : ∀ x k, lookG M.host x = some k ↔ ∃ r ∈ rowsQ M.qs k, r.id = x
  lv : ∀ k, ∀ r ∈ rowsQ M.qs k, lookG L.live r.id = some r
  pth : ∀ x b, lookG M.path x = some b → ∃ k, ∃ r ∈ rowsQ M.qs k, r.id = x ∧ r.path = b
  row : ∀ x ∈ M.row, (lookG M.host x).isSome = true
  len : (M.row.length : Int) ≤ M.mem
  nd : (M.host.map fun p => p.1).Nodup
  ndp : (M.path.map fun p => p.1).Nodup

theorem bare_id (r : RQ) : (bareQ r).id = r.id := rfl

theorem insR_mem {r x : RQ} {L : List RQ} : x ∈ insR r L ↔ x = r ∨ x ∈ L := by
  unfold insR
  rw [List.mem_append, List.mem_cons]
  constructor
  · rintro (h | h | h)
    · exact .inr (List.mem_of_mem_take h)
    · exact .inl h
    · exact .inr (List.mem_of_mem_drop h)
  · rintro (h | h)
    · exact .inr (.inl h)
    · rw [← List.take_append_drop (Q.insI (bareQ r) (L.map bareQ)) L, List.mem_append] at h
      rcases h with h | h
      · exact .inl h
      · exact .inr (.inr h)

theorem insR_length (r : RQ) (L : List RQ) : (insR r L).length = L.length + 1 := by
  have := congrArg List.length (insR_bare r L)
  rw [Q.insL_length, List.length_map, List.length_map] at this
  exact this

theorem FI.uniq {M : FM} {L : LM} (h : FI M L) {k j : Int} {r q : RQ} (hr : r ∈ rowsQ M.qs k) (hq : q ∈ rowsQ M.qs j) (he : r.id = q.id) : k = j ∧ r = q := by
  have h1 := (h.hst r.id k).2 ⟨r, hr, rfl⟩
  have h2 := (h.hst r.id j).2 ⟨q, hq, he.symm⟩
  have h3 := h.lv k r hr
  have h4 := h.lv j q hq
  rw [← he, h3] at h4
  rw [h1] at h2
  exact ⟨Option.some.inj h2, Option.some.inj h4⟩

theorem FI.pnone {M : FM} {L : LM} (h : FI M L) {x : Int} (hx : lookG M.host x = none) (k : Int) : Q.posL x ((rowsQ M.qs k).map bareQ) = none := by
  rw [Q.posL_none]
  intro q hq e
  obtain ⟨r, hr, rfl⟩ := List.mem_map.1 hq
  have := (h.hst x k).2 ⟨r, hr, e⟩
  rw [hx] at this; cases this

theorem FI.whole {M : FM} {L : LM} (h : FI M L) {k : Int} {r : RQ} (hr : r ∈ rowsQ M.qs k) : wholeR M L (bareR r) = r := by
  unfold wholeR
  have e1 : (bareR r).id = r.id := rfl
  rw [e1, h.lv k r hr]
  cases hp : lookG M.path r.id with
  | none => rfl
  | some b =>
    obtain ⟨j, q, hq, hi, rfl⟩ := h.pth _ _ hp
    obtain ⟨rfl, rfl⟩ := h.uniq hr hq hi.symm
    rfl

theorem FI.qs {M : FM} {L : LM} (h : FI M L) {qs' : List (Int × QN)} (hq : ∀ j, rowsQ qs' j = rowsQ M.qs j) : FI { M with qs := qs' } L := by
  refine ⟨fun k => ?_, fun x k => ?_, fun k => ?_, fun x b hb => ?_, h.row, h.len, h.nd, h.ndp⟩
  · simp only [hq]; exact h.srt k
  · simp only [hq]; exact h.hst x k
  · simp only [hq]; exact h.lv k
  · simp only [hq]; exact h.pth x b hb

theorem FI.put {M : FM} {L : LM} (h : FI M L) {k : Int} {r : RQ} (hr : r ∈ rowsQ M.qs k) (hl : (M.row.length : Int) + 1 ≤ M.mem) : FI (putP M r) L := by
  have hh := (h.hst r.id k).2 ⟨r, hr, rfl⟩
  refine ⟨h.srt, h.hst, h.lv, fun x b hb => ?_, fun x hx => ?_, ?_, h.nd, putG_nodup h.ndp _ _⟩
  · simp only [putP, lookG_put] at hb
    split at hb
    · rename_i e
      subst e
      cases hb
      exact ⟨k, r, hr, rfl, rfl⟩
    · exact h.pth x b hb
  · simp only [putP, List.mem_append, List.mem_singleton] at hx
    rcases hx with hx | rfl
    · exact h.row x hx
    · show (lookG M.host r.id).isSome = true
      rw [hh]; rfl
  · simp only [putP, List.length_append, List.length_singleton]; omega

theorem FI.cut {M : FM} {L : LM} (h : FI M L) : FI (cutP M) L := by
  refine ⟨h.srt, h.hst, h.lv, fun x b hb => ?_, fun x hx => h.row x (List.mem_of_mem_drop hx), ?_, h.nd, delG_nodup h.ndp _⟩
  · simp only [cutP] at hb
    rw [lookG_del h.ndp] at hb
    split at hb
    · cases hb
    · exact h.pth x b hb
  · have := h.len
    simp only [cutP, List.length_drop]; omega

theorem FI.keep {M : FM} {L : LM} (h : FI M L) {k : Int} {r : RQ} {need : Bool} (hr : r ∈ rowsQ M.qs k) (hm : 1 ≤ M.mem) : FI (keepM M r need) L := by
  have hl := h.len
  unfold keepM
  split
  · split
    · refine FI.put h.cut (k := k) hr ?_
      simp only [cutP, List.length_drop]; omega
    · exact h
  · exact h.put hr (by omega)

theorem FI.ins {M : FM} {L : LM} (h : FI M L) {k : Int} {r : RQ} {qs' : List (Int × QN)} (hno : lookG M.host r.id = none) (hlv : lookG L.live r.id = some r)
    (hq : ∀ j, rowsQ qs' j = if j = k then insR r (rowsQ M.qs k) else rowsQ M.qs j) : FI { M with qs := qs', host := putG M.host r.id k } L := by
  have hmem : ∀ j x, x ∈ rowsQ qs' j ↔ (j = k ∧ x = r) ∨ x ∈ rowsQ M.qs j := fun j x => by
    rw [hq]
    split
    · rename_i e
      subst e
      rw [insR_mem]; simp
    · rename_i e
      simp [e]
  refine ⟨fun j => ?_, fun x j => ?_, fun j q hj => ?_, fun x b hb => ?_, fun x hx => ?_, h.len, putG_nodup h.nd _ _, h.ndp⟩
  · simp only [hq]
    split
    · rw [insR_bare]
      exact Q.insL_sorted (h.srt k) (h.pnone hno k)
    · exact h.srt j
  · show lookG (putG M.host r.id k) x = some j ↔ _
    rw [lookG_put]
    split
    · rename_i e
      subst e
      constructor
      · intro e
        cases e
        exact ⟨r, (hmem _ _).2 (.inl ⟨rfl, rfl⟩), rfl⟩
      · rintro ⟨q, hq', he⟩
        rcases (hmem _ _).1 hq' with ⟨rfl, _⟩ | hq'
        · rfl
        · have := (h.hst r.id j).2 ⟨q, hq', he⟩
          rw [hno] at this; cases this
    · rename_i e
      rw [h.hst x j]
      constructor
      · rintro ⟨q, hq', he⟩
        exact ⟨q, (hmem _ _).2 (.inr hq'), he⟩
      · rintro ⟨q, hq', he⟩
        rcases (hmem _ _).1 hq' with ⟨_, rfl⟩ | hq'
        · exact absurd he.symm e
        · exact ⟨q, hq', he⟩
  · rcases (hmem _ _).1 hj with ⟨_, rfl⟩ | hj
    · exact hlv
    · exact h.lv j q hj
  · obtain ⟨j, q, hj, h1, h2⟩ := h.pth x b hb
    exact ⟨j, q, (hmem _ _).2 (.inr hj), h1, h2⟩
  · show (lookG (putG M.host r.id k) x).isSome = true
    rw [lookG_put]
    split
    · rfl
    · exact h.row x hx

theorem FI.live {M : FM} {L L' : LM} (h : FI M L) {r : RQ} (hno : lookG M.host r.id = none) (hl : L'.live = putG L.live r.id r) : FI M L' := by
  refine ⟨h.srt, h.hst, fun k q hq => ?_, h.pth, h.row, h.len, h.nd, h.ndp⟩
  rw [hl, lookG_put, if_neg]
  · exact h.lv k q hq
  · intro e
    have := (h.hst r.id k).2 ⟨q, hq, e⟩
    rw [hno] at this; cases this

theorem posL_map {x : Int} {L : List RQ} {i : Nat} (h : Q.posL x (L.map bareQ) = some i) : ∃ r, L[i]? = some r ∧ r.id = x ∧ L = L.take i ++ r :: L.drop (i + 1) := by
  obtain ⟨h1, h2⟩ := Q.posL_lt h
  rw [List.length_map] at h1
  refine ⟨L[i], List.getElem?_eq_getElem h1, ?_, ?_⟩
  · rw [Q.rG_lt (by rw [List.length_map]; exact h1), List.getElem_map] at h2
    exact h2
  · rw [List.getElem_cons_drop, List.take_append_drop]

theorem SortedR_sub {A B : List Q.QReq} (h : A.Sublist B) (hs : Q.SortedR B) : Q.SortedR A := List.Pairwise.sublist h hs

theorem FI.drop {M : FM} {L : LM} (h : FI M L) {k x : Int} {i : Nat} {qs' : List (Int × QN)} (hyes : lookG M.host x = some k) (hpos : Q.posL x ((rowsQ M.qs k).map bareQ) = some i)
    (hq : ∀ j, rowsQ qs' j = if j = k then (rowsQ M.qs k).take i ++ (rowsQ M.qs k).drop (i + 1) else rowsQ M.qs j) : FI (dropM M qs' x) L := by
  obtain ⟨r, hri, hrx, hsp⟩ := posL_map hpos
  have hrm : r ∈ rowsQ M.qs k := List.mem_of_getElem? hri
  have hsub : ∀ j, (rowsQ qs' j).Sublist (rowsQ M.qs j) := fun j => by
    rw [hq]
    split
    · rename_i e
      subst e
      conv => rhs; rw [hsp]
      exact List.Sublist.append_left (List.sublist_cons_self ..) _
    · exact List.Sublist.refl _
  have hmem : ∀ j q, q ∈ rowsQ qs' j ↔ q ∈ rowsQ M.qs j ∧ q.id ≠ x := fun j q => by
    constructor
    · intro hm
      refine ⟨(hsub j).subset hm, fun e => ?_⟩
      have hqm := (hsub j).subset hm
      obtain ⟨rfl, rfl⟩ := h.uniq hqm hrm (by rw [e, hrx])
      rw [hq, if_pos rfl] at hm
      have hs := h.srt j
      rw [hsp, List.map_append, List.map_cons, Q.SortedR, List.pairwise_append, List.pairwise_cons] at hs
      rcases List.mem_append.1 hm with hm | hm
      · have := hs.2.2 _ (List.mem_map_of_mem hm) _ (List.mem_cons_self ..)
        rw [Q.before_irrefl] at this; cases this
      · have := hs.2.1.1 _ (List.mem_map_of_mem hm)
        rw [Q.before_irrefl] at this; cases this
    · rintro ⟨hm, hne⟩
      rw [hq]
      split
      · rename_i e
        subst e
        rw [hsp] at hm
        rcases List.mem_append.1 hm with hm | hm
        · exact List.mem_append_left _ hm
        · rcases List.mem_cons.1 hm with rfl | hm
          · exact absurd hrx hne
          · exact List.mem_append_right _ hm
      · exact hm
  have hh : ∀ y, lookG (delG M.host x) y = if y = x then none else lookG M.host y := fun y => lookG_del h.nd
  refine ⟨fun j => SortedR_sub ((hsub j).map _) (h.srt j), fun y j => ?_, fun j q hj => h.lv j q ((hsub j).subset hj), fun y b hb => ?_, fun y hy => ?_, ?_, delG_nodup h.nd _, delG_nodup h.ndp _⟩
  · show lookG (delG M.host x) y = some j ↔ ∃ r ∈ rowsQ qs' j, r.id = y
    rw [hh]
    split
    · rename_i e
      subst e
      constructor
      · intro e; cases e
      · rintro ⟨q, hq', he⟩
        exact absurd he ((hmem _ _).1 hq').2
    · rename_i e
      rw [h.hst y j]
      constructor
      · rintro ⟨q, hq', he⟩
        exact ⟨q, (hmem _ _).2 ⟨hq', by rw [he]; exact e⟩, he⟩
      · rintro ⟨q, hq', he⟩
        exact ⟨q, ((hmem _ _).1 hq').1, he⟩
  · simp only [dropM] at hb
    rw [lookG_del h.ndp] at hb
    split at hb
    · cases hb
    · rename_i e
      obtain ⟨j, q, hj, h1, h2⟩ := h.pth y b hb
      exact ⟨j, q, (hmem _ _).2 ⟨hj, by rw [h1]; exact e⟩, h1, h2⟩
  · simp only [dropM, List.mem_filter] at hy
    show (lookG (delG M.host x) y).isSome = true
    rw [hh, if_neg (by simpa using hy.2)]
    exact h.row y hy.1
  · have := h.len
    have := List.length_filter_le (fun w => !(w == x)) M.row
    simp only [dropM]; omega
end Go.Proofs.YtehgdocbabaldaaGreat


/-
  A front on its log on its disk; FrontOrder's invariant, plainly.
-/
set_option maxRecDepth 100000
set_option linter.unusedVariables false
set_option linter.unusedSimpArgs false
namespace Go.Proofs.YtehgdocbabaldaaGreat
open Go Go.Abs Go.Abs.K

structure Duo (s : St) (l p f : Nat) (D : DM) (L : LM) (M : FM) (O OD V OF : List Nat) : Prop where
  sr : SRep s l p D L O OD V
  fr : FRep s f l M OF
  dis : ∀ x ∈ OF, x ∉ O ∧ x ∉ OD ∧ x ∉ V

theorem Duo.ltS {s : St} {l p f : Nat} {D : DM} {L : LM} {M : FM} {O OD V OF : List Nat} (h : Duo s l p f D L M O OD V OF) : ∀ x, x ∈ O ∨ x ∈ OD ∨ x ∈ V → x < s.next := by
  rintro x (hx | hx | hx)
  · exact h.sr.l.lt x hx
  · exact h.sr.d.lt.1 x hx
  · exact h.sr.d.lt.2 x hx

theorem Duo.kept {s s' : St} {l p f : Nat} {D : DM} {L : LM} {M : FM} {O OD V OF T : List Nat} (h : Duo s l p f D L M O OD V OF) (hk : Kept T s s') (hT : ∀ x ∈ T, x ∉ O ∧ x ∉ OD ∧ x ∉ V ∧ x ∉ OF) : Duo s' l p f D L M O OD V OF :=
  ⟨h.sr.kept hk (fun x hx hx' => (hT x hx').1 hx) (fun x hx hx' => (hT x hx').2.1 hx) (fun x hx hx' => (hT x hx').2.2.1 hx), h.fr.kept hk (fun x hx hx' => (hT x hx').2.2.2 hx), h.dis⟩

theorem Duo.log {s s' : St} {l p f : Nat} {D D' : DM} {L L' : LM} {M : FM} {O OD V OF OD' V' : List Nat} (h : Duo s l p f D L M O OD V OF) (hs : SRep s' l p D' L' O OD' V') (hg : GrownS s s' O OD V OD' V') : Duo s' l p f D' L' M O OD' V' OF := by
  have hlt := h.fr.lt
  refine ⟨hs, h.fr.kept hg.k fun x hx hx' => ?_, fun x hx => ⟨(h.dis x hx).1, fun hx' => ?_, fun hx' => ?_⟩⟩
  · rcases List.mem_append.1 hx' with h' | h'
    · exact (h.dis x hx).1 h'
    · exact (h.dis x hx).2.1 h'
  · rcases hg.o x hx' with h' | h'
    · exact (h.dis x hx).2.1 h'
    · have := hlt x hx; omega
  · rcases hg.v x hx' with h' | h'
    · exact (h.dis x hx).2.2 h'
    · have := hlt x hx; omega

theorem Duo.front {s s' : St} {l p f : Nat} {D : DM} {L : LM} {M M' : FM} {O OD V OF OF' : List Nat} (h : Duo s l p f D L M O OD V OF) (hf : FRep s' f l M' OF') (hk : Kept OF s s') (hO : ∀ x ∈ OF', x ∈ OF ∨ s.next ≤ x) : Duo s' l p f D L M' O OD V OF' := by
  have hlt := h.ltS
  refine ⟨h.sr.kept hk (fun x hx hx' => (h.dis x hx').1 hx) (fun x hx hx' => (h.dis x hx').2.1 hx) (fun x hx hx' => (h.dis x hx').2.2 hx), hf, fun x hx => ?_⟩
  rcases hO x hx with h' | h'
  · exact h.dis x h'
  · exact ⟨fun e => by have := hlt x (.inl e); omega, fun e => by have := hlt x (.inr (.inl e)); omega, fun e => by have := hlt x (.inr (.inr e)); omega⟩

theorem delG_len {κ υ : Type} [DecidableEq κ] : ∀ {F : List (κ × υ)} {k : κ}, (lookG F k).isSome = true → (delG F k).length + 1 = F.length := by
  intro F k
  induction F with
  | nil => intro h; cases h
  | cons p F ih =>
    intro h
    simp only [lookG] at h
    simp only [delG]
    split
    · rfl
    · rename_i hp
      rw [if_neg hp] at h
      have := ih h
      simp only [List.length_cons]; omega
theorem putG_new {κ υ : Type} [DecidableEq κ] {F : List (κ × υ)} {k : κ} {v : υ} (h : lookG F k = none) : (putG F k v).length = F.length + 1 := by
  simp [putG, h]

theorem keepM_qs (M : FM) (r : RQ) (b : Bool) : (keepM M r b).qs = M.qs ∧ (keepM M r b).host = M.host ∧ (keepM M r b).per = M.per ∧ (keepM M r b).mem = M.mem := by
  unfold keepM
  split
  · split <;> exact ⟨rfl, rfl, rfl, rfl⟩
  · exact ⟨rfl, rfl, rfl, rfl⟩
theorem firstM_qs (M : FM) (r : RQ) : (firstM M r).qs = M.qs ∧ (firstM M r).host = M.host ∧ (firstM M r).per = M.per ∧ (firstM M r).mem = M.mem := by
  unfold firstM
  split
  · exact ⟨rfl, rfl, rfl, rfl⟩
  · exact keepM_qs M r true

theorem FI.first {M : FM} {L : LM} (h : FI M L) {k : Int} {r : RQ} (hr : r ∈ rowsQ M.qs k) (hm : 1 ≤ M.mem) : FI (firstM M r) L := by
  unfold firstM
  split
  · exact h
  · exact h.keep hr hm

def rqF (ps : List ByteArray) (zs : List Int) (j : Nat) : RQ := ⟨((j + 1 : Nat) : Int), ⟨#[104]⟩, ps.getD j ⟨#[]⟩, zs.getD j 0 % 8, 0⟩

structure FO (M : FM) (L : LM) (ps : List ByteArray) (zs : List Int) (room : Int) (n m : Nat) : Prop where
  fi : FI M L
  per : M.per = 100
  mem : M.mem = room
  ids : ∀ r ∈ rowsQ M.qs 0, ∃ j, j < n ∧ r = rqF ps zs j
  cnt : (rowsQ M.qs 0).length = m
  oth : ∀ k, k ≠ 0 → rowsQ M.qs k = []
  hl : M.host.length = m

theorem FO.fresh {M : FM} {L : LM} {ps : List ByteArray} {zs : List Int} {room : Int} {n m : Nat} (h : FO M L ps zs room n m) : lookG M.host ((n + 1 : Nat) : Int) = none := by
  cases hx : lookG M.host ((n + 1 : Nat) : Int) with
  | none => rfl
  | some k =>
    obtain ⟨q, hq, he⟩ := (h.fi.hst _ _).1 hx
    by_cases hk : k = 0
    · subst hk
      obtain ⟨j, hj, rfl⟩ := h.ids q hq
      simp only [rqF] at he
      omega
    · rw [h.oth k hk] at hq; cases hq

theorem FO.live {M : FM} {L L' : LM} {ps : List ByteArray} {zs : List Int} {room : Int} {n m : Nat} (h : FO M L ps zs room n m) (hl : L'.live = putG L.live (rqF ps zs n).id (rqF ps zs n)) : FO M L' ps zs room n m :=
  ⟨h.fi.live h.fresh hl, h.per, h.mem, h.ids, h.cnt, h.oth, h.hl⟩

theorem FO.add {M : FM} {L : LM} {ps : List ByteArray} {zs : List Int} {room : Int} {n m : Nat} {qs' : List (Int × QN)} (h : FO M L ps zs room n m) (hr : 1 ≤ room) (hlv : lookG L.live (rqF ps zs n).id = some (rqF ps zs n))
    (hq : ∀ j, rowsQ qs' j = if j = 0 then insR (rqF ps zs n) (rowsQ M.qs 0) else rowsQ M.qs j) :
    FO (keepM { M with qs := qs', host := putG M.host (rqF ps zs n).id 0 } (rqF ps zs n) false) L ps zs room (n + 1) (m + 1) := by
  have hno : lookG M.host (rqF ps zs n).id = none := h.fresh
  have hi := h.fi.ins (r := rqF ps zs n) hno hlv hq
  obtain ⟨k1, k2, k3, k4⟩ := keepM_qs { M with qs := qs', host := putG M.host (rqF ps zs n).id 0 } (rqF ps zs n) false
  have hm : rqF ps zs n ∈ rowsQ qs' 0 := by rw [hq, if_pos rfl, insR_mem]; exact .inl rfl
  refine ⟨hi.keep (k := 0) hm (by rw [show ({ M with qs := qs', host := putG M.host (rqF ps zs n).id 0 } : FM).mem = M.mem from rfl, h.mem]; exact hr), k3.trans h.per, k4.trans h.mem, fun r hr => ?_, ?_, fun k hk => ?_, ?_⟩
  · rw [k1] at hr
    simp only [hq, if_true, insR_mem] at hr
    rcases hr with rfl | hr
    · exact ⟨n, by omega, rfl⟩
    · obtain ⟨j, hj, rfl⟩ := h.ids r hr
      exact ⟨j, by omega, rfl⟩
  · rw [k1]
    simp only [hq, if_true]
    rw [insR_length, h.cnt]
  · rw [k1]
    simp only [hq, if_neg hk]
    exact h.oth k hk
  · rw [k2]
    show (putG M.host (rqF ps zs n).id 0).length = m + 1
    rw [putG_new hno, h.hl]

theorem FO.qs {M : FM} {L : LM} {ps : List ByteArray} {zs : List Int} {room : Int} {n m : Nat} {qs' : List (Int × QN)} (h : FO M L ps zs room n m) (hq : ∀ j, rowsQ qs' j = rowsQ M.qs j) : FO { M with qs := qs' } L ps zs room n m := by
  refine ⟨h.fi.qs hq, h.per, h.mem, fun r hr => ?_, ?_, fun k hk => ?_, h.hl⟩
  · simp only [hq] at hr; exact h.ids r hr
  · simp only [hq]; exact h.cnt
  · simp only [hq]; exact h.oth k hk

theorem FO.first {M : FM} {L : LM} {ps : List ByteArray} {zs : List Int} {room : Int} {n m : Nat} {r : RQ} (h : FO M L ps zs room n m) (hr : r ∈ rowsQ M.qs 0) (h1 : 1 ≤ room) : FO (firstM M r) L ps zs room n m := by
  obtain ⟨k1, k2, k3, k4⟩ := firstM_qs M r
  refine ⟨h.fi.first hr (by rw [h.mem]; exact h1), k3.trans h.per, k4.trans h.mem, ?_, ?_, ?_, ?_⟩
  · rw [k1]; exact h.ids
  · rw [k1]; exact h.cnt
  · rw [k1]; exact h.oth
  · rw [k2]; exact h.hl

theorem FO.drop {M : FM} {L : LM} {ps : List ByteArray} {zs : List Int} {room : Int} {n m : Nat} {r : RQ} {rs : List RQ} {qs' : List (Int × QN)} (h : FO M L ps zs room n (m + 1)) (hr : rowsQ M.qs 0 = r :: rs)
    (hq : ∀ j, rowsQ qs' j = if j = 0 then (rowsQ M.qs 0).take 0 ++ (rowsQ M.qs 0).drop (0 + 1) else rowsQ M.qs j) :
    lookG M.host r.id = some 0 ∧ Q.posL r.id ((rowsQ M.qs 0).map bareQ) = some 0 ∧ FO (dropM M qs' r.id) L ps zs room n m ∧ rowsQ qs' 0 = rs := by
  have hmem : r ∈ rowsQ M.qs 0 := by rw [hr]; exact List.mem_cons_self ..
  have hyes : lookG M.host r.id = some 0 := (h.fi.hst _ _).2 ⟨r, hmem, rfl⟩
  have hpos : Q.posL r.id ((rowsQ M.qs 0).map bareQ) = some 0 := by
    rw [hr]
    simp only [List.map_cons, Q.posL, bare_id, if_true]
  have h0 : rowsQ qs' 0 = rs := by rw [hq, if_pos rfl, hr]; rfl
  refine ⟨hyes, hpos, ⟨h.fi.drop hyes hpos hq, h.per, h.mem, fun q hq' => ?_, ?_, fun k hk => ?_, ?_⟩, h0⟩
  · have : q ∈ rs := by rw [← h0]; exact hq'
    exact h.ids q (by rw [hr]; exact List.mem_cons_of_mem _ this)
  · show (rowsQ qs' 0).length = m
    have := h.cnt
    rw [hr] at this
    rw [h0]
    simpa using this
  · show rowsQ qs' k = []
    rw [hq, if_neg hk]; exact h.oth k hk
  · show (delG M.host r.id).length = m
    have := delG_len (F := M.host) (k := r.id) (by rw [hyes]; rfl)
    have := h.hl
    omega

theorem FO.over {M : FM} {L : LM} {ps : List ByteArray} {zs : List Int} {room : Int} {n : Nat} (h : FO M L ps zs room n 0) : M.row = [] ∧ M.host = [] := by
  have hh : M.host = [] := List.eq_nil_of_length_eq_zero h.hl
  refine ⟨?_, hh⟩
  cases hr : M.row with
  | nil => rfl
  | cons x xs =>
    have := h.fi.row x (by rw [hr]; exact List.mem_cons_self ..)
    rw [hh] at this
    cases this

end Go.Proofs.YtehgdocbabaldaaGreat
