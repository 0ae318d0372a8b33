/-
  A front as it lies; Load, whole.
-/
import Derived.Test.YtehgdocbabaldaaGreatFT1
import Derived.Test.YtehgdocbabaldaaGreatFQ11
set_option maxRecDepth 100000
set_option linter.unusedVariables false
set_option linter.unusedSimpArgs false
namespace Go.Proofs.YtehgdocbabaldaaGreat
open Go Go.Abs Go.Abs.K

structure QN where
  q : Nat
  L : List RQ
  S : List Nat

structure FM where
  per : Int
  mem : Int
  qs : List (Int × QN)
  host : List (Int × Int)
  path : List (Int × ByteArray)
  row : List Int

def bareQ (r : RQ) : Q.QReq := ⟨r.id, r.host, ⟨#[]⟩, r.prio, r.till⟩
def bareR (r : RQ) : RQ := { r with path := ⟨#[]⟩ }

def ownQ (qs : List (Int × QN)) : List Nat := qs.flatMap fun e => e.2.q :: e.2.S

def FRep (s : St) (f l : Nat) (M : FM) (O : List Nat) : Prop := ∃ mq mh mp rv SR eq cq eh ch ep cp,
  s.heap.get f = some (.cells [i64 M.per, i64 M.mem, ptr l, .map (some mq), .map (some mh), .map (some mp), rv] 80 0 false) ∧ O = f :: mq :: mh :: mp :: (SR ++ ownQ M.qs) ∧ O.Nodup ∧ (∀ x ∈ O, x < s.next) ∧
  s.heap.get mq = some (.map eq cq) ∧ MOK KInt eq cq ∧ GR ekI (fun n : QN => ptr n.q) eq M.qs ∧
  s.heap.get mh = some (.map eh ch) ∧ MOK KInt eh ch ∧ GR ekI ekI eh M.host ∧
  s.heap.get mp = some (.map ep cp) ∧ MOK KInt ep cp ∧ GR ekI ekS ep M.path ∧
  RowsP 3 1 s rv (intsR M.row) SR ∧ ∀ e ∈ M.qs, Q.QRep s e.2.q M.per (e.2.L.map bareQ) e.2.S

theorem FRep.kept {s s' : St} {f l : Nat} {M : FM} {O T : List Nat} (h : FRep s f l M O) (hk : Kept T s s') (hO : ∀ x ∈ O, x ∉ T) : FRep s' f l M O := by
  obtain ⟨mq, mh, mp, rv, SR, eq, cq, eh, ch, ep, cp, h1, rfl, h2, h3, h4, h5, h6, h7, h8, h9, h10, h11, h12, h13, h14⟩ := h
  refine ⟨mq, mh, mp, rv, SR, eq, cq, eh, ch, ep, cp, ?_, rfl, h2, fun x hx => Nat.lt_of_lt_of_le (h3 x hx) hk.1, ?_, h5, h6, ?_, h8, h9, ?_, h11, h12, h13.kept hk fun x hx => hO x (by simp [hx]), fun e he => (h14 e he).kept hk (hO _ ?_) fun x hx => hO x ?_⟩
  · rw [hk.2 f (h3 f (by simp)) (hO f (by simp))]; exact h1
  · rw [hk.2 mq (h3 mq (by simp)) (hO mq (by simp))]; exact h4
  · rw [hk.2 mh (h3 mh (by simp)) (hO mh (by simp))]; exact h7
  · rw [hk.2 mp (h3 mp (by simp)) (hO mp (by simp))]; exact h10
  · simp only [List.mem_cons, List.mem_append, ownQ, List.mem_flatMap]
    exact .inr (.inr (.inr (.inr (.inr ⟨e, he, .inl rfl⟩))))
  · simp only [List.mem_cons, List.mem_append, ownQ, List.mem_flatMap]
    exact .inr (.inr (.inr (.inr (.inr ⟨e, he, .inr hx⟩))))

def loadV (L : LM) (x : Int) : Value := .tuple #[((lookG L.live x).getD RQ0).val, .bool (lookG L.live x).isSome]

section
variable {tbl : FuncId → Option AFun} {ov : CallSem} {s : St} (T : FTbl tbl)
include T

theorem r53 {l p : Nat} {L : LM} {O : List Nat} (h : LRep s l p L O) (x : Int) : Pure tbl ov 53 [ptr l, i64 x] s (loadV L x) := by
  obtain ⟨ml, mw, es, c, es', c', h1, rfl, h2, h3, h4, h5, h6, h7, h8, h9, h10, h11, h12, h13, h14⟩ := h
  refine WCall.pure T.t53 rfl (by decide) rfl ?_
  have n1 : ¬ l = s.next := by omega
  have n2 : ¬ ml = s.next := by omega
  have n3 : ¬ s.next = s.next + 1 := by omega
  have n4 : ¬ s.next + 1 = s.next := by omega
  have n5 : ¬ l = s.next + 1 := by omega
  have n6 : ¬ ml = s.next + 1 := by omega
  have el : ∀ g nx, g ml = some (.map es c) → evP g nx (.lookup .int (.agg #[in64 0, .string ⟨#[]⟩, .string ⟨#[]⟩, in64 0, in64 0]) true (.map (some ml)) (i64 x)) = some ⟨loadV L x, [], nx⟩ := fun g nx hg => by
    rw [ev_lookup kindI h3 hg ⟨_, rfl⟩, gr_get keyG_int h4 x]
    cases hx : lookG L.live x <;> simp only [Option.map_none, Option.map_some, lookV, loadV, hx] <;> rfl
  obtain ⟨r, hr⟩ : ∃ r, r = (lookG L.live x).getD RQ0 := ⟨_, rfl⟩
  have c1 : r.cells.length = 5 := rfl
  have c2 : r.cells.all isCell = true := rfl
  have c3 : r.cells.take 5 = r.cells := rfl
  have c4 : storeL [in64 0, .string ⟨#[]⟩, .string ⟨#[]⟩, in64 0, in64 0] 0 r.cells = r.cells := rfl
  simp -implicitDefEqProofs only [fun53, code53, params, go_sem, h1, n1, n2, n3, n4, n5, n6, h2, el, loadV, ← hr, c1, c2, c3, c4, fillL, List.drop_zero, Q.resV_cell, Q.loadA_n]
  exact ⟨by omega, fun j hj => by simp only [Heap.get_put]; rw [if_neg (by omega), if_neg (by omega)]; try rw [if_neg (by omega), if_neg (by omega)]⟩

omit T in
theorem cells_facts (r : RQ) : r.cells.length = 5 ∧ r.cells.all isCell = true ∧ r.cells.take 5 = r.cells ∧ storeL [in64 0, .string ⟨#[]⟩, .string ⟨#[]⟩, in64 0, in64 0] 0 r.cells = r.cells ∧ r.cells[0]? = some (i64 r.id) ∧ r.cells[2]? = some (.string r.path) ∧ ∀ b, r.cells.set 2 (.string b) = ({ r with path := b } : RQ).cells := ⟨rfl, rfl, rfl, rfl, rfl, rfl, fun _ => rfl⟩

def wholeR (M : FM) (L : LM) (r : RQ) : RQ := match lookG M.path r.id with
  | some b => { r with path := b }
  | none => match lookG L.live r.id with
    | some a => { r with path := a.path }
    | none => r

theorem r31 {f l p : Nat} {M : FM} {O : List Nat} {L : LM} {OL : List Nat} {r : RQ} (h : FRep s f l M O) (hl : LRep s l p L OL) : Pure tbl ov 31 [ptr f, r.val] s (wholeR M L r).val := by
  have hlt := h
  obtain ⟨mq, mh, mp, rv, SR, eq, cq, eh, ch, ep, cp, h1, rfl, h2, h3, h4, h5, h6, h7, h8, h9, h10, h11, h12, h13, h14⟩ := h
  refine WCall.pure T.t31 rfl (by decide) rfl ?_
  have hfl := h3 f (by simp)
  have hpl := h3 mp (by simp)
  obtain ⟨c1, c2, c3, c4, c5, c6, c7⟩ := cells_facts r
  have n1 : ¬ f = s.next := by omega
  have n2 : ¬ mp = s.next := by omega
  have n3 : ¬ s.next = s.next + 1 := by omega
  have n4 : ¬ s.next + 1 = s.next := by omega
  have n5 : ¬ f = s.next + 1 := by omega
  have n6 : ¬ mp = s.next + 1 := by omega
  have el : ∀ g nx, g mp = some (.map ep cp) → evP g nx (.lookup .int (.string ⟨#[]⟩) true (.map (some mp)) (i64 r.id)) = some ⟨.tuple #[.string ((lookG M.path r.id).getD ⟨#[]⟩), .bool (lookG M.path r.id).isSome], [], nx⟩ := fun g nx hg => by
    rw [ev_lookup kindI h11 hg ⟨_, rfl⟩, gr_get keyG_int h12 r.id]
    cases hx : lookG M.path r.id <;> simp only [Option.map_none, Option.map_some, lookV] <;> rfl
  cases hx : lookG M.path r.id with
  | some b =>
    rw [hx] at el
    simp only [Option.getD_some, Option.isSome_some] at el
    obtain ⟨d1, d2, d3, d4, d5, d6, d7⟩ := cells_facts ({ r with path := b } : RQ)
    have hw : wholeR M L r = { r with path := b } := by simp only [wholeR, hx]
    rw [hw]
    simp -implicitDefEqProofs only [fun31, code31, params, go_sem, h1, n1, n2, n3, n4, n5, n6, h10, el, c1, c2, c3, c4, c5, c6, c7, d1, d2, d3, d4, fillL, List.drop_zero, Q.resV_cell, Q.loadA_n]
    exact ⟨by omega, fun j hj => by simp only [Heap.get_put]; rw [if_neg (by omega), if_neg (by omega)]; try rw [if_neg (by omega), if_neg (by omega)]⟩
  | none =>
    rw [hx] at el
    simp only [Option.getD_none, Option.isSome_none] at el
    obtain ⟨sA, hsA⟩ : ∃ sA : St, sA = ⟨(s.heap.put s.next (some (.cells r.cells 34 0 false))).put (s.next + 1) (some (.cells [in64 0, .string ⟨#[]⟩, .string ⟨#[]⟩, in64 0, in64 0] 34 0 false)), s.next + 1 + 1⟩ := ⟨_, rfl⟩
    have hkA : Kept [] s sA := by
      rw [hsA]
      exact ⟨by simp only; omega, fun j hj _ => by simp only [Heap.get_put]; rw [if_neg (by omega), if_neg (by omega)]⟩
    have h53 := r53 (ov := ov) T (hl.kept hkA (by simp)) r.id
    have e53 := fun K => WCall.pureEq h53 K
    have nn := nxt_le (fun k => call tbl ov k) 53 [ptr l, i64 r.id] sA
    generalize nxt (fun k => call tbl ov k) 53 [ptr l, i64 r.id] sA = n2' at e53 nn
    rw [hsA] at e53 nn
    simp only at nn
    have m1 : ¬ s.next = n2' := by omega
    have m2 : ¬ s.next + 1 = n2' := by omega
    have m3 : ¬ n2' = s.next := by omega
    have m4 : ¬ n2' = s.next + 1 := by omega
    have m5 : ¬ f = n2' := by omega
    obtain ⟨a, ha⟩ : ∃ a, a = (lookG L.live r.id).getD RQ0 := ⟨_, rfl⟩
    obtain ⟨b1, b2, b3, b4, b5, b6, b7⟩ := cells_facts a
    obtain ⟨d1, d2, d3, d4, d5, d6, d7⟩ := cells_facts ({ r with path := a.path } : RQ)
    have hw : wholeR M L r = if (lookG L.live r.id).isSome = true then { r with path := a.path } else r := by
      simp only [wholeR, hx, ha]
      cases lookG L.live r.id <;> rfl
    rw [hw]
    cases hs : (lookG L.live r.id).isSome
    · simp -implicitDefEqProofs only [fun31, code31, params, go_sem, h1, n1, n2, n3, n4, n5, n6, m1, m2, m3, m4, m5, h10, el, e53, loadV, ← ha, hs, b1, b2, b3, b4, c1, c2, c3, c4, c5, c6, c7, d1, d2, d3, d4, fillL, List.drop_zero, Q.resV_cell, Q.loadA_n]
      refine ⟨fun i hi f' hf' => ?_, by omega, fun j hj => ?_⟩
      · rw [List.mem_singleton.1 hi] at hf'
        cases hf'
        exact fun _ _ => rfl
      · simp only [Heap.get_put]
        repeat rw [if_neg (by omega)]
    · simp -implicitDefEqProofs only [fun31, code31, params, go_sem, h1, n1, n2, n3, n4, n5, n6, m1, m2, m3, m4, m5, h10, el, e53, loadV, ← ha, hs, b1, b2, b3, b4, b6, c1, c2, c3, c4, c5, c6, c7, d1, d2, d3, d4, fillL, List.drop_zero, Q.resV_cell, Q.loadA_n]
      refine ⟨fun i hi f' hf' => ?_, by omega, fun j hj => ?_⟩
      · rw [List.mem_singleton.1 hi] at hf'
        cases hf'
        exact fun _ _ => rfl
      · simp only [Heap.get_put]
        repeat rw [if_neg (by omega)]
end
end Go.Proofs.YtehgdocbabaldaaGreat


/-
  A front: a host's queue; Len, Memory, Count, Host.
-/
set_option maxRecDepth 100000
set_option linter.unusedVariables false
set_option linter.unusedSimpArgs false
namespace Go.Proofs.YtehgdocbabaldaaGreat
open Go Go.Abs Go.Abs.K

def rowsQ (qs : List (Int × QN)) (k : Int) : List RQ := ((lookG qs k).map fun n => n.L).getD []

theorem FRep.lt {s : St} {f l : Nat} {M : FM} {O : List Nat} (h : FRep s f l M O) : ∀ x ∈ O, x < s.next := by
  obtain ⟨mq, mh, mp, rv, SR, eq, cq, eh, ch, ep, cp, h1, rfl, h2, h3, _⟩ := h
  exact h3

section
variable {tbl : FuncId → Option AFun} {ov : CallSem} {s : St} (T : FTbl tbl)
include T

theorem r29 (TQ : Q.QTbl tbl) {f l : Nat} {M : FM} {O : List Nat} (h : FRep s f l M O) (hp : 0 ≤ M.per) (k : Int) :
    WCall (fun k => call tbl ov k) 29 [ptr f, i64 k] s fun u s' => ∃ n O' qs', u = ptr n.q ∧ FRep s' f l { M with qs := qs' } O' ∧ lookG qs' k = some n ∧ (∀ j, rowsQ qs' j = rowsQ M.qs j) ∧ (Kept O s s' ∧ s'.heap.get f = s.heap.get f) ∧ ∀ x ∈ O', x ∈ O ∨ s.next ≤ x := by
  have h0 := h
  obtain ⟨mq, mh, mp, rv, SR, eq, cq, eh, ch, ep, cp, h1, rfl, h2, h3, h4, h5, h6, h7, h8, h9, h10, h11, h12, h13, h14⟩ := h
  refine WCall.of T.t29 rfl ?_
  have hfl := h3 f (by simp)
  have hql := h3 mq (by simp)
  have n1 : ¬ f = s.next := by omega
  have n2 : ¬ mq = s.next := by omega
  have n3 : ¬ s.next = mq := by omega
  have hnd : f ≠ mq ∧ f ≠ mh ∧ f ≠ mp ∧ mq ≠ mh ∧ mq ≠ mp ∧ mh ≠ mp := by
    simp only [List.nodup_cons, List.mem_cons, not_or] at h2
    exact ⟨h2.1.1, h2.1.2.1, h2.1.2.2.1, h2.2.1.1, h2.2.1.2.1, h2.2.2.1.1⟩
  have n4 : ¬ f = mq := hnd.1
  have el : ∀ g nx, g mq = some (.map eq cq) → evP g nx (.lookup .int (.pointer none) false (.map (some mq)) (i64 k)) = some ⟨((lookG M.qs k).map fun n => ptr n.q).getD (.pointer none), [], nx⟩ := fun g nx hg => by
    rw [ev_lookup kindI h5 hg ⟨_, rfl⟩, gr_get keyG_int h6 k]
    cases hx : lookG M.qs k <;> simp only [Option.map_none, Option.map_some, lookV] <;> rfl
  cases hx : lookG M.qs k with
  | some n =>
    rw [hx] at el
    simp only [Option.map_some, Option.getD_some] at el
    simp -implicitDefEqProofs only [fun29, code29, params, go_sem, h1, h4, el]
    exact ⟨n, _, M.qs, rfl, h0, hx, fun j => rfl, Kept.refl _ _, fun x hx => .inl hx⟩
  | none =>
    rw [hx] at el
    simp only [Option.map_none, Option.getD_none] at el
    have e52 := fun K => Q.p52 (ov := ov) (s := s) TQ (n := M.per) K
    rw [if_neg (by omega)] at e52
    obtain ⟨qs', hqs⟩ : ∃ qs', qs' = putG M.qs k ⟨s.next, [], []⟩ := ⟨_, rfl⟩
    have hqs2 : qs' = M.qs ++ [(k, ⟨s.next, [], []⟩)] := by rw [hqs, putG, hx]; rfl
    have eU : ∀ g nx, g mq = some (.map eq cq) → evP g nx (.mapUpdate .int (.map (some mq)) (i64 k) (ptr s.next)) = some ⟨undefV, [(mq, some (.map (mput eq cq (i64 k) (ptr s.next)) (mclock eq cq (i64 k))))], nx⟩ := fun g nx h => ev_mapUpdate kindI h5 h ⟨_, rfl⟩
    have h6' : GR ekI (fun n : QN => ptr n.q) (mput eq cq (i64 k) (ptr s.next)) qs' := by rw [hqs]; exact gr_put keyG_int h6 k ⟨s.next, [], []⟩
    have h5' : MOK KInt (mput eq cq (i64 k) (ptr s.next)) (mclock eq cq (i64 k)) := h5.mput kindI ⟨_, rfl⟩ _
    have hlk : lookG qs' k = some ⟨s.next, [], []⟩ := by rw [hqs, lookG_put, if_pos rfl]
    have el2 : ∀ g nx, g mq = some (.map (mput eq cq (i64 k) (ptr s.next)) (mclock eq cq (i64 k))) → evP g nx (.lookup .int (.pointer none) false (.map (some mq)) (i64 k)) = some ⟨ptr s.next, [], nx⟩ := fun g nx hg => by
      rw [ev_lookup kindI h5' hg ⟨_, rfl⟩, gr_get keyG_int h6' k, hlk]
      rfl
    simp -implicitDefEqProofs only [fun29, code29, params, go_sem, h1, h4, el, e52, eU, el2, n1, n2, n3, n4, Option.isNone_none]
    obtain ⟨sF, hsF⟩ : ∃ sF : St, sF = ⟨(s.heap.put s.next (some (.cells [i64 M.per, .slice none 0 0] 110 0 false))).put mq (some (.map (mput eq cq (i64 k) (ptr s.next)) (mclock eq cq (i64 k)))), s.next + 1⟩ := ⟨_, rfl⟩
    have hkF : Kept [mq] s sF := by
      rw [hsF]
      refine ⟨Nat.le_succ _, fun j hj hn => ?_⟩
      have : ¬ j = mq := by simpa using hn
      have : ¬ j = s.next := by omega
      simp only [Heap.get_put, *, if_false]
    have hO : f :: mq :: mh :: mp :: (SR ++ ownQ qs') = (f :: mq :: mh :: mp :: (SR ++ ownQ M.qs)) ++ [s.next] := by
      rw [hqs2]; simp [ownQ]
    refine ⟨fun i hi f' hf' => ?_, ⟨s.next, [], []⟩, f :: mq :: mh :: mp :: (SR ++ ownQ qs'), qs', rfl, ?_, hlk, fun j => ?_, ?_, fun x hx => ?_⟩
    · rw [List.mem_singleton.1 hi] at hf'
      cases hf'
      intro id hid
      simp only at hid
      simp only [Heap.get_put]
      rw [if_neg (by omega)]
    · show FRep ⟨(s.heap.put s.next (some (.cells [i64 M.per, .slice none 0 0] 110 0 false))).put mq (some (.map (mput eq cq (i64 k) (ptr s.next)) (mclock eq cq (i64 k)))), s.next + 1⟩ f l _ _
      rw [← hsF]
      have hnn : sF.next = s.next + 1 := by rw [hsF]
      refine ⟨mq, mh, mp, rv, SR, _, _, eh, ch, ep, cp, ?_, rfl, ?_, ?_, ?_, h5', h6', ?_, h8, h9, ?_, h11, h12, h13.kept hkF fun x hx => ?_, fun e he => ?_⟩
      · rw [hkF.2 f hfl (by simpa using n4)]; exact h1
      · rw [hO, List.nodup_append]
        refine ⟨h2, by simp, fun a ha b hb => ?_⟩
        have := h3 a ha
        have := List.mem_singleton.1 hb
        omega
      · rw [hO]
        intro x hx
        rcases List.mem_append.1 hx with hx | hx
        · have := h3 x hx; omega
        · have := List.mem_singleton.1 hx; omega
      · rw [hsF]; simp only [Heap.get_put, if_true]
      · rw [hkF.2 mh (h3 mh (by simp)) (by simpa using fun e => hnd.2.2.2.1 e.symm)]; exact h7
      · rw [hkF.2 mp (h3 mp (by simp)) (by simpa using fun e => hnd.2.2.2.2.1 e.symm)]; exact h10
      · intro hx'
        have := List.mem_singleton.1 hx'
        subst this
        simp only [List.nodup_cons, List.mem_cons, List.mem_append, not_or] at h2
        exact h2.2.1.2.2.1 hx
      · rw [hqs2] at he
        rcases List.mem_append.1 he with he | he
        · have hq : ∀ x, x = e.2.q ∨ x ∈ e.2.S → x ∉ [mq] := fun x hx hx' => by
            have := List.mem_singleton.1 hx'
            subst this
            simp only [List.nodup_cons, List.mem_cons, List.mem_append, not_or] at h2
            refine h2.2.1.2.2.2 ?_
            simp only [ownQ, List.mem_flatMap, List.mem_cons]
            exact ⟨e, he, hx⟩
          exact (h14 e he).kept hkF (hq _ (.inl rfl)) fun x hx => hq x (.inr hx)
        · have := List.mem_singleton.1 he
          subst this
          refine ⟨.slice none 0 0, ?_, Abs.RowsP.nil, by simp, by simp only; omega⟩
          rw [hsF]
          simp only [Heap.get_put, n3, if_false, if_true]
    · simp only [rowsQ, hqs, lookG_put]
      split
      · rename_i he
        subst he
        rw [hx]; rfl
      · rfl
    · exact ⟨Nat.le_succ _, fun j hj hn => by
        have a1 : ¬ j = mq := fun e => hn (by simp [e])
        have a2 : ¬ j = s.next := by omega
        simp only [Heap.get_put, a1, a2, if_false]⟩
    · rw [hO] at hx
      rcases List.mem_append.1 hx with hx | hx
      · exact .inl hx
      · have := List.mem_singleton.1 hx; exact .inr (by omega)

theorem r22 (TQ : Q.QTbl tbl) {f l : Nat} {M : FM} {O : List Nat} (h : FRep s f l M O) (hp : 0 ≤ M.per) (k : Int) :
    WCall (fun k => call tbl ov k) 22 [ptr f, i64 k] s fun u s' => ∃ O' qs', u = i64 (rowsQ M.qs k).length ∧ FRep s' f l { M with qs := qs' } O' ∧ (∀ j, rowsQ qs' j = rowsQ M.qs j) ∧ (Kept O s s' ∧ s'.heap.get f = s.heap.get f) ∧ ∀ x ∈ O', x ∈ O ∨ s.next ≤ x := by
  refine WCall.of T.t22 rfl ?_
  simp -implicitDefEqProofs only [fun22, code22, params, go_sem]
  refine WCall.mono (r29 T TQ h hp k) ?_
  rintro u s1 ⟨n, O', qs', rfl, hF, hl, hr, hk, hO⟩
  have hF' := hF
  obtain ⟨mq, mh, mp, rv, SR, eq, cq, eh, ch, ep, cp, h1, rfl, h2, h3, h4, h5, h6, h7, h8, h9, h10, h11, h12, h13, h14⟩ := hF
  obtain ⟨lv, hq, hR, hqS, hql⟩ := h14 _ (lookG_mem hl)
  obtain ⟨a, cap, hlv⟩ := hR.toV.len
  rw [List.length_map, List.length_map] at hlv
  subst hlv
  have e37 := fun K => Q.p37 (ov := ov) (s := s1) TQ (q := n.q) (mv := i64 M.per) (a := .bool true) hq K
  have hrl : (rowsQ M.qs k).length = n.L.length := by rw [← hr k, rowsQ, hl]; rfl
  simp -implicitDefEqProofs only [go_sem, e37]
  rw [hrl]
  exact ⟨_, qs', rfl, hF', hr, hk, hO⟩

theorem r14 {f l : Nat} {M : FM} {O : List Nat} (h : FRep s f l M O) (K : Value → St → Prop) : WCall (fun k => call tbl ov k) 14 [ptr f] s K = K (i64 M.row.length) s := by
  obtain ⟨mq, mh, mp, rv, SR, eq, cq, eh, ch, ep, cp, h1, rfl, h2, h3, h4, h5, h6, h7, h8, h9, h10, h11, h12, h13, h14⟩ := h
  refine WCall.eq (WCall.of T.t14 rfl ?_) K
  obtain ⟨a, cap, hlv⟩ := h13.toV.len
  rw [List.length_map] at hlv
  subst hlv
  simp -implicitDefEqProofs only [fun14, code14, params, go_sem, h1]

theorem r16 {f l : Nat} {M : FM} {O : List Nat} (h : FRep s f l M O) (K : Value → St → Prop) : WCall (fun k => call tbl ov k) 16 [ptr f] s K = K (i64 M.host.length) s := by
  obtain ⟨mq, mh, mp, rv, SR, eq, cq, eh, ch, ep, cp, h1, rfl, h2, h3, h4, h5, h6, h7, h8, h9, h10, h11, h12, h13, h14⟩ := h
  refine WCall.eq (WCall.of T.t16 rfl ?_) K
  have hle : eh.length = M.host.length := mok_kind h8 h9
  have el : evP s.heap.get s.next (.len .map (.map (some mh))) = some ⟨i64 M.host.length, [], s.next⟩ := by
    simp only [evP, h7, hle]
  simp -implicitDefEqProofs only [fun16, code16, params, go_sem, h1, el]

theorem r20 {f l : Nat} {M : FM} {O : List Nat} (h : FRep s f l M O) (x : Int) (K : Value → St → Prop) : WCall (fun k => call tbl ov k) 20 [ptr f, i64 x] s K = K (.tuple #[i64 ((lookG M.host x).getD 0), .bool (lookG M.host x).isSome]) s := by
  obtain ⟨mq, mh, mp, rv, SR, eq, cq, eh, ch, ep, cp, h1, rfl, h2, h3, h4, h5, h6, h7, h8, h9, h10, h11, h12, h13, h14⟩ := h
  refine WCall.eq (WCall.of T.t20 rfl ?_) K
  have el : ∀ nx, evP s.heap.get nx (.lookup .int (in64 0) true (.map (some mh)) (i64 x)) = some ⟨.tuple #[i64 ((lookG M.host x).getD 0), .bool (lookG M.host x).isSome], [], nx⟩ := fun nx => by
    rw [ev_lookup kindI h8 h7 ⟨_, rfl⟩, gr_get keyG_int h9 x]
    cases hx : lookG M.host x <;> simp only [Option.map_none, Option.map_some, lookV] <;> rfl
  simp -implicitDefEqProofs only [fun20, code20, params, go_sem, h1, el]
end
end Go.Proofs.YtehgdocbabaldaaGreat


/-
  A front: keep.
-/
set_option maxRecDepth 100000
set_option linter.unusedVariables false
set_option linter.unusedSectionVars false
set_option linter.unusedSimpArgs false
namespace Go.Proofs.YtehgdocbabaldaaGreat
open Go Go.Abs Go.Abs.K

def tail32 : ACode := match code32 with | .seq _ (.seq _ x) => x | _ => .skip
def mid32 : ACode := match code32 with | .seq _ (.seq (.seq _ (.cond _ (.seq _ x) _)) _) => x | _ => .skip
theorem code32_eq : code32 = .seq (R [o 4 (.box 34 (v 1))])
 (.seq (.seq (R [o 6 (.mov (v 0)), o 7 (.nilCheck (v 6)), o 8 (.fieldAddr 6 (v 7)), o 9 (.load none (v 8)), o 10 (.len .slice (v 9)), o 11 (.mov (v 0)), o 12 (.nilCheck (v 11)), o 13 (.fieldAddr 1 (v 12)), o 14 (.load none (v 13)), o 15 (.bin .geq (v 10) (v 14))])
  (.cond (v 15) (.seq (.seq (R [o 16 (.mov (v 2)), o 17 (.un .not (v 16))])
    (.cond (v 17) (.ret)
    (.skip)))
   mid32)
  (.skip))) tail32) := rfl

def putP (M : FM) (r : RQ) : FM := { M with path := putG M.path r.id r.path, row := M.row ++ [r.id] }
def cutP (M : FM) : FM := { M with path := delG M.path (M.row.headD 0), row := M.row.drop 1 }
def keepM (M : FM) (r : RQ) (need : Bool) : FM := if (M.row.length : Int) ≥ M.mem then (if need = true then putP (cutP M) r else M) else putP M r

section
variable {tbl : FuncId → Option AFun} {ov : CallSem} {s : St} (T : FTbl tbl)

theorem FRep.write {s' : St} {f l mq mh mp : Nat} {M : FM} {SR SR' : List Nat} {rv rv' : Value} {es : List MapEntry} {c : Nat} {P : List (Int × ByteArray)} {row : List Int}
    (h : FRep s f l M (f :: mq :: mh :: mp :: (SR ++ ownQ M.qs))) (hk : Kept (f :: mp :: SR) s s')
    (hmq : s.heap.get f = some (.cells [i64 M.per, i64 M.mem, ptr l, .map (some mq), .map (some mh), .map (some mp), rv] 80 0 false)) (hSR : RowsP 3 1 s rv (intsR M.row) SR)
    (h1 : s'.heap.get f = some (.cells [i64 M.per, i64 M.mem, ptr l, .map (some mq), .map (some mh), .map (some mp), rv'] 80 0 false))
    (h2 : s'.heap.get mp = some (.map es c)) (h3 : MOK KInt es c) (h4 : GR ekI ekS es P) (h5 : RowsP 3 1 s' rv' (intsR row) SR') (h6 : SR'.Nodup) (h7 : ∀ x ∈ SR', x ∈ SR ∨ s.next ≤ x) :
    FRep s' f l { M with path := P, row := row } (f :: mq :: mh :: mp :: (SR' ++ ownQ M.qs)) := by
  obtain ⟨mq', mh', mp', rv2, SR2, eq, cq, eh, ch, ep, cp, g1, g2, g3, g4, g5, g6, g7, g8, g9, g10, g11, g12, g13, g14, g15⟩ := h
  rw [hmq] at g1
  simp only [Option.some.injEq, AObj.cells.injEq, List.cons.injEq, Value.map.injEq, and_true, true_and] at g1
  obtain ⟨rfl, rfl, rfl, rfl⟩ := g1
  have hlt := h5.lt
  simp only [List.nodup_cons, List.mem_cons, List.mem_append, not_or, List.nodup_append] at g3
  obtain ⟨⟨a1, a2, a3, a4, a5⟩, ⟨b1, b2, b3, b4⟩, ⟨c1, c2, c3⟩, ⟨d1, d2⟩, n1, n2, n3⟩ := g3
  have notT : ∀ x, x < s.next → x ≠ f → x ≠ mp → x ∉ SR → s'.heap.get x = s.heap.get x := fun x hx e1 e2 e3 => hk.2 x hx (by simp [e1, e2, e3])
  have oldO : ∀ x, x ∈ f :: mq :: mh :: mp :: (SR ++ ownQ M.qs) → x < s.next := g4
  have hQlt : ∀ x ∈ ownQ M.qs, x < s.next := fun x hx => g4 x (by simp [hx])
  have hSR' : ∀ x ∈ SR', x ≠ f ∧ x ≠ mq ∧ x ≠ mh ∧ x ≠ mp ∧ x ∉ ownQ M.qs := fun x hx => by
    rcases h7 x hx with h | h
    · exact ⟨fun e => a4 (e ▸ h), fun e => b3 (e ▸ h), fun e => c2 (e ▸ h), fun e => d1 (e ▸ h), fun e => n3 x h x e rfl⟩
    · have q1 := g4 f (by simp); have q2 := g4 mq (by simp); have q3 := g4 mh (by simp); have q4 := g4 mp (by simp)
      exact ⟨by omega, by omega, by omega, by omega, fun e => by have := hQlt x e; omega⟩
  refine ⟨mq, mh, mp, rv', SR', eq, cq, eh, ch, es, c, h1, rfl, ?_, ?_, ?_, g6, g7, ?_, g9, g10, h2, h3, h4, h5, fun e he => ?_⟩
  · simp only [List.nodup_cons, List.mem_cons, List.mem_append, not_or, List.nodup_append]
    refine ⟨⟨a1, a2, a3, fun h => (hSR' f h).1 rfl, a5⟩, ⟨b1, b2, fun h => (hSR' mq h).2.1 rfl, b4⟩, ⟨c1, fun h => (hSR' mh h).2.2.1 rfl, c3⟩, ⟨fun h => (hSR' mp h).2.2.2.1 rfl, d2⟩, h6, n2, fun x hx y hy e => (hSR' x hx).2.2.2.2 (e ▸ hy)⟩
  · intro x hx
    simp only [List.mem_cons, List.mem_append] at hx
    have hn := hk.1
    rcases hx with rfl | rfl | rfl | rfl | hx | hx
    · exact Nat.lt_of_lt_of_le (g4 _ (by simp)) hn
    · exact Nat.lt_of_lt_of_le (g4 _ (by simp)) hn
    · exact Nat.lt_of_lt_of_le (g4 _ (by simp)) hn
    · exact Nat.lt_of_lt_of_le (g4 _ (by simp)) hn
    · exact hlt x hx
    · exact Nat.lt_of_lt_of_le (hQlt x hx) hn
  · rw [notT mq (g4 _ (by simp)) (fun e => a1 e.symm) b2 b3]; exact g5
  · rw [notT mh (g4 _ (by simp)) (fun e => a2 e.symm) c1 c2]; exact g8
  · have hin : ∀ x, x = e.2.q ∨ x ∈ e.2.S → x ∈ ownQ M.qs := fun x hx => by
      simp only [ownQ, List.mem_flatMap, List.mem_cons]
      exact ⟨e, he, hx⟩
    have hno : ∀ x, x ∈ ownQ M.qs → x ∉ f :: mp :: SR := fun x hx hx' => by
      simp only [List.mem_cons] at hx'
      rcases hx' with rfl | rfl | hx'
      · exact a5 hx
      · exact d2 hx
      · exact n3 x hx' x hx rfl
    exact (g15 e he).kept hk (hno _ (hin _ (.inl rfl))) fun x hx => hno x (hin x (.inr hx))

theorem RowsP.nodup {t : TypeId} {sz : Nat} {v : Value} {cs : List (List Value)} {S : List Nat} (h : RowsP t sz s v cs S) : S.Nodup := by
  obtain ⟨_, ⟨_, _, rfl⟩ | ⟨id, o, cap, c, _, rfl, _⟩⟩ := h <;> simp

theorem row1_put {s : St} {p n : Nat} {z : Int} (hp : p < n) : RowV 1 ⟨s.heap.put p (some (.cells [i64 z] 3 1 false)), n⟩ (.slice (some ⟨p, 0, none⟩) 1 1) [[i64 z]] :=
  ⟨by simp [isCell, i64], .inr ⟨p, 0, 1, [i64 z], 3, false, rfl, by simp, hp, by simp [Heap.get_put], by simp, by simp⟩⟩

include T in
theorem tail32_spec {f l b : Nat} {M : FM} {O : List Nat} {r : RQ} {e : Env} (h : FRep s f l M O) (hn : M.row.length < 2 ^ 20) (hb : s.heap.get b = some (.cells r.cells 34 0 false)) (hbl : b < s.next) (hbO : b ∉ O) (g0 : e.get 0 = some (ptr f)) (g4 : e.get 4 = some (ptr b)) :
    WCode (fun k => call tbl ov k) tail32 e s fun x e' s' => x = .normal ∧ ∃ O', FRep s' f l (putP M r) O' ∧ Kept O s s' ∧ ∀ x ∈ O', x ∈ O ∨ s.next ≤ x := by
  have h0 := h
  obtain ⟨mq, mh, mp, rv, SR, eq, cq, eh, ch, ep, cp, h1, rfl, h2, h3, h4, h5, h6, h7, h8, h9, h10, h11, h12, h13, h14⟩ := h
  have hfl := h3 f (by simp)
  have hpl := h3 mp (by simp)
  have hnd := h2
  simp only [List.nodup_cons, List.mem_cons, List.mem_append, not_or] at hnd
  obtain ⟨⟨a1, a2, a3, a4, a5⟩, ⟨b1, b2, b3, b4⟩, ⟨c1, c2, c3⟩, ⟨d1, d2⟩, _⟩ := hnd
  simp only [List.mem_cons, List.mem_append, not_or] at hbO
  obtain ⟨y1, y2, y3, y4, y5, y6⟩ := hbO
  obtain ⟨q1, q2, q3, q4, q5, q6, q7⟩ := cells_facts r
  have eU : ∀ g nx, g mp = some (.map ep cp) → evP g nx (.mapUpdate .int (.map (some mp)) (i64 r.id) (.string r.path)) = some ⟨undefV, [(mp, some (.map (mput ep cp (i64 r.id) (.string r.path)) (mclock ep cp (i64 r.id))))], nx⟩ := fun g nx h => ev_mapUpdate kindI h11 h ⟨_, rfl⟩
  obtain ⟨s2, hs2⟩ : ∃ s2 : St, s2 = ⟨(s.heap.put mp (some (.map (mput ep cp (i64 r.id) (.string r.path)) (mclock ep cp (i64 r.id))))).put s.next (some (.cells [i64 r.id] 3 1 false)), s.next + 1⟩ := ⟨_, rfl⟩
  have hk2 : Kept [mp] s s2 := by
    rw [hs2]
    refine ⟨Nat.le_succ _, fun j hj hn => ?_⟩
    have e1 : ¬ j = mp := by simpa using hn
    have e2 : ¬ j = s.next := by omega
    simp only [Heap.get_put, e1, e2, if_false]
  have hR2 : RowsP 3 1 s2 rv (intsR M.row) SR := h13.kept hk2 fun x hx hx' => d1 (by rw [← List.mem_singleton.1 hx']; exact hx)
  have hy : RowV 1 s2 (.slice (some ⟨s.next, 0, none⟩) 1 1) [[i64 r.id]] := by rw [hs2]; exact row1_put (s := ⟨s.heap.put mp (some (.map (mput ep cp (i64 r.id) (.string r.path)) (mclock ep cp (i64 r.id)))), s.next⟩) (p := s.next) (n := s.next + 1) (by omega)
  obtain ⟨val, upd, nx, S', he, hR3, hk3, hS'⟩ := hR2.append (b := 8) hy (fun c hc => by rw [List.mem_singleton.1 hc]; rfl) (tooBig_small (by simp only [List.length_map, List.length_cons, List.length_nil]; omega) (by omega)) (fun k _ h => tooBig_small (by simp only [List.length_cons, List.length_nil] at h; omega) (by omega))
  have hf3 : (applyUpd s2.heap upd).get f = some (.cells [i64 M.per, i64 M.mem, ptr l, .map (some mq), .map (some mh), .map (some mp), rv] 80 0 false) := by
    have e1 := hk3.2 f (Nat.lt_of_lt_of_le hfl hk2.1) a4
    have e2 := hk2.2 f hfl (by simpa using a3)
    simp only at e1
    rw [e1, e2]; exact h1
  have hp3 : (applyUpd s2.heap upd).get mp = some (.map (mput ep cp (i64 r.id) (.string r.path)) (mclock ep cp (i64 r.id))) := by
    have e1 := hk3.2 mp (Nat.lt_of_lt_of_le hpl hk2.1) d1
    simp only at e1
    have e2 : ¬ mp = s.next := by omega
    rw [e1, hs2]; simp only [Heap.get_put, e2, if_false, if_true]
  have hrow : intsR M.row ++ [[i64 r.id]] = intsR (M.row ++ [r.id]) := by simp [intsR]
  rw [hrow] at hR3
  obtain ⟨s4, hs4⟩ : ∃ s4 : St, s4 = ⟨(applyUpd s2.heap upd).put f (some (.cells [i64 M.per, i64 M.mem, ptr l, .map (some mq), .map (some mh), .map (some mp), val] 80 0 false)), nx⟩ := ⟨_, rfl⟩
  have hk4 : Kept [f] ⟨applyUpd s2.heap upd, nx⟩ s4 := by rw [hs4]; exact kept_put1 (Nat.le_refl _)
  have hkall : Kept (f :: mp :: SR) s s4 := by
    have hn1 := hk2.1; have hn2 := hk3.1; have hn3 := hk4.1
    simp only at hn2 hn3
    refine ⟨by omega, fun j hj hn => ?_⟩
    simp only [List.mem_cons, not_or] at hn
    have e1 := hk3.2 j (by omega) hn.2.2
    have e2 := hk2.2 j hj (by simpa using hn.2.1)
    have e3 := hk4.2 j (by simp only; omega) (by simpa using hn.1)
    simp only at e1 e3
    rw [e3, e1, e2]
  have hnf : ∀ x ∈ S', x ∉ [f] := fun x hx hx' => by
    have := List.mem_singleton.1 hx'
    subst this
    rcases hS' x hx with h | h
    · exact a4 h
    · have := hk2.1; omega
  have hfin : FRep s4 f l (putP M r) (f :: mq :: mh :: mp :: (S' ++ ownQ M.qs)) := by
    refine FRep.write h0 hkall h1 h13 (by rw [hs4]; simp only [Heap.get_put, if_true]) (es := mput ep cp (i64 r.id) (.string r.path)) (c := mclock ep cp (i64 r.id)) ?_ (h11.mput kindI ⟨_, rfl⟩ _) (gr_put keyG_int h12 r.id r.path) (hR3.kept hk4 hnf) (RowsP.nodup hR3) fun x hx => (hS' x hx).imp_right fun h => by have := hk2.1; omega
    have e1 : ¬ mp = f := fun e => a3 e.symm
    rw [hs4]; simp only [Heap.get_put, e1, if_false]; exact hp3
  have hgrow : ∀ x ∈ f :: mq :: mh :: mp :: (S' ++ ownQ M.qs), x ∈ f :: mq :: mh :: mp :: (SR ++ ownQ M.qs) ∨ s.next ≤ x := by
    intro x hx
    simp only [List.mem_cons, List.mem_append] at hx ⊢
    rcases hx with h | h | h | h | h | h
    · exact .inl (.inl h)
    · exact .inl (.inr (.inl h))
    · exact .inl (.inr (.inr (.inl h)))
    · exact .inl (.inr (.inr (.inr (.inl h))))
    · rcases hS' x h with h | h
      · exact .inl (.inr (.inr (.inr (.inr (.inl h)))))
      · exact .inr (by have := hk2.1; omega)
    · exact .inl (.inr (.inr (.inr (.inr (.inr h)))))
  have n1 : ¬ f = mp := a3
  have n2 : ¬ f = s.next := by omega
  have n3 : ¬ b = mp := y4
  have eb : ∀ g nx n, evP g nx (.buildSlice 3 1 1 [i64 0] [(0, 1, i64 n)]) = some ⟨.slice (some ⟨nx, 0, none⟩) 1 1, [(nx, some (.cells [i64 n] 3 1 false))], nx + 1⟩ := fun g nx n => rfl
  have hvs : ∃ va vn vc, val = .slice va vn vc := by
    obtain ⟨va, vc, hval⟩ := hR3.toV.len
    exact ⟨va, _, vc, hval⟩
  rw [hs4] at hfin hkall
  rw [hs2] at he hf3 hfin hkall
  clear hs4 hk4 hnf
  obtain ⟨va, vn, vc, rfl⟩ := hvs
  simp -implicitDefEqProofs only [tail32, code32, go_sem, g0, g4, h1, h10, hb, q5, q6, eU, n1, n2, n3, eb, he, hf3]
  refine ⟨_, hfin, ⟨hkall.1, fun j hj hn => hkall.2 j hj fun hx => hn ?_⟩, hgrow⟩
  simp only [List.mem_cons, List.mem_append] at hx ⊢
  rcases hx with h | h | h
  · exact .inl h
  · exact .inr (.inr (.inr (.inl h)))
  · exact .inr (.inr (.inr (.inr (.inl h))))
end
end Go.Proofs.YtehgdocbabaldaaGreat
