/-
  A disk as it lies; New, work, Sync, Fault, Segs.
-/
import Derived.Test.YtehgdocbabaldaaGreatG2
import Derived.Test.YtehgdocbabaldaaGreatA48
set_option maxRecDepth 100000
set_option linter.unusedVariables false
set_option linter.unusedSimpArgs false
namespace Go.Proofs.YtehgdocbabaldaaGreat
open Go Go.Abs Go.Abs.K

structure DM where
  most : Int
  first : Int
  fails : Int
  F : List (Int × List Int)
  loose : List (Int × Int)

abbrev rowW (q : Int × Int) : List Value := [i64 q.1, i64 q.2]

def N63 (n : Int) : Prop := 0 ≤ n ∧ n ≤ 9223372036854775807

structure DW (D : DM) : Prop where
  first : N63 D.first
  fails : N63 D.fails
  most : 0 ≤ D.most ∧ D.most ≤ 16
  keys : ∀ p ∈ D.F, W64 p.1
  fit : (D.F.length : Int) ≤ D.most
  len : ∀ p ∈ D.F, p.2.length ≤ 2048

def DRep (s : St) (p : Nat) (D : DM) (O V : List Nat) : Prop := ∃ m lv S es clock, s.heap.get p = some (.cells [i64 D.most, .map (some m), lv, i64 D.first, i64 D.fails] 75 0 false) ∧ O = p :: m :: S ∧
  s.heap.get m = some (.map es clock) ∧ MOK KInt es clock ∧ All2 (ER s V) es D.F ∧ RowsP 143 2 s lv (D.loose.map rowW) S ∧ p ≠ m ∧ p ∉ S ∧ m ∉ S ∧ p < s.next ∧ m < s.next ∧ (∀ x ∈ V, x ∉ O ∧ x < s.next) ∧ DW D

theorem DRep.kept {s s' : St} {p : Nat} {D : DM} {O V T : List Nat} (h : DRep s p D O V) (hk : Kept T s s') (hO : ∀ x ∈ O, x ∉ T) (hV : ∀ x ∈ V, x ∉ T) : DRep s' p D O V := by
  obtain ⟨m, lv, S, es, clock, h1, rfl, h2, h3, h4, h5, h6, h7, h8, h9, h10, h11, h12⟩ := h
  refine ⟨m, lv, S, es, clock, ?_, rfl, ?_, h3, er_kept h4 hk hV, h5.kept hk (fun x hx => hO x (by simp [hx])), h6, h7, h8, Nat.lt_of_lt_of_le h9 hk.1, Nat.lt_of_lt_of_le h10 hk.1, fun x hx => ⟨(h11 x hx).1, Nat.lt_of_lt_of_le (h11 x hx).2 hk.1⟩, h12⟩
  · rw [hk.2 p h9 (hO p (by simp))]; exact h1
  · rw [hk.2 m h10 (hO m (by simp))]; exact h2

theorem DRep.lt {s : St} {p : Nat} {D : DM} {O V : List Nat} (h : DRep s p D O V) : (∀ x ∈ O, x < s.next) ∧ ∀ x ∈ V, x < s.next := by
  obtain ⟨m, lv, S, es, clock, h1, rfl, h2, h3, h4, h5, h6, h7, h8, h9, h10, h11, h12⟩ := h
  refine ⟨fun x hx => ?_, fun x hx => (h11 x hx).2⟩
  simp only [List.mem_cons] at hx
  rcases hx with rfl | rfl | hx
  · exact h9
  · exact h10
  · exact h5.lt x hx

def wB (f g : Int) : Bool := decide (f > 0) || !decide (g > 0)
def wF (f : Int) : Int := if f > 0 then f - 1 else f
def wG (f g : Int) : Int := if f > 0 then g else if g > 0 then g - 1 else g
def wD (D : DM) : DM := { D with first := wF D.first, fails := wG D.first D.fails }

theorem wF_range {f : Int} (h : N63 f) : N63 (wF f) := by
  unfold wF N63 at *
  split <;> omega
theorem wG_range {f g : Int} (h : N63 g) : N63 (wG f g) := by
  unfold wG N63 at *
  split
  · exact h
  · split <;> omega

structure DTbl (tbl : FuncId → Option AFun) : Prop where
  t7 : tbl 7 = some fun7
  t9 : tbl 9 = none
  t72 : tbl 72 = some fun72
  t51 : tbl 51 = some fun51
  t25 : tbl 25 = some fun25
  t90 : tbl 90 = some fun90
  t24 : tbl 24 = some fun24
  t77 : tbl 77 = some fun77
  t43 : tbl 43 = some fun43
  t44 : tbl 44 = some fun44
  t106 : tbl 106 = some fun106
  t107 : tbl 107 = some fun107
  t41 : tbl 41 = none
  t42 : tbl 42 = some fun42
  t115 : tbl 115 = some fun115

structure OvOK (ov : CallSem) : Prop where
  sorted : ∀ v s, ov 41 [v] s = sortedSem 41 66 3 41 [v] s
  awake : ∀ s, ov 9 [] s = some (.bool true, s)

section
variable {tbl : FuncId → Option AFun} {ov : CallSem} {s : St} (T : DTbl tbl)
include T

theorem p7 {n : Int} (hn : W64 n) : WCall (fun k => call tbl ov k) 7 [i64 n] s fun u s' => u = ptr (s.next + 1) ∧ DRep s' (s.next + 1) ⟨max 0 (min n 16), 0, 0, [], []⟩ [s.next + 1, s.next] [] ∧ Kept [] s s' := by
  refine WCall.of T.t7 rfl ?_
  have e1 : evP s.heap.get s.next (.minmax false [i64 n, i64 16]) = some ⟨i64 (min n 16), [], s.next⟩ := by
    simp only [evP, minmaxV, if_true, Bool.false_eq_true, if_false, Option.map_some]
    congr 3
    by_cases h : (16 : Int) < n
    · rw [if_pos h]; omega
    · rw [if_neg h]; omega
  have e2 : evP s.heap.get s.next (.minmax true [i64 0, i64 (min n 16)]) = some ⟨i64 (max 0 (min n 16)), [], s.next⟩ := by
    simp only [evP, minmaxV, if_true, Option.map_some]
    congr 3
    by_cases h : min n 16 > (0 : Int)
    · rw [if_pos h]; omega
    · rw [if_neg h]; omega
  simp -implicitDefEqProofs only [fun7, code7, params, go_sem, e1, e2, fillL]
  have hne : ¬ s.next = s.next + 1 := by omega
  refine ⟨⟨s.next, .slice none 0 0, [], [], 0, by simp only [Heap.get_put, if_true], rfl, by simp only [Heap.get_put, if_true, hne, if_false], ⟨by simp, by simp, by simp, .nil⟩, .nil, .nil, by omega, by simp, by simp, by simp only; omega, by simp only; omega, by simp,
    ⟨by unfold N63; simp, by unfold N63; simp, by simp only; omega, by simp, by simp only [List.length_nil]; omega, by simp⟩⟩, ⟨by simp only; omega, fun j hj _ => by simp only [Heap.get_put]; rw [if_neg (by omega), if_neg (by omega)]⟩⟩

theorem p77 {p : Nat} {a b c : Value} {f g : Int} (hp : s.heap.get p = some (.cells [a, b, c, i64 f, i64 g] 75 0 false)) (hf : N63 f) (hg : N63 g) :
    WCall (fun k => call tbl ov k) 77 [ptr p] s fun u s' => u = .bool (wB f g) ∧ s'.next = s.next ∧ s'.heap.get p = some (.cells [a, b, c, i64 (wF f), i64 (wG f g)] 75 0 false) ∧ ∀ j, j ≠ p → s'.heap.get j = s.heap.get j := by
  refine WCall.of T.t77 rfl ?_
  unfold N63 at hf hg
  by_cases h1 : f > 0
  · have d1 : decide (f > 0) = true := by simpa using h1
    have w1 : IntKind.i64.wrap (f - 1) = f - 1 := by rw [IntKind.wrap_i64]; omega
    simp -implicitDefEqProofs only [fun77, code77, params, go_sem, hp, d1, w1, wB, wF, wG, h1, Bool.true_or]
    exact fun j hj => if_neg hj
  · have d1 : decide (f > 0) = false := by simpa using h1
    by_cases h2 : g > 0
    · have d2 : decide (g > 0) = true := by simpa using h2
      have w1 : IntKind.i64.wrap (g - 1) = g - 1 := by rw [IntKind.wrap_i64]; omega
      simp -implicitDefEqProofs only [fun77, code77, params, go_sem, hp, d1, d2, w1, wB, wF, wG, h1, h2, Bool.false_or, Bool.not_true]
      exact fun j hj => if_neg hj
    · have d2 : decide (g > 0) = false := by simpa using h2
      simp -implicitDefEqProofs only [fun77, code77, params, go_sem, hp, d1, d2, wB, wF, wG, h1, h2, Bool.false_or, Bool.not_false]

omit T in
theorem DRep.wrote {s s' : St} {p m : Nat} {D : DM} {V S : List Nat} {lv : Value} {es : List MapEntry} {clock : Nat} {f g : Int} (h2 : s.heap.get m = some (.map es clock)) (h3 : MOK KInt es clock) (h4 : All2 (ER s V) es D.F) (h5 : RowsP 143 2 s lv (D.loose.map rowW) S)
    (h6 : p ≠ m) (h7 : p ∉ S) (h8 : m ∉ S) (h9 : p < s.next) (h10 : m < s.next) (h11 : ∀ x ∈ V, x ∉ p :: m :: S ∧ x < s.next) (h12 : DW D) (hn : s'.next = s.next) (hp : s'.heap.get p = some (.cells [i64 D.most, .map (some m), lv, i64 f, i64 g] 75 0 false)) (ho : ∀ j, j ≠ p → s'.heap.get j = s.heap.get j) (hf : N63 f) (hg : N63 g) :
    s'.heap.get m = some (.map es clock) ∧ All2 (ER s' V) es D.F ∧ RowsP 143 2 s' lv (D.loose.map rowW) S ∧ DRep s' p { D with first := f, fails := g } (p :: m :: S) V ∧ Kept [p] s s' := by
  have hk : Kept [p] s s' := ⟨by omega, fun j _ hj => ho j (by simpa using hj)⟩
  have e4 := er_kept h4 hk (fun x hx => by simp only [List.mem_singleton]; rintro rfl; exact (h11 _ hx).1 (by simp))
  have e5 := h5.kept hk (fun x hx => by simp only [List.mem_singleton]; rintro rfl; exact h7 hx)
  have e2 : s'.heap.get m = some (.map es clock) := by rw [ho m (Ne.symm h6)]; exact h2
  exact ⟨e2, e4, e5, ⟨m, lv, S, es, clock, hp, rfl, e2, h3, e4, e5, h6, h7, h8, by omega, by omega, fun x hx => ⟨(h11 x hx).1, by rw [hn]; exact (h11 x hx).2⟩, ⟨hf, hg, h12.most, h12.keys, h12.fit, h12.len⟩⟩, hk⟩

theorem p51 {p : Nat} {D : DM} {O V : List Nat} (h : DRep s p D O V) :
    WCall (fun k => call tbl ov k) 51 [ptr p] s fun u s' => u = i64 (if wB D.first D.fails then 0 else 7) ∧ Kept O s s' ∧ ∃ O', DRep s' p (if wB D.first D.fails then { wD D with loose := [] } else wD D) O' V ∧ ∀ x ∈ O', x ∈ O := by
  refine WCall.of T.t51 rfl ?_
  obtain ⟨m, lv, S, es, clock, h1, rfl, h2, h3, h4, h5, h6, h7, h8, h9, h10, h11, h12⟩ := h
  have h67 := p77 (ov := ov) T h1 h12.first h12.fails
  simp -implicitDefEqProofs only [fun51, code51, params, go_sem]
  refine WCall.mono h67 ?_
  rintro u s1 ⟨rfl, hn, hp, ho⟩
  obtain ⟨g2, g4, g5, gR, gk⟩ := DRep.wrote h2 h3 h4 h5 h6 h7 h8 h9 h10 h11 h12 hn hp ho (wF_range h12.first) (wG_range (f := D.first) h12.fails)
  cases hb : wB D.first D.fails
  · simp -implicitDefEqProofs only [go_sem, Bool.not_false]
    exact ⟨gk.sub (by simp), _, gR, fun x hx => hx⟩
  · simp -implicitDefEqProofs only [go_sem, hp, Bool.not_true]
    have hk2 : Kept [p] s1 ⟨s1.heap.put p (some (.cells [i64 D.most, .map (some m), .slice none 0 0, i64 (wF D.first), i64 (wG D.first D.fails)] 75 0 false)), s1.next⟩ := kept_put1 (Nat.le_refl _)
    refine ⟨(gk.trans hk2).sub (by simp), [p, m], ⟨m, .slice none 0 0, [], es, clock, by simp only [Heap.get_put, if_true, wD], rfl, by simp only [Heap.get_put]; rw [if_neg (Ne.symm h6)]; exact g2, h3, er_kept g4 hk2 (fun x hx => by simp only [List.mem_singleton]; rintro rfl; exact (h11 _ hx).1 (by simp)), .nil, h6, by simp, by simp, by simp only; omega, by simp only; omega,
      fun x hx => ⟨fun hx' => (h11 x hx).1 (by simp only [List.mem_cons, List.not_mem_nil, or_false] at hx' ⊢; rcases hx' with h | h <;> simp [h]), by simp only; rw [hn]; exact (h11 x hx).2⟩, ⟨wF_range h12.first, wG_range h12.fails, h12.most, h12.keys, h12.fit, h12.len⟩⟩, fun x hx => by simp only [List.mem_cons, List.not_mem_nil, or_false] at hx ⊢; rcases hx with h | h <;> simp [h]⟩

end

end Go.Proofs.YtehgdocbabaldaaGreat


/-
  A disk: Read and Segs.
-/
set_option maxRecDepth 100000
set_option linter.unusedVariables false
set_option linter.unusedSimpArgs false
namespace Go.Abs
open Go
def NewV (N : Nat) (v : Value) : Prop := ∀ id o l c, v = .slice (some ⟨id, o, none⟩) l c → N ≤ id
theorem NewV.mono {N M : Nat} {v : Value} (h : NewV N v) (hm : M ≤ N) : NewV M v := fun id o l c e => Nat.le_trans hm (h id o l c e)
theorem bytes_clip {s : St} {v : Value} {zs : List Int} (h : BytesV s v zs) :
    ∃ v', evP s.heap.get s.next (.slice (.slice 1) v none (some (.int .i64 (zs.length : Nat))) (some (.int .i64 (zs.length : Nat)))) = some ⟨v', [], s.next⟩ ∧ BytesV s v' zs ∧ ∀ N, NewV N v → NewV N v' := by
  obtain ⟨hz, ⟨rfl, rfl⟩ | ⟨id, o, cap, c, t, sz, ro, rfl, h1, h2, h3, h4, h5, h6⟩⟩ := h
  · exact ⟨.slice none 0 0, by simp [evP, boundsV, boundV], ⟨by simp, .inl ⟨rfl, rfl⟩⟩, fun N h => h⟩
  · have a1 : (zs.length : Int) ≤ cap := by omega
    refine ⟨.slice (some ⟨id, o, none⟩) zs.length zs.length, ?_, ⟨hz, .inr ⟨id, o, zs.length, c, t, sz, ro, rfl, Nat.le_refl _, h2, h3, h4, h5, h6⟩⟩, fun N h id' o' l c e => by cases e; exact h _ _ _ _ rfl⟩
    have h5' : ro = true ∨ sz = 1 ∨ sz = 1 + 4294967296 := h5.imp_right .inl
    simp [evP, boundsV, boundV, a1, h3, h5', h1]
theorem lookF_mem {F : List (Int × List Int)} {k : Int} {bs : List Int} (h : lookF F k = some bs) : (k, bs) ∈ F := by
  induction F with
  | nil => cases h
  | cons p F ih =>
    simp only [lookF] at h
    split at h
    · rename_i hk; cases h; subst hk; exact List.mem_cons_self ..
    · exact List.mem_cons_of_mem _ (ih h)
end Go.Abs
namespace Go.Proofs.YtehgdocbabaldaaGreat
open Go Go.Abs Go.Abs.K

section
variable {tbl : FuncId → Option AFun} {ov : CallSem} {s : St} (T : DTbl tbl)
include T

theorem p44 {bv : Value} {bs : List Int} (hb : BytesV s bv bs) (hl : bs.length < 2 ^ 40) : WCall (fun k => call tbl ov k) 44 [bv] s fun u s' => BytesV s' u bs ∧ Kept [] s s' ∧ NewV s.next u := by
  refine WCall.of T.t44 rfl ?_
  have hb0 := hb
  obtain ⟨hz, ⟨rfl, rfl⟩ | ⟨id, o, cap, c, t, sz, ro, rfl, h1, h2, h3, h4⟩⟩ := hb
  · simp -implicitDefEqProofs only [fun44, code44, params, go_sem, Option.isNone_none]
    exact ⟨⟨by simp, .inl ⟨rfl, rfl⟩⟩, Kept.refl _ _, fun id o l c e => by cases e⟩
  · have hk1 : Kept [] s ⟨s.heap.put s.next (some (.cells [] 5 1 false)), s.next + 1⟩ := kept_put_nil (Nat.le_refl _) (Nat.le_succ _)
    have hO : BytesO 5 ⟨s.heap.put s.next (some (.cells [] 5 1 false)), s.next + 1⟩ (.slice (some ⟨s.next, 0, none⟩) 0 0) [] [s.next] :=
      ⟨by simp, .inr ⟨s.next, 0, 0, [], rfl, rfl, Nat.le_refl _, Nat.lt_succ_self _, by simp only [Heap.get_put, if_true], by simp, rfl⟩⟩
    obtain ⟨res, S', he, hR, hk2, hS, _⟩ := hO.append (.inl (hb0.kept hk1)) (by simpa using hl)
    obtain ⟨val, upd, nx⟩ := res
    simp only at hR hk2
    rw [List.nil_append] at hR
    simp -implicitDefEqProofs only [fun44, code44, params, go_sem, ev_buildSlice, fillL, he]
    refine ⟨hR.toV, ⟨Nat.le_trans hk1.1 hk2.1, fun j hj _ => ?_⟩, fun id o l c e => ?_⟩
    · rw [hk2.2 j (by simp only; omega) (by simp only [List.mem_singleton]; omega)]
      exact hk1.2 j hj (by simp)
    · obtain ⟨_, ⟨hx, _⟩ | ⟨id', o', cap', c', hx, hSx, _⟩⟩ := hR
      · rw [hx] at e; cases e
      · rw [hx] at e
        simp only [Value.slice.injEq, Option.some.injEq, Addr.mk.injEq] at e
        have he := e.1.1
        rcases hS id' (by rw [hSx]; exact List.mem_singleton.2 rfl) with h | h
        · have := List.mem_singleton.1 h; omega
        · simp only at h; omega

theorem p43 {bv : Value} {bs : List Int} (hb : BytesV s bv bs) : WCall (fun k => call tbl ov k) 43 [bv] s fun u s' => (BytesV s u bs ∧ ∀ N, NewV N bv → NewV N u) ∧ s' = s := by
  refine WCall.of T.t43 rfl ?_
  obtain ⟨v', he, hv, hN⟩ := bytes_clip hb
  obtain ⟨a, cap, rfl⟩ := hb.len
  simp -implicitDefEqProofs only [fun43, code43, params, go_sem, he]
  exact ⟨hv, hN⟩

def readE (D : DM) (n : Int) : Int := if (lookF D.F n).isSome then 0 else 4
def readB (D : DM) (n : Int) : List Int := (lookF D.F n).getD []

theorem p25 {p : Nat} {D : DM} {O V : List Nat} {n : Int} (h : DRep s p D O V) :
    WCall (fun k => call tbl ov k) 25 [ptr p, i64 n] s fun u s' => ∃ v, u = .tuple #[v, i64 (readE D n)] ∧ BytesV s' v (readB D n) ∧ Kept [] s s' ∧ NewV s.next v := by
  refine WCall.of T.t25 rfl ?_
  obtain ⟨m, lv, S, es, clock, h1, rfl, h2, h3, h4, h5, h6, h7, h8, h9, h10, h11, h12⟩ := h
  have el := ev_lookup (g := s.heap.get) (nx := s.next) (z := .slice none 0 0) (kind_int .i64) h3 h2 (k := i64 n) ⟨n, rfl⟩ true
  cases hl : lookF D.F n with
  | none =>
    rw [er_none h4 hl] at el
    simp only [Option.map_none, lookV, if_true] at el
    simp -implicitDefEqProofs only [fun25, code25, params, go_sem, h1, el, Bool.not_false, readE, readB, hl, Option.isSome_none, Option.getD_none]
    exact ⟨_, rfl, ⟨by simp, .inl ⟨rfl, rfl⟩⟩, Kept.refl _ _, fun id o l c e => by cases e⟩
  | some bs =>
    obtain ⟨v, hv, hB, _⟩ := er_some h4 hl
    rw [hv] at el
    simp only [Option.map_some, lookV, if_true] at el
    have hlen : bs.length ≤ 2048 := h12.len _ (lookF_mem hl)
    simp -implicitDefEqProofs only [fun25, code25, params, go_sem, h1, el, Bool.not_true, readE, readB, hl, Option.isSome_some, Option.getD_some]
    refine WCall.mono (p44 T hB (by omega)) ?_
    rintro u s1 ⟨hu, hk, hN⟩
    simp -implicitDefEqProofs only [go_sem]
    refine WCall.mono (p43 T hu) ?_
    rintro u2 s2 ⟨⟨hu2, hN2⟩, rfl⟩
    simp -implicitDefEqProofs only [go_sem]
    exact ⟨_, rfl, hu2, hk, hN2 _ hN⟩

theorem p42 {mv : Value} (hc : isCell mv = true) (K : Value → St → Prop) : WCall (fun k => call tbl ov k) 42 [mv] s K = K (.func (.func 66) #[] #[ptr s.next]) ⟨s.heap.put s.next (some (.cells (cellList mv) 72 0 false)), s.next + 1⟩ := by
  refine WCall.eq (WCall.of T.t42 rfl ?_) K
  simp -implicitDefEqProofs only [fun42, code42, params, go_sem, wv_mkFunc]

abbrev keysF (D : DM) : List Int := sortZ (D.F.map fun p => p.1)

theorem p24 (ho : OvOK ov) {p : Nat} {D : DM} {O V : List Nat} (h : DRep s p D O V) :
    WCall (fun k => call tbl ov k) 24 [ptr p] s fun u s' => RowV 1 s' u ((keysF D).map fun k => [i64 k]) ∧ Kept [] s s' ∧ ∀ x ∈ wrOf u, s.next ≤ x := by
  refine WCall.of T.t24 rfl ?_
  obtain ⟨m, lv, S, es, clock, h1, rfl, h2, h3, h4, h5, h6, h7, h8, h9, h10, h11, h12⟩ := h
  have hfit : D.F.length ≤ 1073741824 := by have := h12.fit; have := h12.most; omega
  have hk := er_keys h4 h12.keys
  have hf := er_fit h4 h3 h12.keys hfit
  have hne : ¬ m = s.next := by omega
  have hk1 : Kept [] s ⟨s.heap.put s.next (some (.cells [.map (some m)] 72 0 false)), s.next + 1⟩ := kept_put_nil (Nat.le_refl _) (Nat.le_succ _)
  have e37 := fun K => p42 (ov := ov) (s := s) T (mv := .map (some m)) rfl K
  have hseq : seqMap ⟨s.heap.put s.next (some (.cells [.map (some m)] 72 0 false)), s.next + 1⟩ 66 (.func (.func 66) #[] #[ptr s.next]) = some (es, clock) := by
    simp only [seqMap, if_true, Heap.get_put, hne, if_false, h2]
  cases hF : D.F with
  | nil =>
    rw [hF] at hk hf
    have e36 := fun K => WCall.eq (WCall.ov (ov := ov) T.t41 (args := [.func (.func 66) #[] #[ptr s.next]]) (s := ⟨s.heap.put s.next (some (.cells [.map (some m)] 72 0 false)), s.next + 1⟩) (r := (.slice none 0 0, ⟨s.heap.put s.next (some (.cells [.map (some m)] 72 0 false)), s.next + 1⟩))
      (by rw [ho.sorted]; simp only [sortedSem, if_true, hseq, Option.bind_some, hk, hf]; rfl) ⟨rfl, rfl⟩) K
    simp -implicitDefEqProofs only [fun24, code24, params, go_sem, h1, e37, e36]
    refine ⟨⟨by simp [keysF, hF, sortZ], .inl ⟨rfl, by simp [keysF, hF, sortZ]⟩⟩, hk1, fun x hx => by cases hx⟩
  | cons q F =>
    rw [hF] at hk hf
    obtain ⟨ks, hks⟩ : ∃ ks, ks = (q :: F).map fun p => p.1 := ⟨_, rfl⟩
    rw [← hks] at hk hf
    have hkl : 0 < ks.length := by rw [hks]; simp
    have e36 := fun K => WCall.eq (WCall.ov (ov := ov) T.t41 (args := [.func (.func 66) #[] #[ptr s.next]]) (s := ⟨s.heap.put s.next (some (.cells [.map (some m)] 72 0 false)), s.next + 1⟩)
      (r := (.slice (some ⟨s.next + 1, 0, none⟩) ks.length ks.length, ⟨(s.heap.put s.next (some (.cells [.map (some m)] 72 0 false))).put (s.next + 1) (some (.cells ((sortZ ks).map fun n => Value.int .i64 n) 3 1 false)), s.next + 1 + 1⟩))
      (by
        rw [ho.sorted]; simp only [sortedSem, if_true, hseq, Option.bind_some, hk, hf]
        cases ks with
        | nil => simp at hkl
        | cons x r => rfl) ⟨rfl, rfl⟩) K
    simp -implicitDefEqProofs only [fun24, code24, params, go_sem, h1, e37, e36]
    have hlen : (sortZ ks).length = ks.length := sortZ_length ks
    have hfl : ((sortZ ks).map fun k => [i64 k]).flatten = (sortZ ks).map fun n => Value.int .i64 n := by
      induction sortZ ks with
      | nil => rfl
      | cons x l ih => simp [ih]
    refine ⟨⟨fun c hc => ?_, .inr ⟨s.next + 1, 0, ks.length, (sortZ ks).map fun n => Value.int .i64 n, 3, false, ?_, ?_, by simp only; omega, by simp only [Heap.get_put, if_true], ?_, ?_⟩⟩, ⟨by simp only; omega, fun j hj _ => by simp only [Heap.get_put]; rw [if_neg (by omega), if_neg (by omega)]⟩, fun x hx => by rw [List.mem_singleton.1 hx]; exact Nat.le_succ _⟩
    · obtain ⟨k, _, rfl⟩ := List.mem_map.1 hc
      exact ⟨rfl, rfl⟩
    · simp only [keysF, hF, ← hks, List.length_map, hlen]
    · simp only [keysF, hF, ← hks, List.length_map, hlen]; exact Nat.le_refl _
    · simp only [keysF, hF, ← hks, List.length_map, hlen]; omega
    · simp only [keysF, hF, ← hks, List.length_map, hlen]
      rw [hfl, List.drop_zero, List.take_of_length_le (by rw [List.length_map, hlen]; omega)]
end

end Go.Proofs.YtehgdocbabaldaaGreat


/-
  A disk: Append.
-/
set_option maxRecDepth 100000
set_option linter.unusedVariables false
set_option linter.unusedSimpArgs false
namespace Go.Proofs.YtehgdocbabaldaaGreat
open Go Go.Abs Go.Abs.K

def fullD (D : DM) (n : Int) (k : Nat) : Bool := (!(lookF D.F n).isSome && decide ((D.F.length : Int) ≥ D.most)) || decide ((k : Int) > 2048 - ((readB D n).length : Int))
def appE (D : DM) (n : Int) (k : Nat) : Int := if n < 0 then 1 else if fullD D n k then 5 else if wB D.first D.fails then 0 else 7
def appD (D : DM) (n : Int) (bs : List Int) : DM := if n < 0 then D else if fullD D n bs.length then D else if wB D.first D.fails then { wD D with F := putF D.F n (readB D n ++ bs), loose := D.loose ++ [(n, (bs.length : Int))] } else wD D

theorem zeros_len (n : Nat) : (List.replicate n [Value.int .u8 0]).flatten.length = n := by
  induction n with
  | zero => rfl
  | succ n ih => rw [List.replicate_succ, List.flatten_cons, List.length_append, ih]; simp; omega

theorem joined (c0 : List Value) (a b : List Int) (h : c0.length = a.length + b.length) : storeL (storeL c0 0 (a.map (.int .u8))) (0 + a.length * 1) (b.map (.int .u8)) = (a ++ b).map (.int .u8) := by
  rw [storeL_eq _ _ _ (by rw [storeL_length, List.length_map]; omega), storeL_eq _ _ _ (by rw [List.length_map]; omega)]
  simp only [List.length_map, List.take_zero, List.nil_append, Nat.zero_add, Nat.mul_one]
  rw [List.take_append_of_le_length (by simp), List.take_of_length_le (by simp), List.drop_of_length_le (by simp; omega), List.append_nil, List.map_append]

theorem setF_mem {k : Int} {bs : List Int} {q : Int × List Int} : ∀ {F : List (Int × List Int)}, q ∈ setF F k bs → q ∈ F ∨ q = (k, bs) := by
  intro F
  induction F with
  | nil => intro h; cases h
  | cons p F ih =>
    intro h
    simp only [setF] at h
    split at h
    · rename_i hk
      rcases List.mem_cons.1 h with h | h
      · right; rw [h, hk]
      · exact .inl (List.mem_cons_of_mem _ h)
    · rcases List.mem_cons.1 h with h | h
      · left; rw [h]; exact List.mem_cons_self ..
      · exact (ih h).imp_left (List.mem_cons_of_mem _)
theorem putF_mem {F : List (Int × List Int)} {k : Int} {bs : List Int} {q : Int × List Int} (h : q ∈ putF F k bs) : q ∈ F ∨ q = (k, bs) := by
  unfold putF at h
  split at h
  · exact setF_mem h
  · rcases List.mem_append.1 h with h | h
    · exact .inl h
    · exact .inr (List.mem_singleton.1 h)
theorem putF_len (F : List (Int × List Int)) (k : Int) (bs : List Int) : (putF F k bs).length = if (lookF F k).isSome = true then F.length else F.length + 1 := by
  have := congrArg List.length (putF_keys F k bs)
  rw [List.length_map] at this
  rw [this]
  split <;> simp

section
variable {tbl : FuncId → Option AFun} {ov : CallSem} {s : St} (T : DTbl tbl)
include T

theorem p72 {p : Nat} {D : DM} {O V : List Nat} {n : Int} {bv : Value} {bs : List Int} (h : DRep s p D O V) (hb : BytesV s bv bs) (hbO : ∀ id o l c, bv = .slice (some ⟨id, o, none⟩) l c → id ∉ O) (hn : W64 n) (hll : D.loose.length < 2 ^ 20) :
    WCall (fun k => call tbl ov k) 72 [ptr p, i64 n, bv] s fun u s' => u = i64 (appE D n bs.length) ∧ Kept O s s' ∧ ∃ O' V', DRep s' p (appD D n bs) O' V' ∧ (∀ x ∈ O', x ∈ O ∨ s.next ≤ x) ∧ ∀ x ∈ V', x ∈ V ∨ s.next ≤ x := by
  refine WCall.of T.t72 rfl ?_
  have h0 := h
  obtain ⟨m, lv, S, es, clock, h1, rfl, h2, h3, h4, h5, h6, h7, h8, h9, h10, h11, h12⟩ := h
  obtain ⟨ba, bc, hbv⟩ := hb.len
  subst hbv
  by_cases hneg : n < 0
  · have d1 : decide (n < 0) = true := by simpa using hneg
    simp -implicitDefEqProofs only [fun72, code72, params, go_sem, d1, appE, appD, hneg]
    exact ⟨Kept.refl _ _, _, _, h0, fun x hx => .inl hx, fun x hx => .inl hx⟩
  have d1 : decide (n < 0) = false := by simpa using hneg
  have el := ev_lookup (g := s.heap.get) (nx := s.next) (z := .slice none 0 0) (kind_int .i64) h3 h2 (k := i64 n) ⟨n, rfl⟩ true
  obtain ⟨ov', hel, hov, hovV⟩ : ∃ v, evP s.heap.get s.next (.lookup .int (.slice none 0 0) true (.map (some m)) (i64 n)) = some ⟨.tuple #[v, .bool (lookF D.F n).isSome], [], s.next⟩ ∧ BytesV s v (readB D n) ∧ InV V v := by
    unfold readB
    cases hl : lookF D.F n with
    | none =>
      rw [er_none h4 hl] at el
      exact ⟨.slice none 0 0, el, ⟨by simp, .inl ⟨rfl, rfl⟩⟩, fun id o l c e => by cases e⟩
    | some bs' =>
      obtain ⟨v, hv, hB, hV⟩ := er_some h4 hl
      rw [hv] at el
      exact ⟨v, el, hB, hV⟩
  have hlen : (readB D n).length ≤ 2048 := by
    unfold readB
    cases hl : lookF D.F n with
    | none => simp
    | some bs' => exact h12.len _ (lookF_mem hl)
  obtain ⟨oa, oc, hoe⟩ := hov.len
  subst hoe
  have elm : evP s.heap.get s.next (.len .map (.map (some m))) = some ⟨i64 (D.F.length : Nat), [], s.next⟩ := by
    simp [evP, entriesOf, h2, h4.len]
  have w0 : IntKind.i64.wrap (2048 - ((readB D n).length : Int)) = 2048 - ((readB D n).length : Int) := by rw [IntKind.wrap_i64]; omega
  have h67 := p77 (ov := ov) T h1 h12.first h12.fails
  have hlow : lookF D.F n = none → (putF D.F n (readB D n ++ bs)).length = D.F.length + 1 := fun hx => by
    unfold putF; rw [hx]; simp
  cases hfull : fullD D n bs.length
  · -- there is room
    have hfull' := hfull
    simp only [fullD, Bool.or_eq_false_iff, Bool.and_eq_false_iff, Bool.not_eq_false'] at hfull'
    obtain ⟨hroom, d3⟩ := hfull'
    have hfitN : (lookF D.F n).isSome = true ∨ ((lookF D.F n).isSome = false ∧ decide ((D.F.length : Int) ≥ D.most) = false) := by
      cases hx : (lookF D.F n).isSome
      · rw [hx] at hroom
        exact .inr ⟨rfl, hroom.resolve_left (by simp)⟩
      · exact .inl rfl
    have hsum : (readB D n).length + bs.length ≤ 2048 := by
      have := of_decide_eq_false d3; omega
    -- the state behind
    obtain ⟨N, hN⟩ : ∃ N, N = (readB D n).length + bs.length := ⟨_, rfl⟩
    have tail : ∀ s1 : St, s1.next = s.next → s1.heap.get p = some (.cells [i64 D.most, .map (some m), lv, i64 (wF D.first), i64 (wG D.first D.fails)] 75 0 false) → (∀ j, j ≠ p → s1.heap.get j = s.heap.get j) →
        ∃ (c0 c1 : List Value) (val : Value) (upd : List (Nat × Option AObj)) (nx : Nat),
          evP s1.heap.get s1.next (.mkSlice 5 1 1 [.int .u8 0] (i64 (N : Nat)) (i64 (N : Nat))) = some ⟨.slice (some ⟨s1.next, 0, none⟩) N N, [(s1.next, some (.cells c0 5 1 false))], s1.next + 1⟩ ∧
          evP (s1.heap.put s1.next (some (.cells c0 5 1 false))).get (s1.next + 1) (.copy 1 (.slice (some ⟨s1.next, 0, none⟩) N N) (.slice oa (readB D n).length oc)) = some ⟨i64 ((readB D n).length : Nat), [(s1.next, some (.cells c1 5 1 false))], s1.next + 1⟩ ∧
          evP ((s1.heap.put s1.next (some (.cells c0 5 1 false))).put s1.next (some (.cells c1 5 1 false))).get (s1.next + 1) (.slice (.slice 1) (.slice (some ⟨s1.next, 0, none⟩) N N) (some (i64 ((readB D n).length : Nat))) none none) = some ⟨.slice (some ⟨s1.next, (readB D n).length, none⟩) (N - (readB D n).length) (N - (readB D n).length), [], s1.next + 1⟩ ∧
          evP ((s1.heap.put s1.next (some (.cells c0 5 1 false))).put s1.next (some (.cells c1 5 1 false))).get (s1.next + 1) (.copy 1 (.slice (some ⟨s1.next, (readB D n).length, none⟩) (N - (readB D n).length) (N - (readB D n).length)) (.slice ba bs.length bc)) = some ⟨i64 (bs.length : Nat), [(s1.next, some (.cells ((readB D n ++ bs).map (.int .u8)) 5 1 false))], s1.next + 1⟩ ∧
          evP (((s1.heap.put s1.next (some (.cells c0 5 1 false))).put s1.next (some (.cells c1 5 1 false))).put s1.next (some (.cells ((readB D n ++ bs).map (.int .u8)) 5 1 false))).get (s1.next + 1) (.mapUpdate .int (.map (some m)) (i64 n) (.slice (some ⟨s1.next, 0, none⟩) N N)) = some ⟨undefV, [(m, some (.map (mput es clock (i64 n) (.slice (some ⟨s1.next, 0, none⟩) N N)) (mclock es clock (i64 n))))], s1.next + 1⟩ ∧
          evP (((((s1.heap.put s1.next (some (.cells c0 5 1 false))).put s1.next (some (.cells c1 5 1 false))).put s1.next (some (.cells ((readB D n ++ bs).map (.int .u8)) 5 1 false))).put m (some (.map (mput es clock (i64 n) (.slice (some ⟨s1.next, 0, none⟩) N N)) (mclock es clock (i64 n))))).put (s1.next + 1) (some (.cells [i64 n, i64 (bs.length : Nat)] 143 2 false))).get (s1.next + 1 + 1)
            (.append 143 2 16 lv (.slice (some ⟨s1.next + 1, 0, none⟩) 1 1)) = some ⟨val, upd, nx⟩ ∧
          (applyUpd (((((s1.heap.put s1.next (some (.cells c0 5 1 false))).put s1.next (some (.cells c1 5 1 false))).put s1.next (some (.cells ((readB D n ++ bs).map (.int .u8)) 5 1 false))).put m (some (.map (mput es clock (i64 n) (.slice (some ⟨s1.next, 0, none⟩) N N)) (mclock es clock (i64 n))))).put (s1.next + 1) (some (.cells [i64 n, i64 (bs.length : Nat)] 143 2 false))) upd).get p = some (.cells [i64 D.most, .map (some m), lv, i64 (wF D.first), i64 (wG D.first D.fails)] 75 0 false) ∧
          (∃ va vn vc, val = .slice va vn vc) ∧
          (Kept (p :: m :: S) s ⟨(applyUpd (((((s1.heap.put s1.next (some (.cells c0 5 1 false))).put s1.next (some (.cells c1 5 1 false))).put s1.next (some (.cells ((readB D n ++ bs).map (.int .u8)) 5 1 false))).put m (some (.map (mput es clock (i64 n) (.slice (some ⟨s1.next, 0, none⟩) N N)) (mclock es clock (i64 n))))).put (s1.next + 1) (some (.cells [i64 n, i64 (bs.length : Nat)] 143 2 false))) upd).put p (some (.cells [i64 D.most, .map (some m), val, i64 (wF D.first), i64 (wG D.first D.fails)] 75 0 false)), nx⟩ ∧
          ∃ O' V', DRep ⟨(applyUpd (((((s1.heap.put s1.next (some (.cells c0 5 1 false))).put s1.next (some (.cells c1 5 1 false))).put s1.next (some (.cells ((readB D n ++ bs).map (.int .u8)) 5 1 false))).put m (some (.map (mput es clock (i64 n) (.slice (some ⟨s1.next, 0, none⟩) N N)) (mclock es clock (i64 n))))).put (s1.next + 1) (some (.cells [i64 n, i64 (bs.length : Nat)] 143 2 false))) upd).put p (some (.cells [i64 D.most, .map (some m), val, i64 (wF D.first), i64 (wG D.first D.fails)] 75 0 false)), nx⟩ p
            { wD D with F := putF D.F n (readB D n ++ bs), loose := D.loose ++ [(n, (bs.length : Int))] } O' V' ∧ (∀ x ∈ O', x ∈ p :: m :: S ∨ s.next ≤ x) ∧ ∀ x ∈ V', x ∈ V ∨ s.next ≤ x) := by
      intro s1 hnx hp ho
      obtain ⟨g2, g4, g5, gR, gk⟩ := DRep.wrote h2 h3 h4 h5 h6 h7 h8 h9 h10 h11 h12 hnx hp ho (wF_range h12.first) (wG_range (f := D.first) h12.fails)
      obtain ⟨A, hA⟩ : ∃ A, A = s1.next := ⟨_, rfl⟩
      obtain ⟨c0, hc0⟩ : ∃ c0, c0 = (List.replicate N [Value.int .u8 0]).flatten := ⟨_, rfl⟩
      have hl0 : c0.length = N := by rw [hc0, zeros_len]
      have htb : tooBig N 1 = false := by simp only [tooBig, Bool.or_eq_false_iff, decide_eq_false_iff_not]; omega
      have e1 : evP s1.heap.get s1.next (.mkSlice 5 1 1 [.int .u8 0] (i64 (N : Nat)) (i64 (N : Nat))) = _ := ev_mkSlice htb rfl
      rw [← hc0] at e1
      have hNl : (readB D n ++ bs).length = N := by rw [List.length_append, hN]
      -- the copies
      have hovp : ∀ id o l c, Value.slice oa (readB D n).length oc = .slice (some ⟨id, o, none⟩) l c → id ∉ [p] := fun id o l c e => by
        have := (h11 id (hovV id o l c e)).1
        simp only [List.mem_singleton]; rintro rfl; exact this (by simp)
      have hbp : ∀ id o l c, Value.slice ba bs.length bc = .slice (some ⟨id, o, none⟩) l c → id ∉ [p] := fun id o l c e => by
        have := hbO id o l c e
        simp only [List.mem_singleton]; rintro rfl; exact this (by simp)
      have hov1 := BytesV.kept' (t := 0) (w := undefV) (zs := readB D n) (ws := []) hov gk hovp
      have hb1 := BytesV.kept' (t := 0) (w := undefV) (zs := bs) (ws := []) hb gk hbp
      have hk2 : ∀ o : Option AObj, Kept [] s1 ⟨s1.heap.put s1.next o, s1.next + 1⟩ := fun o => kept_put_nil (Nat.le_refl _) (Nat.le_succ _)
      have hov2 : SrcV ⟨s1.heap.put s1.next (some (.cells c0 5 1 false)), s1.next + 1⟩ (.slice oa (readB D n).length oc) (readB D n) := .inl (hov1.kept (hk2 _))
      obtain ⟨c1, hc1⟩ : ∃ c1, c1 = storeL c0 0 ((readB D n).map (.int .u8)) := ⟨_, rfl⟩
      have hl1 : c1.length = N := by rw [hc1, storeL_length, hl0]
      have e2 : evP (s1.heap.put s1.next (some (.cells c0 5 1 false))).get (s1.next + 1) (.copy 1 (.slice (some ⟨s1.next, 0, none⟩) N N) (.slice oa (readB D n).length oc)) = _ :=
        ev_copy (m := (readB D n).length) (by rw [Heap.get_put, if_pos rfl]) hov2.len (by omega) hov2.first (cells_bytes _) (by simp) (by rw [hl0]; omega)
      rw [← hc1] at e2
      have hb3 : SrcV ⟨(s1.heap.put s1.next (some (.cells c0 5 1 false))).put s1.next (some (.cells c1 5 1 false)), s1.next + 1⟩ (.slice ba bs.length bc) bs :=
        .inl (hb1.kept ⟨Nat.le_succ _, fun j hj _ => by simp only [Heap.get_put]; rw [if_neg (by omega), if_neg (by omega)]⟩)
      have hg3 : ((s1.heap.put s1.next (some (.cells c0 5 1 false))).put s1.next (some (.cells c1 5 1 false))).get s1.next = some (.cells c1 5 1 false) := by rw [Heap.get_put, if_pos rfl]
      have e3 : evP ((s1.heap.put s1.next (some (.cells c0 5 1 false))).put s1.next (some (.cells c1 5 1 false))).get (s1.next + 1) (.slice (.slice 1) (.slice (some ⟨s1.next, 0, none⟩) N N) (some (i64 ((readB D n).length : Nat))) none none) = _ :=
        ev_sliceL hg3 (.inr (.inl rfl)) (by omega) (Nat.le_refl _)
      have e4 : evP ((s1.heap.put s1.next (some (.cells c0 5 1 false))).put s1.next (some (.cells c1 5 1 false))).get (s1.next + 1) (.copy 1 (.slice (some ⟨s1.next, 0 + (readB D n).length * 1, none⟩) (N - (readB D n).length) (N - (readB D n).length)) (.slice ba bs.length bc)) = _ :=
        ev_copy (m := bs.length) hg3 hb3.len (by omega) hb3.first (cells_bytes _) (by simp) (by rw [hl1]; omega)
      rw [hc1, joined c0 _ _ (by rw [hl0, hN]), ← hc1] at e4
      rw [Nat.zero_add, Nat.mul_one] at e3 e4
      obtain ⟨c2, hc2⟩ : ∃ c2 : List Value, c2 = (readB D n ++ bs).map (.int .u8) := ⟨_, rfl⟩
      rw [← hc2] at e4 ⊢
      have hmA : m ≠ s1.next := by omega
      have hpA : p ≠ s1.next := by omega
      have hgm : (((s1.heap.put s1.next (some (.cells c0 5 1 false))).put s1.next (some (.cells c1 5 1 false))).put s1.next (some (.cells c2 5 1 false))).get m = some (.map es clock) := by
        simp only [Heap.get_put, hmA, if_false]; exact g2
      have e5 := ev_mapUpdate (nx := s1.next + 1) (v := .slice (some ⟨s1.next, 0, none⟩) N N) (kind_int .i64) h3 hgm (k := i64 n) ⟨n, rfl⟩
      obtain ⟨s6, hs6⟩ : ∃ s6 : St, s6 = ⟨((((s1.heap.put s1.next (some (.cells c0 5 1 false))).put s1.next (some (.cells c1 5 1 false))).put s1.next (some (.cells c2 5 1 false))).put m (some (.map (mput es clock (i64 n) (.slice (some ⟨s1.next, 0, none⟩) N N)) (mclock es clock (i64 n))))).put (s1.next + 1) (some (.cells [i64 n, i64 (bs.length : Nat)] 143 2 false)), s1.next + 1 + 1⟩ := ⟨_, rfl⟩
      have hk6 : Kept [m] s1 s6 := by
        rw [hs6]
        refine ⟨by simp only; omega, fun j hj hm => ?_⟩
        simp only [List.mem_singleton] at hm
        simp only [Heap.get_put, hm, if_false]
        rw [if_neg (by omega), if_neg (by omega), if_neg (by omega), if_neg (by omega)]
      have hn6 : s6.next = s1.next + 2 := by rw [hs6]
      have hR6 := g5.kept hk6 (fun x hx => by simp only [List.mem_singleton]; rintro rfl; exact h8 hx)
      have hy : RowV 2 s6 (.slice (some ⟨s1.next + 1, 0, none⟩) 1 1) [rowW (n, (bs.length : Int))] :=
        ⟨fun c hc => by rw [List.mem_singleton.1 hc]; exact ⟨rfl, rfl⟩, .inr ⟨s1.next + 1, 0, 1, [i64 n, i64 (bs.length : Nat)], 143, false, rfl, Nat.le_refl _, by omega, by rw [hs6]; simp only [Heap.get_put, if_true], by simp, by simp⟩⟩
      have htb2 : ∀ k, k < 2 ^ 30 → tooBig k 16 = false := fun k hk => by simp only [tooBig, Bool.or_eq_false_iff, decide_eq_false_iff_not]; omega
      obtain ⟨val, upd, nx, S', he, hR7, hk7, hS⟩ := hR6.append (b := 16) hy (fun c hc => by rw [List.mem_singleton.1 hc]; rfl) (htb2 _ (by simp only [List.length_map, List.length_cons, List.length_nil]; omega)) (fun k _ h => htb2 _ (by simp only [List.length_cons, List.length_nil] at h; omega))
      have hSlt : ∀ x ∈ S, x < s.next := h5.lt
      have hnx7 : s6.next ≤ nx := hk7.1
      have hp7 : (applyUpd s6.heap upd).get p = some (.cells [i64 D.most, .map (some m), lv, i64 (wF D.first), i64 (wG D.first D.fails)] 75 0 false) := by
        have := hk7.2 p (by omega) h7
        simp only at this
        rw [this, hk6.2 p (by omega) (by simpa using h6)]; exact hp
      have hm7 : (applyUpd s6.heap upd).get m = some (.map (mput es clock (i64 n) (.slice (some ⟨s1.next, 0, none⟩) N N)) (mclock es clock (i64 n))) := by
        have := hk7.2 m (by omega) h8
        simp only at this
        have hmB : m ≠ s1.next + 1 := by omega
        rw [this, hs6]; simp only [Heap.get_put, hmB, if_false, if_true]
      have hA7 : (applyUpd s6.heap upd).get s1.next = some (.cells c2 5 1 false) := by
        have := hk7.2 s1.next (by omega) (fun hx => by have := hSlt _ hx; omega)
        simp only at this
        have hB : s1.next ≠ s1.next + 1 := by omega
        rw [this, hs6]; simp only [Heap.get_put, hB, Ne.symm hmA, if_false, if_true]
      have hcell : ∃ va vn vc, val = .slice va vn vc := by
        obtain ⟨_, ⟨h, _⟩ | ⟨_, _, _, _, h, _⟩⟩ := hR7 <;> exact ⟨_, _, _, h⟩
      refine ⟨c0, c1, val, upd, nx, e1, e2, e3, e4, e5, by rw [hs6] at he; exact he, by rw [hs6] at hp7; exact hp7, hcell, ?_⟩
      obtain ⟨s7, hs8⟩ : ∃ s7 : St, s7 = ⟨(applyUpd s6.heap upd).put p (some (.cells [i64 D.most, .map (some m), val, i64 (wF D.first), i64 (wG D.first D.fails)] 75 0 false)), nx⟩ := ⟨_, rfl⟩
      have hk8 : Kept [p] ⟨applyUpd s6.heap upd, nx⟩ s7 := by rw [hs8]; exact kept_put1 (Nat.le_refl _)
      have hkall : Kept (p :: m :: S) s s7 := by
        refine ⟨by rw [hs8]; simp only; omega, fun j hj hn => ?_⟩
        simp only [List.mem_cons, not_or] at hn
        rw [hk8.2 j (by simp only; omega) (by simpa using hn.1), hk7.2 j (by omega) hn.2.2, hk6.2 j (by omega) (by simpa using hn.2.1), gk.2 j hj (by simpa using hn.1)]
      have hpS' : p ∉ S' := fun hx => (hS p hx).elim h7 fun h => by omega
      have hmS' : m ∉ S' := fun hx => (hS m hx).elim h8 fun h => by omega
      have h8A : s7.heap.get s1.next = some (.cells c2 5 1 false) := by rw [hk8.2 s1.next (by simp only; omega) (by simpa using Ne.symm hpA)]; exact hA7
      have hnew : BytesV s7 (.slice (some ⟨s1.next, 0, none⟩) N N) (readB D n ++ bs) := by
        refine ⟨fun z hz => ?_, .inr ⟨s1.next, 0, N, c2, 5, 1, false, by rw [hNl], by rw [hNl]; exact Nat.le_refl _, by rw [hs8]; simp only; omega, h8A, ?_, .inr rfl, by rw [hc2, List.length_map]; omega⟩⟩
        · rcases List.mem_append.1 hz with hz | hz
          · exact hov.1 z hz
          · exact hb.1 z hz
        · rw [hc2, List.drop_zero, List.take_of_length_le (by rw [List.length_map]; exact Nat.le_refl _)]
      have her : All2 (ER s7 (s1.next :: V)) es D.F := er_sub (er_kept h4 hkall (fun x hx => (h11 x hx).1)) (fun x hx => List.mem_cons_of_mem _ hx)
      rw [hs6] at hs8
      simp only at hs8
      rw [← hs8]
      refine ⟨hkall, p :: m :: S', s1.next :: V, ⟨m, val, S', _, _, by rw [hs8]; simp only [Heap.get_put, if_true, wD], rfl, ?_, MOK.mput (kind_int .i64) h3 ⟨n, rfl⟩ _, er_put her hnew (fun id o l c e => by cases e; exact List.mem_cons_self ..), ?_, h6, hpS', hmS', ?_, ?_, ?_, ?_⟩, ?_, ?_⟩
      · rw [hk8.2 m (by simp only; omega) (by simpa using Ne.symm h6)]; exact hm7
      · have := hR7.kept hk8 (fun x hx => by simp only [List.mem_singleton]; rintro rfl; exact hpS' hx)
        rw [List.map_append]
        exact this
      · have := hkall.1; omega
      · have := hkall.1; omega
      · intro x hx
        have hle := hkall.1
        have hnn : s7.next = nx := by rw [hs8]
        rcases List.mem_cons.1 hx with rfl | hx
        · refine ⟨fun hx => ?_, by omega⟩
          simp only [List.mem_cons] at hx
          rcases hx with hx | hx | hx
          · exact hpA hx.symm
          · exact hmA hx.symm
          · rcases hS _ hx with h | h
            · have := hSlt _ h; omega
            · omega
        · have hx2 := h11 x hx
          refine ⟨fun hx' => ?_, by omega⟩
          simp only [List.mem_cons] at hx'
          rcases hx' with h | h | h
          · exact hx2.1 (by simp [h])
          · exact hx2.1 (by simp [h])
          · rcases hS _ h with h | h
            · exact hx2.1 (by simp [h])
            · omega
      · refine ⟨wF_range h12.first, wG_range h12.fails, h12.most, fun q hq => ?_, ?_, fun q hq => ?_⟩
        · rcases putF_mem hq with hq | rfl
          · exact h12.keys q hq
          · exact hn
        · simp only [wD, putF_len]
          rcases hfitN with hx | ⟨hx, hx2⟩
          · rw [hx]; exact h12.fit
          · rw [hx]
            have := of_decide_eq_false hx2
            simp only [Bool.false_eq_true, if_false]; omega
        · rcases putF_mem hq with hq | rfl
          · exact h12.len q hq
          · simp only; omega
      · intro x hx
        simp only [List.mem_cons] at hx
        rcases hx with rfl | rfl | hx
        · left; simp
        · left; simp
        · rcases hS x hx with h | h
          · left; simp [h]
          · right; omega
      · intro x hx
        rcases List.mem_cons.1 hx with rfl | hx
        · right; omega
        · exact .inl hx
    have d2 : IntKind.i64.wrap (((readB D n).length : Int) + (bs.length : Int)) = ((N : Nat) : Int) := by rw [IntKind.wrap_i64]; omega
    rcases hfitN with hx | ⟨hx, d4⟩
    all_goals rw [hx] at hel
    all_goals first
      | simp -implicitDefEqProofs only [fun72, code72, params, go_sem, h1, hel, elm, w0, d1, d3, d4, Bool.not_true, Bool.not_false]
      | simp -implicitDefEqProofs only [fun72, code72, params, go_sem, h1, hel, elm, w0, d1, d3, Bool.not_true, Bool.not_false]
    all_goals refine WCall.mono h67 ?_
    all_goals rintro u s1 ⟨rfl, hnx, hp, ho⟩
    all_goals obtain ⟨g2, g4, g5, gR, gk⟩ := DRep.wrote h2 h3 h4 h5 h6 h7 h8 h9 h10 h11 h12 hnx hp ho (wF_range h12.first) (wG_range (f := D.first) h12.fails)
    all_goals cases hb' : wB D.first D.fails
    all_goals first
      | (simp -implicitDefEqProofs only [go_sem, Bool.not_false]
         refine ⟨by simp only [appE, hneg, hfull, hb', if_false, Bool.false_eq_true], gk.sub (by simp), _, _, ?_, fun x hx => .inl hx, fun x hx => .inl hx⟩
         simp only [appD, hneg, hfull, hb', if_false, Bool.false_eq_true]
         exact gR)
      | (obtain ⟨c0, c1, val, upd, nx, e1, e2, e3, e4, e5, e6, e7, ⟨va, vn, vc, rfl⟩, e9⟩ := tail s1 hnx hp ho
         have hpn : (p = s1.next) = False := by simp; omega
         have hpn1 : (p = s1.next + 1) = False := by simp; omega
         have hpm : (p = m) = False := by simpa using h6
         simp -implicitDefEqProofs only [go_sem, Bool.not_true, d2, e1, e2, e3, e4, e5, e6, e7, hp, hpn, hpn1, hpm, ev_buildSlice, fillL]
         refine ⟨by simp only [appE, hneg, hfull, hb', if_false, Bool.false_eq_true, if_true], ?_⟩
         simp only [appD, hneg, hfull, hb', if_false, Bool.false_eq_true, if_true]
         exact e9)
  · -- there is none
    have hfull' := hfull
    simp only [fullD, Bool.or_eq_true, Bool.and_eq_true, Bool.not_eq_true'] at hfull'
    have hcase : ((lookF D.F n).isSome = false ∧ decide ((D.F.length : Int) ≥ D.most) = true) ∨ ((lookF D.F n).isSome = true ∧ decide ((bs.length : Int) > 2048 - ((readB D n).length : Int)) = true) ∨ ((lookF D.F n).isSome = false ∧ decide ((D.F.length : Int) ≥ D.most) = false ∧ decide ((bs.length : Int) > 2048 - ((readB D n).length : Int)) = true) := by
      cases hx : (lookF D.F n).isSome
      · rw [hx] at hfull'
        cases hy : decide ((D.F.length : Int) ≥ D.most)
        · rw [hy] at hfull'
          exact .inr (.inr ⟨rfl, rfl, hfull'.resolve_left (by simp)⟩)
        · exact .inl ⟨rfl, rfl⟩
      · rw [hx] at hfull'
        exact .inr (.inl ⟨rfl, hfull'.resolve_left (by simp)⟩)
    have hfin : i64 5 = i64 (appE D n bs.length) ∧ Kept (p :: m :: S) s s ∧ ∃ O' V', DRep s p (appD D n bs) O' V' ∧ (∀ x ∈ O', x ∈ p :: m :: S ∨ s.next ≤ x) ∧ ∀ x ∈ V', x ∈ V ∨ s.next ≤ x :=
      ⟨by simp only [appE, hneg, hfull, if_false, if_true], Kept.refl _ _, _, _, by simp only [appD, hneg, hfull, if_false, if_true]; exact h0, fun x hx => .inl hx, fun x hx => .inl hx⟩
    rcases hcase with ⟨hx, d3⟩ | ⟨hx, d3⟩ | ⟨hx, d3, d4⟩
    · rw [hx] at hel
      simp -implicitDefEqProofs only [fun72, code72, params, go_sem, h1, hel, elm, w0, d1, d3, Bool.not_true, Bool.not_false]
      exact hfin
    · rw [hx] at hel
      simp -implicitDefEqProofs only [fun72, code72, params, go_sem, h1, hel, elm, w0, d1, d3, Bool.not_true, Bool.not_false]
      exact hfin
    · rw [hx] at hel
      simp -implicitDefEqProofs only [fun72, code72, params, go_sem, h1, hel, elm, w0, d1, d3, d4, Bool.not_true, Bool.not_false]
      exact hfin
end

end Go.Proofs.YtehgdocbabaldaaGreat
