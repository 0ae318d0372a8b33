/-
  A log as it lies; apply, Next, Until, Size.
-/
import Derived.Test.YtehgdocbabaldaaGreatFF11
import Derived.Test.YtehgdocbabaldaaGreatA51
set_option maxRecDepth 100000
set_option linter.unusedVariables false
set_option linter.unusedSimpArgs false
namespace Go.Proofs.YtehgdocbabaldaaGreat
open Go Go.Abs Go.Abs.K

structure RQ where
  id : Int
  host : ByteArray
  path : ByteArray
  prio : Int
  till : Int

def RQ.cells (r : RQ) : List Value := [i64 r.id, .string r.host, .string r.path, i64 r.prio, i64 r.till]
abbrev RQ.val (r : RQ) : Value := .agg r.cells.toArray
def RQ.toF (r : RQ) (k : Int) : FRec := ⟨k, r.id, r.host, r.path, r.prio, r.till⟩
structure RQ.Wide (r : RQ) : Prop where
  id : W64 r.id
  prio : W64 r.prio
  till : W64 r.till

abbrev ekI : Int → Value := fun n => .int .i64 n
abbrev ekS : ByteArray → Value := fun b => .string b
abbrev KStr : Value → Prop := fun v => ∃ n, v = .string n

structure LM where
  most : Int
  last : Int
  next : Int
  live : List (Int × RQ)
  wait : List (ByteArray × Int)

structure LW (L : LM) : Prop where
  most : W64 L.most
  last : W64 L.last
  next : W64 L.next
  live : ∀ q ∈ L.live, W64 q.1 ∧ q.2.Wide
  wait : ∀ q ∈ L.wait, W64 q.2 ∧ q.1.size ≤ 4611686018427387904

def LRep (s : St) (l p : Nat) (L : LM) (O : List Nat) : Prop := ∃ ml mw es c es' c', s.heap.get l = some (.cells [ptr p, i64 L.most, i64 L.last, .map (some ml), .map (some mw), i64 L.next] 61 0 false) ∧ O = [l, ml, mw] ∧
  s.heap.get ml = some (.map es c) ∧ MOK KInt es c ∧ GR ekI RQ.val es L.live ∧ s.heap.get mw = some (.map es' c') ∧ MOK KStr es' c' ∧ GR ekS ekI es' L.wait ∧
  l ≠ ml ∧ l ≠ mw ∧ ml ≠ mw ∧ l < s.next ∧ ml < s.next ∧ mw < s.next ∧ LW L

theorem LRep.kept {s s' : St} {l p : Nat} {L : LM} {O T : List Nat} (h : LRep s l p L O) (hk : Kept T s s') (hO : ∀ x ∈ O, x ∉ T) : LRep s' l p L O := by
  obtain ⟨ml, mw, es, c, es', c', h1, rfl, h2, h3, h4, h5, h6, h7, h8, h9, h10, h11, h12, h13, h14⟩ := h
  refine ⟨ml, mw, es, c, es', c', ?_, rfl, ?_, h3, h4, ?_, h6, h7, h8, h9, h10, Nat.lt_of_lt_of_le h11 hk.1, Nat.lt_of_lt_of_le h12 hk.1, Nat.lt_of_lt_of_le h13 hk.1, h14⟩
  · rw [hk.2 l h11 (hO l (by simp))]; exact h1
  · rw [hk.2 ml h12 (hO ml (by simp))]; exact h2
  · rw [hk.2 mw h13 (hO mw (by simp))]; exact h5
theorem LRep.lt {s : St} {l p : Nat} {L : LM} {O : List Nat} (h : LRep s l p L O) : ∀ x ∈ O, x < s.next := by
  obtain ⟨ml, mw, es, c, es', c', h1, rfl, h2, h3, h4, h5, h6, h7, h8, h9, h10, h11, h12, h13, h14⟩ := h
  intro x hx
  simp only [List.mem_cons, List.not_mem_nil, or_false] at hx
  rcases hx with rfl | rfl | rfl
  · exact h11
  · exact h12
  · exact h13
theorem LRep.wide {s : St} {l p : Nat} {L : LM} {O : List Nat} (h : LRep s l p L O) : LW L := by
  obtain ⟨ml, mw, es, c, es', c', h1, rfl, h2, h3, h4, h5, h6, h7, h8, h9, h10, h11, h12, h13, h14⟩ := h
  exact h14
theorem LRep.nodup {s : St} {l p : Nat} {L : LM} {O : List Nat} (h : LRep s l p L O) : (L.live.map fun q => q.1).Nodup ∧ (L.wait.map fun q => q.1).Nodup := by
  obtain ⟨ml, mw, es, c, es', c', h1, rfl, h2, h3, h4, h5, h6, h7, h8, h9, h10, h11, h12, h13, h14⟩ := h
  exact ⟨gr_nodup h4 h3, gr_nodup h7 h6⟩

theorem ev_max (g : Nat → Option AObj) (nx : Nat) (a b : Int) : evP g nx (.minmax true [i64 a, i64 b]) = some ⟨i64 (max a b), [], nx⟩ := by
  simp only [evP, minmaxV, if_true, Option.map_some]
  congr 3
  by_cases h : b > a
  · rw [if_pos h]; omega
  · rw [if_neg h]; omega

theorem kindI : Kind .int KInt := kind_int .i64
theorem kindS : Kind .string KStr := kind_string

structure STbl (tbl : FuncId → Option AFun) : Prop where
  t6 : tbl 6 = some fun6
  t10 : tbl 10 = some fun10
  t50 : tbl 50 = some fun50
  t89 : tbl 89 = some fun89
  t27 : tbl 27 = some fun27
  t28 : tbl 28 = some fun28
  t73 : tbl 73 = some fun73
  t74 : tbl 74 = some fun74
  t75 : tbl 75 = some fun75
  t76 : tbl 76 = some fun76
  t105 : tbl 105 = none
  t49 : tbl 49 = some fun49
  t88 : tbl 88 = none
  t71 : tbl 71 = some fun71
  t87 : tbl 87 = some fun87
  d : DTbl tbl
  f : FrameTbl tbl

structure OvS (ov : CallSem) : Prop where
  o : OvOK ov
  keysI : ∀ v s, ov 105 [v] s = keysSem 105 3 encZ keysZ sortZ 105 [v] s
  keysS : ∀ v s, ov 88 [v] s = keysSem 88 9 encStr keysT sortS 88 [v] s

section
variable {tbl : FuncId → Option AFun} {ov : CallSem} {s : St} (T : STbl tbl)
include T

end
end Go.Proofs.YtehgdocbabaldaaGreat


/-
  slices.Index, slices.Contains at numbers; write.
-/
set_option maxRecDepth 100000
set_option linter.unusedVariables false
set_option linter.unusedSimpArgs false
namespace Go.Proofs.YtehgdocbabaldaaGreat
open Go Go.Abs Go.Abs.K

abbrev intsR (zs : List Int) : List (List Value) := zs.map fun k => [i64 k]

def idxZ (g : Int) : List Int → Option Nat
  | [] => none
  | z :: l => if z = g then some 0 else (idxZ g l).map (· + 1)

theorem idxZ_take {g : Int} : ∀ {L : List Int} {i : Nat} {w : Int}, L[i]? = some w → idxZ g (L.take i) = none → w ≠ g → idxZ g (L.take (i + 1)) = none := by
  intro L
  induction L with
  | nil => intro i w h; simp at h
  | cons z L ih =>
    intro i w h h1 h2
    cases i with
    | zero =>
      simp only [List.getElem?_cons_zero, Option.some.injEq] at h
      subst h
      simp [idxZ, h2]
    | succ i =>
      simp only [List.getElem?_cons_succ] at h
      simp only [List.take_succ_cons, idxZ] at h1 ⊢
      split at h1
      · cases h1
      · rename_i hz
        rw [if_neg hz]
        simp only [Option.map_eq_none_iff] at h1 ⊢
        exact ih h h1 h2
theorem idxZ_hit {g : Int} : ∀ {L : List Int} {i : Nat} {w : Int}, L[i]? = some w → idxZ g (L.take i) = none → w = g → idxZ g L = some i := by
  intro L
  induction L with
  | nil => intro i w h; simp at h
  | cons z L ih =>
    intro i w h h1 h2
    cases i with
    | zero =>
      simp only [List.getElem?_cons_zero, Option.some.injEq] at h
      subst h
      simp [idxZ, h2]
    | succ i =>
      simp only [List.getElem?_cons_succ] at h
      simp only [List.take_succ_cons, idxZ] at h1 ⊢
      split at h1
      · cases h1
      · rename_i hz
        rw [if_neg hz]
        simp only [Option.map_eq_none_iff] at h1
        rw [ih h h1 h2]; rfl
theorem idxZ_none {g : Int} {L : List Int} : idxZ g L = none ↔ g ∉ L := by
  induction L with
  | nil => simp [idxZ]
  | cons z L ih =>
    simp only [idxZ]
    split
    · rename_i h; simp [h]
    · rename_i h
      have : ¬ g = z := fun e => h e.symm
      simp [ih, this]

section
variable {tbl : FuncId → Option AFun} {ov : CallSem} {s : St} (T : STbl tbl)
include T

theorem q87 {lv : Value} {L : List Int} {g : Int} (hr : RowV 1 s lv (intsR L)) (hn : L.length < 2 ^ 40) (K : Value → St → Prop) :
    WCall (fun k => call tbl ov k) 87 [lv, i64 g] s K = K (i64 (posV (idxZ g L))) s := by
  refine WCall.eq (WCall.of T.t87 rfl ?_) K
  obtain ⟨a, cap, hlv⟩ := hr.len
  rw [List.length_map] at hlv
  subst hlv
  simp -implicitDefEqProofs only [fun87, code87, params, go_sem]
  obtain ⟨I, hI⟩ : ∃ I : Nat → List Value → St → Prop, I = fun m vs s' => s' = s ∧ ∃ i, i ≤ L.length ∧ m = L.length - i ∧ vs = [.slice a L.length cap, i64 g, i64 (L.length : Nat), i64 (i : Nat)] ∧ idxZ g (L.take i) = none := ⟨_, rfl⟩
  refine wc_loopV I L.length ?_ ?_
  · simp -implicitDefEqProofs only [go_sem]
    rw [hI]
    exact ⟨rfl, 0, by omega, by omega, rfl, rfl⟩
  · intro m vs s1 hi _
    rw [hI] at hi
    obtain ⟨rfl, i, hil, rfl, rfl, hx⟩ := hi
    cases hlt : decide ((i : Int) < (L.length : Int))
    · have hie : i = L.length := by have := of_decide_eq_false hlt; omega
      subst hie
      rw [List.take_length] at hx
      simp -implicitDefEqProofs only [go_sem, hlt, hx, posV]
    · have hiN : i < L.length := by have := of_decide_eq_true hlt; omega
      obtain ⟨id, o, cap', c, T', ro, hv, hid, hg, hle, hrw, hget⟩ := row_read hr (i := i) (by simpa using hiN)
      rw [List.length_map] at hv
      cases hv
      obtain ⟨w, hw⟩ : ∃ w, L[i]? = some w := ⟨_, List.getElem?_eq_getElem hiN⟩
      have hgw : (intsR L).getD i [] = [i64 w] := by rw [List.getD_eq_getElem?_getD, List.getElem?_map, hw]; rfl
      have hgi : c[o + i]? = some (i64 w) := by
        have := hget 0 (by omega)
        rw [hgw, Nat.mul_one, Nat.add_zero] at this
        rw [this]; rfl
      have hix : 0 ≤ (i : Int) ∧ (i : Int) < (L.length : Int) := by omega
      have w4 : IntKind.i64.wrap ((i : Int) + 1) = ((i + 1 : Nat) : Int) := by rw [IntKind.wrap_i64]; omega
      cases hq : (g == w)
      · simp -implicitDefEqProofs only [go_sem, hlt, hix, hg, hgi, Nat.add_zero, hq, w4]
        rw [hI]
        exact ⟨L.length - (i + 1), by omega, rfl, i + 1, by omega, rfl, rfl, idxZ_take hw hx (fun e => by simp [e] at hq)⟩
      · have := idxZ_hit hw hx (by simpa using (beq_iff_eq.1 hq).symm)
        simp -implicitDefEqProofs only [go_sem, hlt, hix, hg, hgi, Nat.add_zero, hq, this, posV]

theorem q71 {lv : Value} {L : List Int} {g : Int} (hr : RowV 1 s lv (intsR L)) (hn : L.length < 2 ^ 40) (K : Value → St → Prop) :
    WCall (fun k => call tbl ov k) 71 [lv, i64 g] s K = K (.bool (decide (g ∈ L))) s := by
  refine WCall.eq (WCall.of T.t71 rfl ?_) K
  have e64 := fun K => q87 (ov := ov) T (g := g) hr hn K
  have hd : decide (posV (idxZ g L) ≥ 0) = decide (g ∈ L) := by
    cases hx : idxZ g L with
    | none =>
      have := idxZ_none.1 hx
      simp [posV, this]
    | some i =>
      have : g ∈ L := Decidable.byContradiction fun h => by rw [idxZ_none.2 h] at hx; cases hx
      simp [posV, this]
  simp -implicitDefEqProofs only [fun71, code71, params, go_sem, e64, hd]
end
end Go.Proofs.YtehgdocbabaldaaGreat


/-
  write: bytes into the segment that is written, or the next one.
-/
set_option maxRecDepth 100000
set_option linter.unusedVariables false
set_option linter.unusedSimpArgs false
namespace Go.Proofs.YtehgdocbabaldaaGreat
open Go Go.Abs Go.Abs.K

theorem apart_one {f g : Foot} {fs : List Foot} {i j : Nat} (hf : fs[i]? = some f) (hg : fs[j]? = some g) (hn : g.after.next = g.before.next) (hr : ∀ id ∈ g.rd, f.after.heap.get id = f.before.heap.get id) : apartAt fs (i, j) := by
  intro f' g' h1 h2 id hid
  simp only at h1 h2
  rw [hf] at h1
  rw [hg] at h2
  cases h1; cases h2
  rcases hid with h | h
  · exact hr id h
  · omega
theorem apart_none {f : Foot} {fs : List Foot} {i j : Nat} (hf : fs[i]? = some f) (hq : f.after = f.before) : apartAt fs (i, j) := by
  intro f' g' h1 h2 id hid
  simp only at h1
  rw [hf] at h1
  cases h1
  rw [hq]

structure SRep (s : St) (l p : Nat) (D : DM) (L : LM) (O OD V : List Nat) : Prop where
  l : LRep s l p L O
  d : DRep s p D OD V
  dis : ∀ x ∈ O, x ∉ OD ∧ x ∉ V

theorem SRep.kept {s s' : St} {l p : Nat} {D : DM} {L : LM} {O OD V T : List Nat} (h : SRep s l p D L O OD V) (hk : Kept T s s') (h1 : ∀ x ∈ O, x ∉ T) (h2 : ∀ x ∈ OD, x ∉ T) (h3 : ∀ x ∈ V, x ∉ T) : SRep s' l p D L O OD V :=
  ⟨h.l.kept hk h1, h.d.kept hk h2 h3, h.dis⟩

def wrL (D : DM) (L : LM) (k : Nat) : LM := if (k : Int) > 2048 - ((readB D L.last).length : Int) then { L with last := L.last + 1 } else L
def noRoom (D : DM) (L : LM) : Bool := !decide (L.last ∈ keysF D) && decide (((keysF D).length : Int) ≥ L.most)
def wrE (D : DM) (L : LM) (k : Nat) : Int := if noRoom D (wrL D L k) then 5 else appE D (wrL D L k).last k
def wrD (D : DM) (L : LM) (bs : List Int) : DM := if noRoom D (wrL D L bs.length) then D else appD D (wrL D L bs.length).last bs

def a49 : ACode := match code49 with | .seq x _ => x | _ => .skip
def b49 : ACode := match code49 with | .seq _ (.seq x _) => x | _ => .skip
def c49 : ACode := match code49 with | .seq _ (.seq _ (.seq x _)) => x | _ => .skip
def tail49 : ACode := match code49 with | .seq _ (.seq _ (.seq _ x)) => x | _ => .skip
theorem code49_eq : code49 = .seq a49 (.seq b49 (.seq c49 tail49)) := rfl

section
variable {tbl : FuncId → Option AFun} {ov : CallSem} {s : St} (T : STbl tbl)
include T

theorem tail49_spec (ho : OvS ov) {l p : Nat} {D : DM} {L : LM} {O OD V : List Nat} {bv : Value} {bs : List Int} {e : Env} (h : SRep s l p D L O OD V) (hb : BytesV s bv bs) (hbO : ∀ id o l c, bv = .slice (some ⟨id, o, none⟩) l c → id ∉ OD) (hll : D.loose.length < 2 ^ 20)
    (g0 : e.get 0 = some (ptr l)) (g1 : e.get 1 = some bv) :
    WCode (fun k => call tbl ov k) tail49 e s fun x e' s' => x = .ret ∧ e'.get 4 = some (i64 (if noRoom D L then 5 else appE D L.last bs.length)) ∧ Kept OD s s' ∧ ∃ OD' V', SRep s' l p (if noRoom D L then D else appD D L.last bs) L O OD' V' ∧ (∀ x ∈ OD', x ∈ OD ∨ s.next ≤ x) ∧ ∀ x ∈ V', x ∈ V ∨ s.next ≤ x := by
  have hW := h.l.wide
  have hL := h.l
  obtain ⟨ml, mw, es, c, es', c', h1, rfl, h2, h3, h4, h5, h6, h7, h8, h9, h10, h11, h12, h13, h14⟩ := hL
  have hlen : (keysF D).length < 2 ^ 40 := by
    have := h.d
    obtain ⟨m, lv, S, es, clock, _, _, _, _, _, _, _, _, _, _, _, _, hw⟩ := this
    have := hw.fit; have := hw.most
    simp only [sortZ_length, List.length_map]; omega
  simp -implicitDefEqProofs only [tail49, code49, go_sem, g0, h1]
  refine WCall.mono (p24 (ov := ov) T.d ho.o h.d) ?_
  rintro u s1 ⟨hr1, hk1, _⟩
  have h11' : s1.heap.get l = _ := (hk1.2 l h11 (by simp)).trans h1
  have e55 := fun K => q71 (ov := ov) T (g := L.last) hr1 hlen K
  simp -implicitDefEqProofs only [go_sem, g0, h11', e55]
  have hS1 := h.kept hk1 (by simp) (by simp) (by simp)
  have hb1 := hb.kept hk1
  have fin : ∀ s2, Kept [] s s2 → noRoom D L = false → WCall (fun k => call tbl ov k) 72 [ptr p, i64 L.last, bv] s2 fun u s' => u = i64 (appE D L.last bs.length) ∧ Kept OD s s' ∧ ∃ OD' V', SRep s' l p (appD D L.last bs) L [l, ml, mw] OD' V' ∧ (∀ x ∈ OD', x ∈ OD ∨ s.next ≤ x) ∧ ∀ x ∈ V', x ∈ V ∨ s.next ≤ x := by
    intro s2 hk2 _
    have hS2 := h.kept hk2 (by simp) (by simp) (by simp)
    refine WCall.mono (p72 (ov := ov) T.d hS2.d (hb.kept hk2) hbO hW.last hll) ?_
    rintro u s3 ⟨rfl, hk3, OD', V', hd3, hO3, hV3⟩
    have hn := hk2.1
    refine ⟨rfl, (hk2.sub (T := OD) (by simp)).comp hk3 (fun x hx => .inl hx), OD', V', ⟨hS2.l.kept hk3 fun x hx => (h.dis x hx).1, hd3, fun x hx => ⟨fun hx' => ?_, fun hx' => ?_⟩⟩, fun x hx => (hO3 x hx).imp_right fun h => by omega, fun x hx => (hV3 x hx).imp_right fun h => by omega⟩
    · rcases hO3 x hx' with h' | h'
      · exact (h.dis x hx).1 h'
      · have := hS2.l.lt x hx; omega
    · rcases hV3 x hx' with h' | h'
      · exact (h.dis x hx).2 h'
      · have := hS2.l.lt x hx; omega
  by_cases hc : L.last ∈ keysF D
  · have d1 : decide (L.last ∈ keysF D) = true := decide_eq_true hc
    have hnr : noRoom D L = false := by simp only [noRoom, d1, Bool.not_true, Bool.false_and]
    rw [hnr]
    simp -implicitDefEqProofs only [go_sem, g0, g1, h11', d1, Bool.false_eq_true]
    refine ⟨?_, ?_⟩
    · intro y hy
      simp only [List.mem_cons, List.not_mem_nil, or_false] at hy
      rcases hy with rfl | rfl
      · exact apart_one rfl rfl rfl fun id' hid' => by rw [List.mem_singleton.1 hid']; exact h11'.trans h1.symm
      · exact apart_none rfl rfl
    · refine WCall.mono (fin s1 hk1 hnr) ?_
      rintro u s2 ⟨rfl, hx⟩
      simp -implicitDefEqProofs only [go_sem]
      exact hx
  · have d1 : decide (L.last ∈ keysF D) = false := decide_eq_false hc
    simp -implicitDefEqProofs only [go_sem, g0, g1, h11', d1]
    refine WCall.mono (p24 (ov := ov) T.d ho.o hS1.d) ?_
    rintro u2 s2 ⟨hr2, hk2, _⟩
    have h11'' : s2.heap.get l = _ := (hk2.2 l (hS1.l.lt l (by simp)) (by simp)).trans h11'
    obtain ⟨a2, cap2, hlv⟩ := hr2.len
    rw [List.length_map] at hlv
    subst hlv
    have hS2 := hS1.kept hk2 (by simp) (by simp) (by simp)
    have hk02 := hk1.trans hk2
    cases hge : decide (((keysF D).length : Int) ≥ L.most)
    · have hnr : noRoom D L = false := by simp only [noRoom, d1, hge, Bool.and_false]
      rw [hnr]
      simp -implicitDefEqProofs only [go_sem, g0, g1, h11'', hge, Bool.false_eq_true]
      refine ⟨?_, ?_⟩
      · intro y hy
        simp only [List.mem_cons, List.not_mem_nil, or_false] at hy
        rcases hy with rfl | rfl
        · exact apart_one rfl rfl rfl fun id' hid' => by rw [List.mem_singleton.1 hid']; exact h11'.trans h1.symm
        · exact apart_one rfl rfl rfl fun id' hid' => by rw [List.mem_singleton.1 hid']; exact h11''.trans h11'.symm
      · refine WCall.mono (fin s2 hk02 hnr) ?_
        rintro u s2 ⟨rfl, hx⟩
        simp -implicitDefEqProofs only [go_sem]
        exact hx
    · have hnr : noRoom D L = true := by simp only [noRoom, d1, hge, Bool.not_false, Bool.true_and]
      rw [hnr]
      simp -implicitDefEqProofs only [go_sem, g0, g1, h11'', hge]
      refine ⟨?_, ?_⟩
      · intro y hy
        simp only [List.mem_cons, List.not_mem_nil, or_false] at hy
        rcases hy with rfl | rfl
        · exact apart_one rfl rfl rfl fun id' hid' => by rw [List.mem_singleton.1 hid']; exact h11'.trans h1.symm
        · exact apart_one rfl rfl rfl fun id' hid' => by rw [List.mem_singleton.1 hid']; exact h11''.trans h11'.symm
      · exact ⟨hk02.sub (by simp), OD, V, hS2, fun x hx => .inl hx, fun x hx => .inl hx⟩

theorem q49 (ho : OvS ov) {l p : Nat} {D : DM} {L : LM} {O OD V : List Nat} {bv : Value} {bs : List Int} (h : SRep s l p D L O OD V) (hb : BytesV s bv bs) (hbO : ∀ id o l c, bv = .slice (some ⟨id, o, none⟩) l c → id ∉ OD ∧ id ∉ O) (hll : D.loose.length < 2 ^ 20)
    (hla : L.last < 9223372036854775807) (hbl : bs.length < 2 ^ 40) :
    WCall (fun k => call tbl ov k) 49 [ptr l, bv] s fun u s' => u = i64 (wrE D L bs.length) ∧ Kept (O ++ OD) s s' ∧ ∃ OD' V', SRep s' l p (wrD D L bs) (wrL D L bs.length) O OD' V' ∧ (∀ x ∈ OD', x ∈ OD ∨ s.next ≤ x) ∧ ∀ x ∈ V', x ∈ V ∨ s.next ≤ x := by
  refine WCall.of T.t49 rfl ?_
  have hW := h.l.wide
  have hL := h.l
  have hcode : fun49.body = .seq a49 (.seq b49 (.seq c49 tail49)) := code49_eq
  rw [hcode, show fun49.res = [.tmp 4] from rfl]
  obtain ⟨ml, mw, es, c, es', c', h1, rfl, h2, h3, h4, h5, h6, h7, h8, h9, h10, h11, h12, h13, h14⟩ := hL
  obtain ⟨ba, bc, hbv⟩ := hb.len
  simp -implicitDefEqProofs only [a49, b49, c49, code49, params, go_sem, h1]
  refine WCall.mono (p25 (ov := ov) (n := L.last) T.d h.d) ?_
  rintro u s1 ⟨v, rfl, hv, hk1, hnv⟩
  have hS1 := h.kept hk1 (by simp) (by simp) (by simp)
  have h1' : s1.heap.get l = _ := (hk1.2 l h11 (by simp)).trans h1
  obtain ⟨va, vc, rfl⟩ := hv.len
  have hb1 := hb.kept hk1
  have hrl : (readB D L.last).length ≤ 2048 := by
    obtain ⟨m, lv, S, es, clock, _, _, _, _, _, _, _, _, _, _, _, _, hw⟩ := h.d
    unfold readB
    cases hx : lookF D.F L.last with
    | none => simp
    | some b => exact hw.len _ (lookF_mem hx)
  have w1 : IntKind.i64.wrap (2048 - ((readB D L.last).length : Int)) = 2048 - ((readB D L.last).length : Int) := by rw [IntKind.wrap_i64]; omega
  have w2 : IntKind.i64.wrap (L.last + 1) = L.last + 1 := by have := hW.last; unfold W64 at this; rw [IntKind.wrap_i64]; omega
  subst hbv
  cases hgt : decide ((bs.length : Int) > 2048 - ((readB D L.last).length : Int))
  · have hng := of_decide_eq_false hgt
    have hwl : wrL D L bs.length = L := by unfold wrL; rw [if_neg hng]
    simp -implicitDefEqProofs only [go_sem, h1', w1, hgt]
    refine WCode.mono ?_ (tail49_spec (bs := bs) (bv := .slice ba bs.length bc) T ho hS1 hb1 (fun id o l c e => (hbO id o l c e).1) hll rfl rfl)
    rintro x e' s' ⟨rfl, g4, hk, OD', V', hS, hO, hV⟩
    have hn1 := hk1.1
    simp -implicitDefEqProofs only [go_sem, g4]
    unfold wrE wrD
    rw [hwl]
    exact ⟨rfl, (hk1.sub (T := [l, ml, mw] ++ OD) (by simp)).comp hk (fun x hx => .inl (List.mem_append_right _ hx)), OD', V', hS, fun x hx => (hO x hx).imp_right fun h => by omega, fun x hx => (hV x hx).imp_right fun h => by omega⟩
  · have hg := of_decide_eq_true hgt
    have hwl : wrL D L bs.length = { L with last := L.last + 1 } := by unfold wrL; rw [if_pos hg]
    simp -implicitDefEqProofs only [go_sem, h1', w1, hgt, w2]
    have n1 : ¬ ml = l := fun e => h8 e.symm
    have n2 : ¬ mw = l := fun e => h9 e.symm
    have hk2 : Kept [l] s1 ⟨s1.heap.put l (some (.cells [ptr p, i64 L.most, i64 (L.last + 1), .map (some ml), .map (some mw), i64 L.next] 61 0 false)), s1.next⟩ := kept_put1 (Nat.le_refl _)
    have hlx : ∀ x ∈ OD, x ∉ [l] := fun x hx e => by rw [List.mem_singleton.1 e] at hx; exact (h.dis l (by simp)).1 hx
    have hlv : ∀ x ∈ V, x ∉ [l] := fun x hx e => by rw [List.mem_singleton.1 e] at hx; exact (h.dis l (by simp)).2 hx
    have hn1 := hk1.1
    have hS2 : SRep ⟨s1.heap.put l (some (.cells [ptr p, i64 L.most, i64 (L.last + 1), .map (some ml), .map (some mw), i64 L.next] 61 0 false)), s1.next⟩ l p D { L with last := L.last + 1 } [l, ml, mw] OD V :=
      ⟨⟨ml, mw, es, c, es', c', by simp only [Heap.get_put, if_true], rfl, by simp only [Heap.get_put, n1, if_false]; rw [hk1.2 ml h12 (by simp)]; exact h2, h3, h4, by simp only [Heap.get_put, n2, if_false]; rw [hk1.2 mw h13 (by simp)]; exact h5, h6, h7, h8, h9, h10, by simp only; omega, by simp only; omega, by simp only; omega,
        ⟨h14.most, by have := h14.last; unfold W64 at *; simp only; omega, h14.next, h14.live, h14.wait⟩⟩, hS1.d.kept hk2 hlx hlv, h.dis⟩
    have hb2 : BytesV ⟨s1.heap.put l (some (.cells [ptr p, i64 L.most, i64 (L.last + 1), .map (some ml), .map (some mw), i64 L.next] 61 0 false)), s1.next⟩ (.slice ba bs.length bc) bs :=
      BytesV.kept' (t := 0) (w := undefV) (zs := bs) (ws := []) hb1 hk2 (fun id o n c e h => (hbO id o n c e).2 (by rw [List.mem_singleton.1 h]; simp))
    refine WCode.mono ?_ (tail49_spec (bs := bs) (bv := .slice ba bs.length bc) T ho hS2 hb2 (fun id o l c e => (hbO id o l c e).1) hll rfl rfl)
    rintro x e' s' ⟨rfl, g4, hk, OD', V', hS, hO, hV⟩
    simp -implicitDefEqProofs only [go_sem, g4]
    unfold wrE wrD
    rw [hwl]
    refine ⟨rfl, ((hk1.sub (T := [l, ml, mw] ++ OD) (by simp)).comp hk2 (fun x hx => .inl (by rw [List.mem_singleton.1 hx]; simp))).comp hk (fun x hx => .inl (List.mem_append_right _ hx)), OD', V', hS, fun x hx => (hO x hx).imp_right fun h => ?_, fun x hx => (hV x hx).imp_right fun h => ?_⟩
    · simp only at h; omega
    · simp only at h; omega
end
end Go.Proofs.YtehgdocbabaldaaGreat
