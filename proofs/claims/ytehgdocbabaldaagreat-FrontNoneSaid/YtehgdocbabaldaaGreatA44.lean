/-
  slices.Sorted(maps.Keys(m)) at keys of the kind int: a call whose answer is known.
-/
import Derived.Test.YtehgdocbabaldaaGreatA41
import Derived.Shelf.SlIterI.Nil
import Derived.Shelf.SortM.Plain
import Derived.Shelf.SortM.SortNone
set_option linter.unusedVariables false
set_option linter.unusedSimpArgs false
set_option maxRecDepth 100000
namespace Go.Abs
open Go Go.Abs.K Go.RowKit Go.ChangeShapes Go.WideShapes

/-! ### Sorting -/
def insZ (x : Int) : List Int → List Int
  | [] => [x]
  | y :: l => if x ≤ y then x :: y :: l else y :: insZ x l
def sortZ : List Int → List Int
  | [] => []
  | x :: l => insZ x (sortZ l)

theorem insZ_perm (x : Int) (l : List Int) : (insZ x l).Perm (x :: l) := by
  induction l with
  | nil => exact .refl _
  | cons y l ih =>
    unfold insZ
    split
    · exact .refl _
    · exact (ih.cons y).trans (.swap x y l)
theorem sortZ_perm (l : List Int) : (sortZ l).Perm l := by
  induction l with
  | nil => exact .refl _
  | cons x l ih => exact (insZ_perm x _).trans (ih.cons x)
theorem insZ_sorted {x : Int} {l : List Int} (h : l.Pairwise (· ≤ ·)) : (insZ x l).Pairwise (· ≤ ·) := by
  induction l with
  | nil => simp [insZ]
  | cons y l ih =>
    have h2 := List.pairwise_cons.1 h
    unfold insZ
    split
    · rename_i hxy
      refine List.pairwise_cons.2 ⟨fun z hz => ?_, h⟩
      rcases List.mem_cons.1 hz with rfl | hz
      · exact hxy
      · exact Int.le_trans hxy (h2.1 z hz)
    · rename_i hxy
      refine List.pairwise_cons.2 ⟨fun z hz => ?_, ih h2.2⟩
      rcases List.mem_cons.1 ((insZ_perm x l).mem_iff.1 hz) with rfl | hz
      · omega
      · exact h2.1 z hz
theorem sortZ_sorted (l : List Int) : (sortZ l).Pairwise (· ≤ ·) := by
  induction l with
  | nil => exact .nil
  | cons x l ih => exact insZ_sorted ih
theorem sortZ_length (l : List Int) : (sortZ l).length = l.length := (sortZ_perm l).length_eq
theorem sorted_unique {a b : List Int} (hp : a.Perm b) (ha : a.Pairwise (· ≤ ·)) (hb : b.Pairwise (· ≤ ·)) : a = b :=
  hp.eq_of_pairwise (fun x y _ _ h1 h2 => Int.le_antisymm h1 h2) ha hb
theorem merge_sortZ {a b : List Int} (hp : a.Perm b) : a.mergeSort (fun x y => decide (x ≤ y)) = sortZ b := by
  refine sorted_unique ((List.mergeSort_perm a _).trans (hp.trans (sortZ_perm b).symm)) ?_ (sortZ_sorted b)
  have := List.pairwise_mergeSort (le := fun x y : Int => decide (x ≤ y)) (fun a b c h1 h2 => by simp only [decide_eq_true_eq] at *; omega) (fun a b => by simp only [Bool.or_eq_true, decide_eq_true_eq]; omega) a
  exact this.imp fun h => by simpa using h

/-! ### What such a map must be -/
def keyInt : Value → Option Int
  | .int .i64 n => if decide (-9223372036854775808 ≤ n) && decide (n < 9223372036854775808) then some n else none
  | _ => none
def keysInt : List MapEntry → Option (List Int)
  | [] => some []
  | e :: es => (keyInt e.key).bind fun n => (keysInt es).map fun l => n :: l
def freshZ : List Int → Bool
  | [] => true
  | x :: l => l.all (fun y => decide (x ≠ y)) && freshZ l
def freshN : List Nat → Bool
  | [] => true
  | x :: l => l.all (fun y => decide (x ≠ y)) && freshN l
theorem freshZ_nodup {l : List Int} (h : freshZ l = true) : l.Nodup := by
  induction l with
  | nil => exact .nil
  | cons x l ih =>
    simp only [freshZ, Bool.and_eq_true, List.all_eq_true, decide_eq_true_eq] at h
    exact List.nodup_cons.2 ⟨fun hm => h.1 x hm rfl, ih h.2⟩
theorem freshN_nodup {l : List Nat} (h : freshN l = true) : l.Nodup := by
  induction l with
  | nil => exact .nil
  | cons x l ih =>
    simp only [freshN, Bool.and_eq_true, List.all_eq_true, decide_eq_true_eq] at h
    exact List.nodup_cons.2 ⟨fun hm => h.1 x hm rfl, ih h.2⟩
theorem nodup_freshZ {l : List Int} (h : l.Nodup) : freshZ l = true := by
  induction l with
  | nil => rfl
  | cons x l ih =>
    have h := List.nodup_cons.1 h
    simp only [freshZ, Bool.and_eq_true, List.all_eq_true, decide_eq_true_eq]
    exact ⟨fun y hy e => h.1 (e ▸ hy), ih h.2⟩
theorem nodup_freshN {l : List Nat} (h : l.Nodup) : freshN l = true := by
  induction l with
  | nil => rfl
  | cons x l ih =>
    have h := List.nodup_cons.1 h
    simp only [freshN, Bool.and_eq_true, List.all_eq_true, decide_eq_true_eq]
    exact ⟨fun y hy e => h.1 (e ▸ hy), ih h.2⟩

theorem keyInt_some {v : Value} {n : Int} (h : keyInt v = some n) : v = .int .i64 n ∧ -9223372036854775808 ≤ n ∧ n < 9223372036854775808 := by
  unfold keyInt at h
  split at h
  · split at h
    · rename_i hc
      simp only [Bool.and_eq_true, decide_eq_true_eq] at hc
      cases h; exact ⟨rfl, hc.1, hc.2⟩
    · cases h
  · cases h
theorem keysInt_some : ∀ {es : List MapEntry} {l : List Int}, keysInt es = some l → es.map (fun e => e.key) = l.map (fun n => Value.int .i64 n) ∧ ∀ n ∈ l, -9223372036854775808 ≤ n ∧ n < 9223372036854775808 := by
  intro es
  induction es with
  | nil => intro l h; simp only [keysInt, Option.some.injEq] at h; subst h; simp
  | cons e es ih =>
    intro l h
    simp only [keysInt, Option.bind_eq_some_iff, Option.map_eq_some_iff] at h
    obtain ⟨n, hn, l', hl, rfl⟩ := h
    obtain ⟨h1, h2⟩ := ih hl
    obtain ⟨k1, k2, k3⟩ := keyInt_some hn
    exact ⟨by simp [h1, k1], fun m hm => (List.mem_cons.1 hm).elim (fun e => e ▸ ⟨k2, k3⟩) (h2 m)⟩

/-- The map that a function value holds in its one cell. -/
def seqMap (s : St) (fK : FuncId) : Value → Option (List MapEntry × Nat)
  | .func (.func g) a c =>
    if g = fK then
      match a.toList, c.toList with
      | [], [.pointer (some ⟨b, 0, none⟩)] =>
        match s.heap.get b with
        | some (.cells [.map (some m)] _ 0 false) => match s.heap.get m with | some (.map es clock) => some (es, clock) | _ => none
        | _ => none
      | _, _ => none
    else none
  | _ => none

def keysFit (es : List MapEntry) (clock : Nat) (l : List Int) : Bool :=
  es.all (fun e => decide (e.born < clock)) && freshN (es.map fun e => e.born) && freshZ l && decide (es.length ≤ 1073741824)

def sortedSem (fS fK : FuncId) (t : TypeId) : CallSem := fun f args s =>
  if f = fS then
    match args with
    | [v] => (seqMap s fK v).bind fun q => (keysInt q.1).bind fun l =>
      if keysFit q.1 q.2 l = true then
        some (match l with
          | [] => (.slice none 0 0, s)
          | x :: r => (.slice (some ⟨s.next, 0, none⟩) (x :: r).length (x :: r).length, ⟨s.heap.put s.next (some (.cells ((sortZ (x :: r)).map fun n => Value.int .i64 n) t 1 false)), s.next + 1⟩))
      else none
    | _ => none
  else none

/-! ### What the program's functions do -/
/-- How a map's values read: as nothing. -/
def anyR : Value → Option (DataW Unit × List MemPlace) := fun _ => some (.nil, [])

structure SortedOK (P : Program) (fS fK : FuncId) (t : TypeId) : Prop where
  key : P.underlying t = some (.int .i64)
  can : Callable P fS
  run : ∀ (B b nn : Nat) (D : DataW Unit) (w : World), B < w.heap.size → w.cell? ⟨B, 0, none⟩ = some (.map (some b)) → w.ownsMap P t anyR b nn D → Maps.size D ≤ 1073741824 →
    Calls P fS #[.func (.func fK) #[] #[.pointer (some ⟨B, 0, none⟩)]] w fun e w' => ∃ (v : Value) (ss : List Int), e = .returned v ∧ ss.Perm (intKeys D) ∧
      w'.ownsRow w.heap.size t 1 v ss.length ((ss.mergeSort (fun x y => decide (x ≤ y))).map encZ) ∧ (v = .slice none 0 0 ↔ ss = []) ∧ Below w.heap.size w w'

/-- Nothing old turns; perhaps there is a new block. -/
theorem below_step {β : Map} {h : HF} {w w' : World} {n : Nat} (hs : Sim β h w) (hb : Below w.heap.size w w') : Sim β h w' ∧ Step β h w β h w' n n :=
  ⟨⟨fun j q x e f => by rw [hb.block q.blk (hs.lt e f)]; exact hs.obj j q x e f, hs.inj⟩,
    Map.le_refl β, Nat.le_refl _, fun j q e f => (by rw [f] at e; cases e), fun k hk _ => hb.block k hk, hb.size, fun k h _ => h, fun j q x e f _ => ⟨e, f⟩, hb.os, hb.tape, hb.output⟩

theorem fresh_step {β : Map} {h : HF} {w w' : World} {n : Nat} {r : Rec} {o : AObj} (hs : Sim β h w) (hn : β n = none) (hb : Below w.heap.size w w') (hblk : w.heap.size ≤ r.blk) (hro : o.isRo = false) (hnew : ORel (ext β n r) r o w'.heap[r.blk]?) :
    Sim (ext β n r) (fun j => if j = n then some o else h j) w' ∧ Step β h w (ext β n r) (fun j => if j = n then some o else h j) w' n (n + 1) := by
  have hle := ext_le (r := r) hn
  have hold : ∀ j q x, ext β n r j = some q → (if j = n then some o else h j) = some x → j ≠ n → β j = some q ∧ h j = some x ∧ q.blk < w.heap.size := by
    intro j q x e f i
    simp only [ext, if_neg i] at e
    rw [if_neg i] at f
    exact ⟨e, f, hs.lt e f⟩
  refine ⟨⟨fun j q x e f => ?_, fun i1 i2 q1 q2 x1 x2 e1 e2 f1 f2 g => ?_⟩, hle, by omega, fun j q e f => ?_, fun k hk _ => hb.block k hk, hb.size, fun k hk hlt => ?_, fun j q x e f g => ?_, hb.os, hb.tape, hb.output⟩
  · by_cases i : j = n
    · subst i
      simp only [ext, if_true, Option.some.injEq] at e
      subst e
      rw [if_pos rfl] at f; cases f
      exact hnew
    · obtain ⟨a, b, c⟩ := hold j q x e f i
      rw [hb.block q.blk c]
      exact (hs.obj j q x a b).mono hle
  · by_cases i : i1 = n
    · by_cases j : i2 = n
      · exact .inl (i.trans j.symm)
      · obtain ⟨_, _, c⟩ := hold i2 q2 x2 e2 f2 j
        subst i
        simp only [ext, if_true, Option.some.injEq] at e1
        subst e1; omega
    · by_cases j : i2 = n
      · obtain ⟨_, _, c⟩ := hold i1 q1 x1 e1 f1 i
        subst j
        simp only [ext, if_true, Option.some.injEq] at e2
        subst e2; omega
      · obtain ⟨a1, b1, _⟩ := hold i1 q1 x1 e1 f1 i
        obtain ⟨a2, b2, _⟩ := hold i2 q2 x2 e2 f2 j
        exact hs.inj i1 i2 q1 q2 x1 x2 a1 a2 b1 b2 g
  · by_cases i : j = n
    · omega
    · simp only [ext, if_neg i] at e; rw [f] at e; cases e
  · obtain ⟨j, q, x, e, f, g, hq⟩ := hk
    by_cases i : j = n
    · subst i
      simp only [ext, if_true, Option.some.injEq] at e
      subst e; omega
    · obtain ⟨a, b, _⟩ := hold j q x e f i
      exact ⟨j, q, x, a, b, g, hq⟩
  · by_cases i : j = n
    · subst i
      rw [if_pos rfl] at f; cases f; rw [hro] at g; cases g
    · obtain ⟨a, b, _⟩ := hold j q x e f i
      exact ⟨a, b⟩

theorem erel_keys {β : Map} {es ES : List MapEntry} (h : All2 (ERel β) es ES) : ES.map (fun e => e.key) = es.map (fun e => e.key) ∧ ES.map (fun e => e.born) = es.map (fun e => e.born) := by
  induction h with
  | nil => exact ⟨rfl, rfl⟩
  | cons h _ ih => exact ⟨by simp only [List.map_cons, ih.1, h.1], by simp only [List.map_cons, ih.2, h.2.2.2]⟩

theorem keysFit_spec {es : List MapEntry} {clock : Nat} {l : List Int} (h : keysFit es clock l = true) : (∀ e ∈ es, e.born < clock) ∧ (es.map fun e => e.born).Nodup ∧ l.Nodup ∧ es.length ≤ 1073741824 := by
  simp only [keysFit, Bool.and_eq_true, List.all_eq_true, decide_eq_true_eq] at h
  exact ⟨h.1.1.1, freshN_nodup h.1.1.2, freshZ_nodup h.1.2, h.2⟩

/-- Such a map is one the kit speaks of. -/
theorem owns_of {P : Program} {t : TypeId} (hk : P.underlying t = some (.int .i64)) {β : Map} {es : List MapEntry} {ES : Array MapEntry} {clock b : Nat} {l : List Int} {w : World} (hq : w.heap[b]? = some (.map ES clock)) (ha : All2 (ERel β) es ES.toList)
    (hl : keysInt es = some l) (hf : keysFit es clock l = true) : ∃ D : DataW Unit, w.ownsMap P t anyR b ES.size D ∧ l.Perm (intKeys D) ∧ Maps.size D ≤ 1073741824 := by
  obtain ⟨k1, k2⟩ := keysInt_some hl
  obtain ⟨f1, f2, f3, f4⟩ := keysFit_spec hf
  obtain ⟨e1, e2⟩ := erel_keys ha
  have hlen : ES.size = es.length := by have := congrArg List.length e1; simpa using this
  have hE : ES.toList.map (fun e => e.key) = l.map encZ := by rw [e1, k1]
  have hmem : ∀ x ∈ ES.toList, ∃ n ∈ l, x.key = .int .i64 n := fun x hx => by
    have : x.key ∈ ES.toList.map (fun e => e.key) := List.mem_map_of_mem hx
    rw [hE, List.mem_map] at this
    obtain ⟨n, hn, e⟩ := this
    exact ⟨n, hn, e.symm⟩
  have hrd : ∀ x ∈ ES.toList, ∃ n ∈ l, x.key = .int .i64 n ∧ WideElems.rd P t anyR x = some (.int .i64 n, .nil) := fun x hx => by
    obtain ⟨n, hn, e⟩ := hmem x hx
    obtain ⟨b1, b2⟩ := k2 n hn
    refine ⟨n, hn, e, ?_⟩
    have hw : (Lit.int .i64 n).wf = true := by simp [Lit.wf, IntKind.min, IntKind.max, IntKind.signed, IntKind.bits]; omega
    have := WideElems.rd_mk (P := P) (k := t) (R := anyR) (key := x.key) (val := x.val) (born := x.born) (by rw [e]; exact Maps.keyOf_int_mk hk hw) rfl
    exact this
  refine ⟨_, ⟨ES, clock, hq, ⟨by rw [hlen]; unfold maxLen; omega, ⟨fun x hx => ?_, by rw [e2]; exact f2, ?_⟩, fun x hx => ?_⟩, Nat.le_refl _, rfl⟩, ?_, ?_⟩
  · have : x.born ∈ ES.toList.map (fun e => e.born) := List.mem_map_of_mem hx
    rw [e2, List.mem_map] at this
    obtain ⟨e, he, h⟩ := this
    rw [← h]; exact f1 e he
  · rw [hE]
    exact List.pairwise_map.2 (f3.imp fun h e => h (encZ_inj e))
  · obtain ⟨n, _, _, h⟩ := hrd x hx
    exact ⟨_, h⟩
  · have hp := (WideShapes.sorted_perm (ES.toList.map (WideElems.rg P t anyR))).map fun p => intOf p.1
    refine List.Perm.trans ?_ hp.symm
    rw [List.map_map]
    have : (ES.toList.map ((fun p => intOf p.1) ∘ WideElems.rg P t anyR)) = (ES.toList.map (fun e => e.key)).map (fun v => match v with | .int _ n => n | _ => 0) := by
      rw [List.map_map]
      refine List.map_congr_left fun x hx => ?_
      obtain ⟨n, _, e, h⟩ := hrd x hx
      simp only [Function.comp, WideElems.rg_of h, e, intOf]
    rw [this, hE, List.map_map]
    have : l.map ((fun v : Value => match v with | .int _ n => n | _ => 0) ∘ encZ) = l := by
      refine (List.map_congr_left (g := id) fun x _ => rfl).trans (List.map_id l)
    rw [this]
  · show ((ES.toList.map (WideElems.rg P t anyR)).foldr DataW.insert []).length ≤ _
    rw [Go.length_sorted, List.length_map, Array.length_toList, hlen]
    exact f4

theorem seqMap_spec {s : St} {fK : FuncId} {v : Value} {es : List MapEntry} {clock : Nat} (h : seqMap s fK v = some (es, clock)) : ∃ a c b m T, v = .func (.func fK) a c ∧ a.toList = [] ∧ c.toList = [.pointer (some ⟨b, 0, none⟩)] ∧
    s.heap.get b = some (.cells [.map (some m)] T 0 false) ∧ s.heap.get m = some (.map es clock) := by
  unfold seqMap at h
  split at h
  case h_2 => cases h
  rename_i g a c
  split at h
  case isFalse => cases h
  rename_i hg
  subst hg
  split at h
  case h_2 => cases h
  rename_i b ha hc
  split at h
  case h_2 => cases h
  rename_i m T hb
  split at h
  case h_2 => cases h
  rename_i es' clock' hm
  cases h
  exact ⟨a, c, b, m, T, rfl, ha, hc, hb, hm⟩

theorem sorted_good {P : Program} {fS fK : FuncId} {t : TypeId} (ok : SortedOK P fS fK t) : GoodCalls P (sortedSem fS fK t) ∧ GoodWF (sortedSem fS fK t) := by
  constructor
  · intro f args s u s' hws hq
    unfold sortedSem at hq
    split at hq
    case isFalse => cases hq
    rename_i hf
    subst hf
    split at hq
    case h_2 => cases hq
    rename_i v
    simp only [Option.bind_eq_some_iff] at hq
    obtain ⟨⟨es, clock⟩, hseq, l, hl, hq⟩ := hq
    simp only at hl hq
    split at hq
    case isFalse => cases hq
    rename_i hfit
    obtain ⟨a, c, b, m, T, rfl, ha, hc, hb, hm⟩ := seqMap_spec hseq
    refine .inl ⟨ok.can, ?_, fun β w args' hs hfr hargs => ?_⟩
    · simp only [Option.some.injEq] at hq
      split at hq <;> cases hq <;> simp
    · cases hargs with | cons h1 hargs => ?_
      cases hargs
      obtain ⟨a', c', rfl, ra, rc⟩ := h1.func_inv
      rw [ha] at ra
      rw [hc] at rc
      have ha' : a' = #[] := by cases a'; cases ra; rfl
      subst ha'
      cases hcl : c'.toList with
      | nil => rw [hcl] at rc; cases rc
      | cons x y =>
      rw [hcl] at rc
      cases rc with | cons hp rc => ?_
      cases rc
      obtain ⟨rb, bb, rfl⟩ := hp.ptr_inv
      have hc' : c' = #[.pointer (some ⟨rb.blk, rb.base + 0, none⟩)] := by cases c'; simp only at hcl; rw [hcl]
      subst hc'
      obtain ⟨C, fr, hqb, hn, _, _, hsz, hcell, _, _, hbase⟩ := (hs.obj b rb _ bb hb).cells_inv
      have hb0 : rb.base = 0 := hbase rfl rfl (by rw [hn]; simp)
      obtain ⟨y, hy, hv⟩ := hcell 0 (by simp)
      obtain ⟨rm, bm, rfl⟩ := VRel.map_inv hv
      obtain ⟨ES, hqm, hES⟩ := (hs.obj m rm _ bm hm).map_inv
      rw [hb0] at hy ⊢
      have hlt := hs.lt bb hb
      obtain ⟨D, hown, hperm, hsize⟩ := owns_of (w := w) ok.key hqm hES hl hfit
      refine (ok.run rb.blk rm.blk _ D w hlt ?_ hown hsize).mono ?_
      · have := hy
        simp only [Nat.zero_add] at this
        simp [World.cell?, hqb, this]
      · rintro e w' ⟨v, ss, rfl, hss, hrow, hnil, hbel⟩
        have hsl : ss.Perm l := hss.trans hperm.symm
        have hms := merge_sortZ hsl
        rw [hms] at hrow
        cases l with
        | nil =>
          have : ss = [] := List.perm_nil.1 hsl
          obtain rfl := hnil.2 this
          simp only [Option.some.injEq, Prod.mk.injEq] at hq
          obtain ⟨rfl, rfl⟩ := hq
          obtain ⟨h1, h2⟩ := below_step (n := s.next) hs hbel
          exact ⟨_, β, rfl, .prim _ rfl, h1, h2⟩
        | cons x r =>
          have hne : ss ≠ [] := fun e => by rw [e] at hsl; exact absurd hsl.symm.eq_nil (by simp)
          simp only [Option.some.injEq, Prod.mk.injEq] at hq
          obtain ⟨rfl, rfl⟩ := hq
          have hlen : ss.length = (x :: r).length := hsl.length_eq
          rcases hrow.2 with ⟨h1, h2⟩ | ⟨g, cap, cur, rfl, hg, hgb, hcap, hmax, hcs, hcur⟩
          · exact absurd (List.eq_nil_of_length_eq_zero h2) hne
          · rw [hlen] at hcap hcur ⊢
            simp only [Nat.mul_one] at hcs hcur
            obtain ⟨rn, hrn⟩ : ∃ rn : Rec, rn = ⟨g, 0, cap - (x :: r).length, (x :: r).length, 1⟩ := ⟨_, rfl⟩
            have hll : ((sortZ (x :: r)).map fun n => Value.int .i64 n).length = (x :: r).length := by rw [List.length_map, sortZ_length]
            have hnew : ORel (ext β s.next rn) rn (.cells ((sortZ (x :: r)).map fun n => Value.int .i64 n) t 1 false) w'.heap[rn.blk]? := by
              subst hrn
              simp only
              rw [hgb]
              refine ⟨rfl, hll.symm, by simp, fun _ => ⟨rfl, by omega⟩, by rw [hll]; simp only; omega, fun i hi => ?_, fun _ => .inl rfl, fun h => absurd h (by omega), fun h => absurd h (by omega)⟩
              have hi' : i < (x :: r).length := by rw [← hll]; exact hi
              refine ⟨((sortZ (x :: r)).map fun n => Value.int .i64 n)[i], ?_, ?_⟩
              · have := congrArg (fun q => q[i]?) hcur
                simp only [List.getElem?_take, if_pos hi'] at this
                simp only [Nat.zero_add]
                rw [← Array.getElem?_toList, this]
                exact List.getElem?_eq_getElem hi
              · simp only [List.getElem_map]; exact .int'
            obtain ⟨h1, h2⟩ := fresh_step (n := s.next) hs (hfr s.next (Nat.le_refl _) (Nat.lt_succ_self _)) hbel (by rw [hrn]; exact hg) rfl hnew
            have hx : ext β s.next rn s.next = some rn := by simp [ext]
            have hv := VRel.slice (β := ext β s.next rn) (o := 0) (len := (x :: r).length) (cap := (x :: r).length) (cap' := cap) hx (.inr ⟨by rw [hrn]; simp only; omega, by rw [hrn]; simp only; omega⟩)
            refine ⟨_, ext β s.next rn, rfl, ?_, ?_, ?_⟩
            · rw [hrn] at hv ⊢; exact hv
            · simp only [show (s.heap.put s.next (some (.cells ((sortZ (x :: r)).map fun n => Value.int .i64 n) t 1 false))).get = fun j => if j = s.next then some (.cells ((sortZ (x :: r)).map fun n => Value.int .i64 n) t 1 false) else s.heap.get j from funext fun j => Heap.get_put _ _ _ _]; exact h1
            · simp only [show (s.heap.put s.next (some (.cells ((sortZ (x :: r)).map fun n => Value.int .i64 n) t 1 false))).get = fun j => if j = s.next then some (.cells ((sortZ (x :: r)).map fun n => Value.int .i64 n) t 1 false) else s.heap.get j from funext fun j => Heap.get_put _ _ _ _]; exact h2
  · intro f args s u s' hq hws
    unfold sortedSem at hq
    split at hq
    case isFalse => cases hq
    split at hq
    case h_2 => cases hq
    simp only [Option.bind_eq_some_iff] at hq
    obtain ⟨⟨es, clock⟩, hseq, l, hl, hq⟩ := hq
    split at hq
    case isFalse => cases hq
    simp only [Option.some.injEq] at hq
    split at hq
    · cases hq; exact hws
    · cases hq
      intro j hj
      simp only at hj ⊢
      rw [Heap.get_put, if_neg (by omega)]
      exact hws j (by omega)

end Go.Abs
