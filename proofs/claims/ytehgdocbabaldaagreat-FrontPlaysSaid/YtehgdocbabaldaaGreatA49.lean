/-
  The keys of a map, sorted, in a slice of their own: a call whose answer is known.
-/
import Derived.Test.YtehgdocbabaldaaGreatA48
set_option linter.unusedVariables false
set_option linter.unusedSimpArgs false
set_option maxRecDepth 100000
namespace Go.Abs
open Go Go.Abs.K Go.RowKit Go.ChangeShapes Go.WideShapes

theorem row_known {β : Map} {s : St} {w w' : World} (hs : Sim β s.heap.get w) (hfr : β s.next = none) (hbel : Below w.heap.size w w') {t : TypeId} {v : Value} {vs : List Value} (hne : vs ≠ [])
    (hrow : w'.ownsRow w.heap.size t 1 v vs.length vs) (hp : ∀ β : Map, ∀ x ∈ vs, VRel β x x) :
    ∃ β', VRel β' (.slice (some ⟨s.next, 0, none⟩) vs.length vs.length) v ∧ Sim β' (s.heap.put s.next (some (.cells vs t 1 false))).get w' ∧ Step β s.heap.get w β' (s.heap.put s.next (some (.cells vs t 1 false))).get w' s.next (s.next + 1) := by
  rcases hrow.2 with ⟨h1, h2⟩ | ⟨g, cap, cur, rfl, hg, hgb, hcap, hmax, hcs, hcur⟩
  · exact absurd (List.eq_nil_of_length_eq_zero h2) hne
  · simp only [Nat.mul_one] at hcs hcur
    obtain ⟨rn, hrn⟩ : ∃ rn : Rec, rn = ⟨g, 0, cap - vs.length, vs.length, 1⟩ := ⟨_, rfl⟩
    have hnew : ORel (ext β s.next rn) rn (.cells vs t 1 false) w'.heap[rn.blk]? := by
      subst hrn
      simp only
      rw [hgb]
      refine ⟨rfl, rfl, by simp, fun _ => ⟨rfl, by omega⟩, by simp only; omega, fun i hi => ⟨vs[i], ?_, hp _ _ (List.getElem_mem hi)⟩, fun _ => .inl rfl, fun h => absurd h (by omega), fun h => absurd h (by omega)⟩
      have := congrArg (fun q => q[i]?) hcur
      simp only [List.getElem?_take, if_pos hi] at this
      simp only [Nat.zero_add]
      rw [← Array.getElem?_toList, this]
      exact List.getElem?_eq_getElem hi
    obtain ⟨h1, h2⟩ := fresh_step (n := s.next) hs hfr hbel (by rw [hrn]; exact hg) rfl hnew
    have hx : ext β s.next rn s.next = some rn := by simp [ext]
    have hv := VRel.slice (β := ext β s.next rn) (o := 0) (len := vs.length) (cap := vs.length) (cap' := cap) hx (.inr ⟨by rw [hrn]; simp only; omega, by rw [hrn]; simp only; omega⟩)
    refine ⟨ext β s.next rn, ?_, ?_, ?_⟩
    · rw [hrn] at hv ⊢; exact hv
    · simp only [show (s.heap.put s.next (some (.cells vs t 1 false))).get = fun j => if j = s.next then some (.cells vs t 1 false) else s.heap.get j from funext fun j => Heap.get_put _ _ _ _]; exact h1
    · simp only [show (s.heap.put s.next (some (.cells vs t 1 false))).get = fun j => if j = s.next then some (.cells vs t 1 false) else s.heap.get j from funext fun j => Heap.get_put _ _ _ _]; exact h2

def keysSem {K : Type} (fS : FuncId) (t : TypeId) (enc : K → Value) (keysOf : List MapEntry → Nat → Option (List K)) (sort : List K → List K) : CallSem := fun f args s =>
  if f = fS then
    match args with
    | [.map (some m)] =>
      match s.heap.get m with
      | some (.map es clock) => (keysOf es clock).map fun l => match l with
        | [] => (.slice none 0 0, s)
        | x :: r => (.slice (some ⟨s.next, 0, none⟩) (x :: r).length (x :: r).length, ⟨s.heap.put s.next (some (.cells ((sort (x :: r)).map enc) t 1 false)), s.next + 1⟩)
      | _ => none
    | _ => none
  else none

structure KeysOK {K : Type} (P : Program) (fS : FuncId) (k t : TypeId) (enc : K → Value) (keysOf : List MapEntry → Nat → Option (List K)) (sort : List K → List K) (keysD : DataW Unit → List K) (le : K → K → Bool) : Prop where
  can : Callable P fS
  own : ∀ (β : Map) (es : List MapEntry) (ES : Array MapEntry) (clock b : Nat) (l : List K) (w : World), w.heap[b]? = some (.map ES clock) → All2 (ERel β) es ES.toList → keysOf es clock = some l →
    ∃ D : DataW Unit, w.ownsMap P k anyR b ES.size D ∧ l.Perm (keysD D) ∧ Maps.size D ≤ 1073741824
  same : ∀ a b : List K, a.Perm b → a.mergeSort le = sort b
  prim : ∀ (β : Map) (x : K), VRel β (enc x) (enc x)
  run : ∀ (b nn : Nat) (D : DataW Unit) (w : World), w.ownsMap P k anyR b nn D → Maps.size D ≤ 1073741824 →
    Calls P fS #[.map (some b)] w fun e w' => ∃ (v : Value) (ss : List K), e = .returned v ∧ ss.Perm (keysD D) ∧ w'.ownsRow w.heap.size t 1 v ss.length ((ss.mergeSort le).map enc) ∧ (v = .slice none 0 0 ↔ ss = []) ∧ Below w.heap.size w w'

theorem keys_good {K : Type} {P : Program} {fS : FuncId} {k t : TypeId} {enc : K → Value} {keysOf : List MapEntry → Nat → Option (List K)} {sort : List K → List K} {keysD : DataW Unit → List K} {le : K → K → Bool}
    (ok : KeysOK P fS k t enc keysOf sort keysD le) : GoodCalls P (keysSem fS t enc keysOf sort) ∧ GoodWF (keysSem fS t enc keysOf sort) := by
  constructor
  · intro f args s u s' hws hq
    unfold keysSem at hq
    split at hq
    case isFalse => cases hq
    rename_i hf
    subst hf
    split at hq
    case h_2 => cases hq
    rename_i m
    split at hq
    case h_2 => cases hq
    rename_i es clock hm
    simp only [Option.map_eq_some_iff] at hq
    obtain ⟨l, hl, hq⟩ := hq
    refine .inl ⟨ok.can, ?_, fun β w args' hs hfr hargs => ?_⟩
    · split at hq <;> cases hq <;> simp
    · cases hargs with | cons h1 hargs => ?_
      cases hargs
      obtain ⟨rm, bm, rfl⟩ := VRel.map_inv h1
      obtain ⟨ES, hqm, hES⟩ := (hs.obj m rm _ bm hm).map_inv
      obtain ⟨D, hown, hperm, hsize⟩ := ok.own β es ES clock rm.blk l w hqm hES hl
      refine (ok.run rm.blk _ D w hown hsize).mono ?_
      rintro e w' ⟨v, ss, rfl, hss, hrow, hnil, hbel⟩
      have hsl : ss.Perm l := hss.trans hperm.symm
      have hms := ok.same _ _ hsl
      rw [hms] at hrow
      cases l with
      | nil =>
        have : ss = [] := List.perm_nil.1 hsl
        obtain rfl := hnil.2 this
        simp only [Prod.mk.injEq] at hq
        obtain ⟨rfl, rfl⟩ := hq
        obtain ⟨h1, h2⟩ := below_step (n := s.next) hs hbel
        exact ⟨_, β, rfl, .prim _ rfl, h1, h2⟩
      | cons x r =>
        simp only [Prod.mk.injEq] at hq
        obtain ⟨rfl, rfl⟩ := hq
        have hll : ((sort (x :: r)).map enc).length = (x :: r).length := by
          rw [List.length_map, ← ok.same (x :: r) (x :: r) (.refl _), List.length_mergeSort]
        have hlen : ss.length = (x :: r).length := hsl.length_eq
        rw [hlen, ← hll] at hrow
        obtain ⟨β', h1, h2, h3⟩ := row_known (s := s) hs (hfr s.next (Nat.le_refl _) (Nat.lt_succ_self _)) hbel (by intro h; rw [h] at hll; simp at hll) hrow (fun β y hy => by obtain ⟨z, _, rfl⟩ := List.mem_map.1 hy; exact ok.prim β z)
        rw [hll] at h1
        exact ⟨_, β', rfl, h1, h2, h3⟩
  · intro f args s u s' hq hws
    unfold keysSem at hq
    split at hq
    case isFalse => cases hq
    split at hq
    case h_2 => cases hq
    split at hq
    case h_2 => cases hq
    simp only [Option.map_eq_some_iff] at hq
    obtain ⟨l, hl, hq⟩ := hq
    split at hq
    · cases hq; exact hws
    · cases hq
      intro j hj
      simp only at hj ⊢
      rw [Heap.get_put, if_neg (by omega)]
      exact hws j (by omega)

/-! ### Keys that are ints -/
def keysZ (es : List MapEntry) (clock : Nat) : Option (List Int) := (keysInt es).bind fun l => if keysFit es clock l = true then some l else none

theorem keysI_ok {P : Program} {fS : FuncId} {k t : TypeId} (hk : P.underlying k = some (.int .i64)) (can : Callable P fS)
    (run : ∀ (b nn : Nat) (D : DataW Unit) (w : World), w.ownsMap P k anyR b nn D → Maps.size D ≤ 1073741824 →
      Calls P fS #[.map (some b)] w fun e w' => ∃ (v : Value) (ss : List Int), e = .returned v ∧ ss.Perm (intKeys D) ∧ w'.ownsRow w.heap.size t 1 v ss.length ((ss.mergeSort (fun x y => decide (x ≤ y))).map encZ) ∧ (v = .slice none 0 0 ↔ ss = []) ∧ Below w.heap.size w w') :
    KeysOK P fS k t encZ keysZ sortZ intKeys (fun x y => decide (x ≤ y)) where
  can := can
  own β es ES clock b l w h1 h2 h3 := by
    unfold keysZ at h3
    simp only [Option.bind_eq_some_iff] at h3
    obtain ⟨l', hl, h3⟩ := h3
    split at h3
    case isFalse => cases h3
    rename_i hf
    cases h3
    exact owns_of hk h1 h2 hl hf
  same a b h := merge_sortZ h
  prim β x := .prim _ rfl
  run := run

/-! ### Keys that are strings -/
def leS : List UInt8 → List UInt8 → Bool
  | [], _ => true
  | _ :: _, [] => false
  | x :: a, y :: b => if Nat.blt x.toNat y.toNat then true else if Nat.beq x.toNat y.toNat then leS a b else false
theorem leS_eq (a b : List UInt8) : leS a b = decide (a ≤ b) := by
  induction a generalizing b with
  | nil => cases b <;> simp [leS]
  | cons x a ih =>
    cases b with
    | nil => simp [leS]
    | cons y b =>
      unfold leS
      by_cases h1 : x < y
      · have : Nat.blt x.toNat y.toNat = true := by simpa [Nat.blt_eq] using UInt8.lt_iff_toNat_lt.1 h1
        rw [if_pos this]
        exact (decide_eq_true (List.cons_le_cons_iff.2 (.inl h1))).symm
      · have : ¬ Nat.blt x.toNat y.toNat = true := by rw [Nat.blt_eq]; exact fun h => h1 (UInt8.lt_iff_toNat_lt.2 h)
        rw [if_neg this]
        by_cases h2 : x = y
        · subst h2
          rw [if_pos (by simp), ih]
          by_cases h3 : a ≤ b
          · rw [decide_eq_true h3, decide_eq_true (List.cons_le_cons_iff.2 (.inr ⟨rfl, h3⟩))]
          · rw [decide_eq_false h3, decide_eq_false fun h => (List.cons_le_cons_iff.1 h).elim (fun h => absurd h (by simp)) (fun h => h3 h.2)]
        · rw [if_neg (by simpa [Nat.beq_eq] using fun h => h2 (UInt8.toNat_inj.1 h))]
          exact (decide_eq_false fun h => (List.cons_le_cons_iff.1 h).elim h1 (fun h => h2 h.1)).symm
def insS (x : List UInt8) : List (List UInt8) → List (List UInt8)
  | [] => [x]
  | y :: l => if leS x y then x :: y :: l else y :: insS x l
def sortS : List (List UInt8) → List (List UInt8)
  | [] => []
  | x :: l => insS x (sortS l)
theorem insS_perm (x : List UInt8) (l : List (List UInt8)) : (insS x l).Perm (x :: l) := by
  induction l with
  | nil => exact .refl _
  | cons y l ih =>
    unfold insS
    split
    · exact .refl _
    · exact (ih.cons y).trans (.swap x y l)
theorem sortS_perm (l : List (List UInt8)) : (sortS l).Perm l := by
  induction l with
  | nil => exact .refl _
  | cons x l ih => exact (insS_perm x _).trans (ih.cons x)
theorem insS_sorted {x : List UInt8} {l : List (List UInt8)} (h : l.Pairwise (· ≤ ·)) : (insS x l).Pairwise (· ≤ ·) := by
  induction l with
  | nil => simp [insS]
  | cons y l ih =>
    have h2 := List.pairwise_cons.1 h
    unfold insS
    split
    · rename_i hxy
      have hxy : x ≤ y := by rw [leS_eq] at hxy; exact of_decide_eq_true hxy
      refine List.pairwise_cons.2 ⟨fun z hz => ?_, h⟩
      rcases List.mem_cons.1 hz with rfl | hz
      · exact hxy
      · exact List.le_trans hxy (h2.1 z hz)
    · rename_i hxy
      have hxy : ¬ x ≤ y := by rw [leS_eq] at hxy; exact fun h => hxy (decide_eq_true h)
      refine List.pairwise_cons.2 ⟨fun z hz => ?_, ih h2.2⟩
      rcases List.mem_cons.1 ((insS_perm x l).mem_iff.1 hz) with rfl | hz
      · exact (List.le_total z y).resolve_left hxy
      · exact h2.1 z hz
theorem sortS_sorted (l : List (List UInt8)) : (sortS l).Pairwise (· ≤ ·) := by
  induction l with
  | nil => exact .nil
  | cons x l ih => exact insS_sorted ih
theorem merge_sortS {a b : List (List UInt8)} (hp : a.Perm b) : a.mergeSort (fun x y => decide (x ≤ y)) = sortS b := by
  refine ((List.mergeSort_perm a _).trans (hp.trans (sortS_perm b).symm)).eq_of_pairwise (le := (· ≤ ·)) (fun x y _ _ h1 h2 => List.le_antisymm h1 h2) ?_ (sortS_sorted b)
  have := List.pairwise_mergeSort (le := fun x y : List UInt8 => decide (x ≤ y)) (fun a b c h1 h2 => by simp only [decide_eq_true_eq] at *; exact List.le_trans h1 h2) (fun a b => by simp only [Bool.or_eq_true, decide_eq_true_eq]; exact List.le_total a b) a
  exact this.imp fun h => by simpa using h

def keyStr : Value → Option (List UInt8)
  | .string s => if Nat.ble s.size 4611686018427387904 then some s.data.toList else none
  | _ => none
def keysStr : List MapEntry → Option (List (List UInt8))
  | [] => some []
  | e :: es => (keyStr e.key).bind fun n => (keysStr es).map fun l => n :: l
def eqS : List UInt8 → List UInt8 → Bool
  | [], [] => true
  | x :: a, y :: b => Nat.beq x.toNat y.toNat && eqS a b
  | _, _ => false
theorem eqS_refl (a : List UInt8) : eqS a a = true := by induction a with | nil => rfl | cons x a ih => simp [eqS, ih]
def freshS : List (List UInt8) → Bool
  | [] => true
  | x :: l => l.all (fun y => !eqS x y) && freshS l
theorem freshS_nodup {l : List (List UInt8)} (h : freshS l = true) : l.Nodup := by
  induction l with
  | nil => exact .nil
  | cons x l ih =>
    simp only [freshS, Bool.and_eq_true, List.all_eq_true] at h
    refine List.nodup_cons.2 ⟨fun hm => ?_, ih h.2⟩
    have := h.1 x hm
    rw [eqS_refl] at this
    exact absurd this (by decide)
def keysT (es : List MapEntry) (clock : Nat) : Option (List (List UInt8)) := (keysStr es).bind fun l =>
  if es.all (fun e => decide (e.born < clock)) && freshN (es.map fun e => e.born) && freshS l && decide (es.length ≤ 1073741824) then some l else none

theorem keysStr_some : ∀ {es : List MapEntry} {l : List (List UInt8)}, keysStr es = some l → es.map (fun e => e.key) = l.map Go.Proofs.encStr ∧ ∀ n ∈ l, n.length ≤ maxLen := by
  intro es
  induction es with
  | nil => intro l h; simp only [keysStr, Option.some.injEq] at h; subst h; simp
  | cons e es ih =>
    intro l h
    simp only [keysStr, Option.bind_eq_some_iff, Option.map_eq_some_iff] at h
    obtain ⟨n, hn, l', hl, rfl⟩ := h
    obtain ⟨h1, h2⟩ := ih hl
    unfold keyStr at hn
    split at hn
    case h_2 => cases hn
    rename_i s hs
    split at hn
    case isFalse => cases hn
    rename_i hsz
    cases hn
    refine ⟨by simp [h1, hs], fun m hm => (List.mem_cons.1 hm).elim (fun e => ?_) (h2 m)⟩
    subst e
    rw [Array.length_toList]
    have h3 : s.data.size ≤ 4611686018427387904 := Nat.le_of_ble_eq_true hsz
    unfold maxLen; omega

theorem keyOf_str_mk {P : Program} {k : TypeId} (hk : P.underlying k = some .string) {x : List UInt8} (h : x.length ≤ maxLen) : keyOf P k (Go.Proofs.encStr x) = some (.string x) := by
  simp [keyOf, hk, mapKey, Go.Proofs.encStr, ByteArray.size, h]

theorem owns_str {P : Program} {k : TypeId} (hk : P.underlying k = some .string) {β : Map} {es : List MapEntry} {ES : Array MapEntry} {clock b : Nat} {l : List (List UInt8)} {w : World} (hq : w.heap[b]? = some (.map ES clock)) (ha : All2 (ERel β) es ES.toList)
    (hl : keysT es clock = some l) : ∃ D : DataW Unit, w.ownsMap P k anyR b ES.size D ∧ l.Perm (strKeys D) ∧ Maps.size D ≤ 1073741824 := by
  unfold keysT at hl
  simp only [Option.bind_eq_some_iff] at hl
  obtain ⟨l', hl', hl⟩ := hl
  split at hl
  case isFalse => cases hl
  rename_i hf
  cases hl
  simp only [Bool.and_eq_true, List.all_eq_true, decide_eq_true_eq] at hf
  obtain ⟨⟨⟨f1, f2⟩, f3⟩, f4⟩ := hf
  have f2 := freshN_nodup f2
  have f3 := freshS_nodup f3
  obtain ⟨k1, k2⟩ := keysStr_some hl'
  obtain ⟨e1, e2⟩ := erel_keys ha
  have hlen : ES.size = es.length := by have := congrArg List.length e1; simpa using this
  have hE : ES.toList.map (fun e => e.key) = l.map Go.Proofs.encStr := by rw [e1, k1]
  have hrd : ∀ x ∈ ES.toList, ∃ n ∈ l, x.key = Go.Proofs.encStr n ∧ WideElems.rd P k anyR x = some (.string n, .nil) := fun x hx => by
    have : x.key ∈ ES.toList.map (fun e => e.key) := List.mem_map_of_mem hx
    rw [hE, List.mem_map] at this
    obtain ⟨n, hn, e⟩ := this
    refine ⟨n, hn, e.symm, ?_⟩
    have := WideElems.rd_mk (P := P) (k := k) (R := anyR) (key := x.key) (val := x.val) (born := x.born) (by rw [← e]; exact keyOf_str_mk hk (k2 n hn)) rfl
    exact this
  refine ⟨_, ⟨ES, clock, hq, ⟨by rw [hlen]; unfold maxLen; omega, ⟨fun x hx => ?_, by rw [e2]; exact f2, ?_⟩, fun x hx => ?_⟩, Nat.le_refl _, rfl⟩, ?_, ?_⟩
  · have : x.born ∈ ES.toList.map (fun e => e.born) := List.mem_map_of_mem hx
    rw [e2, List.mem_map] at this
    obtain ⟨e, he, h⟩ := this
    rw [← h]; exact f1 e he
  · rw [hE]
    exact List.pairwise_map.2 (f3.imp fun h e => h (Go.encStr_inj e))
  · obtain ⟨n, _, _, h⟩ := hrd x hx
    exact ⟨_, h⟩
  · have hp := (WideShapes.sorted_perm (ES.toList.map (WideElems.rg P k anyR))).map fun p => strOf p.1
    refine List.Perm.trans ?_ hp.symm
    rw [List.map_map]
    have : (ES.toList.map ((fun p => strOf p.1) ∘ WideElems.rg P k anyR)) = (ES.toList.map (fun e => e.key)).map (fun v => match v with | .string s => s.data.toList | _ => []) := by
      rw [List.map_map]
      refine List.map_congr_left fun x hx => ?_
      obtain ⟨n, _, e, h⟩ := hrd x hx
      simp only [Function.comp, WideElems.rg_of h, e, strOf]
    rw [this, hE, List.map_map]
    have : l.map ((fun v : Value => match v with | .string s => s.data.toList | _ => []) ∘ Go.Proofs.encStr) = l := by
      refine (List.map_congr_left (g := id) fun x _ => by simp [Go.Proofs.encStr]).trans (List.map_id l)
    rw [this]
  · show ((ES.toList.map (WideElems.rg P k anyR)).foldr DataW.insert []).length ≤ _
    rw [Go.length_sorted, List.length_map, Array.length_toList, hlen]
    exact f4

theorem keysS_ok {P : Program} {fS : FuncId} {k t : TypeId} (hk : P.underlying k = some .string) (can : Callable P fS)
    (run : ∀ (b nn : Nat) (D : DataW Unit) (w : World), w.ownsMap P k anyR b nn D → Maps.size D ≤ 1073741824 →
      Calls P fS #[.map (some b)] w fun e w' => ∃ (v : Value) (ss : List (List UInt8)), e = .returned v ∧ ss.Perm (strKeys D) ∧ w'.ownsRow w.heap.size t 1 v ss.length ((ss.mergeSort (fun x y => decide (x ≤ y))).map Go.Proofs.encStr) ∧ (v = .slice none 0 0 ↔ ss = []) ∧ Below w.heap.size w w') :
    KeysOK P fS k t Go.Proofs.encStr keysT sortS strKeys (fun x y => decide (x ≤ y)) where
  can := can
  own β es ES clock b l w h1 h2 h3 := owns_str hk h1 h2 h3
  same a b h := merge_sortS h
  prim β x := .prim _ rfl
  run := run

end Go.Abs
