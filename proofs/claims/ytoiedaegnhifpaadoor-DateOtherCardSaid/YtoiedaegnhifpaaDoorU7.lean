/-
  Suffixes, numbers, words.
-/
import Derived.Test.YtoiedaegnhifpaaDoorU4
import Derived.Test.YtoiedaegnhifpaaDoorA54
set_option maxRecDepth 100000
set_option linter.unusedVariables false
set_option linter.unusedSimpArgs false
namespace Go.Proofs.YtoiedaegnhifpaaDoor
open Go Go.Abs Go.Shelf Go.RowKit Go.Abs.K

abbrev bl (s : ByteArray) : List UInt8 := s.data.toList
def sufD (s t : List UInt8) : Bool := decide (t.length ≤ s.length) && (s.drop (s.length - t.length) == t)
def trimD (s t : List UInt8) : List UInt8 := if sufD s t then s.take (s.length - t.length) else s
def numGo : Int → List UInt8 → Int
  | a, [] => a
  | a, b :: r => if 48 ≤ b.toNat ∧ b.toNat ≤ 57 then numGo (10 * a + (b.toNat - 48)) r else -1
def numK (l : List UInt8) (k : Int) : Int := if (l.length : Int) = k then numGo 0 l else -1
def idxGo (w : List UInt8) : Nat → List (List UInt8) → Int
  | _, [] => -1
  | i, x :: r => if w = x then i else idxGo w (i + 1) r
def idxD (L : List (List UInt8)) (w : List UInt8) : Int := idxGo w 0 L

def Fsuf : List Value → Option Value
  | [.string s, .string t] => if s.size < 4294967281 ∧ t.size < 4294967281 then some (.bool (sufD (bl s) (bl t))) else none
  | _ => none
def Ftrim : List Value → Option Value
  | [.string s, .string t] => if s.size < 4294967281 ∧ t.size < 4294967281 then some (S (trimD (bl s) (bl t))) else none
  | _ => none
def F64 : List Value → Option Value
  | [.string s, .int .i64 k] => if 0 ≤ k ∧ k ≤ 9 ∧ s.size < 4294967281 then some (.int .i64 (numK (bl s) k)) else none
  | _ => none
def F62 : List Value → Option Value
  | [.string l, .string w] => if l.size < 4294967281 ∧ (bl l).all (fun b => decide (b.toNat < 128)) = true ∧ Lib.fields (bl l) ≠ [] then some (.int .i64 (idxD (Lib.fields (bl l)) (bl w))) else none
  | _ => none
theorem Fsuf_of {a b : List UInt8} (h1 : a.length < 4294967281) (h2 : b.length < 4294967281) : Fsuf [S a, S b] = some (.bool (sufD a b)) := if_pos ⟨by rw [sizeS]; exact h1, by rw [sizeS]; exact h2⟩
theorem Ftrim_of {a b : List UInt8} (h1 : a.length < 4294967281) (h2 : b.length < 4294967281) : Ftrim [S a, S b] = some (S (trimD a b)) := if_pos ⟨by rw [sizeS]; exact h1, by rw [sizeS]; exact h2⟩
theorem F64_of {a : List UInt8} {k : Int} (h : 0 ≤ k ∧ k ≤ 9) (h1 : a.length < 4294967281) : F64 [S a, .int .i64 k] = some (.int .i64 (numK a k)) := if_pos ⟨h.1, h.2, by rw [sizeS]; exact h1⟩
theorem F62_of {a w : List UInt8} (h : a.length < 4294967281 ∧ a.all (fun b => decide (b.toNat < 128)) = true ∧ Lib.fields a ≠ []) : F62 [S a, S w] = some (.int .i64 (idxD (Lib.fields a) w)) := if_pos ⟨by rw [sizeS]; exact h.1, h.2⟩

theorem walk92 {ov : CallSem} (s : St) : ∀ args v, Fsuf args = some v → deepV 3 v = true ∧ WCall (solo 92 fun92 ov) 92 args s fun u _ => u = v := by
  intro args v h
  unfold Fsuf at h
  split at h
  case h_2 => cases h
  rename_i a0 b0
  split at h
  case isFalse => cases h
  rename_i hsz
  cases h
  obtain ⟨a, rfl⟩ := ba_of a0
  obtain ⟨b, rfl⟩ := ba_of b0
  rw [sizeS, sizeS] at hsz
  refine ⟨rfl, ?_⟩
  refine solo_of rfl fun cs hcs => ?_
  show WCode _ _ _ _ (ends fun92.res fun u _ => u = .bool (sufD a b))
  unfold sufD
  by_cases hl : b.length ≤ a.length
  · have d1 : decide ((a.length : Int) ≥ (b.length : Int)) = true := decide_eq_true (by omega)
    have d2 : decide (b.length ≤ a.length) = true := decide_eq_true hl
    have w1 : IntKind.i64.wrap ((a.length : Int) - (b.length : Int)) = ((a.length - b.length : Nat) : Int) := by rw [wrap64 (by omega) (by omega)]; omega
    have e1 := ev_fromS (g := s.heap.get) (nx := s.next) (l := a) (a := a.length - b.length) (i := .i64) (by omega)
    simp -implicitDefEqProofs only [fun92, code92, params, go_sem, sizeS, d1, d2, w1, e1, bs_eql]
  · have d1 : decide ((a.length : Int) ≥ (b.length : Int)) = false := decide_eq_false (by omega)
    have d2 : decide (b.length ≤ a.length) = false := decide_eq_false hl
    simp -implicitDefEqProofs only [fun92, code92, params, go_sem, sizeS, d1, d2]
    rfl
theorem walk61 {ov : CallSem} (h92 : Has ov 92 [] Fsuf) (s : St) : ∀ args v, Fsuf args = some v → deepV 3 v = true ∧ WCall (solo 61 fun61 ov) 61 args s fun u _ => u = v := by
  intro args v h
  have h0 := h
  unfold Fsuf at h
  split at h
  case h_2 => cases h
  rename_i a b
  split at h
  case isFalse => cases h
  rename_i hsz
  cases h
  refine ⟨rfl, ?_⟩
  refine solo_of rfl fun cs hcs => ?_
  have c92 : ∀ s K, WCall cs 92 [.string a, .string b] s K = K (.bool (sufD (bl a) (bl b))) s := fun s K => h92.call hcs (by decide) h0 rfl rfl K
  simp -implicitDefEqProofs only [fun61, code61, params, go_sem, c92]
theorem walk94 {ov : CallSem} (h92 : Has ov 92 [] Fsuf) (s : St) : ∀ args v, Ftrim args = some v → deepV 3 v = true ∧ WCall (solo 94 fun94 ov) 94 args s fun u _ => u = v := by
  intro args v h
  unfold Ftrim at h
  split at h
  case h_2 => cases h
  rename_i a0 b0
  split at h
  case isFalse => cases h
  rename_i hsz
  cases h
  obtain ⟨a, rfl⟩ := ba_of a0
  obtain ⟨b, rfl⟩ := ba_of b0
  rw [sizeS, sizeS] at hsz
  refine ⟨rfl, ?_⟩
  refine solo_of rfl fun cs hcs => ?_
  show WCode _ _ _ _ (ends fun94.res fun u _ => u = S (trimD a b))
  have c92 : ∀ s K, WCall cs 92 [S a, S b] s K = K (.bool (sufD a b)) s := fun s K => h92.call hcs (by decide) (Fsuf_of hsz.1 hsz.2) rfl rfl K
  unfold trimD
  cases hs : sufD a b
  · simp -implicitDefEqProofs only [fun94, code94, params, go_sem, c92, hs]
  · have hl : b.length ≤ a.length := by
      unfold sufD at hs
      simp only [Bool.and_eq_true, decide_eq_true_eq] at hs
      exact hs.1
    have w1 : IntKind.i64.wrap ((a.length : Int) - (b.length : Int)) = ((a.length - b.length : Nat) : Int) := by rw [wrap64 (by omega) (by omega)]; omega
    have e1 := ev_toS (g := s.heap.get) (nx := s.next) (l := a) (b := a.length - b.length) (j := .i64) (by omega)
    simp -implicitDefEqProofs only [fun94, code94, params, go_sem, c92, hs, sizeS, w1, e1]
theorem walk63 {ov : CallSem} (h94 : Has ov 94 [] Ftrim) (s : St) : ∀ args v, Ftrim args = some v → deepV 3 v = true ∧ WCall (solo 63 fun63 ov) 63 args s fun u _ => u = v := by
  intro args v h
  have h0 := h
  unfold Ftrim at h
  split at h
  case h_2 => cases h
  rename_i a b
  split at h
  case isFalse => cases h
  rename_i hsz
  cases h
  refine ⟨rfl, ?_⟩
  refine solo_of rfl fun cs hcs => ?_
  have c94 : ∀ s K, WCall cs 94 [.string a, .string b] s K = K (S (trimD (bl a) (bl b))) s := fun s K => h94.call hcs (by decide) h0 rfl rfl K
  simp -implicitDefEqProofs only [fun63, code63, params, go_sem, c94]

theorem walk64 {ov : CallSem} (s : St) : ∀ args v, F64 args = some v → deepV 3 v = true ∧ WCall (solo 64 fun64 ov) 64 args s fun u _ => u = v := by
  intro args v h
  unfold F64 at h
  split at h
  case h_2 => cases h
  rename_i a0 k
  split at h
  case isFalse => cases h
  rename_i hk
  cases h
  obtain ⟨a, rfl⟩ := ba_of a0
  rw [sizeS] at hk
  refine ⟨rfl, ?_⟩
  refine solo_of rfl fun cs hcs => ?_
  show WCode _ _ _ _ (ends fun64.res fun u _ => u = .int .i64 (numK a k))
  unfold numK
  by_cases hl : (a.length : Int) = k
  case neg =>
    have d1 : ((a.length : Int) != k) = true := by simp [hl]
    simp -implicitDefEqProofs only [fun64, code64, params, go_sem, sizeS, d1]
    rw [if_neg hl]
  have d1 : ((a.length : Int) != k) = false := by simp [hl]
  rw [if_pos hl]
  simp -implicitDefEqProofs only [fun64, code64, params, go_sem, sizeS, d1]
  obtain ⟨I, hI⟩ : ∃ I : Nat → List Value → St → Prop, I = fun (m : Nat) (vs : List Value) s' => ∃ (p : Nat) (n : Int), p ≤ a.length ∧ m = a.length - p ∧ vs = [.int .i64 n, .pointer (some ⟨s.next, 0, none⟩)] ∧ s'.heap.get s.next = some (.iter ⟨a.toArray⟩ p) ∧ 0 ≤ n ∧ n < 10 ^ p ∧ numGo n (a.drop p) = numGo 0 a := ⟨_, rfl⟩
  refine wc_loopV I a.length ?_ ?_
  · simp -implicitDefEqProofs only [go_sem]
    rw [hI]
    exact ⟨0, 0, by omega, rfl, rfl, by rw [Heap.get_put, if_pos rfl], by omega, by decide, rfl⟩
  · intro m vs s1 hi _
    rw [hI] at hi
    obtain ⟨p, n, hp, rfl, rfl, hg, hn0, hn1, hnum⟩ := hi
    by_cases hlt : p < a.length
    · obtain ⟨b, hb⟩ : ∃ b, a[p]? = some b := ⟨_, List.getElem?_eq_getElem hlt⟩
      have hdr : a.drop p = b :: a.drop (p + 1) := by
        rw [List.drop_eq_getElem_cons hlt]
        rw [List.getElem?_eq_getElem hlt] at hb
        cases hb; rfl
      rw [hdr, numGo] at hnum
      have e1 := ev_nextS (g := s1.heap.get) (nx := s1.next) hg hlt
      by_cases hd : 48 ≤ b.toNat ∧ b.toNat ≤ 57
      · rw [if_pos hd] at hnum
        rw [decS_ascii hb (by omega)] at e1
        simp only at e1
        have p9 : p ≤ 8 := by omega
        have hpow : (10 : Int) ^ p ≤ 10 ^ 8 := by
          have := Nat.pow_le_pow_right (show 0 < 10 by decide) p9
          exact_mod_cast this
        have hps : (10 : Int) ^ (p + 1) = 10 ^ p * 10 := Int.pow_succ ..
        have d2 : decide ((b.toNat : Int) < 48) = false := decide_eq_false (by omega)
        have d3 : decide ((b.toNat : Int) > 57) = false := decide_eq_false (by omega)
        have w1 : IntKind.i64.wrap (10 * n) = 10 * n := wrap64 (by omega) (by omega)
        have w2 : IntKind.i32.wrap ((b.toNat : Int) - 48) = (b.toNat : Int) - 48 := by rw [IntKind.wrap_i32]; omega
        have w3 : IntKind.i64.wrap ((b.toNat : Int) - 48) = (b.toNat : Int) - 48 := wrap64 (by omega) (by omega)
        have w4 : IntKind.i64.wrap (10 * n + ((b.toNat : Int) - 48)) = 10 * n + ((b.toNat : Int) - 48) := wrap64 (by omega) (by omega)
        simp -implicitDefEqProofs only [go_sem, e1, d2, d3, w1, w2, w3, w4]
        rw [hI]
        exact ⟨a.length - (p + 1), by omega, p + 1, 10 * n + ((b.toNat : Int) - 48), by omega, rfl, rfl, by rw [Heap.get_put, if_pos rfl], by omega, by omega, hnum⟩
      · rw [if_neg hd] at hnum
        obtain ⟨r, hr⟩ : ∃ r : Nat, r = (Utf8.decode ⟨a.toArray⟩ p).1 := ⟨_, rfl⟩
        rw [← hr] at e1
        have hrr : r < 48 ∨ 57 < r := by
          by_cases h7 : b.toNat < 128
          · rw [decS_ascii hb h7] at hr
            simp only at hr
            omega
          · have := decS_far hb (by omega)
            omega
        by_cases hr1 : r < 48
        · have d2 : decide ((r : Int) < 48) = true := decide_eq_true (by omega)
          simp -implicitDefEqProofs only [go_sem, e1, d2]
          rw [hnum]
        · have d2 : decide ((r : Int) < 48) = false := decide_eq_false (by omega)
          have d3 : decide ((r : Int) > 57) = true := decide_eq_true (by omega)
          simp -implicitDefEqProofs only [go_sem, e1, d2, d3]
          rw [hnum]
    · have e1 := ev_nextS_end (g := s1.heap.get) (nx := s1.next) hg hlt
      rw [List.drop_of_length_le (by omega), numGo] at hnum
      simp -implicitDefEqProofs only [go_sem, e1]
      rw [hnum]
end Go.Proofs.YtoiedaegnhifpaaDoor


/-
  Rows of strings: Split, Fields, Index; words, clocks.
-/
set_option maxRecDepth 100000
set_option linter.unusedVariables false
set_option linter.unusedSimpArgs false
namespace Go.Proofs.YtoiedaegnhifpaaDoor
open Go Go.Abs Go.Shelf Go.RowKit Go.Abs.K

def HasR (ov : CallSem) (f : FuncId) (gs : GNeed) (t : TypeId) (F : List Value → Option (List Value)) : Prop := ∀ args s vs, F args = some vs → vs ≠ [] → args.all primV = true → globsOK s gs = true →
  ov f args s = some (.slice (some ⟨s.next, 0, none⟩) vs.length vs.length, ⟨s.heap.put s.next (some (.cells vs t 1 false)), s.next + 1⟩)
theorem HasR.there {f f0 : FuncId} {gs gs' : GNeed} {t : TypeId} {F : List Value → Option (List Value)} {F' : List Value → Option Value} {ov : CallSem} (hne : f ≠ f0) (h : HasR ov f gs t F) : HasR (orSem (callS f0 gs' F') ov) f gs t F := by
  intro args s v h1 h0 h2 h3
  have := h args s v h1 h0 h2 h3
  unfold orSem callS
  rw [if_neg hne]
  exact this
theorem HasR.call {ov : CallSem} {f : FuncId} {gs : GNeed} {t : TypeId} {F : List Value → Option (List Value)} (h : HasR ov f gs t F) {tbl : FuncId → Option AFun} {cs : Nat → CallSem} (hcs : cs = fun k => call tbl ov k) (hne : tbl f = none) {args : List Value} {s : St} {vs : List Value} (hF : F args = some vs) (h0 : vs ≠ []) (ha : args.all primV = true) (hg : globsOK s gs = true) (K : Value → St → Prop) :
    WCall cs f args s K = K (.slice (some ⟨s.next, 0, none⟩) vs.length vs.length) ⟨s.heap.put s.next (some (.cells vs t 1 false)), s.next + 1⟩ := by
  subst hcs
  exact WCall.eq (WCall.ov hne (h args s vs hF h0 ha hg) ⟨rfl, rfl⟩) K
theorem ov0_split : HasR ov0 75 [] 9 splitF := by
  intro args s vs h1 h0 h2 h3
  cases vs with
  | nil => exact absurd rfl h0
  | cons x r => simp [ov0, orSem, callS, rowSem, h1, h2, h3]
theorem ov0_fields : HasR ov0 42 gS 9 fieldsF := by
  intro args s vs h1 h0 h2 h3
  cases vs with
  | nil => exact absurd rfl h0
  | cons x r => simp [ov0, orSem, callS, rowSem, h1, h2, h3]
theorem ov0_itoa : Has ov0 49 gP itoaF := Has.here
theorem ov0_repeat : Has ov0 71 [] repeatF := Has.there (by decide) Has.here

theorem walkT_good {P : Program} {tbl : FuncId → Option AFun} {ov : CallSem} (hT : TableOK P tbl ov) {f : FuncId} {fn : AFun} (hf : tbl f = some fn) (hc : FunOK P f fn) {gs : GNeed} (hn : (gs.map fun g => g.1).Nodup) (hk : ∀ g ∈ gs, g.1 < kept0) {F : List Value → Option Value}
    (walk : ∀ args v, F args = some v → deepV 3 v = true ∧ WCall (fun k => call tbl ov k) f args (stG gs) fun u _ => u = v) :
    GoodCalls P (callS f gs F) ∧ GoodWF (callS f gs F) :=
  callS_good hc.callable hk fun args v w hF ha hg => by
    obtain ⟨h1, h2⟩ := walk args v hF
    exact ⟨h1, call_plain hT hf hn hk ha h1 h2 hg⟩
theorem two_ok {f g : FuncId} {fn gn : AFun} (h1 : FunOK Tryd.prog f fn) (h2 : FunOK Tryd.prog g gn) {ov : CallSem} (ho : GoodCalls Tryd.prog ov ∧ GoodWF ov) : TableOK Tryd.prog (tblOf [(f, fn), (g, gn)]) ov :=
  tblOf_ok mixed (fun p hp => by
    rcases List.mem_cons.1 hp with rfl | hp
    · exact h1
    · rw [List.mem_singleton.1 hp]; exact h2) ho

/-! ### slices.Index -/
theorem r93 {tbl : FuncId → Option AFun} {ov : CallSem} (ht : tbl 93 = some fun93) {s : St} {id : Nat} {L : List (List UInt8)} (hg : s.heap.get id = some (.cells (L.map S) 9 1 false)) (hL : L.length < 4294967281) (w : List UInt8) (K : Value → St → Prop) :
    WCall (fun k => call tbl ov k) 93 [.slice (some ⟨id, 0, none⟩) L.length L.length, S w] s K = K (.int .i64 (idxD L w)) s := by
  refine WCall.eq (WCall.of ht rfl ?_) K
  generalize (fun k => call tbl ov k) = cs
  simp -implicitDefEqProofs only [fun93, code93, params, go_sem]
  obtain ⟨I, hI⟩ : ∃ I : Nat → List Value → St → Prop, I = fun (m : Nat) (vs : List Value) s' => s' = s ∧ ∃ i, i ≤ L.length ∧ m = L.length - i ∧ vs = [.slice (some ⟨id, 0, none⟩) L.length L.length, S w, .int .i64 (L.length : Nat), .int .i64 (i : Nat)] ∧ idxGo w i (L.drop i) = idxGo w 0 L := ⟨_, rfl⟩
  refine wc_loopV I L.length ?_ ?_
  · simp -implicitDefEqProofs only [go_sem]
    rw [hI]
    exact ⟨rfl, 0, by omega, rfl, rfl, rfl⟩
  · intro m vs s1 hi _
    rw [hI] at hi
    obtain ⟨rfl, i, hi1, rfl, rfl, hx⟩ := hi
    by_cases hlt : i < L.length
    · have d1 : decide ((i : Int) < (L.length : Int)) = true := decide_eq_true (by omega)
      obtain ⟨x, hxi⟩ : ∃ x, L[i]? = some x := ⟨_, List.getElem?_eq_getElem hlt⟩
      have hdr : L.drop i = x :: L.drop (i + 1) := by
        rw [List.drop_eq_getElem_cons hlt]
        rw [List.getElem?_eq_getElem hlt] at hxi
        cases hxi; rfl
      rw [hdr, idxGo] at hx
      have hix : 0 ≤ (i : Int) ∧ (i : Int) < (L.length : Int) := by omega
      have hc : (L.map S)[i]? = some (S x) := by rw [List.getElem?_map, hxi]; rfl
      have hc0 : (L.map S)[0 + i]? = some (S x) := by rw [Nat.zero_add]; exact hc
      have w4 : IntKind.i64.wrap ((i : Int) + 1) = ((i + 1 : Nat) : Int) := by rw [IntKind.wrap_i64]; omega
      by_cases he : w = x
      · rw [if_pos he] at hx
        have d2 : (w == x) = true := by simp [he]
        simp -implicitDefEqProofs only [go_sem, d1, hix, hg, hc, hc0, bs_eql, d2, idxD, ← hx]
      · rw [if_neg he] at hx
        have d2 : (w == x) = false := by simp [he]
        simp -implicitDefEqProofs only [go_sem, d1, hix, hg, hc, hc0, bs_eql, d2, w4]
        rw [hI]
        exact ⟨L.length - (i + 1), by omega, rfl, i + 1, by omega, rfl, rfl, hx⟩
    · have d1 : decide ((i : Int) < (L.length : Int)) = false := decide_eq_false (by omega)
      rw [List.drop_of_length_le (by omega), idxGo] at hx
      simp -implicitDefEqProofs only [go_sem, d1, idxD, ← hx]

theorem fields_of {l : List UInt8} (h : l.length < 4294967281 ∧ l.all (fun b => decide (b.toNat < 128)) = true) : fieldsF [S l] = some ((Lib.fields l).map S) := by
  show (if ByteArray.size ⟨l.toArray⟩ < 4294967281 ∧ _ then _ else _) = _
  rw [sizeS]
  exact if_pos h
theorem split_of {l : List UInt8} {c : UInt8} (h : l.length < 4294967281) : splitF [S l, S [c], .int .i64 0, .int .i64 (-1)] = some ((spl c l).map S) := by
  show (if ByteArray.size ⟨l.toArray⟩ < 4294967281 then _ else _) = _
  rw [sizeS]
  exact if_pos h

def tbl62 : FuncId → Option AFun := tblOf [(62, fun62), (93, fun93)]
theorem walk62 {ov : CallSem} (h42 : HasR ov 42 gS 9 fieldsF) : ∀ args v, F62 args = some v → deepV 3 v = true ∧ WCall (fun k => call tbl62 ov k) 62 args (stG gS) fun u _ => u = v := by
  intro args v h
  unfold F62 at h
  split at h
  case h_2 => cases h
  rename_i a0 b0
  split at h
  case isFalse => cases h
  rename_i hk
  cases h
  obtain ⟨a, rfl⟩ := ba_of a0
  obtain ⟨b, rfl⟩ := ba_of b0
  rw [sizeS] at hk
  refine ⟨rfl, ?_⟩
  refine WCall.of (fn := fun62) rfl rfl ?_
  obtain ⟨cs, hcs⟩ : ∃ cs, cs = fun k => call tbl62 ov k := ⟨_, rfl⟩
  rw [← hcs]
  have c42 := fun K => h42.call (s := stG gS) hcs rfl (fields_of (l := a) ⟨hk.1, hk.2.1⟩) (by simpa using hk.2.2) rfl rfl K
  rw [List.length_map] at c42
  have hfl : (Lib.fields a).length < 4294967281 := by
    rw [Lib.fields_length]
    have := cntF_le a true
    omega
  have c93 := fun K => r93 (tbl := tbl62) (ov := ov) rfl (s := ⟨(stG gS).heap.put (stG gS).next (some (.cells ((Lib.fields a).map S) 9 1 false)), (stG gS).next + 1⟩) (id := (stG gS).next) (L := Lib.fields a) (by rw [Heap.get_put, if_pos rfl]) hfl b K
  rw [← hcs] at c93
  show WCode _ _ _ _ (ends fun62.res fun u _ => u = .int .i64 (idxD (Lib.fields a) b))
  simp -implicitDefEqProofs only [fun62, code62, params, go_sem, c42, c93]

/-! ### strings.Split -/
theorem r51 {tbl : FuncId → Option AFun} {ov : CallSem} (ht : tbl 51 = some fun51) (ht2 : tbl 75 = none) (h75 : HasR ov 75 [] 9 splitF) {s : St} {l : List UInt8} (hl : l.length < 4294967281) (c : UInt8) (K : Value → St → Prop) :
    WCall (fun k => call tbl ov k) 51 [S l, S [c]] s K = K (.slice (some ⟨s.next, 0, none⟩) (spl c l).length (spl c l).length) ⟨s.heap.put s.next (some (.cells ((spl c l).map S) 9 1 false)), s.next + 1⟩ := by
  refine WCall.eq (WCall.of ht rfl ?_) K
  obtain ⟨cs, hcs⟩ : ∃ cs, cs = fun k => call tbl ov k := ⟨_, rfl⟩
  rw [← hcs]
  have c75 := fun s K => h75.call (s := s) hcs ht2 (split_of (c := c) hl) (by simpa using spl_ne l) rfl rfl K
  simp only [List.length_map] at c75
  simp -implicitDefEqProofs only [fun51, code51, params, go_sem, c75]
end Go.Proofs.YtoiedaegnhifpaaDoor


/-
  date: seconds, year, padded, Format.
-/
set_option maxRecDepth 100000
set_option linter.unusedVariables false
set_option linter.unusedSimpArgs false
namespace Go.Proofs.YtoiedaegnhifpaaDoor
open Go Go.Abs Go.Shelf Go.RowKit Go.Abs.K

abbrev shortT : List UInt8 := [77, 111, 110, 32, 84, 117, 101, 32, 87, 101, 100, 32, 84, 104, 117, 32, 70, 114, 105, 32, 83, 97, 116, 32, 83, 117, 110]
abbrev monT : List UInt8 := [74, 97, 110, 32, 70, 101, 98, 32, 77, 97, 114, 32, 65, 112, 114, 32, 77, 97, 121, 32, 74, 117, 110, 32, 74, 117, 108, 32, 65, 117, 103, 32, 83, 101, 112, 32, 79, 99, 116, 32, 78, 111, 118, 32, 68, 101, 99]
abbrev longT : List UInt8 := [77, 111, 110, 100, 97, 121, 32, 84, 117, 101, 115, 100, 97, 121, 32, 87, 101, 100, 110, 101, 115, 100, 97, 121, 32, 84, 104, 117, 114, 115, 100, 97, 121, 32, 70, 114, 105, 100, 97, 121, 32, 83, 97, 116, 117, 114, 100, 97, 121, 32, 83, 117, 110, 100, 97, 121]
def shortL : List (List UInt8) := [[77, 111, 110], [84, 117, 101], [87, 101, 100], [84, 104, 117], [70, 114, 105], [83, 97, 116], [83, 117, 110]]
def monL : List (List UInt8) := [[74, 97, 110], [70, 101, 98], [77, 97, 114], [65, 112, 114], [77, 97, 121], [74, 117, 110], [74, 117, 108], [65, 117, 103], [83, 101, 112], [79, 99, 116], [78, 111, 118], [68, 101, 99]]
def longL : List (List UInt8) := [[77, 111, 110, 100, 97, 121], [84, 117, 101, 115, 100, 97, 121], [87, 101, 100, 110, 101, 115, 100, 97, 121], [84, 104, 117, 114, 115, 100, 97, 121], [70, 114, 105, 100, 97, 121], [83, 97, 116, 117, 114, 100, 97, 121], [83, 117, 110, 100, 97, 121]]
theorem fields_short : Lib.fields shortT = shortL := by decide +kernel
theorem fields_mon : Lib.fields monT = monL := by decide +kernel
theorem fields_long : Lib.fields longT = longL := by decide +kernel

def partsV (w y m d c : Int) : Value := .agg #[.int .i64 w, .int .i64 y, .int .i64 m, .int .i64 d, .int .i64 c]
def secD (w y m d c : Int) : Option Int := if goodD y m d = true ∧ 0 ≤ c ∧ (numD y m d + 3) % 7 = w then some (numD y m d * 86400 + c) else none
def optV : Option Int → Value
  | some n => .tuple #[.int .i64 n, .bool true]
  | none => .tuple #[.int .i64 0, .bool false]
def F33 : List Value → Option Value
  | [.agg a] => match a.toList with
    | [.int .i64 w, .int .i64 y, .int .i64 m, .int .i64 d, .int .i64 c] => if c ≤ 100000 then some (optV (secD w y m d c)) else none
    | _ => none
  | _ => none
theorem F33_of {w y m d c : Int} (h : c ≤ 100000) : F33 [partsV w y m d c] = some (optV (secD w y m d c)) := if_pos h
def yearC (n now : Int) : Int := if n < 0 then n else yearD (now / 86400 + 719528) + 50 - (yearD (now / 86400 + 719528) + 50 - n) % 100
def F67 : List Value → Option Value
  | [.int .i64 n, .int .i64 now] => if n ≤ 99 ∧ 0 ≤ now ∧ now ≤ 220752000000 then some (.int .i64 (yearC n now)) else none
  | _ => none
def padD (n : Int) (k : Nat) : List UInt8 := Lib.repeatL [48] (k - (Lib.decDigits n.toNat).length) ++ Lib.decDigits n.toNat
def F41 : List Value → Option Value
  | [.int .i64 n, .int .i64 k] => if 0 ≤ n ∧ n ≤ 9999 ∧ 0 ≤ k ∧ k ≤ 9 then some (S (padD n k.toNat)) else none
  | _ => none
def textD (y m d w t : Int) : List UInt8 :=
  shortL.getD w.toNat [] ++ [44, 32] ++ padD d 2 ++ [32] ++ monL.getD (m - 1).toNat [] ++ [32] ++ padD y 4 ++ [32] ++ (padD (t / 3600) 2 ++ [58] ++ padD (t / 60 % 60) 2 ++ [58] ++ padD (t % 60) 2) ++ [32, 71, 77, 84]
def formatD (n : Int) : Option (List UInt8) :=
  if okD (n / 86400) then some (textD (yearD (n / 86400 + 719528)) (monthD (n / 86400 + 719528)).1 ((monthD (n / 86400 + 719528)).2 + 1) ((n / 86400 + 3) % 7) (n % 86400)) else none
def F16 : List Value → Option Value
  | [.int .i64 n] => if -9223372036854775808 ≤ n ∧ n ≤ 9223372036854775807 then some (match formatD n with | some t => .tuple #[S t, .bool true] | none => .tuple #[S [], .bool false]) else none
  | _ => none

theorem num_bound {y m d : Int} (h : goodD y m d = true) : -719528 ≤ numD y m d ∧ numD y m d ≤ 2932927 := by
  unfold goodD at h
  simp only [Bool.and_eq_true, decide_eq_true_eq] at h
  unfold numD
  have h1 := before_bound (y := y) (by omega)
  have h2 := before_bound (y := y + 1) (by omega)
  rw [before_year h.1.1.1] at h2
  have hl := length_bound y m
  have hm := length_month (y := y) (m := m) (by omega)
  have hs := sum_bound y (m - 1).toNat
  have hs2 := sum_mono y (j := (m - 1).toNat) (k := 12) (by omega)
  omega

theorem F43_of {n : Int} (h : -4611686018427387904 ≤ n ∧ n ≤ 4611686018427387904) : F43 [.int .i64 n] = some (.int .i64 ((n + 3) % 7)) := if_pos h
theorem walk33 {ov : CallSem} (h66 : Has ov 66 [] F66) (h43 : Has ov 43 [] F43) (s : St) : ∀ args v, F33 args = some v → deepV 3 v = true ∧ WCall (solo 33 fun33 ov) 33 args s fun u _ => u = v := by
  intro args v h
  unfold F33 at h
  split at h
  case h_2 => cases h
  rename_i a
  split at h
  case h_2 => cases h
  rename_i w y m d c ha
  split at h
  case isFalse => cases h
  rename_i hc
  cases h
  obtain rfl : a = #[.int .i64 w, .int .i64 y, .int .i64 m, .int .i64 d, .int .i64 c] := Array.toList_inj.1 ha
  refine ⟨by unfold secD; split <;> rfl, ?_⟩
  refine solo_of rfl fun cs hcs => ?_
  have c66 : ∀ s K, WCall cs 66 [.int .i64 y, .int .i64 m, .int .i64 d] s K = K (if goodD y m d then .tuple #[.int .i64 (numD y m d), .bool true] else .tuple #[.int .i64 0, .bool false]) s := fun s K => h66.call hcs (by decide) rfl rfl rfl K
  unfold secD
  cases hg : goodD y m d
  · rw [hg] at c66
    simp only [Bool.false_eq_true, if_false] at c66
    simp -implicitDefEqProofs only [fun33, code33, params, go_sem, c66]
    refine ⟨fun i hi f' hf' => by rw [List.mem_singleton.1 hi] at hf'; cases hf'; exact fun _ _ => rfl, ?_⟩
    rw [if_neg (by simp)]
    rfl
  · rw [hg] at c66
    simp only [if_true] at c66
    have hb := num_bound hg
    have c43 : ∀ s K, WCall cs 43 [.int .i64 (numD y m d)] s K = K (.int .i64 ((numD y m d + 3) % 7)) s := fun s K => h43.call hcs (by decide) (F43_of (by omega)) rfl rfl K
    by_cases hc0 : 0 ≤ c
    · have d1 : decide (c < 0) = false := decide_eq_false (by omega)
      by_cases hw : (numD y m d + 3) % 7 = w
      · have d2 : ((numD y m d + 3) % 7 != w) = false := by simp [hw]
        have w1 : IntKind.i64.wrap (numD y m d * 86400) = numD y m d * 86400 := wrap64 (by omega) (by omega)
        have w2 : IntKind.i64.wrap (numD y m d * 86400 + c) = numD y m d * 86400 + c := wrap64 (by omega) (by omega)
        simp -implicitDefEqProofs only [fun33, code33, params, go_sem, c66, c43, d1, d2, w1, w2]
        refine ⟨fun i hi f' hf' => by rw [List.mem_singleton.1 hi] at hf'; cases hf'; exact fun _ _ => rfl, ?_⟩
        rw [if_pos (by simp [hc0, hw])]
        rfl
      · have d2 : ((numD y m d + 3) % 7 != w) = true := by simp [hw]
        simp -implicitDefEqProofs only [fun33, code33, params, go_sem, c66, c43, d1, d2]
        refine ⟨fun i hi f' hf' => by rw [List.mem_singleton.1 hi] at hf'; cases hf'; exact fun _ _ => rfl, ?_⟩
        rw [if_neg (by simp [hw])]
        rfl
    · have d1 : decide (c < 0) = true := decide_eq_true (by omega)
      simp -implicitDefEqProofs only [fun33, code33, params, go_sem, c66, c43, d1]
      refine ⟨fun i hi f' hf' => by rw [List.mem_singleton.1 hi] at hf'; cases hf'; exact fun _ _ => rfl, ?_⟩
      rw [if_neg (by simp; omega)]
      rfl

theorem yearD_1970 {n : Int} (h : 0 ≤ n) (h2 : n ≤ 2932896) : 1970 ≤ yearD (n + 719528) ∧ yearD (n + 719528) ≤ 9999 := by
  obtain ⟨a, b, c, d⟩ := yearD_spec (n := n + 719528) (by omega) (by omega)
  refine ⟨?_, d⟩
  by_cases hh : 1970 ≤ yearD (n + 719528)
  · exact hh
  · have := before_le (y := yearD (n + 719528) + 1) (z := 1970) (by omega) (by omega)
    rw [before_1970] at this
    omega
theorem walk67 {ov : CallSem} (h40 : Has ov 40 [] F40) (s : St) : ∀ args v, F67 args = some v → deepV 3 v = true ∧ WCall (solo 67 fun67 ov) 67 args s fun u _ => u = v := by
  intro args v h
  unfold F67 at h
  split at h
  case h_2 => cases h
  rename_i n now
  split at h
  case isFalse => cases h
  rename_i hn
  cases h
  refine ⟨rfl, ?_⟩
  refine solo_of rfl fun cs hcs => ?_
  unfold yearC
  by_cases h0 : n < 0
  · have d1 : decide (n < 0) = true := decide_eq_true h0
    simp -implicitDefEqProofs only [fun67, code67, params, go_sem, d1]
    rw [if_pos h0]
  · have d1 : decide (n < 0) = false := decide_eq_false h0
    have q1 := bv_quo (x := now) (c := 86400) hn.2.1 (by decide) (by omega)
    obtain ⟨t, ht⟩ : ∃ t, t = now / 86400 := ⟨_, rfl⟩
    rw [← ht] at q1 ⊢
    have hy := yearD_1970 (n := t) (by omega) (by omega)
    obtain ⟨y, hyy⟩ : ∃ y, y = yearD (t + 719528) := ⟨_, rfl⟩
    have c40 : ∀ s K, WCall cs 40 [.int .i64 t] s K = K (.tuple #[.int .i64 y, .int .i64 (monthD (t + 719528)).1, .int .i64 ((monthD (t + 719528)).2 + 1), .bool true]) s := fun s K => h40.call hcs (by decide) (by rw [hyy]; show some (if okD t then _ else _) = _; rw [if_pos (by unfold okD; simp; omega)]) rfl rfl K
    rw [← hyy] at hy ⊢
    have w1 : IntKind.i64.wrap (y + 50) = y + 50 := wrap64 (by omega) (by omega)
    have w2 : IntKind.i64.wrap (y + 50 - n) = y + 50 - n := wrap64 (by omega) (by omega)
    have r1 := bv_rem (x := y + 50 - n) (c := 100) (by omega) (by decide)
    have w3 : IntKind.i64.wrap (y + 50 - (y + 50 - n) % 100) = y + 50 - (y + 50 - n) % 100 := wrap64 (by omega) (by omega)
    simp -implicitDefEqProofs only [fun67, code67, params, go_sem, d1, q1, c40, w1, w2, r1, w3]
    rw [if_neg h0]

theorem dec_len {n : Int} (h : n ≤ 9999) : (Lib.decDigits n.toNat).length ≤ 4 := by
  rw [Lib.decDigits_length]
  by_cases h1 : n.toNat < 10
  · rw [Lib.nDigits_small h1]; omega
  · rw [Lib.nDigits_big h1]
    by_cases h2 : n.toNat / 10 < 10
    · rw [Lib.nDigits_small h2]; omega
    · rw [Lib.nDigits_big h2]
      by_cases h3 : n.toNat / 10 / 10 < 10
      · rw [Lib.nDigits_small h3]; omega
      · rw [Lib.nDigits_big h3]
        have h4 : n.toNat / 10 / 10 / 10 < 10 := by omega
        rw [Lib.nDigits_small h4]; omega
theorem walk41 {ov : CallSem} (h49 : Has ov 49 gP itoaF) (h71 : Has ov 71 [] repeatF) {H : Heap} (hG : globsOK ⟨H, 8⟩ gP = true) : ∀ args v, F41 args = some v → deepV 3 v = true ∧ WCall (solo 41 fun41 ov) 41 args ⟨H, 8⟩ fun u _ => u = v := by
  intro args v h
  unfold F41 at h
  split at h
  case h_2 => cases h
  rename_i n k
  split at h
  case isFalse => cases h
  rename_i hn
  cases h
  refine ⟨rfl, ?_⟩
  refine solo_of rfl fun cs hcs => ?_
  obtain ⟨l, hl⟩ : ∃ l, l = Lib.decDigits n.toNat := ⟨_, rfl⟩
  have hll : l.length ≤ 4 := by rw [hl]; exact dec_len hn.2.1
  have c49 : ∀ K, WCall cs 49 [.int .i64 n] ⟨H, 8⟩ K = K (S l) ⟨H, 8⟩ := fun K => h49.call hcs (by decide) (by
    show (if _ then some (Value.string ⟨(Lib.itoa n).toArray⟩) else none) = _
    rw [if_pos (by omega), Lib.itoa, if_neg (by omega), hl]) rfl hG K
  obtain ⟨k, rfl⟩ : ∃ k' : Nat, k = k' := ⟨k.toNat, by omega⟩
  have w1 : IntKind.i64.wrap ((k : Int) - (l.length : Int)) = (k : Int) - (l.length : Int) := wrap64 (by omega) (by omega)
  have hm : evP H.get 8 (.minmax true [.int .i64 ((k : Int) - (l.length : Int)), .int .i64 0]) = some ⟨.int .i64 ((k - l.length : Nat) : Int), [], 8⟩ := by
    have : minmaxV true (.int .i64 ((k : Int) - (l.length : Int))) [.int .i64 0] = some (.int .i64 ((k - l.length : Nat) : Int)) := by
      simp only [minmaxV, if_true]
      congr 2
      split <;> omega
    simp only [evP, this, Option.map_some]
  have c71 : ∀ s K, WCall cs 71 [S [48], .int .i64 ((k - l.length : Nat) : Int)] s K = K (S (Lib.repeatL [48] (k - l.length))) s := fun s K => h71.call hcs (by decide) (by
    show (if _ then some (Value.string ⟨(Lib.repeatL [48] ((k - l.length : Nat) : Int).toNat).toArray⟩) else none) = _
    rw [if_pos (by refine ⟨by omega, by omega, by rw [sizeS]; simp⟩), Int.toNat_natCast]) rfl rfl K
  have a1 := bs_add (a := Lib.repeatL [48] (k - l.length)) (b := l) (by rw [Lib.repeatL_length]; simp only [List.length_cons, List.length_nil]; omega)
  show WCode _ _ _ _ (ends fun41.res fun u _ => u = S (padD n ((k : Nat) : Int).toNat))
  simp -implicitDefEqProofs only [fun41, code41, params, go_sem, c49, sizeS, w1, hm, c71, a1]
  unfold padD
  rw [← hl]
end Go.Proofs.YtoiedaegnhifpaaDoor
