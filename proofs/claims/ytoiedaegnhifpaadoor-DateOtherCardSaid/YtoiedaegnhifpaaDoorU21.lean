/-
  DateOther.
-/
import Derived.Test.YtoiedaegnhifpaaDoorU19
import Derived.Test.YtoiedaegnhifpaaDoorU20
set_option maxRecDepth 100000
set_option linter.unusedVariables false
set_option linter.unusedSimpArgs false
namespace Go.Proofs.YtoiedaegnhifpaaDoor
open Go Go.Abs Go.Shelf Go.RowKit Go.Abs.K

def o91 : CallSem := orSem (callS 91 [] F70) o12
theorem o91_good : GoodCalls Tryd.prog o91 ∧ GoodWF o91 := or_good (walk_good mixed comp91 o12_good (by decide) (by decide) (walk91 (.there (by decide) .here) _)) o12_good
def o60 : CallSem := orSem (callS 60 [] F66) o91
theorem o60_good : GoodCalls Tryd.prog o60 ∧ GoodWF o60 := or_good (walk_good mixed comp60 o91_good (by decide) (by decide) (walk60 .here (.there (by decide) (.there (by decide) .here)) _)) o91_good
def o30 : CallSem := orSem (callS 30 [] F30) o60
theorem o30_good : GoodCalls Tryd.prog o30 ∧ GoodWF o30 := or_good (walk_good mixed comp30 o60_good (by decide) (by decide) (walk30 .here _)) o60_good
def o37 : CallSem := orSem (callS 37 [] F37) o30
theorem o37_good : GoodCalls Tryd.prog o37 ∧ GoodWF o37 := or_good (walk_good mixed comp37 o30_good (by decide) (by decide) (walk37 _)) o30_good
def o36 : CallSem := orSem (callS 36 [] F36) o37
theorem o36_good : GoodCalls Tryd.prog o36 ∧ GoodWF o36 := or_good (walkT_good (two_ok comp36 comp68 o37_good) rfl comp36 (by decide) (by decide) (walk36 (.there (by decide) (.there (by decide) .here)) _)) o37_good
def o39 : CallSem := orSem (callS 39 [] F39) o36
theorem o39_good : GoodCalls Tryd.prog o39 ∧ GoodWF o39 := or_good (walk_good mixed comp39 o36_good (by decide) (by decide) (walk39 (.there (by decide) .here) _)) o36_good
def o14 : CallSem := orSem (callS 14 [] (textF firstT)) o39
theorem o14_good : GoodCalls Tryd.prog o14 ∧ GoodWF o14 := or_good (walkT_good (two_ok comp14 comp38 o39_good) rfl comp14 (by decide) (by decide) (walk14 (.there (by decide) .here) (.there (by decide) (.there (by decide) .here)) .here _)) o39_good
def o11 : CallSem := orSem (callS 11 [] F11) o14
theorem o11_good : GoodCalls Tryd.prog o11 ∧ GoodWF o11 := or_good (walk_good mixed comp11 o14_good (by decide) (by decide) (walk11 (.there (by decide) (.there (by decide) (.there (by decide) (.there (by decide) .here)))) (stG []))) o14_good

theorem gl_B {H : Heap} {n id : Nat} {o : Option AObj} (hid : 8 ≤ id) : globsOK ⟨H.put id o, n⟩ gB = globsOK ⟨H, 8⟩ gB := by
  unfold gB globsOK
  simp only [List.all_cons, List.all_nil, Heap.get_put]
  rw [if_neg (by omega), if_neg (by omega)]
theorem bytesOf_map : ∀ (l : List UInt8) (acc : ByteArray), bytesOf (l.map fun b => .int .u8 b.toNat) acc = some ⟨(acc.data.toList ++ l).toArray⟩ := by
  intro l
  induction l with
  | nil => intro acc; simp [bytesOf]
  | cons b l ih =>
    intro acc
    rw [List.map_cons, bytesOf, ih]
    simp [ByteArray.push]
theorem ev_strB {g : Nat → Option AObj} {nx id : Nat} {l : List UInt8} {t : TypeId} {sz n : Nat} {ro : Bool} (h : g id = some (.cells (l.map fun b => .int .u8 b.toNat) t sz ro)) (hn : l.length = n) : evP g nx (.conv .toString (.slice (some ⟨id, 0, none⟩) n n)) = some ⟨S l, [], nx⟩ := by
  have : evP g nx (.conv .toString (.slice (some ⟨id, 0, none⟩) n n)) = (cellsAt g id 0 n).bind fun l => (bytesOf l .empty).map fun s => (⟨.string s, [], nx⟩ : Res) := rfl
  rw [this]
  unfold cellsAt
  rw [h]
  simp only [List.length_map, hn, Nat.zero_add, Nat.le_refl, if_true, List.drop_zero, Option.bind_some]
  rw [List.take_of_length_le (by simp [hn]), bytesOf_map]
  simp

def momR (y m d t : Int) : Value := if t < 0 then .tuple #[momV y m d (t.tdiv 3600) ((t.tdiv 60).tmod 60) (t.tmod 60), .int .i64 0, .bool false]
      else match secM y m d (t / 3600) (t / 60 % 60) (t % 60) with
        | some n => .tuple #[momV y m d (t / 3600) (t / 60 % 60) (t % 60), .int .i64 n, .bool true]
        | none => .tuple #[momV y m d (t / 3600) (t / 60 % 60) (t % 60), .int .i64 0, .bool false]
theorem F11_of {y m d t : Int} (ht : -9223372036854775808 ≤ t ∧ t ≤ 9223372036854775807) : F11 [.int .i64 y, .int .i64 m, .int .i64 d, .int .i64 t] = some (momR y m d t) := if_pos ht
theorem secM_inv {y m d h i s n : Int} (e : secM y m d h i s = some n) : okM y m d h i s = true ∧ n = numD y m d * 86400 + tOf h i s := by
  unfold secM at e
  split at e
  · rename_i hk
    cases e
    refine ⟨hk, ?_⟩
    unfold tOf
    omega
  · cases e

set_option maxHeartbeats 1000000 in
theorem law5 {y m d t p c0 : Int} (ht : -9223372036854775808 ≤ t ∧ t ≤ 9223372036854775807) (hp : 0 ≤ p ∧ p ≤ 255) (hc0 : 0 ≤ c0 ∧ c0 ≤ 255) : WCall (solo 5 fun5 o11) 5 [.int .i64 y, .int .i64 m, .int .i64 d, .int .i64 t, .int .u8 p, .int .u8 c0] (stG gB) fun u _ => u = .bool true := by
  show WCall _ _ _ ⟨(stG gB).heap, 8⟩ _
  have hS : globsOK ⟨(stG gB).heap, 8⟩ gS = true := rfl
  have hB : globsOK ⟨(stG gB).heap, 8⟩ gB = true := rfl
  have h12 : Has o11 12 gB F12 := (.there (by decide) (.there (by decide) (.there (by decide) (.there (by decide) (.there (by decide) (.there (by decide) (.there (by decide) (.there (by decide) .here))))))))
  have h13 : Has o11 13 gS F13 := (.there (by decide) (.there (by decide) (.there (by decide) (.there (by decide) (.there (by decide) (.there (by decide) (.there (by decide) (.there (by decide) (.there (by decide) (.there (by decide) .here))))))))))
  have h11 : Has o11 11 [] F11 := .here
  have h14 : Has o11 14 [] (textF firstT) := (.there (by decide) .here)
  generalize (stG gB).heap = H at hS hB
  refine solo_of rfl fun cs hcs => ?_
  have c12 : ∀ s, globsOK s gB = true → ∀ K, WCall cs 12 [] s K = K (.bool true) s := fun s hs K => h12.call hcs (by decide) rfl rfl hs K
  have z0 : fillL [.int .i64 0, .int .i64 0, .int .i64 0, .int .i64 0, .int .i64 0, .int .i64 0] [] = some [.int .i64 0, .int .i64 0, .int .i64 0, .int .i64 0, .int .i64 0, .int .i64 0] := rfl
  have c11 : ∀ s K, WCall cs 11 [.int .i64 y, .int .i64 m, .int .i64 d, .int .i64 t] s K = K (momR y m d t) s := fun s K => h11.call hcs (by decide) (F11_of ht) rfl rfl K
  unfold momR at c11
  by_cases h0 : t < 0
  · simp only [if_pos h0, momV] at c11
    simp -implicitDefEqProofs only [fun5, code5, params, go_sem, c11, c12, gl_B, hB, Heap.get_put]
  simp only [if_neg h0] at c11
  generalize t / 3600 = x1 at c11
  generalize t / 60 % 60 = x2 at c11
  generalize t % 60 = x3 at c11
  cases hs : secM y m d x1 x2 x3 with
  | none =>
    rw [hs] at c11
    simp only [momV] at c11
    simp -implicitDefEqProofs only [fun5, code5, params, go_sem, c11, c12, gl_B, hB, Heap.get_put]
  | some n =>
    rw [hs] at c11
    simp only at c11
    obtain ⟨hk, hn⟩ := secM_inv hs
    obtain ⟨hg, hy, hm, hd, hh, hi, hss⟩ := okM_parts hk
    obtain ⟨htt, _⟩ := tOf_parts hh hi hss
    obtain ⟨l, hl⟩ : ∃ l, l = firstT (dayN y m d) y m d (tOf x1 x2 x3) := ⟨_, rfl⟩
    have hlen : l.length = 29 := by rw [hl]; exact firstT_length (dayN_lt y m d) hm
    have c14 : ∀ s K, WCall cs 14 [momV y m d x1 x2 x3] s K = K (S l) s := fun s K => h14.call hcs (by decide) (by rw [textF_of hk, ← hl]) rfl rfl K
    simp only [momV] at c11 c14
    obtain ⟨i, hii⟩ : ∃ i : Nat, p % 29 = (i : Int) := ⟨(p % 29).toNat, by omega⟩
    have hi29 : i < 29 := by omega
    have wp : IntKind.i64.wrap p = p := wrap64 (by omega) (by omega)
    have q1 := bv_rem (x := p) (c := 29) hp.1 (by decide)
    rw [hii] at q1
    have i1 : 0 ≤ (i : Int) ∧ (i : Int) < 29 := by omega
    obtain ⟨b, hb⟩ : ∃ b, l[i]? = some b := ⟨_, List.getElem?_eq_getElem (by omega)⟩
    obtain ⟨f, hf⟩ : ∃ f : UInt8 → Value, f = fun b => .int .u8 b.toNat := ⟨_, rfl⟩
    have hbl : (⟨l.toArray⟩ : ByteArray).data.toList = l := rfl
    have g1 : (l.map f)[i]? = some (.int .u8 b.toNat) := by rw [List.getElem?_map, hb, hf]; rfl
    have z29 : ((29 : Nat) : Int) = 29 := rfl
    have eb : ∀ (g : Nat → Option AObj) nx, evP g nx (.conv (.toBytes 5) (S l)) = some ⟨.slice (some ⟨nx, 0, none⟩) 29 29, [(nx, some (.cells (l.map f) 5 1 false))], nx + 1⟩ := fun g nx => by
      have : evP g nx (.conv (.toBytes 5) (S l)) = some ⟨.slice (some ⟨nx, 0, none⟩) (ByteArray.size ⟨l.toArray⟩) (ByteArray.size ⟨l.toArray⟩), [(nx, some (.cells (l.map fun b => .int .u8 b.toNat) 5 1 false))], nx + 1⟩ := rfl
      rw [this, sizeS, hlen, hf]
    obtain ⟨c, hc⟩ : ∃ c : UInt8, (c.toNat : Int) = c0 := ⟨UInt8.ofNat c0.toNat, by simp; omega⟩
    subst hc
    by_cases e : (b.toNat : Int) = (c.toNat : Int)
    · have d1 : ((b.toNat : Int) == (c.toNat : Int)) = true := by simp [e]
      simp -implicitDefEqProofs only [fun5, code5, params, go_sem, c11, c12, c14, gl_B, hB, Heap.get_put, List.drop_zero, List.take_succ_cons, List.take_zero, eb, wp, q1, z29, i1, g1, d1]
    · have d1 : ((b.toNat : Int) == (c.toNat : Int)) = false := by simp; omega
      have hne : l[i]? ≠ some c := fun h => by rw [hb] at h; cases h; exact e rfl
      have hst : storeL (l.map f) i [.int .u8 c.toNat] = (l.set i c).map f := by
        rw [storeL, storeL, List.map_set, hf]
      have e2 : ∀ H' n, evP (Heap.get (Heap.put H' 9 (some (.cells ((l.set i c).map f) 5 1 false)))) n (.conv .toString (.slice (some ⟨9, 0, none⟩) 29 29)) = some ⟨S (l.set i c), [], n⟩ := fun H' n => by
        rw [hf]
        exact ev_strB (t := 5) (sz := 1) (ro := false) (by rw [Heap.get_put, if_pos rfl]) (by rw [List.length_set, hlen])
      have c13 : ∀ s, globsOK s gS = true → ∀ K, WCall cs 13 [S (l.set i c), .int .i64 0] s K = K (optV (parseD (l.set i c) (clampD 0))) s := fun s hs K => h13.call hcs (by decide) (F13_of (by rw [List.length_set]; omega)) rfl hs K
      have hi29' : i + 1 ≤ 29 := hi29
      cases hpd : parseD (l.set i c) (clampD 0) with
      | none =>
        rw [hpd] at c13
        simp only [optV] at c13
        simp -implicitDefEqProofs only [fun5, code5, params, go_sem, c11, c12, c13, c14, gl_B, gl_S, hB, hS, Heap.get_put, List.drop_zero, List.take_succ_cons, List.take_zero, eb, wp, q1, z29, i1, g1, d1, List.length_map, hi29', hst, e2, hlen]
      | some k =>
        rw [hpd] at c13
        simp only [optV] at c13
        have hw : (numD y m d + 3) % 7 = (dayN y m d : Int) := by unfold dayN; omega
        rw [hl] at hpd hne
        obtain ⟨k1, k2⟩ := changed hg htt hw hi29 hne hpd
        have d2 : (k != n) = true := by rw [hn]; simpa using k1
        have d3 : decide ((i : Int) > 4) = true := decide_eq_true (by omega)
        simp -implicitDefEqProofs only [fun5, code5, params, go_sem, c11, c12, c13, c14, gl_B, gl_S, hB, hS, Heap.get_put, List.drop_zero, List.take_succ_cons, List.take_zero, eb, wp, q1, z29, i1, g1, d1, List.length_map, hi29', hst, e2, hlen, d2, d3]
end Go.Proofs.YtoiedaegnhifpaaDoor
