/-
  A disk: Append.
-/
import Derived.Test.YtgnpafmhdmmmhaaD4
set_option maxRecDepth 100000
set_option linter.unusedVariables false
set_option linter.unusedSimpArgs false
namespace Go.Proofs.Ytgnpafmhdmmmhaa
open Go Go.Abs Go.Abs.K

def fullD (D : DM) (n : Int) (k : Nat) : Bool := (!(lookF D.F n).isSome && decide ((D.F.length : Int) ≥ D.most)) || decide ((k : Int) > 2048 - ((readB D n).length : Int))
def appE (D : DM) (n : Int) (k : Nat) : Int := if n < 0 then 1 else if fullD D n k then 5 else if wB D.first D.fails then 0 else 7
def appD (D : DM) (n : Int) (bs : List Int) : DM := if n < 0 then D else if fullD D n bs.length then D else if wB D.first D.fails then { wD D with F := putF D.F n (readB D n ++ bs), loose := D.loose ++ [(n, (bs.length : Int))] } else wD D

theorem zeros_len (n : Nat) : (List.replicate n [Value.int .u8 0]).flatten.length = n := by
  induction n with
  | zero => rfl
  | succ n ih => rw [List.replicate_succ, List.flatten_cons, List.length_append, ih]; simp; omega

theorem joined (c0 : List Value) (a b : List Int) (h : c0.length = a.length + b.length) : storeL (storeL c0 0 (a.map (.int .u8))) (0 + a.length * 1) (b.map (.int .u8)) = (a ++ b).map (.int .u8) := by
  rw [storeL_eq _ _ _ (by rw [storeL_length, List.length_map]; omega), storeL_eq _ _ _ (by rw [List.length_map]; omega)]
  simp only [List.length_map, List.take_zero, List.nil_append, Nat.zero_add, Nat.mul_one]
  rw [List.take_append_of_le_length (by simp), List.take_of_length_le (by simp), List.drop_of_length_le (by simp; omega), List.append_nil, List.map_append]

theorem setF_mem {k : Int} {bs : List Int} {q : Int × List Int} : ∀ {F : List (Int × List Int)}, q ∈ setF F k bs → q ∈ F ∨ q = (k, bs) := by
  intro F
  induction F with
  | nil => intro h; cases h
  | cons p F ih =>
    intro h
    simp only [setF] at h
    split at h
    · rename_i hk
      rcases List.mem_cons.1 h with h | h
      · right; rw [h, hk]
      · exact .inl (List.mem_cons_of_mem _ h)
    · rcases List.mem_cons.1 h with h | h
      · left; rw [h]; exact List.mem_cons_self ..
      · exact (ih h).imp_left (List.mem_cons_of_mem _)
theorem putF_mem {F : List (Int × List Int)} {k : Int} {bs : List Int} {q : Int × List Int} (h : q ∈ putF F k bs) : q ∈ F ∨ q = (k, bs) := by
  unfold putF at h
  split at h
  · exact setF_mem h
  · rcases List.mem_append.1 h with h | h
    · exact .inl h
    · exact .inr (List.mem_singleton.1 h)
theorem putF_len (F : List (Int × List Int)) (k : Int) (bs : List Int) : (putF F k bs).length = if (lookF F k).isSome = true then F.length else F.length + 1 := by
  have := congrArg List.length (putF_keys F k bs)
  rw [List.length_map] at this
  rw [this]
  split <;> simp

section
variable {tbl : FuncId → Option AFun} {ov : CallSem} {s : St} (T : DTbl tbl)
include T

theorem p27 {p : Nat} {D : DM} {O V : List Nat} {n : Int} {bv : Value} {bs : List Int} (h : DRep s p D O V) (hb : BytesV s bv bs) (hbO : ∀ id o l c, bv = .slice (some ⟨id, o, none⟩) l c → id ∉ O) (hn : W64 n) (hll : D.loose.length < 2 ^ 20) :
    WCall (fun k => call tbl ov k) 27 [ptr p, i64 n, bv] s fun u s' => u = i64 (appE D n bs.length) ∧ Kept O s s' ∧ ∃ O' V', DRep s' p (appD D n bs) O' V' ∧ (∀ x ∈ O', x ∈ O ∨ s.next ≤ x) ∧ ∀ x ∈ V', x ∈ V ∨ s.next ≤ x := by
  refine WCall.of T.t27 rfl ?_
  have h0 := h
  obtain ⟨m, lv, S, es, clock, h1, rfl, h2, h3, h4, h5, h6, h7, h8, h9, h10, h11, h12⟩ := h
  obtain ⟨ba, bc, hbv⟩ := hb.len
  subst hbv
  by_cases hneg : n < 0
  · have d1 : decide (n < 0) = true := by simpa using hneg
    simp -implicitDefEqProofs only [fun27, code27, params, go_sem, reduceIte, Nat.reduceEqDiff, Nat.reduceAdd, Nat.reduceMul, Nat.reduceLT, Nat.reduceLeDiff, reduceCtorEq, Int.reduceEq, Int.reduceNeg, Nat.reduceSub, Int.reduceLT, Int.reduceLE, Int.reduceGT, Int.reduceGE, Int.reduceAdd, Int.reduceSub, Int.reduceToNat, Int.reduceBNe, Int.reduceBEq, Nat.mul_one, Nat.zero_mul, d1, appE, appD, hneg]
    exact ⟨Kept.refl _ _, _, _, h0, fun x hx => .inl hx, fun x hx => .inl hx⟩
  have d1 : decide (n < 0) = false := by simpa using hneg
  have el := ev_lookup (g := s.heap.get) (nx := s.next) (z := .slice none 0 0) (kind_int .i64) h3 h2 (k := i64 n) ⟨n, rfl⟩ true
  obtain ⟨ov', hel, hov, hovV⟩ : ∃ v, evP s.heap.get s.next (.lookup .int (.slice none 0 0) true (.map (some m)) (i64 n)) = some ⟨.tuple #[v, .bool (lookF D.F n).isSome], [], s.next⟩ ∧ BytesV s v (readB D n) ∧ InV V v := by
    unfold readB
    cases hl : lookF D.F n with
    | none =>
      rw [er_none h4 hl] at el
      exact ⟨.slice none 0 0, el, ⟨by simp, .inl ⟨rfl, rfl⟩⟩, fun id o l c e => by cases e⟩
    | some bs' =>
      obtain ⟨v, hv, hB, hV⟩ := er_some h4 hl
      rw [hv] at el
      exact ⟨v, el, hB, hV⟩
  have hlen : (readB D n).length ≤ 2048 := by
    unfold readB
    cases hl : lookF D.F n with
    | none => simp
    | some bs' => exact h12.len _ (lookF_mem hl)
  obtain ⟨oa, oc, hoe⟩ := hov.len
  subst hoe
  have elm : evP s.heap.get s.next (.len .map (.map (some m))) = some ⟨i64 (D.F.length : Nat), [], s.next⟩ := by
    simp [evP, entriesOf, h2, h4.len]
  have w0 : IntKind.i64.wrap (2048 - ((readB D n).length : Int)) = 2048 - ((readB D n).length : Int) := by rw [IntKind.wrap_i64]; omega
  have h48 := p48 (ov := ov) T h1 h12.first h12.fails
  have hlow : lookF D.F n = none → (putF D.F n (readB D n ++ bs)).length = D.F.length + 1 := fun hx => by
    unfold putF; rw [hx]; simp
  cases hfull : fullD D n bs.length
  · -- there is room
    have hfull' := hfull
    simp only [fullD, Bool.or_eq_false_iff, Bool.and_eq_false_iff, Bool.not_eq_false'] at hfull'
    obtain ⟨hroom, d3⟩ := hfull'
    have hfitN : (lookF D.F n).isSome = true ∨ ((lookF D.F n).isSome = false ∧ decide ((D.F.length : Int) ≥ D.most) = false) := by
      cases hx : (lookF D.F n).isSome
      · rw [hx] at hroom
        exact .inr ⟨rfl, hroom.resolve_left (by simp)⟩
      · exact .inl rfl
    have hsum : (readB D n).length + bs.length ≤ 2048 := by
      have := of_decide_eq_false d3; omega
    -- the state behind
    obtain ⟨N, hN⟩ : ∃ N, N = (readB D n).length + bs.length := ⟨_, rfl⟩
    have tail : ∀ s1 : St, s1.next = s.next → s1.heap.get p = some (.cells [i64 D.most, .map (some m), lv, i64 (wF D.first), i64 (wG D.first D.fails)] 91 0 false) → (∀ j, j ≠ p → s1.heap.get j = s.heap.get j) →
        ∃ (c0 c1 : List Value) (val : Value) (upd : List (Nat × Option AObj)) (nx : Nat),
          evP s1.heap.get s1.next (.mkSlice 5 1 1 [.int .u8 0] (i64 (N : Nat)) (i64 (N : Nat))) = some ⟨.slice (some ⟨s1.next, 0, none⟩) N N, [(s1.next, some (.cells c0 5 1 false))], s1.next + 1⟩ ∧
          evP (s1.heap.put s1.next (some (.cells c0 5 1 false))).get (s1.next + 1) (.copy 1 (.slice (some ⟨s1.next, 0, none⟩) N N) (.slice oa (readB D n).length oc)) = some ⟨i64 ((readB D n).length : Nat), [(s1.next, some (.cells c1 5 1 false))], s1.next + 1⟩ ∧
          evP ((s1.heap.put s1.next (some (.cells c0 5 1 false))).put s1.next (some (.cells c1 5 1 false))).get (s1.next + 1) (.slice (.slice 1) (.slice (some ⟨s1.next, 0, none⟩) N N) (some (i64 ((readB D n).length : Nat))) none none) = some ⟨.slice (some ⟨s1.next, (readB D n).length, none⟩) (N - (readB D n).length) (N - (readB D n).length), [], s1.next + 1⟩ ∧
          evP ((s1.heap.put s1.next (some (.cells c0 5 1 false))).put s1.next (some (.cells c1 5 1 false))).get (s1.next + 1) (.copy 1 (.slice (some ⟨s1.next, (readB D n).length, none⟩) (N - (readB D n).length) (N - (readB D n).length)) (.slice ba bs.length bc)) = some ⟨i64 (bs.length : Nat), [(s1.next, some (.cells ((readB D n ++ bs).map (.int .u8)) 5 1 false))], s1.next + 1⟩ ∧
          evP (((s1.heap.put s1.next (some (.cells c0 5 1 false))).put s1.next (some (.cells c1 5 1 false))).put s1.next (some (.cells ((readB D n ++ bs).map (.int .u8)) 5 1 false))).get (s1.next + 1) (.mapUpdate .int (.map (some m)) (i64 n) (.slice (some ⟨s1.next, 0, none⟩) N N)) = some ⟨undefV, [(m, some (.map (mput es clock (i64 n) (.slice (some ⟨s1.next, 0, none⟩) N N)) (mclock es clock (i64 n))))], s1.next + 1⟩ ∧
          evP (((((s1.heap.put s1.next (some (.cells c0 5 1 false))).put s1.next (some (.cells c1 5 1 false))).put s1.next (some (.cells ((readB D n ++ bs).map (.int .u8)) 5 1 false))).put m (some (.map (mput es clock (i64 n) (.slice (some ⟨s1.next, 0, none⟩) N N)) (mclock es clock (i64 n))))).put (s1.next + 1) (some (.cells [i64 n, i64 (bs.length : Nat)] 94 2 false))).get (s1.next + 1 + 1)
            (.append 94 2 16 lv (.slice (some ⟨s1.next + 1, 0, none⟩) 1 1)) = some ⟨val, upd, nx⟩ ∧
          (applyUpd (((((s1.heap.put s1.next (some (.cells c0 5 1 false))).put s1.next (some (.cells c1 5 1 false))).put s1.next (some (.cells ((readB D n ++ bs).map (.int .u8)) 5 1 false))).put m (some (.map (mput es clock (i64 n) (.slice (some ⟨s1.next, 0, none⟩) N N)) (mclock es clock (i64 n))))).put (s1.next + 1) (some (.cells [i64 n, i64 (bs.length : Nat)] 94 2 false))) upd).get p = some (.cells [i64 D.most, .map (some m), lv, i64 (wF D.first), i64 (wG D.first D.fails)] 91 0 false) ∧
          (∃ va vn vc, val = .slice va vn vc) ∧
          (Kept (p :: m :: S) s ⟨(applyUpd (((((s1.heap.put s1.next (some (.cells c0 5 1 false))).put s1.next (some (.cells c1 5 1 false))).put s1.next (some (.cells ((readB D n ++ bs).map (.int .u8)) 5 1 false))).put m (some (.map (mput es clock (i64 n) (.slice (some ⟨s1.next, 0, none⟩) N N)) (mclock es clock (i64 n))))).put (s1.next + 1) (some (.cells [i64 n, i64 (bs.length : Nat)] 94 2 false))) upd).put p (some (.cells [i64 D.most, .map (some m), val, i64 (wF D.first), i64 (wG D.first D.fails)] 91 0 false)), nx⟩ ∧
          ∃ O' V', DRep ⟨(applyUpd (((((s1.heap.put s1.next (some (.cells c0 5 1 false))).put s1.next (some (.cells c1 5 1 false))).put s1.next (some (.cells ((readB D n ++ bs).map (.int .u8)) 5 1 false))).put m (some (.map (mput es clock (i64 n) (.slice (some ⟨s1.next, 0, none⟩) N N)) (mclock es clock (i64 n))))).put (s1.next + 1) (some (.cells [i64 n, i64 (bs.length : Nat)] 94 2 false))) upd).put p (some (.cells [i64 D.most, .map (some m), val, i64 (wF D.first), i64 (wG D.first D.fails)] 91 0 false)), nx⟩ p
            { wD D with F := putF D.F n (readB D n ++ bs), loose := D.loose ++ [(n, (bs.length : Int))] } O' V' ∧ (∀ x ∈ O', x ∈ p :: m :: S ∨ s.next ≤ x) ∧ ∀ x ∈ V', x ∈ V ∨ s.next ≤ x) := by
      intro s1 hnx hp ho
      obtain ⟨g2, g4, g5, gR, gk⟩ := DRep.wrote h2 h3 h4 h5 h6 h7 h8 h9 h10 h11 h12 hnx hp ho (wF_range h12.first) (wG_range (f := D.first) h12.fails)
      obtain ⟨A, hA⟩ : ∃ A, A = s1.next := ⟨_, rfl⟩
      obtain ⟨c0, hc0⟩ : ∃ c0, c0 = (List.replicate N [Value.int .u8 0]).flatten := ⟨_, rfl⟩
      have hl0 : c0.length = N := by rw [hc0, zeros_len]
      have htb : tooBig N 1 = false := by simp only [tooBig, Bool.or_eq_false_iff, decide_eq_false_iff_not]; omega
      have e1 : evP s1.heap.get s1.next (.mkSlice 5 1 1 [.int .u8 0] (i64 (N : Nat)) (i64 (N : Nat))) = _ := ev_mkSlice htb rfl
      rw [← hc0] at e1
      have hNl : (readB D n ++ bs).length = N := by rw [List.length_append, hN]
      -- the copies
      have hovp : ∀ id o l c, Value.slice oa (readB D n).length oc = .slice (some ⟨id, o, none⟩) l c → id ∉ [p] := fun id o l c e => by
        have := (h11 id (hovV id o l c e)).1
        simp only [List.mem_singleton]; rintro rfl; exact this (by simp)
      have hbp : ∀ id o l c, Value.slice ba bs.length bc = .slice (some ⟨id, o, none⟩) l c → id ∉ [p] := fun id o l c e => by
        have := hbO id o l c e
        simp only [List.mem_singleton]; rintro rfl; exact this (by simp)
      have hov1 := BytesV.kept' (t := 0) (w := undefV) (zs := readB D n) (ws := []) hov gk hovp
      have hb1 := BytesV.kept' (t := 0) (w := undefV) (zs := bs) (ws := []) hb gk hbp
      have hk2 : ∀ o : Option AObj, Kept [] s1 ⟨s1.heap.put s1.next o, s1.next + 1⟩ := fun o => kept_put_nil (Nat.le_refl _) (Nat.le_succ _)
      have hov2 : SrcV ⟨s1.heap.put s1.next (some (.cells c0 5 1 false)), s1.next + 1⟩ (.slice oa (readB D n).length oc) (readB D n) := .inl (hov1.kept (hk2 _))
      obtain ⟨c1, hc1⟩ : ∃ c1, c1 = storeL c0 0 ((readB D n).map (.int .u8)) := ⟨_, rfl⟩
      have hl1 : c1.length = N := by rw [hc1, storeL_length, hl0]
      have e2 : evP (s1.heap.put s1.next (some (.cells c0 5 1 false))).get (s1.next + 1) (.copy 1 (.slice (some ⟨s1.next, 0, none⟩) N N) (.slice oa (readB D n).length oc)) = _ :=
        ev_copy (m := (readB D n).length) (by rw [Heap.get_put, if_pos rfl]) hov2.len (by omega) hov2.first (cells_bytes _) (by simp) (by rw [hl0]; omega)
      rw [← hc1] at e2
      have hb3 : SrcV ⟨(s1.heap.put s1.next (some (.cells c0 5 1 false))).put s1.next (some (.cells c1 5 1 false)), s1.next + 1⟩ (.slice ba bs.length bc) bs :=
        .inl (hb1.kept ⟨Nat.le_succ _, fun j hj _ => by simp only [Heap.get_put]; rw [if_neg (by omega), if_neg (by omega)]⟩)
      have hg3 : ((s1.heap.put s1.next (some (.cells c0 5 1 false))).put s1.next (some (.cells c1 5 1 false))).get s1.next = some (.cells c1 5 1 false) := by rw [Heap.get_put, if_pos rfl]
      have e3 : evP ((s1.heap.put s1.next (some (.cells c0 5 1 false))).put s1.next (some (.cells c1 5 1 false))).get (s1.next + 1) (.slice (.slice 1) (.slice (some ⟨s1.next, 0, none⟩) N N) (some (i64 ((readB D n).length : Nat))) none none) = _ :=
        ev_sliceL hg3 (.inr (.inl rfl)) (by omega) (Nat.le_refl _)
      have e4 : evP ((s1.heap.put s1.next (some (.cells c0 5 1 false))).put s1.next (some (.cells c1 5 1 false))).get (s1.next + 1) (.copy 1 (.slice (some ⟨s1.next, 0 + (readB D n).length * 1, none⟩) (N - (readB D n).length) (N - (readB D n).length)) (.slice ba bs.length bc)) = _ :=
        ev_copy (m := bs.length) hg3 hb3.len (by omega) hb3.first (cells_bytes _) (by simp) (by rw [hl1]; omega)
      rw [hc1, joined c0 _ _ (by rw [hl0, hN]), ← hc1] at e4
      rw [Nat.zero_add, Nat.mul_one] at e3 e4
      obtain ⟨c2, hc2⟩ : ∃ c2 : List Value, c2 = (readB D n ++ bs).map (.int .u8) := ⟨_, rfl⟩
      rw [← hc2] at e4 ⊢
      have hmA : m ≠ s1.next := by omega
      have hpA : p ≠ s1.next := by omega
      have hgm : (((s1.heap.put s1.next (some (.cells c0 5 1 false))).put s1.next (some (.cells c1 5 1 false))).put s1.next (some (.cells c2 5 1 false))).get m = some (.map es clock) := by
        simp only [Heap.get_put, hmA, if_false]; exact g2
      have e5 := ev_mapUpdate (nx := s1.next + 1) (v := .slice (some ⟨s1.next, 0, none⟩) N N) (kind_int .i64) h3 hgm (k := i64 n) ⟨n, rfl⟩
      obtain ⟨s6, hs6⟩ : ∃ s6 : St, s6 = ⟨((((s1.heap.put s1.next (some (.cells c0 5 1 false))).put s1.next (some (.cells c1 5 1 false))).put s1.next (some (.cells c2 5 1 false))).put m (some (.map (mput es clock (i64 n) (.slice (some ⟨s1.next, 0, none⟩) N N)) (mclock es clock (i64 n))))).put (s1.next + 1) (some (.cells [i64 n, i64 (bs.length : Nat)] 94 2 false)), s1.next + 1 + 1⟩ := ⟨_, rfl⟩
      have hk6 : Kept [m] s1 s6 := by
        rw [hs6]
        refine ⟨by simp only; omega, fun j hj hm => ?_⟩
        simp only [List.mem_singleton] at hm
        simp only [Heap.get_put, hm, if_false]
        rw [if_neg (by omega), if_neg (by omega), if_neg (by omega), if_neg (by omega)]
      have hn6 : s6.next = s1.next + 2 := by rw [hs6]
      have hR6 := g5.kept hk6 (fun x hx => by simp only [List.mem_singleton]; rintro rfl; exact h8 hx)
      have hy : RowV 2 s6 (.slice (some ⟨s1.next + 1, 0, none⟩) 1 1) [rowW (n, (bs.length : Int))] :=
        ⟨fun c hc => by rw [List.mem_singleton.1 hc]; exact ⟨rfl, rfl⟩, .inr ⟨s1.next + 1, 0, 1, [i64 n, i64 (bs.length : Nat)], 94, false, rfl, Nat.le_refl _, by omega, by rw [hs6]; simp only [Heap.get_put, if_true], by simp, by simp⟩⟩
      have htb2 : ∀ k, k < 2 ^ 30 → tooBig k 16 = false := fun k hk => by simp only [tooBig, Bool.or_eq_false_iff, decide_eq_false_iff_not]; omega
      obtain ⟨val, upd, nx, S', he, hR7, hk7, hS⟩ := hR6.append (b := 16) hy (fun c hc => by rw [List.mem_singleton.1 hc]; rfl) (htb2 _ (by simp only [List.length_map, List.length_cons, List.length_nil]; omega)) (fun k _ h => htb2 _ (by simp only [List.length_cons, List.length_nil] at h; omega))
      have hSlt : ∀ x ∈ S, x < s.next := h5.lt
      have hnx7 : s6.next ≤ nx := hk7.1
      have hp7 : (applyUpd s6.heap upd).get p = some (.cells [i64 D.most, .map (some m), lv, i64 (wF D.first), i64 (wG D.first D.fails)] 91 0 false) := by
        have := hk7.2 p (by omega) h7
        simp only at this
        rw [this, hk6.2 p (by omega) (by simpa using h6)]; exact hp
      have hm7 : (applyUpd s6.heap upd).get m = some (.map (mput es clock (i64 n) (.slice (some ⟨s1.next, 0, none⟩) N N)) (mclock es clock (i64 n))) := by
        have := hk7.2 m (by omega) h8
        simp only at this
        have hmB : m ≠ s1.next + 1 := by omega
        rw [this, hs6]; simp only [Heap.get_put, hmB, if_false, if_true]
      have hA7 : (applyUpd s6.heap upd).get s1.next = some (.cells c2 5 1 false) := by
        have := hk7.2 s1.next (by omega) (fun hx => by have := hSlt _ hx; omega)
        simp only at this
        have hB : s1.next ≠ s1.next + 1 := by omega
        rw [this, hs6]; simp only [Heap.get_put, hB, Ne.symm hmA, if_false, if_true]
      have hcell : ∃ va vn vc, val = .slice va vn vc := by
        obtain ⟨_, ⟨h, _⟩ | ⟨_, _, _, _, h, _⟩⟩ := hR7 <;> exact ⟨_, _, _, h⟩
      refine ⟨c0, c1, val, upd, nx, e1, e2, e3, e4, e5, by rw [hs6] at he; exact he, by rw [hs6] at hp7; exact hp7, hcell, ?_⟩
      obtain ⟨s8, hs8⟩ : ∃ s8 : St, s8 = ⟨(applyUpd s6.heap upd).put p (some (.cells [i64 D.most, .map (some m), val, i64 (wF D.first), i64 (wG D.first D.fails)] 91 0 false)), nx⟩ := ⟨_, rfl⟩
      have hk8 : Kept [p] ⟨applyUpd s6.heap upd, nx⟩ s8 := by rw [hs8]; exact kept_put1 (Nat.le_refl _)
      have hkall : Kept (p :: m :: S) s s8 := by
        refine ⟨by rw [hs8]; simp only; omega, fun j hj hn => ?_⟩
        simp only [List.mem_cons, not_or] at hn
        rw [hk8.2 j (by simp only; omega) (by simpa using hn.1), hk7.2 j (by omega) hn.2.2, hk6.2 j (by omega) (by simpa using hn.2.1), gk.2 j hj (by simpa using hn.1)]
      have hpS' : p ∉ S' := fun hx => (hS p hx).elim h7 fun h => by omega
      have hmS' : m ∉ S' := fun hx => (hS m hx).elim h8 fun h => by omega
      have h8A : s8.heap.get s1.next = some (.cells c2 5 1 false) := by rw [hk8.2 s1.next (by simp only; omega) (by simpa using Ne.symm hpA)]; exact hA7
      have hnew : BytesV s8 (.slice (some ⟨s1.next, 0, none⟩) N N) (readB D n ++ bs) := by
        refine ⟨fun z hz => ?_, .inr ⟨s1.next, 0, N, c2, 5, 1, false, by rw [hNl], by rw [hNl]; exact Nat.le_refl _, by rw [hs8]; simp only; omega, h8A, ?_, .inr rfl, by rw [hc2, List.length_map]; omega⟩⟩
        · rcases List.mem_append.1 hz with hz | hz
          · exact hov.1 z hz
          · exact hb.1 z hz
        · rw [hc2, List.drop_zero, List.take_of_length_le (by rw [List.length_map]; exact Nat.le_refl _)]
      have her : All2 (ER s8 (s1.next :: V)) es D.F := er_sub (er_kept h4 hkall (fun x hx => (h11 x hx).1)) (fun x hx => List.mem_cons_of_mem _ hx)
      rw [hs6] at hs8
      simp only at hs8
      rw [← hs8]
      refine ⟨hkall, p :: m :: S', s1.next :: V, ⟨m, val, S', _, _, by rw [hs8]; simp only [Heap.get_put, if_true, wD], rfl, ?_, MOK.mput (kind_int .i64) h3 ⟨n, rfl⟩ _, er_put her hnew (fun id o l c e => by cases e; exact List.mem_cons_self ..), ?_, h6, hpS', hmS', ?_, ?_, ?_, ?_⟩, ?_, ?_⟩
      · rw [hk8.2 m (by simp only; omega) (by simpa using Ne.symm h6)]; exact hm7
      · have := hR7.kept hk8 (fun x hx => by simp only [List.mem_singleton]; rintro rfl; exact hpS' hx)
        rw [List.map_append]
        exact this
      · have := hkall.1; omega
      · have := hkall.1; omega
      · intro x hx
        have hle := hkall.1
        have hnn : s8.next = nx := by rw [hs8]
        rcases List.mem_cons.1 hx with rfl | hx
        · refine ⟨fun hx => ?_, by omega⟩
          simp only [List.mem_cons] at hx
          rcases hx with hx | hx | hx
          · exact hpA hx.symm
          · exact hmA hx.symm
          · rcases hS _ hx with h | h
            · have := hSlt _ h; omega
            · omega
        · have hx2 := h11 x hx
          refine ⟨fun hx' => ?_, by omega⟩
          simp only [List.mem_cons] at hx'
          rcases hx' with h | h | h
          · exact hx2.1 (by simp [h])
          · exact hx2.1 (by simp [h])
          · rcases hS _ h with h | h
            · exact hx2.1 (by simp [h])
            · omega
      · refine ⟨wF_range h12.first, wG_range h12.fails, h12.most, fun q hq => ?_, ?_, fun q hq => ?_⟩
        · rcases putF_mem hq with hq | rfl
          · exact h12.keys q hq
          · exact hn
        · simp only [wD, putF_len]
          rcases hfitN with hx | ⟨hx, hx2⟩
          · rw [hx]; exact h12.fit
          · rw [hx]
            have := of_decide_eq_false hx2
            simp only [Bool.false_eq_true, if_false]; omega
        · rcases putF_mem hq with hq | rfl
          · exact h12.len q hq
          · simp only; omega
      · intro x hx
        simp only [List.mem_cons] at hx
        rcases hx with rfl | rfl | hx
        · left; simp
        · left; simp
        · rcases hS x hx with h | h
          · left; simp [h]
          · right; omega
      · intro x hx
        rcases List.mem_cons.1 hx with rfl | hx
        · right; omega
        · exact .inl hx
    have d2 : IntKind.i64.wrap (((readB D n).length : Int) + (bs.length : Int)) = ((N : Nat) : Int) := by rw [IntKind.wrap_i64]; omega
    rcases hfitN with hx | ⟨hx, d4⟩
    all_goals rw [hx] at hel
    all_goals first
      | simp -implicitDefEqProofs only [fun27, code27, params, go_sem, reduceIte, Nat.reduceEqDiff, Nat.reduceAdd, Nat.reduceMul, Nat.reduceLT, Nat.reduceLeDiff, reduceCtorEq, Int.reduceEq, Int.reduceNeg, Nat.reduceSub, Int.reduceLT, Int.reduceLE, Int.reduceGT, Int.reduceGE, Int.reduceAdd, Int.reduceSub, Int.reduceToNat, Int.reduceBNe, Int.reduceBEq, Nat.mul_one, Nat.zero_mul, h1, hel, elm, w0, d1, d3, d4, Bool.not_true, Bool.not_false]
      | simp -implicitDefEqProofs only [fun27, code27, params, go_sem, reduceIte, Nat.reduceEqDiff, Nat.reduceAdd, Nat.reduceMul, Nat.reduceLT, Nat.reduceLeDiff, reduceCtorEq, Int.reduceEq, Int.reduceNeg, Nat.reduceSub, Int.reduceLT, Int.reduceLE, Int.reduceGT, Int.reduceGE, Int.reduceAdd, Int.reduceSub, Int.reduceToNat, Int.reduceBNe, Int.reduceBEq, Nat.mul_one, Nat.zero_mul, h1, hel, elm, w0, d1, d3, Bool.not_true, Bool.not_false]
    all_goals refine WCall.mono h48 ?_
    all_goals rintro u s1 ⟨rfl, hnx, hp, ho⟩
    all_goals obtain ⟨g2, g4, g5, gR, gk⟩ := DRep.wrote h2 h3 h4 h5 h6 h7 h8 h9 h10 h11 h12 hnx hp ho (wF_range h12.first) (wG_range (f := D.first) h12.fails)
    all_goals cases hb' : wB D.first D.fails
    all_goals first
      | (simp -implicitDefEqProofs only [go_sem, reduceIte, Nat.reduceEqDiff, Nat.reduceAdd, Nat.reduceMul, Nat.reduceLT, Nat.reduceLeDiff, reduceCtorEq, Int.reduceEq, Int.reduceNeg, Nat.reduceSub, Int.reduceLT, Int.reduceLE, Int.reduceGT, Int.reduceGE, Int.reduceAdd, Int.reduceSub, Int.reduceToNat, Int.reduceBNe, Int.reduceBEq, Nat.mul_one, Nat.zero_mul, Bool.not_false]
         refine ⟨by simp only [appE, hneg, hfull, hb', if_false, Bool.false_eq_true], gk.sub (by simp), _, _, ?_, fun x hx => .inl hx, fun x hx => .inl hx⟩
         simp only [appD, hneg, hfull, hb', if_false, Bool.false_eq_true]
         exact gR)
      | (obtain ⟨c0, c1, val, upd, nx, e1, e2, e3, e4, e5, e6, e7, ⟨va, vn, vc, rfl⟩, e9⟩ := tail s1 hnx hp ho
         have hpn : (p = s1.next) = False := by simp; omega
         have hpn1 : (p = s1.next + 1) = False := by simp; omega
         have hpm : (p = m) = False := by simpa using h6
         simp -implicitDefEqProofs only [go_sem, reduceIte, Nat.reduceEqDiff, Nat.reduceAdd, Nat.reduceMul, Nat.reduceLT, Nat.reduceLeDiff, reduceCtorEq, Int.reduceEq, Int.reduceNeg, Nat.reduceSub, Int.reduceLT, Int.reduceLE, Int.reduceGT, Int.reduceGE, Int.reduceAdd, Int.reduceSub, Int.reduceToNat, Int.reduceBNe, Int.reduceBEq, Nat.mul_one, Nat.zero_mul, Bool.not_true, d2, e1, e2, e3, e4, e5, e6, e7, hp, hpn, hpn1, hpm, ev_buildSlice, fillL]
         refine ⟨by simp only [appE, hneg, hfull, hb', if_false, Bool.false_eq_true, if_true], ?_⟩
         simp only [appD, hneg, hfull, hb', if_false, Bool.false_eq_true, if_true]
         exact e9)
  · -- there is none
    have hfull' := hfull
    simp only [fullD, Bool.or_eq_true, Bool.and_eq_true, Bool.not_eq_true'] at hfull'
    have hcase : ((lookF D.F n).isSome = false ∧ decide ((D.F.length : Int) ≥ D.most) = true) ∨ ((lookF D.F n).isSome = true ∧ decide ((bs.length : Int) > 2048 - ((readB D n).length : Int)) = true) ∨ ((lookF D.F n).isSome = false ∧ decide ((D.F.length : Int) ≥ D.most) = false ∧ decide ((bs.length : Int) > 2048 - ((readB D n).length : Int)) = true) := by
      cases hx : (lookF D.F n).isSome
      · rw [hx] at hfull'
        cases hy : decide ((D.F.length : Int) ≥ D.most)
        · rw [hy] at hfull'
          exact .inr (.inr ⟨rfl, rfl, hfull'.resolve_left (by simp)⟩)
        · exact .inl ⟨rfl, rfl⟩
      · rw [hx] at hfull'
        exact .inr (.inl ⟨rfl, hfull'.resolve_left (by simp)⟩)
    have hfin : i64 5 = i64 (appE D n bs.length) ∧ Kept (p :: m :: S) s s ∧ ∃ O' V', DRep s p (appD D n bs) O' V' ∧ (∀ x ∈ O', x ∈ p :: m :: S ∨ s.next ≤ x) ∧ ∀ x ∈ V', x ∈ V ∨ s.next ≤ x :=
      ⟨by simp only [appE, hneg, hfull, if_false, if_true], Kept.refl _ _, _, _, by simp only [appD, hneg, hfull, if_false, if_true]; exact h0, fun x hx => .inl hx, fun x hx => .inl hx⟩
    rcases hcase with ⟨hx, d3⟩ | ⟨hx, d3⟩ | ⟨hx, d3, d4⟩
    · rw [hx] at hel
      simp -implicitDefEqProofs only [fun27, code27, params, go_sem, reduceIte, Nat.reduceEqDiff, Nat.reduceAdd, Nat.reduceMul, Nat.reduceLT, Nat.reduceLeDiff, reduceCtorEq, Int.reduceEq, Int.reduceNeg, Nat.reduceSub, Int.reduceLT, Int.reduceLE, Int.reduceGT, Int.reduceGE, Int.reduceAdd, Int.reduceSub, Int.reduceToNat, Int.reduceBNe, Int.reduceBEq, Nat.mul_one, Nat.zero_mul, h1, hel, elm, w0, d1, d3, Bool.not_true, Bool.not_false]
      exact hfin
    · rw [hx] at hel
      simp -implicitDefEqProofs only [fun27, code27, params, go_sem, reduceIte, Nat.reduceEqDiff, Nat.reduceAdd, Nat.reduceMul, Nat.reduceLT, Nat.reduceLeDiff, reduceCtorEq, Int.reduceEq, Int.reduceNeg, Nat.reduceSub, Int.reduceLT, Int.reduceLE, Int.reduceGT, Int.reduceGE, Int.reduceAdd, Int.reduceSub, Int.reduceToNat, Int.reduceBNe, Int.reduceBEq, Nat.mul_one, Nat.zero_mul, h1, hel, elm, w0, d1, d3, Bool.not_true, Bool.not_false]
      exact hfin
    · rw [hx] at hel
      simp -implicitDefEqProofs only [fun27, code27, params, go_sem, reduceIte, Nat.reduceEqDiff, Nat.reduceAdd, Nat.reduceMul, Nat.reduceLT, Nat.reduceLeDiff, reduceCtorEq, Int.reduceEq, Int.reduceNeg, Nat.reduceSub, Int.reduceLT, Int.reduceLE, Int.reduceGT, Int.reduceGE, Int.reduceAdd, Int.reduceSub, Int.reduceToNat, Int.reduceBNe, Int.reduceBEq, Nat.mul_one, Nat.zero_mul, h1, hel, elm, w0, d1, d3, d4, Bool.not_true, Bool.not_false]
      exact hfin
end

end Go.Proofs.Ytgnpafmhdmmmhaa
