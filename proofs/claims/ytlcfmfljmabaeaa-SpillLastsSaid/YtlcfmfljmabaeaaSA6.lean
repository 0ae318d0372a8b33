/-
  SpillLasts: what the law's loop keeps; its end.
-/
import Derived.Test.YtlcfmfljmabaeaaSA7
set_option maxRecDepth 100000
set_option linter.unusedVariables false
set_option linter.unusedSimpArgs false
namespace Go.Proofs.Ytlcfmfljmabaeaa
open Go Go.Abs Go.Abs.K

theorem pend_facts {sure ever : List RQ} {L : LM} {b : Nat} {N : Int} (hl : LA sure ever L) (hg : LG b N L) (hd : NoDup L) : (∀ r ∈ sure, r ∈ pendL L) ∧ (∀ r ∈ pendL L, r ∈ ever) ∧ ((pendL L).map fun r => r.id).Pairwise (· < ·) := by
  have hk : ∀ k ∈ idsL L, ∃ y, lookG L.live k = some y ∧ y.id = k ∧ y ∈ ever := fun k hk => by
    obtain ⟨q, hq⟩ := idsL_mem.1 hk
    cases hx : lookG L.live k with
    | none => rw [lookG_none] at hx; exact absurd rfl (hx _ hq)
    | some y => exact ⟨y, rfl, (hg.live _ (lookG_mem hx)).1, hl.ever _ (lookG_mem hx)⟩
  refine ⟨fun r hr => ?_, fun r hr => ?_, ?_⟩
  · have h1 := hl.sure r hr
    exact List.mem_map.2 ⟨r.id, idsL_mem.2 ⟨r, lookG_mem h1⟩, by rw [h1]; rfl⟩
  · obtain ⟨k, hk', rfl⟩ := List.mem_map.1 hr
    obtain ⟨y, h1, h2, h3⟩ := hk k hk'
    rw [h1]; exact h3
  · have hm : (pendL L).map (fun r => r.id) = idsL L := by
      unfold pendL
      rw [List.map_map]
      conv => rhs; rw [← List.map_id (idsL L)]
      refine List.map_congr_left fun k hk' => ?_
      obtain ⟨y, h1, h2, h3⟩ := hk k hk'
      simp only [Function.comp, h1, Option.getD_some, h2, id]
    rw [hm]
    have h1 := sortZ_sorted (L.live.map fun q => q.1)
    have h2 : (idsL L).Nodup := (sortZ_perm _).nodup_iff.2 hd.live
    exact (h1.and h2).imp fun ⟨a, b⟩ => by omega

theorem n6_ask {D : DM} {L : LM} {E : List Ent} {m : Nat} {T : Int → List Int} {sure ever : List RQ} {i : Nat} (h : N6 D L E m T sure ever i) (hi : i ≤ 62) : ∀ n ∈ keysF D, n < 9223372036854775807 ∧ ∀ r ∈ (scanD D n).1, r.Wide ∧ r.id < 9223372036854775807 ∧ r.host.size ≤ 4611686018427387904 := by
  have h3 := h.lst
  exact open_ask (B := L.last) h.ld.h h.pa.good (by omega) (by omega) h.ld.top

def I6 (s0 s : St) (p l : Nat) (v8 v9 : Value) (i : Nat) : Prop := Kept [] s0 s ∧ ∃ (D : DM) (L : LM) (E : List Ent) (m : Nat) (T : Int → List Int) (sure ever : List RQ) (O OD V S8 S9 : List Nat),
  SRep s l p D L O OD V ∧ N6 D L E m T sure ever i ∧ RowsO 32 5 s v8 (rqsR ever) S8 ∧ RowsO 32 5 s v9 (rqsR sure) S9 ∧ ever.length ≤ i ∧ sure.length ≤ i ∧ (∀ x ∈ O, s0.next ≤ x) ∧ (∀ x ∈ OD, s0.next ≤ x) ∧
  (∀ x ∈ S8, s0.next ≤ x ∧ x ∉ O ∧ x ∉ OD ∧ x ∉ V ∧ x ∉ S9) ∧ ∀ x ∈ S9, s0.next ≤ x ∧ x ∉ O ∧ x ∉ OD ∧ x ∉ V

theorem I6.kept {s0 s s' : St} {p l i : Nat} {v8 v9 : Value} (h : I6 s0 s p l v8 v9 i) (hk : Kept [] s s') : I6 s0 s' p l v8 v9 i := by
  obtain ⟨h0, D, L, E, m, T, sure, ever, O, OD, V, S8, S9, h1, h2, h3, h4, h5, h6, h7, h8, h9, h10⟩ := h
  exact ⟨h0.trans hk, D, L, E, m, T, sure, ever, O, OD, V, S8, S9, h1.kept hk (by simp) (by simp) (by simp), h2, h3.kept hk (by simp), h4.kept hk (by simp), h5, h6, h7, h8, h9, h10⟩

section
variable {tbl : FuncId → Option AFun} {ov : CallSem} {s s0 : St} (T : STbl tbl)
include T

theorem chk6_I (t23 : tbl 23 = some fun23) (ho : OvS ov) {e : Env} {l p i : Nat} {v8 v9 v0 v1 v10 : Value} (h : I6 s0 s p l v8 v9 i) (hi : i ≤ 60)
    (g0 : e.get 0 = some v0) (g1 : e.get 1 = some v1) (g5 : e.get 5 = some (ptr p)) (g6 : e.get 6 = some (ptr l)) (g8 : e.get 8 = some v8) (g9 : e.get 9 = some v9) (g10 : e.get 10 = some v10) :
    WCode (fun k => call tbl ov k) chk6 e s fun x e' s' => x = .normal ∧ e'.get 0 = some v0 ∧ e'.get 1 = some v1 ∧ e'.get 5 = some (ptr p) ∧ e'.get 6 = some (ptr l) ∧ e'.get 8 = some v8 ∧ e'.get 9 = some v9 ∧ e'.get 10 = some v10 ∧ I6 s0 s' p l v8 v9 i := by
  have hh := h
  obtain ⟨h0, D, L, E, m, TT, sure, ever, O, OD, V, S8, S9, h1, h2, h3, h4, h5, h6, h7, h8, h9, h10⟩ := hh
  obtain ⟨c1, c2, c3⟩ := pend_facts h2.la h2.lg h2.dup
  have := h2.cL
  refine WCode.mono ?_ (chk6_spec T t23 ho h1.l (by omega) h3.toV h4.toV (by omega) (by omega) c1 c2 c3 g0 g1 g5 g6 g8 g9 g10)
  rintro x e' s' ⟨rfl, a0, a1, a5, a6, a8, a9, a10, hk⟩
  exact ⟨rfl, a0, a1, a5, a6, a8, a9, a10, h.kept hk⟩

theorem tail6_spec (t23 : tbl 23 = some fun23) (ho : OvS ov) {e : Env} {l p i : Nat} {v8 v9 : Value} {keep : Int} (h : I6 s0 s p l v8 v9 i) (hi : i ≤ 60) (hkp : W64 keep) (g1 : e.get 1 = some (i64 keep)) (g5 : e.get 5 = some (ptr p)) (g8 : e.get 8 = some v8) (g9 : e.get 9 = some v9) :
    WCode (fun k => call tbl ov k) tail6 e s (ends [.tmp 4] fun u _ => u = .bool true) := by
  have e14 := fun s K => e14b (ov := ov) T ho s K
  obtain ⟨h0, D, L, E, m, TT, sure, ever, O, OD, V, S8, S9, h1, h2, h3, h4, h5, h6, h7, h8, h9, h10⟩ := h
  simp -implicitDefEqProofs only [tail6, go_sem, reduceIte, Nat.reduceEqDiff, Nat.reduceAdd, Nat.reduceMul, Nat.reduceLT, Nat.reduceLeDiff, reduceCtorEq, Int.reduceEq, Int.reduceNeg, Nat.reduceSub, Int.reduceLT, Int.reduceLE, Int.reduceGT, Int.reduceGE, Int.reduceAdd, Int.reduceSub, Int.reduceToNat, Int.reduceBNe, Int.reduceBEq, Nat.mul_one, Nat.zero_mul, g1, g5]
  refine WCall.mono (p20 (ov := ov) T.d h1.d hkp h2.ld.h.looseOK (by have := h2.few h1.d.dw; omega)) ?_
  rintro u s1 ⟨rfl, hk1, OD1, hD1, hO1⟩
  obtain ⟨D2, hD2⟩ : ∃ D2 : DM, D2 = ⟨D.most, 0, 0, crashF D.loose (max keep 0) D.F, []⟩ := ⟨_, rfl⟩
  rw [← hD2] at hD1
  obtain ⟨E2, T2, hN2⟩ := n6_crash h2 (by omega) hD2 hD1.dw
  simp -implicitDefEqProofs only [go_sem, reduceIte, Nat.reduceEqDiff, Nat.reduceAdd, Nat.reduceMul, Nat.reduceLT, Nat.reduceLeDiff, reduceCtorEq, Int.reduceEq, Int.reduceNeg, Nat.reduceSub, Int.reduceLT, Int.reduceLE, Int.reduceGT, Int.reduceGE, Int.reduceAdd, Int.reduceSub, Int.reduceToNat, Int.reduceBNe, Int.reduceBEq, Nat.mul_one, Nat.zero_mul, g5]
  refine WCall.mono (q9 (ov := ov) (segs := 4) T ho hD1 (by unfold W64; omega) (n6_ask hN2 (by omega))) ?_
  rintro u s2 ⟨l2, O2, rfl, hS2, hk2, hO2⟩
  have hr8 : RowV 5 s2 v8 (rqsR ever) := ((h3.kept hk1 fun x hx => (h9 x hx).2.2.1).kept hk2 (by simp)).toV
  have hr9 : RowV 5 s2 v9 (rqsR sure) := ((h4.kept hk1 fun x hx => (h10 x hx).2.2.1).kept hk2 (by simp)).toV
  obtain ⟨c1, c2, c3⟩ := pend_facts hN2.la hN2.lg hN2.dup
  obtain ⟨a8, cc8, e8⟩ := hr8.len
  obtain ⟨a9, cc9, e9⟩ := hr9.len
  rw [List.length_map] at e8 e9
  subst e8
  subst e9
  obtain ⟨L2, hL2⟩ : ∃ L2, L2 = openM D2 4 := ⟨_, rfl⟩
  rw [← hL2] at hS2 c1 c2 c3 hN2
  have hcl := hN2.cL
  have hpl : (pendL L2).length = L2.live.length := by rw [pendL, List.length_map, idsL_len]
  have h00 : ((0 : Int) != 0) = false := rfl
  simp -implicitDefEqProofs only [go_sem, reduceIte, Nat.reduceEqDiff, Nat.reduceAdd, Nat.reduceMul, Nat.reduceLT, Nat.reduceLeDiff, reduceCtorEq, Int.reduceEq, Int.reduceNeg, Nat.reduceSub, Int.reduceLT, Int.reduceLE, Int.reduceGT, Int.reduceGE, Int.reduceAdd, Int.reduceSub, Int.reduceToNat, Int.reduceBNe, Int.reduceBEq, Nat.mul_one, Nat.zero_mul, Option.isNone_some, h00]
  refine WCall.mono (q17 (ov := ov) T ho hS2.l (by omega)) ?_
  rintro u s3 ⟨hrp, hk3, _⟩
  obtain ⟨ap, cp, hp⟩ := hrp.len
  rw [List.length_map] at hp
  subst hp
  simp -implicitDefEqProofs only [go_sem, reduceIte, Nat.reduceEqDiff, Nat.reduceAdd, Nat.reduceMul, Nat.reduceLT, Nat.reduceLeDiff, reduceCtorEq, Int.reduceEq, Int.reduceNeg, Nat.reduceSub, Int.reduceLT, Int.reduceLE, Int.reduceGT, Int.reduceGE, Int.reduceAdd, Int.reduceSub, Int.reduceToNat, Int.reduceBNe, Int.reduceBEq, Nat.mul_one, Nat.zero_mul, g8, g9]
  obtain ⟨I, hI⟩ : ∃ I : Nat → List Value → St → Prop, I = fun m vs s' => Kept [] s3 s' ∧ ∃ (i : Nat), i ≤ sure.length ∧ m = sure.length - i ∧ vs = [.slice a8 ever.length cc8, .slice a9 sure.length cc9, .slice ap (pendL L2).length cp, i64 (i : Nat)] := ⟨_, rfl⟩
  refine wc_loopV I sure.length ?_ ?_
  · simp -implicitDefEqProofs only [go_sem, reduceIte, Nat.reduceEqDiff, Nat.reduceAdd, Nat.reduceMul, Nat.reduceLT, Nat.reduceLeDiff, reduceCtorEq, Int.reduceEq, Int.reduceNeg, Nat.reduceSub, Int.reduceLT, Int.reduceLE, Int.reduceGT, Int.reduceGE, Int.reduceAdd, Int.reduceSub, Int.reduceToNat, Int.reduceBNe, Int.reduceBEq, Nat.mul_one, Nat.zero_mul, g8, g9]
    rw [hI]
    exact ⟨Kept.refl _ _, 0, by omega, by omega, rfl⟩
  · intro m vs s4 hi' _
    rw [hI] at hi'
    obtain ⟨hk4, i, hil, rfl, rfl⟩ := hi'
    cases hlt : decide ((i : Int) < (sure.length : Int))
    · simp -implicitDefEqProofs only [go_sem, reduceIte, Nat.reduceEqDiff, Nat.reduceAdd, Nat.reduceMul, Nat.reduceLT, Nat.reduceLeDiff, reduceCtorEq, Int.reduceEq, Int.reduceNeg, Nat.reduceSub, Int.reduceLT, Int.reduceLE, Int.reduceGT, Int.reduceGE, Int.reduceAdd, Int.reduceSub, Int.reduceToNat, Int.reduceBNe, Int.reduceBEq, Nat.mul_one, Nat.zero_mul, hlt]
      obtain ⟨J, hJ⟩ : ∃ J : Nat → List Value → St → Prop, J = fun m vs s' => Kept [] s4 s' ∧ ∃ (i : Nat), i ≤ (pendL L2).length ∧ m = (pendL L2).length - i ∧ vs = [.slice a8 ever.length cc8, .slice ap (pendL L2).length cp, i64 (i : Nat)] := ⟨_, rfl⟩
      refine wc_loopV J (pendL L2).length ?_ ?_
      · simp -implicitDefEqProofs only [go_sem, reduceIte, Nat.reduceEqDiff, Nat.reduceAdd, Nat.reduceMul, Nat.reduceLT, Nat.reduceLeDiff, reduceCtorEq, Int.reduceEq, Int.reduceNeg, Nat.reduceSub, Int.reduceLT, Int.reduceLE, Int.reduceGT, Int.reduceGE, Int.reduceAdd, Int.reduceSub, Int.reduceToNat, Int.reduceBNe, Int.reduceBEq, Nat.mul_one, Nat.zero_mul]
        rw [hJ]
        exact ⟨Kept.refl _ _, 0, by omega, by omega, rfl⟩
      · intro m vs s5 hj' _
        rw [hJ] at hj'
        obtain ⟨hk5, j, hjl, rfl, rfl⟩ := hj'
        cases hlt2 : decide ((j : Int) < ((pendL L2).length : Int))
        · simp -implicitDefEqProofs only [go_sem, reduceIte, Nat.reduceEqDiff, Nat.reduceAdd, Nat.reduceMul, Nat.reduceLT, Nat.reduceLeDiff, reduceCtorEq, Int.reduceEq, Int.reduceNeg, Nat.reduceSub, Int.reduceLT, Int.reduceLE, Int.reduceGT, Int.reduceGE, Int.reduceAdd, Int.reduceSub, Int.reduceToNat, Int.reduceBNe, Int.reduceBEq, Nat.mul_one, Nat.zero_mul, hlt2, e14]
        · have hjN : j < (pendL L2).length := by have := of_decide_eq_true hlt2; omega
          obtain ⟨x, hx⟩ : ∃ x, (pendL L2)[j]? = some x := ⟨_, List.getElem?_eq_getElem hjN⟩
          obtain ⟨id, o, cap', c, T', ro, hv, hid, hg, hle, hrw, hgi⟩ := row_one (hrp.kept (hk4.trans hk5)) hjN hx
          cases hv
          have hix : 0 ≤ (j : Int) ∧ (j : Int) < ((pendL L2).length : Int) := by omega
          have w1 : IntKind.i64.wrap ((j : Int) + 1) = ((j + 1 : Nat) : Int) := by rw [IntKind.wrap_i64]; omega
          have hmem : memB ever x = true := memB_iff.2 (c2 x (List.mem_of_getElem? hx))
          have e34 : (Value.agg x.cells.toArray) = x.val := rfl
          simp -implicitDefEqProofs only [go_sem, reduceIte, Nat.reduceEqDiff, Nat.reduceAdd, Nat.reduceMul, Nat.reduceLT, Nat.reduceLeDiff, reduceCtorEq, Int.reduceEq, Int.reduceNeg, Nat.reduceSub, Int.reduceLT, Int.reduceLE, Int.reduceGT, Int.reduceGE, Int.reduceAdd, Int.reduceSub, Int.reduceToNat, Int.reduceBNe, Int.reduceBEq, Nat.mul_one, Nat.zero_mul, hlt2, hix, hg, hle, hrw, Nat.add_zero, e34]
          refine WCall.mono (q23 (ov := ov) t23 (hr8.kept ((hk3.trans hk4).trans hk5)) (by omega)) ?_
          rintro u s6 ⟨rfl, hk6⟩
          rw [hmem]
          simp -implicitDefEqProofs only [go_sem, reduceIte, Nat.reduceEqDiff, Nat.reduceAdd, Nat.reduceMul, Nat.reduceLT, Nat.reduceLeDiff, reduceCtorEq, Int.reduceEq, Int.reduceNeg, Nat.reduceSub, Int.reduceLT, Int.reduceLE, Int.reduceGT, Int.reduceGE, Int.reduceAdd, Int.reduceSub, Int.reduceToNat, Int.reduceBNe, Int.reduceBEq, Nat.mul_one, Nat.zero_mul, w1]
          rw [hJ]
          exact ⟨(pendL L2).length - (j + 1), by omega, hk5.trans hk6, j + 1, by omega, rfl, rfl⟩
    · have hiN : i < sure.length := by have := of_decide_eq_true hlt; omega
      obtain ⟨x, hx⟩ : ∃ x, sure[i]? = some x := ⟨_, List.getElem?_eq_getElem hiN⟩
      obtain ⟨id, o, cap', c, T', ro, hv, hid, hg, hle, hrw, hgi⟩ := row_one (hr9.kept (hk3.trans hk4)) hiN hx
      cases hv
      have hix : 0 ≤ (i : Int) ∧ (i : Int) < (sure.length : Int) := by omega
      have w1 : IntKind.i64.wrap ((i : Int) + 1) = ((i + 1 : Nat) : Int) := by rw [IntKind.wrap_i64]; omega
      have hmem : memB (pendL L2) x = true := memB_iff.2 (c1 x (List.mem_of_getElem? hx))
      have e34 : (Value.agg x.cells.toArray) = x.val := rfl
      simp -implicitDefEqProofs only [go_sem, reduceIte, Nat.reduceEqDiff, Nat.reduceAdd, Nat.reduceMul, Nat.reduceLT, Nat.reduceLeDiff, reduceCtorEq, Int.reduceEq, Int.reduceNeg, Nat.reduceSub, Int.reduceLT, Int.reduceLE, Int.reduceGT, Int.reduceGE, Int.reduceAdd, Int.reduceSub, Int.reduceToNat, Int.reduceBNe, Int.reduceBEq, Nat.mul_one, Nat.zero_mul, hlt, hix, hg, hle, hrw, Nat.add_zero, e34]
      refine WCall.mono (q23 (ov := ov) t23 (hrp.kept hk4) (by omega)) ?_
      rintro u s5 ⟨rfl, hk5⟩
      rw [hmem]
      simp -implicitDefEqProofs only [go_sem, reduceIte, Nat.reduceEqDiff, Nat.reduceAdd, Nat.reduceMul, Nat.reduceLT, Nat.reduceLeDiff, reduceCtorEq, Int.reduceEq, Int.reduceNeg, Nat.reduceSub, Int.reduceLT, Int.reduceLE, Int.reduceGT, Int.reduceGE, Int.reduceAdd, Int.reduceSub, Int.reduceToNat, Int.reduceBNe, Int.reduceBEq, Nat.mul_one, Nat.zero_mul, w1]
      rw [hI]
      exact ⟨sure.length - (i + 1), by omega, hk4.trans hk5, i + 1, by omega, rfl, rfl⟩
end
end Go.Proofs.Ytlcfmfljmabaeaa


/-
  SpillLasts: the law's walk.
-/
set_option maxRecDepth 100000
set_option linter.unusedVariables false
set_option linter.unusedSimpArgs false
namespace Go.Proofs.Ytlcfmfljmabaeaa
open Go Go.Abs Go.Abs.K

theorem I6.grown {s0 s s' : St} {p l i : Nat} {v8 v9 : Value} {D D' : DM} {L L' : LM} {E' : List Ent} {m' : Nat} {T' : Int → List Int} {sure ever : List RQ} {O OD V OD' V' S8 S9 : List Nat} (h0 : Kept [] s0 s) (h1 : SRep s l p D L O OD V) (h3 : RowsO 32 5 s v8 (rqsR ever) S8) (h4 : RowsO 32 5 s v9 (rqsR sure) S9) (h5 : ever.length ≤ i) (h6 : sure.length ≤ i)
    (h7 : ∀ x ∈ O, s0.next ≤ x) (h8 : ∀ x ∈ OD, s0.next ≤ x) (h9 : ∀ x ∈ S8, s0.next ≤ x ∧ x ∉ O ∧ x ∉ OD ∧ x ∉ V ∧ x ∉ S9) (h10 : ∀ x ∈ S9, s0.next ≤ x ∧ x ∉ O ∧ x ∉ OD ∧ x ∉ V)
    (hS : SRep s' l p D' L' O OD' V') (hG : GrownS s s' O OD V OD' V') (hN : N6 D' L' E' m' T' sure ever i) : I6 s0 s' p l v8 v9 i := by
  have hn := h0.1
  have l8 := h3.lt
  have l9 := h4.lt
  have k8 : ∀ x ∈ S8, x ∉ O ++ OD := fun x hx hx' => (List.mem_append.1 hx').elim (h9 x hx).2.1 (h9 x hx).2.2.1
  have k9 : ∀ x ∈ S9, x ∉ O ++ OD := fun x hx hx' => (List.mem_append.1 hx').elim (h10 x hx).2.1 (h10 x hx).2.2.1
  refine ⟨h0.comp hG.k fun x hx => (List.mem_append.1 hx).elim (fun h => .inr (h7 x h)) fun h => .inr (h8 x h), D', L', E', m', T', sure, ever, O, OD', V', S8, S9, hS, hN, h3.kept hG.k k8, h4.kept hG.k k9, h5, h6, h7, fun x hx => (hG.o x hx).elim (h8 x) fun h => by omega, fun x hx => ⟨(h9 x hx).1, (h9 x hx).2.1, fun h => ?_, fun h => ?_, (h9 x hx).2.2.2.2⟩, fun x hx => ⟨(h10 x hx).1, (h10 x hx).2.1, fun h => ?_, fun h => ?_⟩⟩
  · rcases hG.o x h with h | h
    · exact (h9 x hx).2.2.1 h
    · have := l8 x hx; omega
  · rcases hG.v x h with h | h
    · exact (h9 x hx).2.2.2.1 h
    · have := l8 x hx; omega
  · rcases hG.o x h with h | h
    · exact (h10 x hx).2.2.1 h
    · have := l9 x hx; omega
  · rcases hG.v x h with h | h
    · exact (h10 x hx).2.2.2 h
    · have := l9 x hx; omega

section
variable {tbl : FuncId → Option AFun} {ov : CallSem} {s : St} (T : STbl tbl)
include T

set_option maxHeartbeats 4000000 in
theorem law6 (t6 : tbl 6 = some fun6) (t21 : tbl 21 = some fun21) (t23 : tbl 23 = some fun23) (ho : OvS ov) {av : Value} {M : List SAct} {keep : Int} (hr : RowV 9 s av (M.map SAct.cells)) (hW : ∀ a ∈ M, a.Wide) (hkp : W64 keep) :
    WCall (fun k => call tbl ov k) 6 [av, i64 keep] s fun u _ => u = .bool true := by
  refine WCall.of t6 rfl ?_
  have e14 := fun s K => e14b (ov := ov) T ho s K
  obtain ⟨aa, ac, hav⟩ := hr.len
  rw [List.length_map] at hav
  subst hav
  rw [show fun6.body = _ from code6_eq, show fun6.res = [.tmp 4] from rfl]
  simp -implicitDefEqProofs only [params, go_sem, reduceIte, Nat.reduceEqDiff, Nat.reduceAdd, Nat.reduceMul, Nat.reduceLT, Nat.reduceLeDiff, reduceCtorEq, Int.reduceEq, Int.reduceNeg, Nat.reduceSub, Int.reduceLT, Int.reduceLE, Int.reduceGT, Int.reduceGE, Int.reduceAdd, Int.reduceSub, Int.reduceToNat, Int.reduceBNe, Int.reduceBEq, Nat.mul_one, Nat.zero_mul]
  refine WCall.mono (p8 (ov := ov) (n := 9) T.d (by unfold W64; omega)) ?_
  rintro u s1 ⟨rfl, hD1, hk1⟩
  obtain ⟨p, hp⟩ : ∃ p, p = s.next + 1 := ⟨_, rfl⟩
  rw [← hp] at hD1
  have hm : max 0 (min (9 : Int) 16) = 9 := by decide
  rw [hm] at hD1
  simp -implicitDefEqProofs only [go_sem, reduceIte, Nat.reduceEqDiff, Nat.reduceAdd, Nat.reduceMul, Nat.reduceLT, Nat.reduceLeDiff, reduceCtorEq, Int.reduceEq, Int.reduceNeg, Nat.reduceSub, Int.reduceLT, Int.reduceLE, Int.reduceGT, Int.reduceGE, Int.reduceAdd, Int.reduceSub, Int.reduceToNat, Int.reduceBNe, Int.reduceBEq, Nat.mul_one, Nat.zero_mul, ← hp]
  refine WCall.mono (q9 (ov := ov) (segs := 4) T ho hD1 (by unfold W64; omega) (by simp [keysF, sortZ])) ?_
  rintro u s2 ⟨l, O, rfl, hS2, hk2, hO2⟩
  have hn1 := hk1.1
  have hn2 := hk2.1
  have hO2l := hS2.l.lt
  have hDl := hS2.d.lt
  have ef : fillL [] [] = some [] := rfl
  obtain ⟨s3, hs3⟩ : ∃ s3 : St, s3 = ⟨(s2.heap.put s2.next (some (.cells [] 32 5 false))).put (s2.next + 1) (some (.cells [] 32 5 false)), s2.next + 1 + 1⟩ := ⟨_, rfl⟩
  have h00 : ((0 : Int) != 0) = false := rfl
  simp -implicitDefEqProofs only [go_sem, reduceIte, Nat.reduceEqDiff, Nat.reduceAdd, Nat.reduceMul, Nat.reduceLT, Nat.reduceLeDiff, reduceCtorEq, Int.reduceEq, Int.reduceNeg, Nat.reduceSub, Int.reduceLT, Int.reduceLE, Int.reduceGT, Int.reduceGE, Int.reduceAdd, Int.reduceSub, Int.reduceToNat, Int.reduceBNe, Int.reduceBEq, Nat.mul_one, Nat.zero_mul, Option.isNone_some, h00, ef, ev_buildSlice, ← hs3]
  have hk3 : Kept [] s2 s3 := by
    rw [hs3]
    exact ⟨by simp only; omega, fun j hj _ => by simp only [Heap.get_put]; rw [if_neg (by omega), if_neg (by omega)]⟩
  have hI0 : I6 s s3 p l (.slice (some ⟨s2.next, 0, none⟩) 0 0) (.slice (some ⟨s2.next + 1, 0, none⟩) 0 0) 0 := by
    have e1 : ¬ s2.next = s2.next + 1 := by omega
    refine ⟨(hk1.trans hk2).trans hk3, _, _, _, _, _, [], [], O, _, _, [s2.next], [s2.next + 1], hS2.kept hk3 (by simp) (by simp) (by simp), n6_zero, ⟨by simp, .inr ⟨s2.next, 0, 0, [], rfl, rfl, Nat.le_refl _, by rw [hs3]; simp only; omega, by rw [hs3]; simp only [Heap.get_put, e1, if_false, if_true], Nat.le_refl _, rfl⟩⟩, ⟨by simp, .inr ⟨s2.next + 1, 0, 0, [], rfl, rfl, Nat.le_refl _, by rw [hs3]; simp only; omega, by rw [hs3]; simp only [Heap.get_put, if_true], Nat.le_refl _, rfl⟩⟩, by simp, by simp, fun x hx => by have := hO2 x hx; omega, fun x hx => ?_, fun x hx => ?_, fun x hx => ?_⟩
    · simp only [List.mem_cons, List.not_mem_nil, or_false] at hx; omega
    · rw [List.mem_singleton.1 hx]
      exact ⟨by omega, fun h => by have := hO2l _ h; omega, fun h => by have := hDl.1 _ h; omega, by simp, by simp⟩
    · rw [List.mem_singleton.1 hx]
      exact ⟨by omega, fun h => by have := hO2l _ h; omega, fun h => by have := hDl.1 _ h; omega, by simp⟩
  obtain ⟨I, hI⟩ : ∃ I : Nat → List Value → St → Prop, I = fun m vs s' => ∃ (i l : Nat) (v8 v9 : Value), i ≤ M.length ∧ i ≤ 60 ∧ m = M.length - i ∧ vs = [.slice aa M.length ac, i64 keep, ptr p, ptr l, v8, v9, i64 (i : Nat)] ∧ I6 s s' p l v8 v9 i := ⟨_, rfl⟩
  refine wc_loopV I M.length ?_ ?_
  · simp -implicitDefEqProofs only [go_sem, reduceIte, Nat.reduceEqDiff, Nat.reduceAdd, Nat.reduceMul, Nat.reduceLT, Nat.reduceLeDiff, reduceCtorEq, Int.reduceEq, Int.reduceNeg, Nat.reduceSub, Int.reduceLT, Int.reduceLE, Int.reduceGT, Int.reduceGE, Int.reduceAdd, Int.reduceSub, Int.reduceToNat, Int.reduceBNe, Int.reduceBEq, Nat.mul_one, Nat.zero_mul]
    rw [hI]
    exact ⟨0, l, _, _, by omega, by omega, by omega, rfl, hI0⟩
  · intro m vs s4 hi _
    rw [hI] at hi
    obtain ⟨i, l, v8, v9, hil, hi60, rfl, rfl, hI4⟩ := hi
    have stop : (decide ((i : Int) < (M.length : Int)) = false ∨ (decide ((i : Int) < (M.length : Int)) = true ∧ decide ((i : Int) < 60) = false)) ∨ (decide ((i : Int) < (M.length : Int)) = true ∧ decide ((i : Int) < 60) = true) := by
      cases decide ((i : Int) < (M.length : Int)) <;> cases decide ((i : Int) < 60) <;> simp
    rcases stop with (d1 | ⟨d1, d2⟩) | ⟨d1, d2⟩
    · simp -implicitDefEqProofs only [go_sem, reduceIte, Nat.reduceEqDiff, Nat.reduceAdd, Nat.reduceMul, Nat.reduceLT, Nat.reduceLeDiff, reduceCtorEq, Int.reduceEq, Int.reduceNeg, Nat.reduceSub, Int.reduceLT, Int.reduceLE, Int.reduceGT, Int.reduceGE, Int.reduceAdd, Int.reduceSub, Int.reduceToNat, Int.reduceBNe, Int.reduceBEq, Nat.mul_one, Nat.zero_mul, d1]
      exact tail6_spec T t23 ho hI4 hi60 hkp rfl rfl rfl rfl
    · simp -implicitDefEqProofs only [go_sem, reduceIte, Nat.reduceEqDiff, Nat.reduceAdd, Nat.reduceMul, Nat.reduceLT, Nat.reduceLeDiff, reduceCtorEq, Int.reduceEq, Int.reduceNeg, Nat.reduceSub, Int.reduceLT, Int.reduceLE, Int.reduceGT, Int.reduceGE, Int.reduceAdd, Int.reduceSub, Int.reduceToNat, Int.reduceBNe, Int.reduceBEq, Nat.mul_one, Nat.zero_mul, d1, d2]
      exact tail6_spec T t23 ho hI4 hi60 hkp rfl rfl rfl rfl
    · have hiN : i < M.length := by have := of_decide_eq_true d1; omega
      have hi60' : i < 60 := by have := of_decide_eq_true d2; omega
      obtain ⟨a, ha⟩ : ∃ a, M[i]? = some a := ⟨_, List.getElem?_eq_getElem hiN⟩
      have haW := hW a (List.mem_of_getElem? ha)
      obtain ⟨id, o, cap, c, T', ro, hv, hid, hg, hle, hrw, hgi⟩ := row_one (hr.kept hI4.1) hiN ha
      cases hv
      have n1 : ¬ id = s4.next := by omega
      have hix : 0 ≤ (i : Int) ∧ (i : Int) < (M.length : Int) := by omega
      have w4 : IntKind.i64.wrap ((i : Int) + 1) = ((i + 1 : Nat) : Int) := by rw [IntKind.wrap_i64]; omega
      have c1 : a.cells.length = 9 := rfl
      have c2 : a.cells.all isCell = true := rfl
      have c3 : storeL [i64 0, i64 0, i64 0, i64 0, .string ⟨#[]⟩, .string ⟨#[]⟩, i64 0, i64 0, .string ⟨#[]⟩] 0 a.cells = a.cells := rfl
      have c4 : a.cells.take 9 = a.cells := rfl
      have c5 : (a.cells.drop 3).take 5 = a.r.cells := rfl
      have k0 : a.cells[0]? = some (i64 a.what) := rfl
      have k1 : a.cells[1]? = some (i64 a.n) := rfl
      have k2 : a.cells[2]? = some (i64 a.m) := rfl
      have k8 : a.cells[8]? = some (.string a.host) := rfl
      have erv : (Value.agg a.r.cells.toArray) = a.r.val := rfl
      obtain ⟨A, hA⟩ : ∃ A, A = s4.next := ⟨_, rfl⟩
      obtain ⟨s5, hs5⟩ : ∃ s5 : St, s5 = ⟨(s4.heap.put s4.next (some (.cells [i64 0, i64 0, i64 0, i64 0, .string ⟨#[]⟩, .string ⟨#[]⟩, i64 0, i64 0, .string ⟨#[]⟩] 52 0 false))).put s4.next (some (.cells a.cells 52 0 false)), s4.next + 1⟩ := ⟨_, rfl⟩
      have hk5 : Kept [] s4 s5 := by
        rw [hs5]
        exact ⟨Nat.le_succ _, fun j hj _ => by have : ¬ j = s4.next := by omega
                                               simp only [Heap.get_put, this, if_false]⟩
      have hp5 : s5.heap.get s4.next = some (.cells a.cells 52 0 false) := by rw [hs5]; simp only [Heap.get_put, if_true]
      have hA5 : A < s5.next := by rw [hs5, hA]; exact Nat.lt_succ_self _
      simp -implicitDefEqProofs only [go_sem, reduceIte, Nat.reduceEqDiff, Nat.reduceAdd, Nat.reduceMul, Nat.reduceLT, Nat.reduceLeDiff, reduceCtorEq, Int.reduceEq, Int.reduceNeg, Nat.reduceSub, Int.reduceLT, Int.reduceLE, Int.reduceGT, Int.reduceGE, Int.reduceAdd, Int.reduceSub, Int.reduceToNat, Int.reduceBNe, Int.reduceBEq, Nat.mul_one, Nat.zero_mul, d1, d2, hix, hg, hle, hrw, n1, Nat.add_zero, c1, c2, c3, c4, c5, List.drop_zero, ← hs5, hp5, erv]
      rw [← hA] at hp5 ⊢
      refine WCall.mono (q21 (ov := ov) t21 (r := a.r)) ?_
      rintro u s6 ⟨rfl, hk6⟩
      have hI6 : I6 s s6 p l v8 v9 i ∧ True := ⟨(hI4.kept hk5).kept hk6, trivial⟩
      have hI6 := hI6.1
      have hp6 : s6.heap.get A = some (.cells a.cells 52 0 false) := (hk6.2 A hA5 (by simp)).trans hp5
      have hA6 : A < s6.next := Nat.lt_of_lt_of_le hA5 hk6.1
      have same : ∀ {s' : St} {v8 v9 : Value}, I6 s s' p l v8 v9 i → I6 s s' p l v8 v9 (i + 1) := by
        rintro s' v8 v9 ⟨h0, D, L, E, m, TT, sure, ever, O, OD, V, S8, S9, h1, h2, h3, h4, h5, h6, h7⟩
        exact ⟨h0, D, L, E, m, TT, sure, ever, O, OD, V, S8, S9, h1, h2.next (fun _ h => h), h3, h4, by omega, by omega, h7⟩
      have clo : ∀ {s' : St} {l' : Nat} {v8' v9' : Value}, I6 s s' p l' v8' v9' (i + 1) → ∃ m', m' < M.length - i ∧ I m' [.slice (some ⟨id, o, none⟩) M.length ac, i64 keep, ptr p, ptr l', v8', v9', i64 ((i + 1 : Nat) : Int)] s' := by
        intro s' l' v8' v9' h
        rw [hI]
        exact ⟨M.length - (i + 1), by omega, i + 1, l', v8', v9', by omega, by omega, rfl, rfl, h⟩
      cases hsm : smallB a.r
      · simp -implicitDefEqProofs only [go_sem, reduceIte, Nat.reduceEqDiff, Nat.reduceAdd, Nat.reduceMul, Nat.reduceLT, Nat.reduceLeDiff, reduceCtorEq, Int.reduceEq, Int.reduceNeg, Nat.reduceSub, Int.reduceLT, Int.reduceLE, Int.reduceGT, Int.reduceGE, Int.reduceAdd, Int.reduceSub, Int.reduceToNat, Int.reduceBNe, Int.reduceBEq, Nat.mul_one, Nat.zero_mul, w4]
        exact clo (same hI6)
      · have hh := hI4
        obtain ⟨g0, D, L, E, m, TT, sure, ever, O, OD, V, S8, S9, g1, h2, g3, g4, h5, h6, h7, h8, h9, h10⟩ := hh
        have hk46 := hk5.trans hk6
        have hAs : A ∉ O ∧ A ∉ OD := ⟨fun h => by have := g1.l.lt A h; omega, fun h => by have := g1.d.lt.1 A h; omega⟩
        have h0 := g0.trans hk46
        have h1 := g1.kept hk46 (by simp) (by simp) (by simp)
        have h3 := g3.kept hk46 (by simp)
        have h4 := g4.kept hk46 (by simp)
        have hRm := h2.room h1.d.dw (by omega)
        have hn0 := h0.1
        cases w0 : (a.what == 0)
        · cases w1 : (a.what == 1)
          · cases w2 : (a.what == 2)
            · cases w3 : (a.what == 3)
              · cases w40 : (a.what == 4)
                · simp -implicitDefEqProofs only [go_sem, reduceIte, Nat.reduceEqDiff, Nat.reduceAdd, Nat.reduceMul, Nat.reduceLT, Nat.reduceLeDiff, reduceCtorEq, Int.reduceEq, Int.reduceNeg, Nat.reduceSub, Int.reduceLT, Int.reduceLE, Int.reduceGT, Int.reduceGE, Int.reduceAdd, Int.reduceSub, Int.reduceToNat, Int.reduceBNe, Int.reduceBEq, Nat.mul_one, Nat.zero_mul, hp6, Nat.add_zero, k0, k1, k2, w0, w1, w2, w3, w40]
                  cases w5 : (a.what == 5)
                  · simp -implicitDefEqProofs only [go_sem, reduceIte, Nat.reduceEqDiff, Nat.reduceAdd, Nat.reduceMul, Nat.reduceLT, Nat.reduceLeDiff, reduceCtorEq, Int.reduceEq, Int.reduceNeg, Nat.reduceSub, Int.reduceLT, Int.reduceLE, Int.reduceGT, Int.reduceGE, Int.reduceAdd, Int.reduceSub, Int.reduceToNat, Int.reduceBNe, Int.reduceBEq, Nat.mul_one, Nat.zero_mul]
                    refine WCall.mono (q9 (ov := ov) (segs := 4) T ho h1.d (by unfold W64; omega) (n6_ask h2 (by omega))) ?_
                    rintro u s7 ⟨l7, O7, rfl, hS7, hk7, hO7⟩
                    have hn7 := hk7.1
                    have hl7 := hS7.l.lt
                    have l8 := h3.lt
                    have l9 := h4.lt
                    have hI7 : I6 s s7 p l7 v8 v9 (i + 1) := ⟨h0.trans hk7, D, _, E, m, TT, sure, ever, O7, OD, V, S8, S9, hS7, n6_open h2 h1.d.dw, h3.kept hk7 (by simp), h4.kept hk7 (by simp), by omega, by omega, fun x hx => by have := hO7 x hx; omega, h8, fun x hx => ⟨(h9 x hx).1, fun h => by have := hO7 x h; have := l8 x hx; omega, (h9 x hx).2.2.1, (h9 x hx).2.2.2.1, (h9 x hx).2.2.2.2⟩, fun x hx => ⟨(h10 x hx).1, fun h => by have := hO7 x h; have := l9 x hx; omega, (h10 x hx).2.2.1, (h10 x hx).2.2.2⟩⟩
                    simp -implicitDefEqProofs only [go_sem, reduceIte, Nat.reduceEqDiff, Nat.reduceAdd, Nat.reduceMul, Nat.reduceLT, Nat.reduceLeDiff, reduceCtorEq, Int.reduceEq, Int.reduceNeg, Nat.reduceSub, Int.reduceLT, Int.reduceLE, Int.reduceGT, Int.reduceGE, Int.reduceAdd, Int.reduceSub, Int.reduceToNat, Int.reduceBNe, Int.reduceBEq, Nat.mul_one, Nat.zero_mul, Option.isNone_some, h00]
                    refine WCode.mono ?_ (chk6_I T t23 ho hI7 (by omega) (by rfl) (by rfl) (by rfl) (by rfl) (by rfl) (by rfl) (by rfl))
                    rintro x e' s' ⟨rfl, a0, a1, a5, a6, a8, a9, a10, hI8⟩
                    simp -implicitDefEqProofs only [go_sem, reduceIte, Nat.reduceEqDiff, Nat.reduceAdd, Nat.reduceMul, Nat.reduceLT, Nat.reduceLeDiff, reduceCtorEq, Int.reduceEq, Int.reduceNeg, Nat.reduceSub, Int.reduceLT, Int.reduceLE, Int.reduceGT, Int.reduceGE, Int.reduceAdd, Int.reduceSub, Int.reduceToNat, Int.reduceBNe, Int.reduceBEq, Nat.mul_one, Nat.zero_mul, a0, a1, a5, a6, a8, a9, a10, w4]
                    exact clo hI8
                  · simp -implicitDefEqProofs only [go_sem, reduceIte, Nat.reduceEqDiff, Nat.reduceAdd, Nat.reduceMul, Nat.reduceLT, Nat.reduceLeDiff, reduceCtorEq, Int.reduceEq, Int.reduceNeg, Nat.reduceSub, Int.reduceLT, Int.reduceLE, Int.reduceGT, Int.reduceGE, Int.reduceAdd, Int.reduceSub, Int.reduceToNat, Int.reduceBNe, Int.reduceBEq, Nat.mul_one, Nat.zero_mul, hp6, Nat.add_zero, k1]
                    refine WCall.mono (p20 (ov := ov) T.d h1.d haW.n h2.ld.h.looseOK (by have := h2.few h1.d.dw; omega)) ?_
                    rintro u s6b ⟨rfl, hk6b, OD1, hD1b, hO1⟩
                    obtain ⟨D2, hD2⟩ : ∃ D2 : DM, D2 = ⟨D.most, 0, 0, crashF D.loose (max a.n 0) D.F, []⟩ := ⟨_, rfl⟩
                    rw [← hD2] at hD1b
                    obtain ⟨E2, T2, hN2⟩ := n6_crash h2 (by omega) hD2 hD1b.dw
                    simp -implicitDefEqProofs only [go_sem, reduceIte, Nat.reduceEqDiff, Nat.reduceAdd, Nat.reduceMul, Nat.reduceLT, Nat.reduceLeDiff, reduceCtorEq, Int.reduceEq, Int.reduceNeg, Nat.reduceSub, Int.reduceLT, Int.reduceLE, Int.reduceGT, Int.reduceGE, Int.reduceAdd, Int.reduceSub, Int.reduceToNat, Int.reduceBNe, Int.reduceBEq, Nat.mul_one, Nat.zero_mul]
                    refine WCall.mono (q9 (ov := ov) (segs := 4) T ho hD1b (by unfold W64; omega) (n6_ask hN2 (by omega))) ?_
                    rintro u s7 ⟨l7, O7, rfl, hS7, hk7, hO7⟩
                    have hn6b := hk6b.1
                    have hn7 := hk7.1
                    have hl7 := hS7.l.lt
                    have l8 := h3.lt
                    have l9 := h4.lt
                    have hI7 : I6 s s7 p l7 v8 v9 (i + 1) := ⟨(h0.comp hk6b fun x hx => .inr (h8 x hx)).trans hk7, D2, _, E2, 0, T2, sure, ever, O7, OD1, V, S8, S9, hS7, hN2, (h3.kept hk6b fun x hx => (h9 x hx).2.2.1).kept hk7 (by simp), (h4.kept hk6b fun x hx => (h10 x hx).2.2.1).kept hk7 (by simp), by omega, by omega, fun x hx => by have := hO7 x hx; omega, fun x hx => h8 x (hO1 x hx), fun x hx => ⟨(h9 x hx).1, fun h => by have := hO7 x h; have := l8 x hx; omega, fun h => (h9 x hx).2.2.1 (hO1 x h), (h9 x hx).2.2.2.1, (h9 x hx).2.2.2.2⟩, fun x hx => ⟨(h10 x hx).1, fun h => by have := hO7 x h; have := l9 x hx; omega, fun h => (h10 x hx).2.2.1 (hO1 x h), (h10 x hx).2.2.2⟩⟩
                    simp -implicitDefEqProofs only [go_sem, reduceIte, Nat.reduceEqDiff, Nat.reduceAdd, Nat.reduceMul, Nat.reduceLT, Nat.reduceLeDiff, reduceCtorEq, Int.reduceEq, Int.reduceNeg, Nat.reduceSub, Int.reduceLT, Int.reduceLE, Int.reduceGT, Int.reduceGE, Int.reduceAdd, Int.reduceSub, Int.reduceToNat, Int.reduceBNe, Int.reduceBEq, Nat.mul_one, Nat.zero_mul, Option.isNone_some, h00]
                    refine WCode.mono ?_ (chk6_I T t23 ho hI7 (by omega) (by rfl) (by rfl) (by rfl) (by rfl) (by rfl) (by rfl) (by rfl))
                    rintro x e' s' ⟨rfl, a0, a1, a5, a6, a8, a9, a10, hI8⟩
                    simp -implicitDefEqProofs only [go_sem, reduceIte, Nat.reduceEqDiff, Nat.reduceAdd, Nat.reduceMul, Nat.reduceLT, Nat.reduceLeDiff, reduceCtorEq, Int.reduceEq, Int.reduceNeg, Nat.reduceSub, Int.reduceLT, Int.reduceLE, Int.reduceGT, Int.reduceGE, Int.reduceAdd, Int.reduceSub, Int.reduceToNat, Int.reduceBNe, Int.reduceBEq, Nat.mul_one, Nat.zero_mul, a0, a1, a5, a6, a8, a9, a10, w4]
                    exact clo hI8
                · simp -implicitDefEqProofs only [go_sem, reduceIte, Nat.reduceEqDiff, Nat.reduceAdd, Nat.reduceMul, Nat.reduceLT, Nat.reduceLeDiff, reduceCtorEq, Int.reduceEq, Int.reduceNeg, Nat.reduceSub, Int.reduceLT, Int.reduceLE, Int.reduceGT, Int.reduceGE, Int.reduceAdd, Int.reduceSub, Int.reduceToNat, Int.reduceBNe, Int.reduceBEq, Nat.mul_one, Nat.zero_mul, hp6, Nat.add_zero, k0, k1, k2, w0, w1, w2, w3, w40]
                  refine WCall.mono (p22 (ov := ov) T.d h1.d haW.n haW.m) ?_
                  rintro u s7 ⟨hk7, hd7⟩
                  have hS7 : SRep s7 l p _ L O OD V := ⟨h1.l.kept hk7 fun x hx => (h1.dis x hx).1, hd7, h1.dis⟩
                  have hI7 := same (I6.grown h0 h1 h3 h4 h5 h6 h7 h8 h9 h10 hS7 (GrownS.disk hk7) ⟨⟨h2.ld.h.congr rfl rfl, h2.ld.top, h2.ld.cur, h2.ld.pos, h2.ld.low⟩, h2.dm, h2.lg, h2.pa, h2.la, h2.cL, h2.cW, h2.lst, h2.dup⟩)
                  simp -implicitDefEqProofs only [go_sem, reduceIte, Nat.reduceEqDiff, Nat.reduceAdd, Nat.reduceMul, Nat.reduceLT, Nat.reduceLeDiff, reduceCtorEq, Int.reduceEq, Int.reduceNeg, Nat.reduceSub, Int.reduceLT, Int.reduceLE, Int.reduceGT, Int.reduceGE, Int.reduceAdd, Int.reduceSub, Int.reduceToNat, Int.reduceBNe, Int.reduceBEq, Nat.mul_one, Nat.zero_mul]
                  refine WCode.mono ?_ (chk6_I T t23 ho hI7 (by omega) (by rfl) (by rfl) (by rfl) (by rfl) (by rfl) (by rfl) (by rfl))
                  rintro x e' s' ⟨rfl, a0, a1, a5, a6, a8, a9, a10, hI8⟩
                  simp -implicitDefEqProofs only [go_sem, reduceIte, Nat.reduceEqDiff, Nat.reduceAdd, Nat.reduceMul, Nat.reduceLT, Nat.reduceLeDiff, reduceCtorEq, Int.reduceEq, Int.reduceNeg, Nat.reduceSub, Int.reduceLT, Int.reduceLE, Int.reduceGT, Int.reduceGE, Int.reduceAdd, Int.reduceSub, Int.reduceToNat, Int.reduceBNe, Int.reduceBEq, Nat.mul_one, Nat.zero_mul, a0, a1, a5, a6, a8, a9, a10, w4]
                  exact clo hI8
              · simp -implicitDefEqProofs only [go_sem, reduceIte, Nat.reduceEqDiff, Nat.reduceAdd, Nat.reduceMul, Nat.reduceLT, Nat.reduceLeDiff, reduceCtorEq, Int.reduceEq, Int.reduceNeg, Nat.reduceSub, Int.reduceLT, Int.reduceLE, Int.reduceGT, Int.reduceGE, Int.reduceAdd, Int.reduceSub, Int.reduceToNat, Int.reduceBNe, Int.reduceBEq, Nat.mul_one, Nat.zero_mul, hp6, Nat.add_zero, k0, k1, k2, w0, w1, w2, w3]
                obtain ⟨E7, m7, T7, hN7⟩ := n6_compact h2 hi60'
                refine WCall.mono (q13 (ov := ov) T ho h1 hRm.next (by have := hRm.live; omega) (by have := hRm.wait; omega) (by have := hRm.loose; omega) (by have := hRm.last; omega)) ?_
                rintro u s7 ⟨rfl, OD7, V7, hS7, hG7⟩
                have hI7 := I6.grown h0 h1 h3 h4 (i := i + 1) (by omega) (by omega) h7 h8 h9 h10 hS7 hG7 hN7
                simp -implicitDefEqProofs only [go_sem, reduceIte, Nat.reduceEqDiff, Nat.reduceAdd, Nat.reduceMul, Nat.reduceLT, Nat.reduceLeDiff, reduceCtorEq, Int.reduceEq, Int.reduceNeg, Nat.reduceSub, Int.reduceLT, Int.reduceLE, Int.reduceGT, Int.reduceGE, Int.reduceAdd, Int.reduceSub, Int.reduceToNat, Int.reduceBNe, Int.reduceBEq, Nat.mul_one, Nat.zero_mul]
                refine WCode.mono ?_ (chk6_I T t23 ho hI7 (by omega) (by rfl) (by rfl) (by rfl) (by rfl) (by rfl) (by rfl) (by rfl))
                rintro x e' s' ⟨rfl, a0, a1, a5, a6, a8, a9, a10, hI8⟩
                simp -implicitDefEqProofs only [go_sem, reduceIte, Nat.reduceEqDiff, Nat.reduceAdd, Nat.reduceMul, Nat.reduceLT, Nat.reduceLeDiff, reduceCtorEq, Int.reduceEq, Int.reduceNeg, Nat.reduceSub, Int.reduceLT, Int.reduceLE, Int.reduceGT, Int.reduceGE, Int.reduceAdd, Int.reduceSub, Int.reduceToNat, Int.reduceBNe, Int.reduceBEq, Nat.mul_one, Nat.zero_mul, a0, a1, a5, a6, a8, a9, a10, w4]
                exact clo hI8
            · simp -implicitDefEqProofs only [go_sem, reduceIte, Nat.reduceEqDiff, Nat.reduceAdd, Nat.reduceMul, Nat.reduceLT, Nat.reduceLeDiff, reduceCtorEq, Int.reduceEq, Int.reduceNeg, Nat.reduceSub, Int.reduceLT, Int.reduceLE, Int.reduceGT, Int.reduceGE, Int.reduceAdd, Int.reduceSub, Int.reduceToNat, Int.reduceBNe, Int.reduceBEq, Nat.mul_one, Nat.zero_mul, hp6, Nat.add_zero, k0, k1, k2, k8, w0, w1, w2]
              obtain ⟨E7, m7, T7, hN7⟩ := n6_wait (b := a.host) h2 hi60' haW.n
              have hal := apply_len L (waitF a.host a.n)
              have hcL := h2.cL
              have hcW := h2.cW
              refine WCall.mono (q16 (ov := ov) (b := a.host) (t := a.n) T ho h1 ⟨by have := hRm.next; simp only [applyL, waitF, if_true]; exact this, by omega, by omega, hRm.loose, hRm.last⟩ haW.n) ?_
              rintro u s7 ⟨rfl, OD7, V7, hS7, hG7⟩
              have hI7 := I6.grown h0 h1 h3 h4 (i := i + 1) (by omega) (by omega) h7 h8 h9 h10 hS7 hG7 hN7
              simp -implicitDefEqProofs only [go_sem, reduceIte, Nat.reduceEqDiff, Nat.reduceAdd, Nat.reduceMul, Nat.reduceLT, Nat.reduceLeDiff, reduceCtorEq, Int.reduceEq, Int.reduceNeg, Nat.reduceSub, Int.reduceLT, Int.reduceLE, Int.reduceGT, Int.reduceGE, Int.reduceAdd, Int.reduceSub, Int.reduceToNat, Int.reduceBNe, Int.reduceBEq, Nat.mul_one, Nat.zero_mul]
              refine WCode.mono ?_ (chk6_I T t23 ho hI7 (by omega) (by rfl) (by rfl) (by rfl) (by rfl) (by rfl) (by rfl) (by rfl))
              rintro x e' s' ⟨rfl, a0, a1, a5, a6, a8, a9, a10, hI8⟩
              simp -implicitDefEqProofs only [go_sem, reduceIte, Nat.reduceEqDiff, Nat.reduceAdd, Nat.reduceMul, Nat.reduceLT, Nat.reduceLeDiff, reduceCtorEq, Int.reduceEq, Int.reduceNeg, Nat.reduceSub, Int.reduceLT, Int.reduceLE, Int.reduceGT, Int.reduceGE, Int.reduceAdd, Int.reduceSub, Int.reduceToNat, Int.reduceBNe, Int.reduceBEq, Nat.mul_one, Nat.zero_mul, a0, a1, a5, a6, a8, a9, a10, w4]
              exact clo hI8
          · simp -implicitDefEqProofs only [go_sem, reduceIte, Nat.reduceEqDiff, Nat.reduceAdd, Nat.reduceMul, Nat.reduceLT, Nat.reduceLeDiff, reduceCtorEq, Int.reduceEq, Int.reduceNeg, Nat.reduceSub, Int.reduceLT, Int.reduceLE, Int.reduceGT, Int.reduceGE, Int.reduceAdd, Int.reduceSub, Int.reduceToNat, Int.reduceBNe, Int.reduceBEq, Nat.mul_one, Nat.zero_mul, hp6, Nat.add_zero, k0, k1, k2, w0, w1]
            obtain ⟨E7, m7, T7, hN7⟩ := n6_done (n := a.n) h2 hi60'
            refine WCall.mono (q12 (ov := ov) T ho h1 hRm haW.n) ?_
            rintro u s7 ⟨rfl, OD7, V7, hS7, hG7⟩
            have hn7 := hG7.k.1
            have hAO : A ∉ O ++ OD := fun hx => (List.mem_append.1 hx).elim (fun h => hAs.1 h) fun h => hAs.2 h
            have hp7 : s7.heap.get A = some (.cells a.cells 52 0 false) := (hG7.k.2 A hA6 hAO).trans hp6
            have h97 := h4.kept hG7.k fun x hx hx' => (List.mem_append.1 hx').elim (h10 x hx).2.1 (h10 x hx).2.2.1
            have h87 := h3.kept hG7.k fun x hx hx' => (List.mem_append.1 hx').elim (h9 x hx).2.1 (h9 x hx).2.2.1
            simp -implicitDefEqProofs only [go_sem, reduceIte, Nat.reduceEqDiff, Nat.reduceAdd, Nat.reduceMul, Nat.reduceLT, Nat.reduceLeDiff, reduceCtorEq, Int.reduceEq, Int.reduceNeg, Nat.reduceSub, Int.reduceLT, Int.reduceLE, Int.reduceGT, Int.reduceGE, Int.reduceAdd, Int.reduceSub, Int.reduceToNat, Int.reduceBNe, Int.reduceBEq, Nat.mul_one, Nat.zero_mul]
            refine WCode.mono ?_ (flt6_spec (a := a) (A := A) (sure := sure) hp7 (by omega) h97.toV (by omega) (by rfl) (by rfl) (by rfl) (by rfl) (by rfl) (by rfl) (by rfl) (by rfl))
            rintro x e7 s8 ⟨rfl, f0, f1, f5, f6, f8, f10, hk8, v9', S9', f9, hR9, hS9⟩
            have l8 := h87.lt
            have lO := hS7.l.lt
            have lD := hS7.d.lt
            have hI7 : I6 s s8 p l v8 v9' (i + 1) := ⟨(h0.comp hG7.k fun x hx => (List.mem_append.1 hx).elim (fun h => .inr (h7 x h)) fun h => .inr (h8 x h)).trans hk8, _, _, E7, m7, T7, _, ever, O, OD7, V7, S8, S9', hS7.kept hk8 (by simp) (by simp) (by simp), hN7, h87.kept hk8 (by simp), hR9, by omega, Nat.le_trans (List.length_filter_le ..) (by omega), h7, fun x hx => (hG7.o x hx).elim (h8 x) fun h => by omega,
              fun x hx => ⟨(h9 x hx).1, (h9 x hx).2.1, fun h => (hG7.o x h).elim (h9 x hx).2.2.1 fun h => by have := h3.lt x hx; omega, fun h => (hG7.v x h).elim (h9 x hx).2.2.2.1 fun h => by have := h3.lt x hx; omega, fun h => by have := hS9 x h; have := l8 x hx; omega⟩,
              fun x hx => ⟨by have := hS9 x hx; omega, fun h => by have := hS9 x hx; have := lO x h; omega, fun h => by have := hS9 x hx; have := lD.1 x h; omega, fun h => by have := hS9 x hx; have := lD.2 x h; omega⟩⟩
            simp -implicitDefEqProofs only [go_sem, reduceIte, Nat.reduceEqDiff, Nat.reduceAdd, Nat.reduceMul, Nat.reduceLT, Nat.reduceLeDiff, reduceCtorEq, Int.reduceEq, Int.reduceNeg, Nat.reduceSub, Int.reduceLT, Int.reduceLE, Int.reduceGT, Int.reduceGE, Int.reduceAdd, Int.reduceSub, Int.reduceToNat, Int.reduceBNe, Int.reduceBEq, Nat.mul_one, Nat.zero_mul]
            refine WCode.mono ?_ (chk6_I T t23 ho hI7 (by omega) f0 f1 f5 f6 f8 f9 f10)
            rintro x e' s' ⟨rfl, a0, a1, a5, a6, a8, a9, a10, hI8⟩
            simp -implicitDefEqProofs only [go_sem, reduceIte, Nat.reduceEqDiff, Nat.reduceAdd, Nat.reduceMul, Nat.reduceLT, Nat.reduceLeDiff, reduceCtorEq, Int.reduceEq, Int.reduceNeg, Nat.reduceSub, Int.reduceLT, Int.reduceLE, Int.reduceGT, Int.reduceGE, Int.reduceAdd, Int.reduceSub, Int.reduceToNat, Int.reduceBNe, Int.reduceBEq, Nat.mul_one, Nat.zero_mul, a0, a1, a5, a6, a8, a9, a10, w4]
            exact clo hI8
        · obtain ⟨r', hr'⟩ : ∃ r' : RQ, r' = { a.r with id := L.next } := ⟨_, rfl⟩
          have hLn := h2.lg.lo
          have hLh := h2.lg.hi
          have hLW := h1.l.wide.next
          obtain ⟨B, hB⟩ : ∃ B, B = s6.next := ⟨_, rfl⟩
          obtain ⟨s7, hs7⟩ : ∃ s7 : St, s7 = ⟨(s6.heap.put s6.next (some (.cells [i64 0, .string ⟨#[]⟩, .string ⟨#[]⟩, i64 0, i64 0] 32 0 false))).put s6.next (some (.cells a.r.cells 32 0 false)), s6.next + 1⟩ := ⟨_, rfl⟩
          have hk7 : Kept [] s6 s7 := by
            rw [hs7]
            exact ⟨Nat.le_succ _, fun j hj _ => by have : ¬ j = s6.next := by omega
                                                   simp only [Heap.get_put, this, if_false]⟩
          have hp7 : s7.heap.get s6.next = some (.cells a.r.cells 32 0 false) := by rw [hs7]; simp only [Heap.get_put, if_true]
          have hn7 : s7.next = s6.next + 1 := by rw [hs7]
          have q5 : 5 ≤ a.r.cells.length := Nat.le_refl _
          have q1 : a.r.cells.length = 5 := rfl
          have q2 : a.r.cells.all isCell = true := rfl
          have q3 : storeL [i64 0, .string ⟨#[]⟩, .string ⟨#[]⟩, i64 0, i64 0] 0 a.r.cells = a.r.cells := rfl
          have e10 := fun K => q10 (ov := ov) T (h1.kept hk7 (by simp) (by simp) (by simp)).l K
          obtain ⟨s8, hs8⟩ : ∃ s8 : St, s8 = ⟨s7.heap.put B (some (.cells r'.cells 32 0 false)), s7.next⟩ := ⟨_, rfl⟩
          have hset : a.r.cells.set 0 (i64 L.next) = r'.cells := by rw [hr']; rfl
          have q6 : 1 ≤ a.r.cells.length := by rw [q1]; omega
          have hp8 : s8.heap.get B = some (.cells r'.cells 32 0 false) := by rw [hs8]; simp only [Heap.get_put, if_true]
          have hk8 : Kept [] s6 s8 := by
            rw [hs8]
            refine ⟨by simp only; omega, fun j hj hn => ?_⟩
            have : ¬ j = B := by omega
            simp only [Heap.get_put, this, if_false]
            exact hk7.2 j hj hn
          have r1 : r'.cells.length = 5 := rfl
          have r2 : r'.cells.take 5 = r'.cells := rfl
          have r3 : r'.cells.drop 0 = r'.cells := rfl
          have r4 : r'.cells[0]? = some (i64 L.next) := by rw [hr']; rfl
          have erv' : (Value.agg r'.cells.toArray) = r'.val := rfl
          have dl : decide (L.next < 0) = false := decide_eq_false (by omega)
          have dg : decide (L.next > 1152921504606846976) = false := decide_eq_false (by omega)
          simp -implicitDefEqProofs only [go_sem, reduceIte, Nat.reduceEqDiff, Nat.reduceAdd, Nat.reduceMul, Nat.reduceLT, Nat.reduceLeDiff, reduceCtorEq, Int.reduceEq, Int.reduceNeg, Nat.reduceSub, Int.reduceLT, Int.reduceLE, Int.reduceGT, Int.reduceGE, Int.reduceAdd, Int.reduceSub, Int.reduceToNat, Int.reduceBNe, Int.reduceBEq, Nat.mul_one, Nat.zero_mul, hp6, Nat.add_zero, k0, c5, c1, q1, q2, q3, w0, ← hs7, e10, hp7]
          rw [← hB]
          have h18 := h1.kept hk8 (by simp) (by simp) (by simp)
          have h38 := h3.kept hk8 (by simp)
          have h48 := h4.kept hk8 (by simp)
          have eb : ∀ g nx, evP g nx (.buildSlice 32 5 1 [i64 0, .string ⟨#[]⟩, .string ⟨#[]⟩, i64 0, i64 0] [(0, 5, .agg r'.cells.toArray)]) = _ := fun g nx => ev_build1 rfl rfl
          obtain ⟨val8, sx, he, hR9, hk9, hS9⟩ := h38.push (b := 56) (c := r'.cells) r1 rfl (by rw [List.length_map]; omega) (by omega)
          obtain ⟨s9, hs9⟩ : ∃ s9 : St, s9 = ⟨applyUpd (s8.heap.put s8.next (some (.cells r'.cells 32 5 false))) sx.1, sx.2⟩ := ⟨_, rfl⟩
          rw [← hs9] at hR9 hk9
          have hB8 : B < s8.next := by rw [hs8]; simp only; omega
          have hn8 := hk8.1
          have hn9 := hk9.1
          have l8 := h3.lt
          have l9 := h4.lt
          have lO := h1.l.lt
          have lD := h1.d.lt
          have hBS : B ∉ S8 := fun h => by have := l8 B h; omega
          have hp9 : s9.heap.get B = some (.cells r'.cells 32 0 false) := (hk9.2 B hB8 hBS).trans hp8
          have h19 := h18.kept hk9 (fun x hx h => (h9 x h).2.1 hx) (fun x hx h => (h9 x h).2.2.1 hx) (fun x hx h => (h9 x h).2.2.2.1 hx)
          have h49 := h48.kept hk9 fun x hx h => (h9 x h).2.2.2.2 hx
          simp -implicitDefEqProofs only [go_sem, reduceIte, Nat.reduceEqDiff, Nat.reduceAdd, Nat.reduceMul, Nat.reduceLT, Nat.reduceLeDiff, reduceCtorEq, Int.reduceEq, Int.reduceNeg, Nat.reduceSub, Int.reduceLT, Int.reduceLE, Int.reduceGT, Int.reduceGE, Int.reduceAdd, Int.reduceSub, Int.reduceToNat, Int.reduceBNe, Int.reduceBEq, Nat.mul_one, Nat.zero_mul, hset, Nat.add_zero, q6, ← hs8, hp8, r1, r2, r3, r4, dl, dg, eb, he, ← hs9, hp9, erv', Nat.le_refl]
          have hrW : r'.Wide := by rw [hr']; exact ⟨by simp only; exact hLW, haW.r.prio, haW.r.till⟩
          have hrid : r'.id = L.next := by rw [hr']
          obtain ⟨E7, m7, T7, hN7⟩ := n6_put (r := r') h2 hi60' hrid hrW
          refine WCall.mono (q11 (ov := ov) (r := r') T ho h19 hRm hrW (by omega)) ?_
          rintro u s10 ⟨rfl, OD7, V7, hS10, hG10⟩
          have hn10 := hG10.k.1
          have l8' := hR9.lt
          have hS9' : ∀ x ∈ wrOf val8, s.next ≤ x ∧ x ∉ O ∧ x ∉ OD ∧ x ∉ V ∧ x ∉ S9 := fun x hx => (hS9 x hx).elim (h9 x) fun h => ⟨by omega, fun h' => by have := lO x h'; omega, fun h' => by have := lD.1 x h'; omega, fun h' => by have := lD.2 x h'; omega, fun h' => by have := l9 x h'; omega⟩
          have h0' : Kept [] s s9 := (h0.comp hk8 (by simp)).comp hk9 fun x hx => .inr (h9 x hx).1
          have hR9' : RowsO 32 5 s9 val8 (rqsR (ever ++ [r'])) (wrOf val8) := by rw [rqsR, List.map_append]; exact hR9
          have hel : (ever ++ [r']).length = ever.length + 1 := by simp
          cases he0 : ((putM D L r').2.2 == 0)
          · rw [if_neg (by simpa using he0)] at hN7
            have hI7 := I6.grown h0' h19 hR9' h49 (i := i + 1) (by omega) (by omega) h7 h8 hS9' h10 hS10 hG10 hN7
            simp -implicitDefEqProofs only [go_sem, reduceIte, Nat.reduceEqDiff, Nat.reduceAdd, Nat.reduceMul, Nat.reduceLT, Nat.reduceLeDiff, reduceCtorEq, Int.reduceEq, Int.reduceNeg, Nat.reduceSub, Int.reduceLT, Int.reduceLE, Int.reduceGT, Int.reduceGE, Int.reduceAdd, Int.reduceSub, Int.reduceToNat, Int.reduceBNe, Int.reduceBEq, Nat.mul_one, Nat.zero_mul, he0]
            refine WCode.mono ?_ (chk6_I T t23 ho hI7 (by omega) (by rfl) (by rfl) (by rfl) (by rfl) (by rfl) (by rfl) (by rfl))
            rintro x e' s' ⟨rfl, a0, a1, a5, a6, a8, a9, a10, hI8⟩
            simp -implicitDefEqProofs only [go_sem, reduceIte, Nat.reduceEqDiff, Nat.reduceAdd, Nat.reduceMul, Nat.reduceLT, Nat.reduceLeDiff, reduceCtorEq, Int.reduceEq, Int.reduceNeg, Nat.reduceSub, Int.reduceLT, Int.reduceLE, Int.reduceGT, Int.reduceGE, Int.reduceAdd, Int.reduceSub, Int.reduceToNat, Int.reduceBNe, Int.reduceBEq, Nat.mul_one, Nat.zero_mul, a0, a1, a5, a6, a8, a9, a10, w4]
            exact clo hI8
          · rw [if_pos (by simpa using he0)] at hN7
            have hBO : B ∉ O ++ OD := fun hx => (List.mem_append.1 hx).elim (fun h => by have := lO B h; omega) fun h => by have := lD.1 B h; omega
            have hp10 : s10.heap.get B = some (.cells r'.cells 32 0 false) := (hG10.k.2 B (by omega) hBO).trans hp9
            have hk8O : ∀ x ∈ wrOf val8, x ∉ O ++ OD := fun x hx hx' => (List.mem_append.1 hx').elim (hS9' x hx).2.1 (hS9' x hx).2.2.1
            have hk9O : ∀ x ∈ S9, x ∉ O ++ OD := fun x hx hx' => (List.mem_append.1 hx').elim (h10 x hx).2.1 (h10 x hx).2.2.1
            have h810 := hR9'.kept hG10.k hk8O
            have h910 := h49.kept hG10.k hk9O
            have l910 := h910.lt
            have lO10 := hS10.l.lt
            have lD10 := hS10.d.lt
            have l810 := h810.lt
            obtain ⟨val9, sy, hey, hR11, hk11, hS11⟩ := h910.push (b := 56) (c := r'.cells) r1 rfl (by rw [List.length_map]; omega) (by omega)
            obtain ⟨s11, hs11⟩ : ∃ s11 : St, s11 = ⟨applyUpd (s10.heap.put s10.next (some (.cells r'.cells 32 5 false))) sy.1, sy.2⟩ := ⟨_, rfl⟩
            rw [← hs11] at hR11 hk11
            have sO : ∀ x ∈ S9, x ∉ OD7 ∧ x ∉ V7 := fun x hx => ⟨fun h => (hG10.o x h).elim (h10 x hx).2.2.1 fun h => by have := l9 x hx; omega, fun h => (hG10.v x h).elim (h10 x hx).2.2.2 fun h => by have := l9 x hx; omega⟩
            have s8O : ∀ x ∈ wrOf val8, x ∉ OD7 ∧ x ∉ V7 := fun x hx => ⟨fun h => (hG10.o x h).elim (hS9' x hx).2.2.1 fun h => by have := l8' x hx; omega, fun h => (hG10.v x h).elim (hS9' x hx).2.2.2.1 fun h => by have := l8' x hx; omega⟩
            have hR11' : RowsO 32 5 s11 val9 (rqsR (sure ++ [r'])) (wrOf val9) := by rw [rqsR, List.map_append]; exact hR11
            have hI7 : I6 s s11 p l val8 val9 (i + 1) := ⟨(h0'.comp hG10.k fun x hx => (List.mem_append.1 hx).elim (fun h => .inr (h7 x h)) fun h => .inr (h8 x h)).comp hk11 fun x hx => .inr (h10 x hx).1, _, _, E7, m7, T7, _, _, O, OD7, V7, _, _,
              hS10.kept hk11 (fun x hx h => (h10 x h).2.1 hx) (fun x hx h => (sO x h).1 hx) (fun x hx h => (sO x h).2 hx), hN7, h810.kept hk11 (fun x hx h => (hS9' x hx).2.2.2.2 h), hR11', by omega, by simp; omega, h7, fun x hx => (hG10.o x hx).elim (h8 x) fun h => by have := h0'.1; omega,
              fun x hx => ⟨(hS9' x hx).1, (hS9' x hx).2.1, (s8O x hx).1, (s8O x hx).2, fun h => (hS11 x h).elim (hS9' x hx).2.2.2.2 fun h => by have := l810 x hx; omega⟩,
              fun x hx => (hS11 x hx).elim (fun h => ⟨(h10 x h).1, (h10 x h).2.1, (sO x h).1, (sO x h).2⟩) fun h => ⟨by have := h0'.1; omega, fun h' => by have := lO10 x h'; omega, fun h' => by have := lD10.1 x h'; omega, fun h' => by have := lD10.2 x h'; omega⟩⟩
            simp -implicitDefEqProofs only [go_sem, reduceIte, Nat.reduceEqDiff, Nat.reduceAdd, Nat.reduceMul, Nat.reduceLT, Nat.reduceLeDiff, reduceCtorEq, Int.reduceEq, Int.reduceNeg, Nat.reduceSub, Int.reduceLT, Int.reduceLE, Int.reduceGT, Int.reduceGE, Int.reduceAdd, Int.reduceSub, Int.reduceToNat, Int.reduceBNe, Int.reduceBEq, Nat.mul_one, Nat.zero_mul, he0, hp10, r1, r2, r3, eb, hey, ← hs11, Nat.le_refl]
            refine WCode.mono ?_ (chk6_I T t23 ho hI7 (by omega) (by rfl) (by rfl) (by rfl) (by rfl) (by rfl) (by rfl) (by rfl))
            rintro x e' s' ⟨rfl, a0, a1, a5, a6, a8, a9, a10, hI8⟩
            simp -implicitDefEqProofs only [go_sem, reduceIte, Nat.reduceEqDiff, Nat.reduceAdd, Nat.reduceMul, Nat.reduceLT, Nat.reduceLeDiff, reduceCtorEq, Int.reduceEq, Int.reduceNeg, Nat.reduceSub, Int.reduceLT, Int.reduceLE, Int.reduceGT, Int.reduceGE, Int.reduceAdd, Int.reduceSub, Int.reduceToNat, Int.reduceBNe, Int.reduceBEq, Nat.mul_one, Nat.zero_mul, a0, a1, a5, a6, a8, a9, a10, w4]
            exact clo hI8
end
end Go.Proofs.Ytlcfmfljmabaeaa
