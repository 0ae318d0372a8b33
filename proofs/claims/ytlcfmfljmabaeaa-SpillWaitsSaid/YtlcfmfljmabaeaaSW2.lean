/-
  SpillWaits: the waits, in plain terms.
-/
import Derived.Test.YtlcfmfljmabaeaaSN1
import Derived.Test.YtlcfmfljmabaeaaSE14
set_option maxRecDepth 100000
set_option linter.unusedVariables false
set_option linter.unusedSimpArgs false
namespace Go.Proofs.Ytlcfmfljmabaeaa
open Go Go.Abs Go.Abs.K

def nmW : Nat → ByteArray
  | 0 => ⟨#[104, 116, 116, 112, 58, 47, 47, 97]⟩
  | 1 => ⟨#[104, 116, 116, 112, 58, 47, 47, 98]⟩
  | _ => ⟨#[104, 116, 116, 112, 115, 58, 47, 47, 99, 58, 56]⟩

theorem nmW_size (k : Nat) : (nmW k).size ≤ 11 := by
  match k with
  | 0 => exact Nat.le_of_ble_eq_true rfl
  | 1 => exact Nat.le_of_ble_eq_true rfl
  | n + 2 => exact Nat.le_of_ble_eq_true rfl
theorem nmW_inj {j k : Nat} (hj : j < 3) (hk : k < 3) (h : nmW j = nmW k) : j = k := by
  have hh := congrArg (fun b : ByteArray => b.data.toList) h
  have : j = 0 ∨ j = 1 ∨ j = 2 := by omega
  have : k = 0 ∨ k = 1 ∨ k = 2 := by omega
  rcases ‹j = 0 ∨ j = 1 ∨ j = 2› with rfl | rfl | rfl <;> rcases ‹k = 0 ∨ k = 1 ∨ k = 2› with rfl | rfl | rfl <;> first | rfl | (exact absurd hh (by decide))

structure N5 (D : DM) (L : LM) (E : List Ent) (T : Int → List Int) (w : Nat → Int) (i : Nat) : Prop where
  ld : LD D L E 0 T
  full : Full 37 D L E
  dm : D.most = 16
  df : D.fails = 0
  lm : L.most = 7
  cE : E.length ≤ i
  cW : L.wait.length ≤ i
  cL : L.live = []
  lg : LG 37 1 L
  good : ∀ r ∈ rcs E, GoodR 37 1 r
  eqv : ∀ h, lookG L.wait h = (rcs E).foldl (stepH h) none
  wv : ∀ k, k < 3 → (lookG L.wait (nmW k)).getD 0 = w k
  wn : ∀ h, (∀ k, k < 3 → h ≠ nmW k) → lookG L.wait h = none
  lst : L.last ≤ 300 * i
  dup : NoDup L

theorem N5.room {D : DM} {L : LM} {E : List Ent} {T : Int → List Int} {w : Nat → Int} {i : Nat} (h : N5 D L E T w i) (hi : i ≤ 200) {b : ByteArray} {t : Int} : Room D (applyL L (waitF b t)) := by
  have h1 := h.lg.lo; have h2 := h.cW; have h3 := h.lst
  have hl := apply_len L (waitF b t)
  rw [h.cL] at hl
  simp only [List.length_nil] at hl
  refine ⟨?_, by omega, by omega, by rw [holds_loose0 h.ld.h]; simp, ?_⟩
  · simp only [applyL, waitF, if_true]; omega
  · simp only [applyL]; omega

theorem N5.segs {D : DM} {L : LM} {E : List Ent} {T : Int → List Int} {w : Nat → Int} {i : Nat} (h : N5 D L E T w i) (hi : i ≤ 200) : (keysF D).length ≤ 4 := by
  have h1 := few_segs h.full h.ld
  have h2 := bytesN_le (R := rcs E) (b := 37) fun r hr => (h.good r hr).le
  rw [List.length_map] at h2
  have h3 := h.cE
  have h4 : E.length * 37 ≤ 200 * 37 := Nat.mul_le_mul_right _ (by omega)
  refine Decidable.byContradiction fun hc => ?_
  have : 4 * (2048 - 37) ≤ ((keysF D).length - 1) * (2048 - 37) := Nat.mul_le_mul_right _ (by omega)
  omega

def setW (w : Nat → Int) (k : Nat) (t : Int) : Nat → Int := fun j => if j = k then max (w k) t else w j

theorem n5_wait {D : DM} {L : LM} {E : List Ent} {T : Int → List Int} {w : Nat → Int} {i k : Nat} {t : Int} (h : N5 D L E T w i) (hi : i < 200) (hk : k < 3) (ht : 0 ≤ t ∧ t ≤ 4294967295) :
    (waitM D L (nmW k) t).2.2 = 0 ∧ ∃ E', N5 (waitM D L (nmW k) t).1 (waitM D L (nmW k) t).2.1 E' T (setW w k t) (i + 1) := by
  have hsz := nmW_size k
  have hg : GoodR 37 1 (waitF (nmW k) t) := goodR_wait (by omega) (by omega) (by omega) (by omega)
  have hsg := h.segs (by omega)
  have hwm : waitM D L (nmW k) t = addM D (applyL L (waitF (nmW k) t)) (waitF (nmW k) t) := by unfold waitM; rw [if_pos hg.sound]
  obtain ⟨r, hr⟩ : ∃ r, r = waitF (nmW k) t := ⟨_, rfl⟩
  obtain ⟨L1, hL1⟩ : ∃ L1, L1 = applyL L r := ⟨_, rfl⟩
  rw [hwm, ← hr, ← hL1]
  rw [← hr] at hg
  have hk3 : r.kind = 3 := by rw [hr]; rfl
  have hll : L1.last = L.last := by rw [hL1]; rfl
  have hlm : L1.most = 7 := by rw [hL1]; exact h.lm
  have hld : LD D L1 E 0 T := h.ld.lm hll
  obtain ⟨a1, a2, a3, ⟨n, a4⟩, a5⟩ := add_ok (by decide) hld hg.three h.df (by rw [hlm]; omega) (by rw [h.dm]; omega)
  have haf := addM_facts D L1 r
  obtain ⟨b1, b2, b3, b4⟩ := lm_last haf.1
  obtain ⟨W, hW⟩ : ∃ W, W = addM D L1 r := ⟨_, rfl⟩
  rw [← hW] at a1 a2 a3 a4 a5 haf b1 b2 b3 b4 ⊢
  have hlv : L1.live = [] := by rw [hL1]; simp only [applyL]; rw [if_neg (by omega), if_neg (by omega)]; exact h.cL
  have hlen := apply_len L r
  rw [← hL1] at hlen
  have hlk : ∀ x, lookG L1.wait x = stepH x (lookG L.wait x) r := fun x => by rw [hL1, apply_wait]
  have hhost : r.host = nmW k := by rw [hr]; rfl
  have htill : r.till = t := by rw [hr]; rfl
  have hcw := h.cW; have hcE := h.cE; have hls := h.lst
  refine ⟨a1, E ++ [(n, r)], a4, a5 (fun n hn hnl => h.full n hn (by rw [hll] at hnl; exact hnl)) _, a3.trans h.dm, a2, b4.trans hlm, ?_, ?_, b2.trans hlv, ?_, fun x hx => ?_, fun x => ?_, fun j hj => ?_, fun x hx => ?_, ?_, ?_⟩
  · simp only [List.length_append, List.length_cons, List.length_nil]; omega
  · rw [b3]; omega
  · refine LG.of_last ?_ haf.1
    rw [hL1]; exact h.lg.apply hg
  · rw [rcs, List.map_append] at hx
    rcases List.mem_append.1 hx with hx | hx
    · exact h.good x hx
    · simp only [List.map_cons, List.map_nil, List.mem_singleton] at hx
      rw [hx]; exact hg
  · rw [b3, hlk, rcs, List.map_append, List.foldl_append, h.eqv]; rfl
  · rw [b3, hlk]
    unfold stepH setW
    rw [if_pos hk3, hhost, htill]
    by_cases hjk : j = k
    · subst hjk
      rw [if_pos rfl, if_pos rfl, Option.getD_some, h.wv j hj]
    · rw [if_neg hjk, if_neg fun e => hjk (nmW_inj hj hk e)]
      exact h.wv j hj
  · rw [b3, hlk]
    unfold stepH
    rw [if_pos hk3, hhost, if_neg (hx k hk)]
    exact h.wn x hx
  · have h1 := haf.2.2.1
    rw [hlv, hll] at h1
    simp only [List.length_nil] at h1
    push_cast; omega
  · have := h.dup.apply r
    rw [← hL1] at this
    exact ⟨by rw [b2]; exact this.live, by rw [b3]; exact this.wait⟩

theorem n5_zero : N5 ⟨16, 0, 0, [], []⟩ (openM ⟨16, 0, 0, [], []⟩ 7) [] (fun _ => []) (fun _ => 0) 0 := by
  have h := n3_zero
  exact ⟨h.ld, fun n hn => by simp [keysF, sortZ] at hn, rfl, rfl, h.lm, by simp, by simp [h.cW], rfl, lg0 7 (by simp), by simp, fun h => rfl, fun k _ => rfl, fun h _ => rfl, by simp [openM, keysF, sortZ], h.dup⟩

theorem n5_crash {D : DM} {L : LM} {E : List Ent} {T : Int → List Int} {w : Nat → Int} {i : Nat} {keep : Int} (h : N5 D L E T w i) (hi : i ≤ 200) (hk : 0 ≤ keep) {D2 : DM} (hD2 : D2 = ⟨D.most, 0, 0, crashF D.loose keep D.F, []⟩) :
    (∀ n ∈ keysF D2, n < 9223372036854775807 ∧ ∀ r ∈ (scanD D2 n).1, r.Wide ∧ r.id < 9223372036854775807 ∧ r.host.size ≤ 4611686018427387904) ∧ (keysF D2).length ≤ 4 ∧
    (∀ k, k < 3 → (lookG (openM D2 7).wait (nmW k)).getD 0 = w k) ∧ ∀ x, (∀ k, k < 3 → x ≠ nmW k) → lookG (openM D2 7).wait x = none := by
  obtain ⟨j, T', hj, hh, hkeys⟩ := h.ld.h.crash hk
  rw [← hD2] at hh hkeys
  have hE : E.take (E.length - 0 + j) = E := List.take_of_length_le (by omega)
  rw [hE] at hh
  have h3 := h.lst
  obtain ⟨o1, o2, o3, o4, o5⟩ := openM_eq hh 7
  have hw : ∀ x, lookG (openM D2 7).wait x = lookG L.wait x := fun x => by rw [o3, all_wait, h.eqv]; rfl
  refine ⟨open_ask (B := L.last) hh h.good (by omega) (by omega) (by rw [hkeys]; exact h.ld.top), by rw [hkeys]; exact h.segs hi, fun k hk => by rw [hw]; exact h.wv k hk, fun x hx => by rw [hw]; exact h.wn x hx⟩
end Go.Proofs.Ytlcfmfljmabaeaa

/-
  SpillWaits: the law's walk.
-/
set_option maxRecDepth 100000
set_option linter.unusedVariables false
set_option linter.unusedSimpArgs false
namespace Go.Abs
open Go
theorem IntsS.len {k : IntKind} {s : St} {v : Value} {bs : List Int} (h : IntsS k s v bs) : ∃ a c, v = .slice a bs.length c := by
  rcases h with ⟨rfl, rfl⟩ | ⟨id, o, cap, c, T, z, rfl, _⟩
  · exact ⟨_, _, rfl⟩
  · exact ⟨_, _, rfl⟩
theorem IntsS.at {k : IntKind} {s s' : St} {v : Value} {bs : List Int} (h : IntsS k s v bs) (hk : Kept [] s s') {i : Nat} (hi : i < bs.length) : ∃ id o cap c T z ro, v = .slice (some ⟨id, o, none⟩) bs.length cap ∧ s'.heap.get id = some (.cells c T z ro) ∧ c[o + i]? = some (.int k (bs.getD i 0)) ∧ id < s.next := by
  rcases h with ⟨rfl, rfl⟩ | ⟨id, o, cap, c, T, z, rfl, h1, h2, h3, h4, h5⟩
  · simp at hi
  · refine ⟨id, o, cap, c, T, z, true, rfl, by rw [hk.2 id h2 (by simp)]; exact h3, ?_, h2⟩
    have := congrArg (fun l => l[i]?) h5
    simp only [List.getElem?_take, if_pos hi, List.getElem?_drop, List.getElem?_map, List.getElem?_eq_getElem hi, Option.map_some] at this
    rw [this, List.getD_eq_getElem?_getD, List.getElem?_eq_getElem hi, Option.getD_some]

theorem quiet_same {fs : List Foot} {i : Nat} {f : Foot} (hf : fs[i]? = some f) (h : f.after = f.before) : quietAt fs i := by
  intro g hg id _
  rw [hf] at hg
  cases hg
  rw [h]

end Go.Abs
namespace Go.Proofs.Ytlcfmfljmabaeaa
open Go Go.Abs Go.Abs.K

def tail5 : ACode := match code5 with | .seq _ (.seq _ (.seq _ (.seq _ (.seq _ (.seq _ (.seq _ x)))))) => x | _ => .skip
theorem code5_eq : code5 =
 .seq (R [o 6 (.mov ff)])
 (.seq (R [o 16 (.call (.func 8) [(i 16)]), o 7 (.mov (v 16))])
 (.seq (R [o 18 (.mov (v 7)), o 19 (.call (.func 9) [(v 18), (i 7)]), o 17 (.mov (v 19)), o 20 (.extract (v 17) 0), o 21 (.extract (v 17) 1), o 8 (.mov (v 20)), o 9 (.mov (v 21))])
 (.seq (.seq (R [o 22 (.mov (v 9)), o 23 (.bin .neq (v 22) (i 0)), o 24 (.mov (v 23)), of 24 25 (.mov (v 8)), of 24 26 (.eq false .pointer (v 25) (.const (.pointer none))), o 27 (.pick (v 24) tt (v 26))])
  (.cond (v 27) (.seq (R [o 6 (.mov ff)])
   (.ret))
  (.skip)))
 (.seq (R [o 28 (.buildSlice 9 1 3 [(.string ⟨#[]⟩), (.string ⟨#[]⟩), (.string ⟨#[]⟩)] [(0, 1, (.const (.string ⟨#[104, 116, 116, 112, 58, 47, 47, 97]⟩))), (1, 1, (.const (.string ⟨#[104, 116, 116, 112, 58, 47, 47, 98]⟩))), (2, 1, (.const (.string ⟨#[104, 116, 116, 112, 115, 58, 47, 47, 99, 58, 56]⟩)))]), o 10 (.mov (v 28))])
 (.seq (R [o 29 (.buildSlice 3 1 3 [(.int .i64 0), (.int .i64 0), (.int .i64 0)] [(0, 1, (i 0)), (1, 1, (i 0)), (2, 1, (i 0))]), o 11 (.mov (v 29))])
 (.seq (.seq (R [o 12 (.mov (i 0))])
  (.block 0 (.loop [0, 1, 2, 7, 8, 10, 11, 12] (.seq (.seq (R [o 30 (.mov (v 12)), o 31 (.mov (v 0)), o 32 (.len .slice (v 31)), o 33 (.bin .lss (v 30) (v 32)), o 34 (.mov (v 33)), ot 34 35 (.mov (v 12)), ot 34 36 (.mov (v 1)), ot 34 37 (.len .slice (v 36)), ot 34 38 (.bin .lss (v 35) (v 37)), o 39 (.pick (v 34) (v 38) ff), o 40 (.mov (v 39)), ot 40 41 (.mov (v 12)), ot 40 42 (.bin .lss (v 41) (i 200)), o 43 (.pick (v 40) (v 42) ff)])
     (.cond (v 43) (.skip)
     (.exit 0)))
    (.seq (.block 1 (.seq (R [o 46 (.mov (v 0)), o 47 (.mov (v 12)), o 48 (.indexAddr 1 (v 46) (v 47)), o 49 (.load none (v 48)), o 50 (.conv (.int .i64) (v 49)), o 51 (.bin .rem (v 50) (i 3)), o 13 (.mov (v 51))])
      (.seq (.seq (R [o 52 (.mov (v 8)), o 53 (.mov (v 10)), o 54 (.mov (v 13)), o 55 (.indexAddr 1 (v 53) (v 54)), o 56 (.load none (v 55)), o 57 (.mov (v 1)), o 58 (.mov (v 12)), o 59 (.indexAddr 1 (v 57) (v 58)), o 60 (.load none (v 59)), o 61 (.conv (.int .i64) (v 60)), o 62 (.call (.func 16) [(v 52), (v 56), (v 61)]), o 63 (.bin .neq (v 62) (i 0))])
       (.cond (v 63) (.seq (R [o 6 (.mov ff)])
        (.ret))
       (.skip)))
      (.seq (.seq (R [o 64 (.mov (v 1)), o 65 (.mov (v 12)), o 66 (.indexAddr 1 (v 64) (v 65)), o 67 (.load none (v 66)), o 68 (.conv (.int .i64) (v 67)), o 69 (.mov (v 11)), o 70 (.mov (v 13)), o 71 (.indexAddr 1 (v 69) (v 70)), o 72 (.load none (v 71)), o 73 (.bin .gtr (v 68) (v 72))])
       (.cond (v 73) (R [o 74 (.mov (v 11)), o 75 (.mov (v 13)), o 76 (.mov (v 1)), o 77 (.mov (v 12)), o 78 (.indexAddr 1 (v 76) (v 77)), o 79 (.load none (v 78)), o 80 (.conv (.int .i64) (v 79)), o 81 (.indexAddr 1 (v 74) (v 75)), on (.store 1 (v 81) (v 80))])
       (.skip)))
      (.seq (D [o 82 (.mov (v 8)), o 83 (.mov (v 10)), o 84 (.mov (v 13)), o 85 (.indexAddr 1 (v 83) (v 84)), o 86 (.load none (v 85)), o 87 (.call (.func 18) [(v 82), (v 86)]), o 88 (.mov (v 11)), o 89 (.mov (v 13)), o 90 (.indexAddr 1 (v 88) (v 89)), o 91 (.load none (v 90)), o 92 (.bin .neq (v 87) (v 91))] ⟨[], [5], []⟩)
      (.cond (v 92) (.seq (R [o 6 (.mov ff)])
       (.ret))
      (.skip)))))))
    (R [o 44 (.mov (v 12)), o 45 (.bin .add (v 44) (i 1)), o 12 (.mov (v 45))]))))))
 tail5)))))) := rfl

section
variable {tbl : FuncId → Option AFun} {ov : CallSem} {s : St} (T : STbl tbl)
include T

theorem tail5_spec (ho : OvS ov) {e : Env} {D : DM} {L : LM} {E : List Ent} {TT : Int → List Int} {w : Nat → Int} {i l p nb : Nat} {keep : Int} {O OD V : List Nat} (hS : SRep s l p D L O OD V) (hN : N5 D L E TT w i) (hi : i ≤ 200) (hkp : W64 keep)
    (hOD : ∀ x ∈ OD, x ≠ nb ∧ x ≠ nb + 1) (hO : ∀ x ∈ O, x ≠ nb ∧ x ≠ nb + 1) (hV : ∀ x ∈ V, x ≠ nb ∧ x ≠ nb + 1) (hgn : s.heap.get nb = some (.cells [.string (nmW 0), .string (nmW 1), .string (nmW 2)] 9 1 false)) (hgw : s.heap.get (nb + 1) = some (.cells [i64 (w 0), i64 (w 1), i64 (w 2)] 3 1 false)) (hnn : nb + 2 ≤ s.next)
    (g2 : e.get 2 = some (i64 keep)) (g7 : e.get 7 = some (ptr p)) (g8 : e.get 8 = some (ptr l)) (g10 : e.get 10 = some (.slice (some ⟨nb, 0, none⟩) 3 3)) (g11 : e.get 11 = some (.slice (some ⟨nb + 1, 0, none⟩) 3 3)) :
    WCode (fun k => call tbl ov k) tail5 e s (ends [.tmp 6] fun u _ => u = .bool true) := by
  have e14 := fun s K => e14b (ov := ov) T ho s K
  simp -implicitDefEqProofs only [tail5, code5, go_sem, reduceIte, Nat.reduceEqDiff, Nat.reduceAdd, Nat.reduceMul, Nat.reduceLT, Nat.reduceLeDiff, reduceCtorEq, Int.reduceEq, Int.reduceNeg, Nat.reduceSub, Int.reduceLT, Int.reduceLE, Int.reduceGT, Int.reduceGE, Int.reduceAdd, Int.reduceSub, Int.reduceToNat, Int.reduceBNe, Int.reduceBEq, Nat.mul_one, Nat.zero_mul, g2, g7]
  refine WCall.mono (p20 (ov := ov) T.d hS.d hkp hN.ld.h.looseOK (by rw [holds_loose0 hN.ld.h]; simp)) ?_
  rintro u s1 ⟨rfl, hk1, OD1, hD1, hO1⟩
  obtain ⟨D2, hD2⟩ : ∃ D2 : DM, D2 = ⟨D.most, 0, 0, crashF D.loose (max keep 0) D.F, []⟩ := ⟨_, rfl⟩
  rw [← hD2] at hD1
  obtain ⟨c1, c2, c3, c4⟩ := n5_crash hN hi (by omega) hD2
  simp -implicitDefEqProofs only [go_sem, reduceIte, Nat.reduceEqDiff, Nat.reduceAdd, Nat.reduceMul, Nat.reduceLT, Nat.reduceLeDiff, reduceCtorEq, Int.reduceEq, Int.reduceNeg, Nat.reduceSub, Int.reduceLT, Int.reduceLE, Int.reduceGT, Int.reduceGE, Int.reduceAdd, Int.reduceSub, Int.reduceToNat, Int.reduceBNe, Int.reduceBEq, Nat.mul_one, Nat.zero_mul, g7]
  refine WCall.mono (q9 (ov := ov) (segs := 7) T ho hD1 (by unfold W64; omega) c1) ?_
  rintro u s2 ⟨l2, O2, rfl, hS2, hk2, hO2⟩
  have hn1 := hk1.1
  have hn2 := hk2.1
  obtain ⟨L2, hL2⟩ : ∃ L2, L2 = openM D2 7 := ⟨_, rfl⟩
  rw [← hL2] at hS2 c3 c4
  have hSl : SRep s2 l p D2 L O OD1 V := ⟨(hS.l.kept hk1 fun x hx => (hS.dis x hx).1).kept hk2 (by simp), hS2.d, fun x hx => ⟨fun h => (hS.dis x hx).1 (hO1 x h), (hS.dis x hx).2⟩⟩
  have hRm : Room D2 (applyL L (waitF ⟨#[104]⟩ (-1))) := by
    have := hN.room hi (b := ⟨#[104]⟩) (t := -1)
    exact ⟨this.next, this.live, this.wait, by rw [hD2]; simp, this.last⟩
  have hwm : waitM D2 L ⟨#[104]⟩ (-1) = (D2, L, 2) := by unfold waitM; rw [if_neg (by decide)]
  have h00 : ((0 : Int) != 0) = false := rfl
  simp -implicitDefEqProofs only [go_sem, reduceIte, Nat.reduceEqDiff, Nat.reduceAdd, Nat.reduceMul, Nat.reduceLT, Nat.reduceLeDiff, reduceCtorEq, Int.reduceEq, Int.reduceNeg, Nat.reduceSub, Int.reduceLT, Int.reduceLE, Int.reduceGT, Int.reduceGE, Int.reduceAdd, Int.reduceSub, Int.reduceToNat, Int.reduceBNe, Int.reduceBEq, Nat.mul_one, Nat.zero_mul, Option.isNone_some, h00, g8]
  refine WCall.mono (q16 (ov := ov) T ho hSl hRm (by unfold W64; omega)) ?_
  rintro u s3 ⟨rfl, OD3, V3, hS3, hG3⟩
  rw [hwm] at hS3 ⊢
  have hlO := hS.l.lt
  have hlD := hS.d.lt
  have hlO2 := hS2.l.lt
  have hS32 : SRep s3 l2 p D2 L2 O2 OD3 V3 := ⟨hS2.l.kept hG3.k fun x hx hx' => by
      have := hO2 x hx
      rcases List.mem_append.1 hx' with hx' | hx'
      · have := hlO x hx'; omega
      · have := hlD.1 x (hO1 x hx'); omega, hS3.d, fun x hx => ⟨fun hx' => by
        have := hO2 x hx; have := hlO2 x hx
        rcases hG3.o x hx' with h | h
        · have := hlD.1 x (hO1 x h); omega
        · omega, fun hx' => by
        have := hO2 x hx; have := hlO2 x hx
        rcases hG3.v x hx' with h | h
        · have := hlD.2 x h; omega
        · omega⟩⟩
  have hgn3 : s3.heap.get nb = some (.cells [.string (nmW 0), .string (nmW 1), .string (nmW 2)] 9 1 false) := by
    rw [hG3.k.2 nb (by omega) (fun hx => (List.mem_append.1 hx).elim (fun h => (hO nb h).1 rfl) fun h => (hOD nb (hO1 nb h)).1 rfl), hk2.2 nb (by omega) (by simp), hk1.2 nb (by omega) fun h => (hOD nb h).1 rfl]
    exact hgn
  have hgw3 : s3.heap.get (nb + 1) = some (.cells [i64 (w 0), i64 (w 1), i64 (w 2)] 3 1 false) := by
    rw [hG3.k.2 (nb + 1) (by omega) (fun hx => (List.mem_append.1 hx).elim (fun h => (hO _ h).2 rfl) fun h => (hOD _ (hO1 _ h)).2 rfl), hk2.2 (nb + 1) (by omega) (by simp), hk1.2 (nb + 1) (by omega) fun h => (hOD _ h).2 rfl]
    exact hgw
  have e18 := fun b K => q18 (ov := ov) (b := b) T hS32.l K
  have h22 : ((2 : Int) != 2) = false := rfl
  have hb : ∀ x : Int, (x == x) = true := fun x => by simp
  have hx0 : lookG L2.wait ⟨#[120]⟩ = none := c4 _ fun k hk he => by
    have := congrArg (fun b : ByteArray => b.data.toList.length) he
    have : k = 0 ∨ k = 1 ∨ k = 2 := by omega
    rcases this with rfl | rfl | rfl <;> exact absurd ‹_› (by decide)
  have i0 : (0 : Int) ≤ 0 ∧ (0 : Int) < ((3 : Nat) : Int) := by omega
  have i1 : (0 : Int) ≤ 1 ∧ (1 : Int) < ((3 : Nat) : Int) := by omega
  have i2 : (0 : Int) ≤ 2 ∧ (2 : Int) < ((3 : Nat) : Int) := by omega
  simp -implicitDefEqProofs only [go_sem, reduceIte, Nat.reduceEqDiff, Nat.reduceAdd, Nat.reduceMul, Nat.reduceLT, Nat.reduceLeDiff, reduceCtorEq, Int.reduceEq, Int.reduceNeg, Nat.reduceSub, Int.reduceLT, Int.reduceLE, Int.reduceGT, Int.reduceGE, Int.reduceAdd, Int.reduceSub, Int.reduceToNat, Int.reduceBNe, Int.reduceBEq, Nat.mul_one, Nat.zero_mul, h22, e14, g10, g11, hgn3, hgw3, e18, c3 0 (by omega), c3 1 (by omega), c3 2 (by omega), hb, hx0, Option.getD_none, i0, i1, i2, Int.toNat_zero, Int.toNat_one]
  refine WCall.mono (q19 (ov := ov) T ho hS32) ?_
  rintro u s4 ⟨rfl, hk4⟩
  have d7 : decide (((keysF D2).length : Int) ≤ 7) = true := decide_eq_true (by omega)
  simp -implicitDefEqProofs only [go_sem, reduceIte, Nat.reduceEqDiff, Nat.reduceAdd, Nat.reduceMul, Nat.reduceLT, Nat.reduceLeDiff, reduceCtorEq, Int.reduceEq, Int.reduceNeg, Nat.reduceSub, Int.reduceLT, Int.reduceLE, Int.reduceGT, Int.reduceGE, Int.reduceAdd, Int.reduceSub, Int.reduceToNat, Int.reduceBNe, Int.reduceBEq, Nat.mul_one, Nat.zero_mul, d7]
  intro i hi f hf
  simp only [List.mem_cons, List.not_mem_nil, or_false] at hi
  rcases hi with rfl | rfl | rfl <;> (cases Option.some.inj hf; intro id _; rfl)

set_option maxHeartbeats 2000000 in
theorem law5 (t5 : tbl 5 = some fun5) (ho : OvS ov) {av bv : Value} {zs us : List Int} {keep : Int} (hb : BytesV s av zs) (hu : IntsS .u32 s bv us) (huw : ∀ u ∈ us, 0 ≤ u ∧ u ≤ 4294967295) (hkp : W64 keep) :
    WCall (fun k => call tbl ov k) 5 [av, bv, i64 keep] s fun u _ => u = .bool true := by
  refine WCall.of t5 rfl ?_
  have e14 := fun s K => e14b (ov := ov) T ho s K
  obtain ⟨aa, ac, hav⟩ := hb.len
  obtain ⟨ba, bc, hbv⟩ := hu.len
  subst hav
  subst hbv
  rw [show fun5.body = _ from code5_eq, show fun5.res = [.tmp 6] from rfl]
  simp -implicitDefEqProofs only [params, go_sem, reduceIte, Nat.reduceEqDiff, Nat.reduceAdd, Nat.reduceMul, Nat.reduceLT, Nat.reduceLeDiff, reduceCtorEq, Int.reduceEq, Int.reduceNeg, Nat.reduceSub, Int.reduceLT, Int.reduceLE, Int.reduceGT, Int.reduceGE, Int.reduceAdd, Int.reduceSub, Int.reduceToNat, Int.reduceBNe, Int.reduceBEq, Nat.mul_one, Nat.zero_mul]
  refine WCall.mono (p8 (ov := ov) (n := 16) T.d (by unfold W64; omega)) ?_
  rintro u s1 ⟨rfl, hD1, hk1⟩
  obtain ⟨p, hp⟩ : ∃ p, p = s.next + 1 := ⟨_, rfl⟩
  rw [← hp] at hD1
  have hm : max 0 (min (16 : Int) 16) = 16 := by decide
  rw [hm] at hD1
  simp -implicitDefEqProofs only [go_sem, reduceIte, Nat.reduceEqDiff, Nat.reduceAdd, Nat.reduceMul, Nat.reduceLT, Nat.reduceLeDiff, reduceCtorEq, Int.reduceEq, Int.reduceNeg, Nat.reduceSub, Int.reduceLT, Int.reduceLE, Int.reduceGT, Int.reduceGE, Int.reduceAdd, Int.reduceSub, Int.reduceToNat, Int.reduceBNe, Int.reduceBEq, Nat.mul_one, Nat.zero_mul, ← hp]
  refine WCall.mono (q9 (ov := ov) (segs := 7) T ho hD1 (by unfold W64; omega) (by simp [keysF, sortZ])) ?_
  rintro u s2 ⟨l, O, rfl, hS2, hk2, hO2⟩
  have hn1 := hk1.1
  have hn2 := hk2.1
  have hO2l := hS2.l.lt
  have hDl := hS2.d.lt
  have ef1 : fillL [.string ⟨#[]⟩, .string ⟨#[]⟩, .string ⟨#[]⟩] [(0, 1, .string ⟨#[104, 116, 116, 112, 58, 47, 47, 97]⟩), (1, 1, .string ⟨#[104, 116, 116, 112, 58, 47, 47, 98]⟩), (2, 1, .string ⟨#[104, 116, 116, 112, 115, 58, 47, 47, 99, 58, 56]⟩)] = some [.string (nmW 0), .string (nmW 1), .string (nmW 2)] := rfl
  have ef2 : fillL [i64 0, i64 0, i64 0] [(0, 1, i64 0), (1, 1, i64 0), (2, 1, i64 0)] = some [i64 0, i64 0, i64 0] := rfl
  simp -implicitDefEqProofs only [go_sem, reduceIte, Nat.reduceEqDiff, Nat.reduceAdd, Nat.reduceMul, Nat.reduceLT, Nat.reduceLeDiff, reduceCtorEq, Int.reduceEq, Int.reduceNeg, Nat.reduceSub, Int.reduceLT, Int.reduceLE, Int.reduceGT, Int.reduceGE, Int.reduceAdd, Int.reduceSub, Int.reduceToNat, Int.reduceBNe, Int.reduceBEq, Nat.mul_one, Nat.zero_mul, Option.isNone_some, ef1, ef2, ev_buildSlice]
  obtain ⟨nb, hnb⟩ : ∃ nb, nb = s2.next := ⟨_, rfl⟩
  obtain ⟨s4, hs4⟩ : ∃ s4 : St, s4 = ⟨(s2.heap.put s2.next (some (.cells [.string (nmW 0), .string (nmW 1), .string (nmW 2)] 9 1 false))).put (s2.next + 1) (some (.cells [i64 0, i64 0, i64 0] 3 1 false)), s2.next + 1 + 1⟩ := ⟨_, rfl⟩
  rw [← hs4, ← hnb]
  have hk4 : Kept [] s2 s4 := by
    rw [hs4]
    exact ⟨by simp only; omega, fun j hj _ => by simp only [Heap.get_put]; rw [if_neg (by omega), if_neg (by omega)]⟩
  have hS4 := hS2.kept hk4 (by simp) (by simp) (by simp)
  have hnx4 : s4.next = nb + 2 := by rw [hs4, hnb]
  obtain ⟨I, hI⟩ : ∃ I : Nat → List Value → St → Prop, I = fun m vs s' => Kept [] s s' ∧ ∃ (i : Nat) (D : DM) (L : LM) (E : List Ent) (TT : Int → List Int) (w : Nat → Int) (OD V : List Nat), i ≤ zs.length ∧ i ≤ us.length ∧ i ≤ 200 ∧ m = zs.length - i ∧ vs = [.slice aa zs.length ac, .slice ba us.length bc, i64 keep, ptr p, ptr l, .slice (some ⟨nb, 0, none⟩) 3 3, .slice (some ⟨nb + 1, 0, none⟩) 3 3, i64 (i : Nat)] ∧
    SRep s' l p D L O OD V ∧ N5 D L E TT w i ∧ (∀ x ∈ OD, s.next ≤ x ∧ x ≠ nb ∧ x ≠ nb + 1) ∧ (∀ x ∈ V, x ≠ nb ∧ x ≠ nb + 1) ∧ s'.heap.get nb = some (.cells [.string (nmW 0), .string (nmW 1), .string (nmW 2)] 9 1 false) ∧ s'.heap.get (nb + 1) = some (.cells [i64 (w 0), i64 (w 1), i64 (w 2)] 3 1 false) ∧ nb + 2 ≤ s'.next := ⟨_, rfl⟩
  refine wc_loopV I zs.length ?_ ?_
  · simp -implicitDefEqProofs only [go_sem, reduceIte, Nat.reduceEqDiff, Nat.reduceAdd, Nat.reduceMul, Nat.reduceLT, Nat.reduceLeDiff, reduceCtorEq, Int.reduceEq, Int.reduceNeg, Nat.reduceSub, Int.reduceLT, Int.reduceLE, Int.reduceGT, Int.reduceGE, Int.reduceAdd, Int.reduceSub, Int.reduceToNat, Int.reduceBNe, Int.reduceBEq, Nat.mul_one, Nat.zero_mul]
    rw [hI]
    refine ⟨(hk1.trans hk2).trans hk4, 0, _, _, _, _, _, _, _, by omega, by omega, by omega, by omega, rfl, hS4, n5_zero, fun x hx => ?_, fun x hx => (by cases hx), ?_, ?_, by omega⟩
    · simp only [List.mem_cons, List.not_mem_nil, or_false] at hx
      have := hDl.1 x (by simp; omega)
      omega
    · rw [hs4, hnb]
      have : ¬ s2.next = s2.next + 1 := by omega
      simp only [Heap.get_put, this, if_false, if_true]
    · rw [hs4, hnb]; simp only [Heap.get_put, if_true]
  · intro m vs s3 hi _
    rw [hI] at hi
    obtain ⟨hk3, i, D, L, E, TT, w, OD, V, hil, hiu, hi200, rfl, rfl, hS, hN, hOD, hV, hgn, hgw, hnn⟩ := hi
    have hO : ∀ x ∈ O, s.next ≤ x ∧ x ≠ nb ∧ x ≠ nb + 1 := fun x hx => by have := hO2 x hx; have := hO2l x hx; omega
    have stop : ((decide ((i : Int) < (zs.length : Int)) = false ∨ (decide ((i : Int) < (zs.length : Int)) = true ∧ decide ((i : Int) < (us.length : Int)) = false)) ∨ (decide ((i : Int) < (zs.length : Int)) = true ∧ decide ((i : Int) < (us.length : Int)) = true ∧ decide ((i : Int) < 200) = false)) ∨ (decide ((i : Int) < (zs.length : Int)) = true ∧ decide ((i : Int) < (us.length : Int)) = true ∧ decide ((i : Int) < 200) = true) := by
      cases decide ((i : Int) < (zs.length : Int)) <;> cases decide ((i : Int) < (us.length : Int)) <;> cases decide ((i : Int) < 200) <;> simp
    have fin : ∀ e : Env, e.get 2 = some (i64 keep) → e.get 7 = some (ptr p) → e.get 8 = some (ptr l) → e.get 10 = some (.slice (some ⟨nb, 0, none⟩) 3 3) → e.get 11 = some (.slice (some ⟨nb + 1, 0, none⟩) 3 3) → WCode (fun k => call tbl ov k) tail5 e s3 (ends [.tmp 6] fun u _ => u = .bool true) :=
      fun e g2 g7 g8 g10 g11 => tail5_spec T ho hS hN hi200 hkp (fun x hx => (hOD x hx).2) (fun x hx => (hO x hx).2) (fun x hx => hV x hx) hgn hgw hnn g2 g7 g8 g10 g11
    rcases stop with ((d1 | ⟨d1, d2⟩) | ⟨d1, d2, d3⟩) | ⟨d1, d2, d3⟩
    · simp -implicitDefEqProofs only [go_sem, reduceIte, Nat.reduceEqDiff, Nat.reduceAdd, Nat.reduceMul, Nat.reduceLT, Nat.reduceLeDiff, reduceCtorEq, Int.reduceEq, Int.reduceNeg, Nat.reduceSub, Int.reduceLT, Int.reduceLE, Int.reduceGT, Int.reduceGE, Int.reduceAdd, Int.reduceSub, Int.reduceToNat, Int.reduceBNe, Int.reduceBEq, Nat.mul_one, Nat.zero_mul, d1]
      exact fin _ rfl rfl rfl rfl rfl
    · simp -implicitDefEqProofs only [go_sem, reduceIte, Nat.reduceEqDiff, Nat.reduceAdd, Nat.reduceMul, Nat.reduceLT, Nat.reduceLeDiff, reduceCtorEq, Int.reduceEq, Int.reduceNeg, Nat.reduceSub, Int.reduceLT, Int.reduceLE, Int.reduceGT, Int.reduceGE, Int.reduceAdd, Int.reduceSub, Int.reduceToNat, Int.reduceBNe, Int.reduceBEq, Nat.mul_one, Nat.zero_mul, d1, d2]
      exact fin _ rfl rfl rfl rfl rfl
    · simp -implicitDefEqProofs only [go_sem, reduceIte, Nat.reduceEqDiff, Nat.reduceAdd, Nat.reduceMul, Nat.reduceLT, Nat.reduceLeDiff, reduceCtorEq, Int.reduceEq, Int.reduceNeg, Nat.reduceSub, Int.reduceLT, Int.reduceLE, Int.reduceGT, Int.reduceGE, Int.reduceAdd, Int.reduceSub, Int.reduceToNat, Int.reduceBNe, Int.reduceBEq, Nat.mul_one, Nat.zero_mul, d1, d2, d3]
      exact fin _ rfl rfl rfl rfl rfl
    · have hiN : i < zs.length := by have := of_decide_eq_true d1; omega
      have hiU : i < us.length := by have := of_decide_eq_true d2; omega
      have hi2 : i < 200 := by have := of_decide_eq_true d3; omega
      have hix : 0 ≤ (i : Int) ∧ (i : Int) < (zs.length : Int) := by omega
      have hix2 : 0 ≤ (i : Int) ∧ (i : Int) < (us.length : Int) := by omega
      have w4 : IntKind.i64.wrap ((i : Int) + 1) = ((i + 1 : Nat) : Int) := by rw [IntKind.wrap_i64]; omega
      obtain ⟨id, o, cap, cc, tt, sz, ro, hv, _, hid, hg, _, hgi⟩ := (hb.kept hk3).row (by omega)
      have hgi := hgi i hiN
      cases hv
      obtain ⟨id2, o2, cap2, c2, T2, z2, ro2, hv2, hg2, hgi2, hid2⟩ := hu.at hk3 hiU
      cases hv2
      have ez : zs.getD i 0 = zs[i] := by rw [List.getD_eq_getElem?_getD, List.getElem?_eq_getElem hiN, Option.getD_some]
      have eu : us.getD i 0 = us[i] := by rw [List.getD_eq_getElem?_getD, List.getElem?_eq_getElem hiU, Option.getD_some]
      obtain ⟨z, hz⟩ : ∃ z, z = zs.getD i 0 := ⟨_, rfl⟩
      obtain ⟨t, ht⟩ : ∃ t, t = us.getD i 0 := ⟨_, rfl⟩
      rw [← hz] at hgi
      rw [← ht] at hgi2
      have hz0 : 0 ≤ z ∧ z ≤ 255 := hb.1 z (by rw [hz, ez]; exact List.getElem_mem hiN)
      have ht0 : 0 ≤ t ∧ t ≤ 4294967295 := huw t (by rw [ht, eu]; exact List.getElem_mem hiU)
      have wz : IntKind.i64.wrap z = z := by rw [IntKind.wrap_i64]; omega
      have wt : IntKind.i64.wrap t = t := by rw [IntKind.wrap_i64]; omega
      have er : binV .rem (i64 z) (i64 3) = some (i64 (z.tmod 3)) := rfl
      obtain ⟨k, hkk, hklt⟩ : ∃ k : Nat, z.tmod 3 = (k : Int) ∧ k < 3 := by
        refine ⟨(z.tmod 3).toNat, ?_, ?_⟩ <;> rw [Int.tmod_eq_emod_of_nonneg hz0.1] <;> omega
      rw [hkk] at er
      have hik : 0 ≤ (k : Int) ∧ (k : Int) < ((3 : Nat) : Int) := by omega
      have gn : [Value.string (nmW 0), .string (nmW 1), .string (nmW 2)][k]? = some (.string (nmW k)) := by
        have : k = 0 ∨ k = 1 ∨ k = 2 := by omega
        rcases this with rfl | rfl | rfl <;> rfl
      have gw : ∀ w : Nat → Int, [i64 (w 0), i64 (w 1), i64 (w 2)][k]? = some (i64 (w k)) := fun w => by
        have : k = 0 ∨ k = 1 ∨ k = 2 := by omega
        rcases this with rfl | rfl | rfl <;> rfl
      obtain ⟨he, E5, hN5⟩ := n5_wait hN hi2 hklt ht0
      simp -implicitDefEqProofs only [go_sem, reduceIte, Nat.reduceEqDiff, Nat.reduceAdd, Nat.reduceMul, Nat.reduceLT, Nat.reduceLeDiff, reduceCtorEq, Int.reduceEq, Int.reduceNeg, Nat.reduceSub, Int.reduceLT, Int.reduceLE, Int.reduceGT, Int.reduceGE, Int.reduceAdd, Int.reduceSub, Int.reduceToNat, Int.reduceBNe, Int.reduceBEq, Nat.mul_one, Nat.zero_mul, d1, d2, d3, hix, hix2, hg, hgi, hg2, hgi2, Nat.add_zero, Nat.mul_one, wz, wt, er, hgn, hgw, hik, gn, gw]
      refine WCall.mono (q16 (ov := ov) (b := nmW k) (t := t) T ho hS (hN.room hi200) (by unfold W64; omega)) ?_
      rintro u s5 ⟨rfl, OD5, V5, hS5, hG5⟩
      have hk5 := hG5.k
      have hn5 := hk5.1
      have hk35 : Kept [] s s5 := hk3.comp hk5 fun x hx => (List.mem_append.1 hx).elim (fun h => .inr (hO x h).1) fun h => .inr (hOD x h).1
      have hnD : ∀ x, x = nb ∨ x = nb + 1 → x ∉ O ++ OD := fun x hx hx' => by
        rcases List.mem_append.1 hx' with h | h
        · have := hO x h; omega
        · have := hOD x h; omega
      have hgn5 : s5.heap.get nb = some (.cells [.string (nmW 0), .string (nmW 1), .string (nmW 2)] 9 1 false) := (hk5.2 nb (by omega) (hnD _ (.inl rfl))).trans hgn
      have hgw5 : s5.heap.get (nb + 1) = some (.cells [i64 (w 0), i64 (w 1), i64 (w 2)] 3 1 false) := (hk5.2 (nb + 1) (by omega) (hnD _ (.inr rfl))).trans hgw
      have hg5 : s5.heap.get id2 = some (.cells c2 T2 z2 ro2) := by
        rw [hk5.2 id2 (by have := hk3.1; omega) (fun hx => (List.mem_append.1 hx).elim (fun h => by have := hO id2 h; omega) fun h => by have := hOD id2 h; omega)]
        exact hg2
      have hOD5 : ∀ x ∈ OD5, s.next ≤ x ∧ x ≠ nb ∧ x ≠ nb + 1 := fun x hx => (hG5.o x hx).elim (hOD x) fun h => by have := hk3.1; omega
      have hV5 : ∀ x ∈ V5, x ≠ nb ∧ x ≠ nb + 1 := fun x hx => (hG5.v x hx).elim (hV x) fun h => by omega
      have hb0 : ((0 : Int) != 0) = false := rfl
      have hbn : ∀ x : Int, (x != x) = false := fun x => by simp
      have hwv := hN5.wv k hklt
      have hsw : setW w k t k = max (w k) t := by unfold setW; rw [if_pos rfl]
      have close : ∀ s', Kept [nb + 1] s5 s' → s'.heap.get (nb + 1) = some (.cells [i64 (setW w k t 0), i64 (setW w k t 1), i64 (setW w k t 2)] 3 1 false) → I (zs.length - (i + 1)) [.slice (some ⟨id, o, none⟩) zs.length ac, .slice (some ⟨id2, o2, none⟩) us.length bc, i64 keep, ptr p, ptr l, .slice (some ⟨nb, 0, none⟩) 3 3, .slice (some ⟨nb + 1, 0, none⟩) 3 3, i64 ((i + 1 : Nat) : Int)] s' := by
        intro s' hk' hw'
        rw [hI]
        have hn' := hk'.1
        have hnO : ∀ x ∈ O, x ∉ [nb + 1] := fun x hx h => (hO x hx).2.2 (List.mem_singleton.1 h)
        refine ⟨hk35.comp hk' fun x hx => .inr (by rw [List.mem_singleton.1 hx]; have := hn1; omega), i + 1, _, _, E5, TT, _, OD5, V5, by omega, by omega, by omega, rfl, rfl, hS5.kept hk' hnO (fun x hx h => (hOD5 x hx).2.2 (List.mem_singleton.1 h)) (fun x hx h => (hV5 x hx).2 (List.mem_singleton.1 h)), hN5, hOD5, hV5, ?_, hw', by omega⟩
        rw [hk'.2 nb (by omega) (by simp)]
        exact hgn5
      simp -implicitDefEqProofs only [go_sem, reduceIte, Nat.reduceEqDiff, Nat.reduceAdd, Nat.reduceMul, Nat.reduceLT, Nat.reduceLeDiff, reduceCtorEq, Int.reduceEq, Int.reduceNeg, Nat.reduceSub, Int.reduceLT, Int.reduceLE, Int.reduceGT, Int.reduceGE, Int.reduceAdd, Int.reduceSub, Int.reduceToNat, Int.reduceBNe, Int.reduceBEq, Nat.mul_one, Nat.zero_mul, he, hb0, hg5, hgi2, Nat.add_zero, Nat.mul_one, hix2, wt, hgw5, hik, gw]
      cases hgt : decide (t > w k)
      · have hw' : setW w k t = w := by
          have := of_decide_eq_false hgt
          funext j
          unfold setW
          split
          · rename_i hj; subst hj; omega
          · rfl
        have e18 := fun K => q18 (ov := ov) (b := nmW k) T hS5.l K
        rw [hwv, hw'] at e18
        simp -implicitDefEqProofs only [go_sem, reduceIte, Nat.reduceEqDiff, Nat.reduceAdd, Nat.reduceMul, Nat.reduceLT, Nat.reduceLeDiff, reduceCtorEq, Int.reduceEq, Int.reduceNeg, Nat.reduceSub, Int.reduceLT, Int.reduceLE, Int.reduceGT, Int.reduceGE, Int.reduceAdd, Int.reduceSub, Int.reduceToNat, Int.reduceBNe, Int.reduceBEq, Nat.mul_one, Nat.zero_mul, hgt, hgn5, hgw5, gn, gw, hik, e18, hbn, Nat.add_zero, Nat.mul_one, w4]
        refine ⟨fun j hj f hf => ?_, zs.length - (i + 1), by omega, close s5 (Kept.refl _ _) (by rw [hw']; exact hgw5)⟩
        rw [List.mem_singleton.1 hj] at hf
        cases Option.some.inj hf
        intro x _; rfl
      · have hgt' := of_decide_eq_true hgt
        have hset : [i64 (w 0), i64 (w 1), i64 (w 2)].set k (i64 t) = [i64 (setW w k t 0), i64 (setW w k t 1), i64 (setW w k t 2)] := by
          have hmx : max (w k) t = t := by omega
          unfold setW
          have : k = 0 ∨ k = 1 ∨ k = 2 := by omega
          rcases this with rfl | rfl | rfl <;> simp [hmx]
        have hln : k + 1 ≤ [i64 (w 0), i64 (w 1), i64 (w 2)].length := by simp; omega
        have hbnb : k + 1 ≤ 3 := by omega
        obtain ⟨s6, hs6⟩ : ∃ s6 : St, s6 = ⟨s5.heap.put (nb + 1) (some (.cells ([i64 (w 0), i64 (w 1), i64 (w 2)].set k (i64 t)) 3 1 false)), s5.next⟩ := ⟨_, rfl⟩
        have hk6 : Kept [nb + 1] s5 s6 := by rw [hs6]; exact kept_put1 (Nat.le_refl _)
        have hgw6 : s6.heap.get (nb + 1) = some (.cells [i64 (setW w k t 0), i64 (setW w k t 1), i64 (setW w k t 2)] 3 1 false) := by rw [hs6, ← hset]; simp only [Heap.get_put, if_true]
        have hgn6 : s6.heap.get nb = some (.cells [.string (nmW 0), .string (nmW 1), .string (nmW 2)] 9 1 false) := (hk6.2 nb (by omega) (by simp)).trans hgn5
        have hS6 := hS5.kept hk6 (fun x hx h => (hO x hx).2.2 (List.mem_singleton.1 h)) (fun x hx h => (hOD5 x hx).2.2 (List.mem_singleton.1 h)) (fun x hx h => (hV5 x hx).2 (List.mem_singleton.1 h))
        have e18 := fun K => q18 (ov := ov) (b := nmW k) T hS6.l K
        rw [hwv] at e18
        simp -implicitDefEqProofs only [go_sem, reduceIte, Nat.reduceEqDiff, Nat.reduceAdd, Nat.reduceMul, Nat.reduceLT, Nat.reduceLeDiff, reduceCtorEq, Int.reduceEq, Int.reduceNeg, Nat.reduceSub, Int.reduceLT, Int.reduceLE, Int.reduceGT, Int.reduceGE, Int.reduceAdd, Int.reduceSub, Int.reduceToNat, Int.reduceBNe, Int.reduceBEq, Nat.mul_one, Nat.zero_mul, hgt, hg5, hgi2, hix2, wt, hgw5, hik, hbnb, Nat.add_zero, Nat.mul_one, ← hs6]
        simp -implicitDefEqProofs only [go_sem, reduceIte, Nat.reduceEqDiff, Nat.reduceAdd, Nat.reduceMul, Nat.reduceLT, Nat.reduceLeDiff, reduceCtorEq, Int.reduceEq, Int.reduceNeg, Nat.reduceSub, Int.reduceLT, Int.reduceLE, Int.reduceGT, Int.reduceGE, Int.reduceAdd, Int.reduceSub, Int.reduceToNat, Int.reduceBNe, Int.reduceBEq, Nat.mul_one, Nat.zero_mul, hgn6, hgw6, gn, gw (setW w k t), hik, e18, hbn, Nat.add_zero, Nat.mul_one, w4]
        refine ⟨fun j hj f hf => ?_, zs.length - (i + 1), by omega, close s6 hk6 hgw6⟩
        rw [List.mem_singleton.1 hj] at hf
        cases Option.some.inj hf
        intro x _; rfl
end
end Go.Proofs.Ytlcfmfljmabaeaa
