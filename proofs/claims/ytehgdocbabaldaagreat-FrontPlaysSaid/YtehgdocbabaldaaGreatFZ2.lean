/-
  Put, Done, Wait.
-/
import Derived.Test.YtehgdocbabaldaaGreatFP9
set_option maxRecDepth 100000
set_option linter.unusedVariables false
set_option linter.unusedSimpArgs false
namespace Go.Proofs.YtehgdocbabaldaaGreat
open Go Go.Abs Go.Abs.K

theorem lm_trans {L L1 L2 : LM} (h : L1 = { L with last := L1.last }) (k : L2 = { L1 with last := L2.last }) : L2 = { L with last := L2.last } := by
  obtain ⟨a1, a2, a3, a4⟩ := lm_last h
  obtain ⟨b1, b2, b3, b4⟩ := lm_last k
  rw [a1] at b1; rw [a2] at b2; rw [a3] at b3; rw [a4] at b4
  obtain ⟨x1, x2, x3, x4, x5⟩ := L2
  simp only at b1 b2 b3 b4
  rw [b1, b2, b3, b4]

theorem roomM_facts (D : DM) (L : LM) (bs : List Int) : (roomM D L bs).2.1 = { L with last := (roomM D L bs).2.1.last } ∧ L.last ≤ (roomM D L bs).2.1.last ∧ (roomM D L bs).2.1.last ≤ L.last + 4 + L.wait.length + L.live.length ∧ (roomM D L bs).1.loose.length ≤ D.loose.length + 3 + L.wait.length + L.live.length := by
  have h1 := writeM_facts D L bs
  unfold roomM
  simp only
  split
  · have h2 := compactM_facts (writeM D L bs).1 (writeM D L bs).2.1
    have h3 := recsL_len (writeM D L bs).2.1
    obtain ⟨a1, a2, a3, a4⟩ := lm_last h1.1
    rw [a2, a3] at h3
    have hC : (compactM (writeM D L bs).1 (writeM D L bs).2.1).2.1 = { L with last := (compactM (writeM D L bs).1 (writeM D L bs).2.1).2.1.last } := lm_trans h1.1 h2.1
    split
    · have h4 := writeM_facts (compactM (writeM D L bs).1 (writeM D L bs).2.1).1 (compactM (writeM D L bs).1 (writeM D L bs).2.1).2.1 bs
      exact ⟨lm_trans hC h4.1, by omega, by omega, by omega⟩
    · exact ⟨hC, by omega, by omega, by omega⟩
  · exact ⟨h1.1, by omega, by omega, by omega⟩

theorem addM_facts (D : DM) (L : LM) (r : FRec) : (addM D L r).2.1 = { L with last := (addM D L r).2.1.last } ∧ L.last ≤ (addM D L r).2.1.last ∧ (addM D L r).2.1.last ≤ L.last + 4 + L.wait.length + L.live.length ∧ (addM D L r).1.loose.length ≤ D.loose.length + 3 + L.wait.length + L.live.length := by
  unfold addM
  split
  · have h := roomM_facts D L (recL r)
    simp only
    split
    · exact ⟨h.1, h.2.1, h.2.2.1, Nat.le_trans (syncM_loose _) h.2.2.2⟩
    · exact h
  · exact ⟨rfl, by simp only; omega, by simp only; omega, by simp only; omega⟩

theorem SRep.liveAt {s : St} {l p : Nat} {D : DM} {L : LM} {O OD V : List Nat} (h : SRep s l p D L O OD V) : ∃ ml mw es c, s.heap.get l = some (.cells (logC p ml mw L) 61 0 false) ∧ s.heap.get ml = some (.map es c) ∧ MOK KInt es c ∧ GR ekI RQ.val es L.live ∧ ml ∈ O ∧ l ∈ O ∧ l ≠ ml ∧ ml < s.next ∧ l < s.next ∧
    ∀ es' c' F, MOK KInt es' c' → GR ekI RQ.val es' F → (∀ q ∈ F, W64 q.1 ∧ q.2.Wide) → SRep ⟨s.heap.put ml (some (.map es' c')), s.next⟩ l p D { L with live := F } O OD V ∧ Kept [ml] s ⟨s.heap.put ml (some (.map es' c')), s.next⟩ := by
  obtain ⟨⟨ml, mw, es, c, es', c', h1, rfl, h2, h3, h4, h5, h6, h7, h8, h9, h10, h11, h12, h13, h14⟩, hd, hdis⟩ := h
  refine ⟨ml, mw, es, c, h1, h2, h3, h4, by simp, by simp, h8, h12, h11, fun es2 c2 F a1 a2 a3 => ?_⟩
  have n2 : ¬ mw = ml := fun e => h10 e.symm
  have hk2 : Kept [ml] s ⟨s.heap.put ml (some (.map es2 c2)), s.next⟩ := kept_put1 (Nat.le_refl _)
  have hlx : ∀ x ∈ OD, x ∉ [ml] := fun x hx e => by rw [List.mem_singleton.1 e] at hx; exact (hdis ml (by simp)).1 hx
  have hlv : ∀ x ∈ V, x ∉ [ml] := fun x hx e => by rw [List.mem_singleton.1 e] at hx; exact (hdis ml (by simp)).2 hx
  exact ⟨⟨⟨ml, mw, es2, c2, es', c', by simp only [Heap.get_put, h8, if_false]; exact h1, rfl, by simp only [Heap.get_put, if_true], a1, a2, by simp only [Heap.get_put, n2, if_false]; exact h5, h6, h7, h8, h9, h10, h11, h12, h13, ⟨h14.most, h14.last, h14.next, a3, h14.wait⟩⟩, hd.kept hk2 hlx hlv, hdis⟩, hk2⟩

def putL (L : LM) (r : RQ) (e : Int) : LM :=
  let L1 := if e = 2 then L else { L with next := max L.next (r.id + 1) }
  if e = 0 then { L1 with live := putG L1.live r.id r } else L1
def putM (D : DM) (L : LM) (r : RQ) : DM × LM × Int := ((addM D L (r.toF 1)).1, putL (addM D L (r.toF 1)).2.1 r (addM D L (r.toF 1)).2.2, (addM D L (r.toF 1)).2.2)
section
variable {tbl : FuncId → Option AFun} {ov : CallSem} {s : St} (T : STbl tbl)
include T

theorem q10 (ho : OvS ov) {l p : Nat} {D : DM} {L : LM} {O OD V : List Nat} {r : RQ} (h : SRep s l p D L O OD V) (hR : Room D L) (hw : r.Wide) (hid : r.id < 9223372036854775807) :
    WCall (fun k => call tbl ov k) 10 [ptr l, r.val] s fun u s' => u = i64 (putM D L r).2.2 ∧ ∃ OD' V', SRep s' l p (putM D L r).1 (putM D L r).2.1 O OD' V' ∧ GrownS s s' O OD V OD' V' := by
  refine WCall.of T.t10 rfl ?_
  have c1 : r.cells.length = 5 := rfl
  have c4 : r.cells.take 5 = r.cells := rfl
  have hdz : r.cells.drop 0 = r.cells := rfl
  have cid : r.cells[0]? = some (i64 r.id) := rfl
  have erv : (Value.agg r.cells.toArray) = r.val := rfl
  obtain ⟨s1, hs1⟩ : ∃ s1 : St, s1 = ⟨s.heap.put s.next (some (.cells r.cells 34 0 false)), s.next + 1⟩ := ⟨_, rfl⟩
  have hk1 : Kept [] s s1 := by rw [hs1]; exact kept_put_nil (Nat.le_refl _) (Nat.le_succ _)
  have hp1 : s1.heap.get s.next = some (.cells r.cells 34 0 false) := by rw [hs1]; simp only [Heap.get_put, if_true]
  have hn1 : s1.next = s.next + 1 := by rw [hs1]
  obtain ⟨Y, hY⟩ : ∃ Y, Y = putM D L r := ⟨_, rfl⟩
  rw [← hY]
  have ef : fillL [i64 0, i64 0, .string ⟨#[]⟩, .string ⟨#[]⟩, i64 0, i64 0] [(0, 1, i64 1), (1, 5, .agg r.cells.toArray)] = some (r.toF 1).cells := rfl
  have e34 : (Value.agg (r.toF 1).cells.toArray) = (r.toF 1).val := rfl
  simp -implicitDefEqProofs only [fun10, code10, params, go_sem, c1, c4, hdz, ← hs1, hp1, ef, e34]
  have hS1 := h.kept hk1 (by simp) (by simp) (by simp)
  refine WCall.mono (q28 (ov := ov) (r := r.toF 1) T ho hS1 hR ⟨hw.id, hw.till, by simp [RQ.toF], hw.prio⟩) ?_
  rintro u s2 ⟨rfl, OD2, V2, hS2, hG2⟩
  have hG02 := (GrownS.kept (O := O) (OD := OD) (V := V) hk1).trans hG2
  have haf := addM_facts D L (r.toF 1)
  obtain ⟨W, hW⟩ : ∃ W, W = addM D L (r.toF 1) := ⟨_, rfl⟩
  have hYe : Y = (W.1, putL W.2.1 r W.2.2, W.2.2) := by rw [hY, hW]; rfl
  rw [← hW] at hS2 haf ⊢
  have hp2 : s2.heap.get s.next = some (.cells r.cells 34 0 false) := by
    rw [hG2.k.2 s.next (by omega) (fun hx => ?_)]
    · exact hp1
    · rcases List.mem_append.1 hx with hx | hx
      · exact Nat.lt_irrefl _ (h.l.lt _ hx)
      · exact Nat.lt_irrefl _ (h.d.lt.1 _ hx)
  have hwid := hw.id
  unfold W64 at hwid
  have w1 : IntKind.i64.wrap (r.id + 1) = r.id + 1 := by rw [IntKind.wrap_i64]; omega
  obtain ⟨ml, mw, g1, g11, hlO, hset⟩ := hS2.setNext
  simp only [logC] at g1 hset
  have hWl := hS2.l.wide
  have tail : ∀ {s3 : St} {L3 : LM} (e : Int), SRep s3 l p W.1 L3 O OD2 V2 → GrownS s s3 O OD V OD2 V2 → e = W.2.2 → L3 = (if W.2.2 = 2 then W.2.1 else { W.2.1 with next := max W.2.1.next (r.id + 1) }) → s3.heap.get s.next = some (.cells r.cells 34 0 false) →
      (W.2.2 = 0 → ∃ ml mw es c, s3.heap.get l = some (.cells [ptr p, i64 L3.most, i64 L3.last, .map (some ml), .map (some mw), i64 L3.next] 61 0 false) ∧ (∀ nx, evP s3.heap.get nx (.mapUpdate .int (.map (some ml)) (i64 r.id) r.val) = some ⟨undefV, [(ml, some (.map es c))], nx⟩) ∧
        SRep ⟨s3.heap.put ml (some (.map es c)), s3.next⟩ l p Y.1 Y.2.1 O OD2 V2 ∧ GrownS s ⟨s3.heap.put ml (some (.map es c)), s3.next⟩ O OD V OD2 V2) ∧
      (W.2.2 ≠ 0 → SRep s3 l p Y.1 Y.2.1 O OD2 V2) := by
    intro s3 L3 e hS3 hG3 he hL3 hp3
    refine ⟨fun h0 => ?_, fun h0 => ?_⟩
    · obtain ⟨ml, mw, es, c, a1, a2, a3, a4, a5, a6, a7, a8, a9, a10⟩ := hS3.liveAt
      obtain ⟨b1, b2⟩ := a10 _ _ _ (a3.mput kindI ⟨r.id, rfl⟩ r.val) (gr_put keyG_int a4 r.id r) (fun q hq => (putG_mem hq).elim (hS3.l.wide.live q) fun e => by subst e; exact ⟨hw.id, hw⟩)
      refine ⟨ml, mw, _, _, a1, fun nx => ev_mapUpdate kindI a3 a2 ⟨_, rfl⟩, ?_, hG3.trans (GrownS.one b2 fun x hx => by rw [List.mem_singleton.1 hx]; exact a5)⟩
      have : Y.2.1 = { L3 with live := putG L3.live r.id r } := by
        rw [hYe]; simp only [putL, h0, if_true]; rw [hL3, h0]
      rw [this, show Y.1 = W.1 by rw [hYe]]
      exact b1
    · have : Y.2.1 = L3 := by
        rw [hYe]; simp only [putL, if_neg h0]; rw [hL3]
      rw [this, show Y.1 = W.1 by rw [hYe]]
      exact hS3
  have hY2 : Y.2.2 = W.2.2 := by rw [hYe]
  rw [hY2]
  cases he2 : (W.2.2 != 2)
  · have he0 : (W.2.2 == 0) = false := by
      have : W.2.2 = 2 := by simpa using he2
      rw [this]; rfl
    simp -implicitDefEqProofs only [go_sem, he2, he0]
    exact ⟨OD2, V2, (tail W.2.2 hS2 hG02 rfl (by rw [if_pos (by simpa using he2)]) hp2).2 (by simpa using he0), hG02⟩
  · have hN : W64 (max W.2.1.next (r.id + 1)) := by
      have := hWl.next
      unfold W64 at *; omega
    obtain ⟨hS3, hk3⟩ := hset _ hN
    obtain ⟨s3, hs3⟩ : ∃ s3 : St, s3 = ⟨s2.heap.put l (some (.cells [ptr p, i64 W.2.1.most, i64 W.2.1.last, .map (some ml), .map (some mw), i64 (max W.2.1.next (r.id + 1))] 61 0 false)), s2.next⟩ := ⟨_, rfl⟩
    rw [← hs3] at hS3 hk3
    have hG3 := hG02.trans (GrownS.one hk3 fun x hx => by rw [List.mem_singleton.1 hx]; exact hlO)
    have hp3 : s3.heap.get s.next = some (.cells r.cells 34 0 false) := by
      have := hG2.k.1
      rw [hk3.2 s.next (by omega) (by have := h.l.lt l hlO; simp; omega)]
      exact hp2
    simp -implicitDefEqProofs only [go_sem, he2, g1, hp2, cid, w1, ev_max, ← hs3]
    have ht := tail W.2.2 hS3 hG3 rfl (by rw [if_neg (by simpa using he2)]) hp3
    cases he0 : (W.2.2 == 0)
    · simp -implicitDefEqProofs only [go_sem, he0]
      exact ⟨OD2, V2, ht.2 (by simpa using he0), hG3⟩
    · obtain ⟨ml, mw, es, c, a1, a2, a3, a4⟩ := ht.1 (by simpa using he0)
      simp only at a1
      simp -implicitDefEqProofs only [go_sem, he0, a1, hp3, c1, c4, hdz, cid, erv, a2]
      exact ⟨OD2, V2, a3, a4⟩

end
end Go.Proofs.YtehgdocbabaldaaGreat


/-
  Open.
-/
set_option maxRecDepth 100000
set_option linter.unusedVariables false
set_option linter.unusedSimpArgs false
namespace Go.Proofs.YtehgdocbabaldaaGreat
open Go Go.Abs Go.Abs.K

theorem DW.key {D : DM} (h : DW D) {n : Int} (hn : n ∈ keysF D) : W64 n := by
  rw [(sortZ_perm _).mem_iff] at hn
  obtain ⟨q, hq, rfl⟩ := List.mem_map.1 hn
  exact h.keys q hq
theorem DW.read {D : DM} (h : DW D) (n : Int) : (readB D n).length ≤ 2048 := by
  unfold readB
  cases hx : lookF D.F n with
  | none => simp
  | some b => exact h.len _ (lookF_mem hx)

def i9 : ACode := match code6 with | .seq _ (.seq _ (.seq _ (.seq (.seq _ (.block _ (.loop _ (.seq _ (.seq _ (.seq (.block _ (.seq _ (.seq _ (.seq _ (.seq x _))))) _)))))) _))) => x | _ => .skip

theorem code6_eq : code6 =
 .seq (R [o 4 (.mov (.const (.pointer none))), o 5 (.mov (i 0))])
 (.seq (.seq (R [o 15 (.mov (v 0)), o 16 (.eq false .pointer (v 15) (.const (.pointer none)))])
  (.cond (v 16) (.seq (R [o 4 (.mov (.const (.pointer none))), o 5 (.mov (i 1))])
   (.ret))
  (.skip)))
 (.seq (R [o 17 (.mov (v 0)), o 18 (.mov (v 1)), o 19 (.mkMap none), o 20 (.mkMap none), o 21 (.build [(.pointer none), (.int .i64 0), (.int .i64 0), (.map none), (.map none), (.int .i64 0)] [(0, 1, (v 17)), (1, 1, (v 18)), (3, 1, (v 19)), (4, 1, (v 20)), (5, 1, (i 1))]), o 22 (.box 61 (v 21)), o 6 (.mov (v 22))])
 (.seq (.seq (R [o 23 (.mov (v 0)), o 24 (.call (.func 24) [(v 23)]), o 25 (.len .slice (v 24)), o 26 (.mov (i 0))])
  (.block 0 (.loop [0, 6, 24, 25, 26] (.seq (R [o 27 (.bin .lss (v 26) (v 25))])
    (.seq (.cond (v 27) (.skip)
     (.exit 0))
    (.seq (.block 1 (.seq (R [o 28 (.indexAddr 1 (v 24) (v 26)), o 29 (.load none (v 28)), o 8 (.mov (v 29))])
      (.seq (R [o 31 (.mov (v 0)), o 32 (.mov (v 8)), o 33 (.call (.func 25) [(v 31), (v 32)]), o 30 (.mov (v 33)), o 34 (.extract (v 30) 0), o 35 (.extract (v 30) 1), o 9 (.mov (v 34)), o 10 (.mov (v 35))])
      (.seq (R [o 37 (.mov (v 9)), o 38 (.call (.func 26) [(v 37)]), o 36 (.mov (v 38)), o 39 (.extract (v 36) 0), o 40 (.extract (v 36) 1), o 11 (.mov (v 39)), o 12 (.mov (v 40))])
      (.seq i9
      (.seq (R [o 51 (.mov (v 6)), o 52 (.mov (v 8)), o 53 (.nilCheck (v 51)), o 54 (.fieldAddr 2 (v 53)), on (.store 1 (v 54) (v 52))])
      (.seq (R [o 55 (.mov (v 12)), o 56 (.mov (v 9)), o 57 (.len .slice (v 56)), o 58 (.bin .lss (v 55) (v 57))])
      (.cond (v 58) (R [o 59 (.mov (v 6)), o 60 (.mov (v 8)), o 61 (.bin .add (v 60) (i 1)), o 62 (.nilCheck (v 59)), o 63 (.fieldAddr 2 (v 62)), on (.store 1 (v 63) (v 61))])
      (.skip)))))))))
    (R [o 64 (.bin .add (v 26) (i 1)), o 26 (.mov (v 64))])))))))
 (.seq (R [o 65 (.mov (v 6)), o 4 (.mov (v 65)), o 5 (.mov (i 0))])
 (.ret))))) := rfl

section
variable {tbl : FuncId → Option AFun} {ov : CallSem} {s : St} (T : STbl tbl)
include T

end
end Go.Proofs.YtehgdocbabaldaaGreat


/-
  awake, as it is known.
-/
set_option maxRecDepth 100000
set_option linter.unusedVariables false
namespace Go.Proofs.YtehgdocbabaldaaGreat
open Go Go.Abs Go.Abs.K
section
variable {tbl : FuncId → Option AFun} {ov : CallSem} {s : St} (T : STbl tbl)
include T
theorem e9b (ho : OvS ov) (s : St) (K : Value → St → Prop) : WCall (fun k => call tbl ov k) 9 [] s K = K (.bool true) s :=
  WCall.eq (WCall.ov (ov := ov) T.d.t9 (args := []) (s := s) (r := (.bool true, s)) (by rw [ho.o.awake]) ⟨rfl, rfl⟩) K
end
end Go.Proofs.YtehgdocbabaldaaGreat


/-
  Plainly: requests that are put on a disk that never fails, while there is room.
-/
set_option maxRecDepth 100000
set_option linter.unusedVariables false
set_option linter.unusedSimpArgs false
namespace Go.Proofs.YtehgdocbabaldaaGreat
open Go Go.Abs

structure Zed (D : DM) (L : LM) (n : Nat) : Prop where
  dm : D.most = 16
  f0 : D.first = 0
  g0 : D.fails = 0
  lo : D.loose = []
  lm : L.most = 7
  la : 0 ≤ L.last
  ks : ∀ p ∈ D.F, p.1 ≤ L.last
  fl : (D.F.length : Int) ≤ L.last + (if (lookF D.F L.last).isSome = true then 1 else 0)
  sz : 1922 * L.last + ((readB D L.last).length : Int) ≤ 127 * n
  nx : 1 ≤ L.next
  lv : L.live.length ≤ n
  wt : L.wait = []

theorem Zed.room {D : DM} {L : LM} {n : Nat} (h : Zed D L n) (hn : n < 60) : Room D L := by
  have h1 := h.nx; have h2 := h.lv; have h3 := h.sz
  refine ⟨h1, by omega, by rw [h.wt]; simp, by rw [h.lo]; simp, ?_⟩
  have : (0 : Int) ≤ ((readB D L.last).length : Int) := by omega
  omega

theorem recl_len (r : FRec) : (recL r).length = 26 + r.host.size + r.path.size := by rw [recL_length, bodyL_length]; omega

theorem wB00 : wB 0 0 = true := rfl
theorem wD00 {D : DM} (h1 : D.first = 0) (h2 : D.fails = 0) : wD D = D := by
  cases D
  simp only at h1 h2
  subst h1 h2
  rfl

theorem putG_len {κ υ : Type} [DecidableEq κ] (F : List (κ × υ)) (k : κ) (v : υ) : (putG F k v).length ≤ F.length + 1 := by
  have h := congrArg List.length (putG_keys F k v)
  rw [List.length_map] at h
  split at h
  · rw [List.length_map] at h; omega
  · rw [List.length_append, List.length_map] at h; simp at h; omega

theorem zed_write {D : DM} {L : LM} {n : Nat} (h : Zed D L n) (hn : n < 45) {bs : List Int} (hb : bs.length ≤ 127) :
    ∃ D' la, writeM D L bs = (D', { L with last := la }, 0) ∧ D'.first = 0 ∧ D'.fails = 0 ∧ ∀ lv nx, 1 ≤ nx → lv.length ≤ n + 1 → Zed (syncM D') { L with last := la, live := lv, next := nx } (n + 1) := by
  have h3 := h.sz; have h4 := h.la
  have h0 : (0 : Int) ≤ ((readB D L.last).length : Int) := by omega
  obtain ⟨m, hm⟩ : ∃ m, m = (wrL D L bs.length).last := ⟨_, rfl⟩
  have hL : wrL D L bs.length = { L with last := m } := by rw [hm]; unfold wrL; split <;> rfl
  -- the segment that is written
  have key : 0 ≤ m ∧ m ≤ 3 ∧ (∀ p ∈ D.F, p.1 ≤ m) ∧ ((D.F.length : Int) ≤ m + (if (lookF D.F m).isSome = true then 1 else 0)) ∧ ((readB D m).length : Int) + bs.length ≤ 2048 ∧ 1922 * m + (((readB D m).length : Int) + bs.length) ≤ 127 * ((n + 1 : Nat) : Int) := by
    by_cases hc : (bs.length : Int) > 2048 - ((readB D L.last).length : Int)
    · have e : m = L.last + 1 := by rw [hm]; simp only [wrL, if_pos hc]
      have hnone : lookF D.F m = none := lookF_none.2 fun p hp => by have := h.ks p hp; omega
      have hr : readB D m = [] := by simp only [readB, hnone, Option.getD_none]
      have hf := h.fl
      rw [hr]
      simp only [hnone, Option.isSome_none, Bool.false_eq_true, if_false, List.length_nil]
      refine ⟨by omega, by omega, fun p hp => ?_, ?_, by omega, by omega⟩
      · have := h.ks p hp; omega
      · split at hf <;> omega
    · have e : m = L.last := by rw [hm]; simp only [wrL, if_neg hc]
      rw [e]
      exact ⟨by omega, by omega, h.ks, h.fl, by omega, by omega⟩
  obtain ⟨k1, k2, k3, k4, k5, k6⟩ := key
  have hlen : (keysF D).length = D.F.length := by rw [keysF, sortZ_length, List.length_map]
  have hFl : (D.F.length : Int) ≤ 4 := by split at k4 <;> omega
  have hnr : noRoom D { L with last := m } = false := by
    have : decide (((keysF D).length : Int) ≥ L.most) = false := by
      rw [hlen, h.lm]; exact decide_eq_false (by omega)
    simp only [noRoom, this, Bool.and_false]
  have hfull : fullD D m bs.length = false := by
    have a1 : decide ((D.F.length : Int) ≥ D.most) = false := by rw [h.dm]; exact decide_eq_false (by omega)
    have a2 : decide ((bs.length : Int) > 2048 - ((readB D m).length : Int)) = false := decide_eq_false (by omega)
    simp only [fullD, a1, a2, Bool.and_false, Bool.or_false]
  have hwb : wB D.first D.fails = true := by rw [h.f0, h.g0]; rfl
  have hneg : ¬ m < 0 := by omega
  have hE : wrE D L bs.length = 0 := by
    simp only [wrE, hL, hnr, Bool.false_eq_true, if_false, appE, if_neg hneg, hfull, hwb, if_true]
  have hD : wrD D L bs = { D with F := putF D.F m (readB D m ++ bs), loose := D.loose ++ [(m, (bs.length : Int))] } := by
    simp only [wrD, hL, hnr, Bool.false_eq_true, if_false, appD, if_neg hneg, hfull, hwb, if_true, wD00 h.f0 h.g0]
  have hS : syncM { D with F := putF D.F m (readB D m ++ bs), loose := D.loose ++ [(m, (bs.length : Int))] } = { D with F := putF D.F m (readB D m ++ bs), loose := [] } := by
    simp only [syncM, hwb, if_true]
    rw [wD00 (by exact h.f0) (by exact h.g0)]
  refine ⟨{ D with F := putF D.F m (readB D m ++ bs), loose := D.loose ++ [(m, (bs.length : Int))] }, m, by rw [writeM, hE, hD, hL], h.f0, h.g0, fun lv nx h1 h2 => ?_⟩
  rw [hS]
  have hlk : lookF (putF D.F m (readB D m ++ bs)) m = some (readB D m ++ bs) := by rw [lookF_put, if_pos rfl]
  refine ⟨h.dm, h.f0, h.g0, rfl, h.lm, k1, fun p hp => ?_, ?_, ?_, h1, h2, h.wt⟩
  · rcases putF_mem hp with hp | rfl
    · exact k3 p hp
    · exact Int.le_refl _
  · simp only [hlk, Option.isSome_some, if_true]
    rw [putF_len]
    split
    · rename_i hs
      rw [if_pos hs] at k4
      exact k4
    · rename_i hs
      rw [if_neg hs] at k4
      omega
  · have hrb : readB { D with F := putF D.F m (readB D m ++ bs), loose := [] } m = readB D m ++ bs := by
      show (lookF (putF D.F m (readB D m ++ bs)) m).getD [] = _
      rw [hlk]; rfl
    show 1922 * m + ((readB { D with F := putF D.F m (readB D m ++ bs), loose := [] } m).length : Int) ≤ _
    rw [hrb, List.length_append]
    omega

theorem zed_put {D : DM} {L : LM} {n : Nat} (h : Zed D L n) (hn : n < 45) {r : RQ} (hs : (r.toF 1).sound = true) (hb : r.host.size + r.path.size ≤ 101) :
    (putM D L r).2.2 = 0 ∧ Zed (putM D L r).1 (putM D L r).2.1 (n + 1) ∧ (putM D L r).2.1.live = putG L.live r.id r := by
  have hl : (recL (r.toF 1)).length ≤ 127 := by rw [recl_len]; simp only [RQ.toF]; omega
  obtain ⟨D', la, h1, h2, h3, h4⟩ := zed_write h hn hl
  have hR : roomM D L (recL (r.toF 1)) = (D', { L with last := la }, 0) := by
    simp only [roomM, h1]
    rfl
  have hsy : syncE D' = 0 := by simp only [syncE, h2, h3, wB00, if_true]
  have hA : addM D L (r.toF 1) = (syncM D', { L with last := la }, 0) := by
    simp only [addM, hs, if_true, hR, hsy]
  have hp : putM D L r = (syncM D', { L with last := la, live := putG L.live r.id r, next := max L.next (r.id + 1) }, 0) := by
    simp only [putM, hA, putL]
    rfl
  rw [hp]
  refine ⟨rfl, h4 _ _ ?_ ?_, rfl⟩
  · have := h.nx; omega
  · have := putG_len L.live r.id r
    have := h.lv; omega

end Go.Proofs.YtehgdocbabaldaaGreat


/-
  Open, of a disk on which nothing is.
-/
set_option maxRecDepth 100000
set_option linter.unusedVariables false
set_option linter.unusedSimpArgs false
namespace Go.Proofs.YtehgdocbabaldaaGreat
open Go Go.Abs Go.Abs.K

section
variable {tbl : FuncId → Option AFun} {ov : CallSem} {s : St} (T : STbl tbl)
include T

theorem q6e (ho : OvS ov) {p : Nat} {D : DM} {OD V : List Nat} {segs : Int} (h : DRep s p D OD V) (hsg : W64 segs) (hk : keysF D = []) :
    WCall (fun k => call tbl ov k) 6 [ptr p, i64 segs] s fun u s' => ∃ l O, u = .tuple #[ptr l, i64 0] ∧ SRep s' l p D ⟨segs, 0, 1, [], []⟩ O OD V ∧ Kept [] s s' ∧ ∀ x ∈ O, s.next ≤ x := by
  refine WCall.of T.t6 rfl ?_
  rw [show fun6.body = _ from code6_eq, show fun6.res = [.tmp 4, .tmp 5] from rfl]
  obtain ⟨L0, hL0⟩ : ∃ L0 : LM, L0 = ⟨segs, 0, 1, [], []⟩ := ⟨_, rfl⟩
  have ef : fillL [.pointer none, i64 0, i64 0, .map none, .map none, i64 0] [(0, 1, ptr p), (1, 1, i64 segs), (3, 1, .map (some s.next)), (4, 1, .map (some (s.next + 1))), (5, 1, i64 1)] = some [ptr p, i64 segs, i64 0, .map (some s.next), .map (some (s.next + 1)), i64 1] := rfl
  obtain ⟨s1, hs1⟩ : ∃ s1 : St, s1 = ⟨((s.heap.put s.next (some (.map [] 0))).put (s.next + 1) (some (.map [] 0))).put (s.next + 1 + 1) (some (.cells [ptr p, i64 segs, i64 0, .map (some s.next), .map (some (s.next + 1)), i64 1] 61 0 false)), s.next + 1 + 1 + 1⟩ := ⟨_, rfl⟩
  have hk1 : Kept [] s s1 := by
    rw [hs1]
    exact ⟨by simp only; omega, fun j hj _ => by simp only [Heap.get_put]; rw [if_neg (by omega), if_neg (by omega), if_neg (by omega)]⟩
  have hL1 : LRep s1 (s.next + 2) p L0 [s.next + 2, s.next, s.next + 1] := by
    rw [hs1, hL0]
    have n1 : ¬ s.next = s.next + 2 := by omega
    have n2 : ¬ s.next = s.next + 1 := by omega
    have n3 : ¬ s.next + 1 = s.next + 2 := by omega
    exact ⟨s.next, s.next + 1, [], 0, [], 0, by simp only [Heap.get_put, if_true], rfl, by simp only [Heap.get_put, n1, n2, if_false, if_true], ⟨by simp, by simp, by simp, .nil⟩, .nil, by simp only [Heap.get_put, n3, if_false, if_true], ⟨by simp, by simp, by simp, .nil⟩, .nil, by omega, by omega, by omega, by simp only; omega, by simp only; omega, by simp only; omega,
      ⟨hsg, by unfold W64; simp, by unfold W64; simp, by simp, by simp⟩⟩
  have hS1 : SRep s1 (s.next + 2) p D L0 [s.next + 2, s.next, s.next + 1] OD V := ⟨hL1, h.kept hk1 (by simp) (by simp), fun x hx => ⟨fun hx' => ?_, fun hx' => ?_⟩⟩
  rotate_left
  · have := h.lt.1 x hx'; simp only [List.mem_cons, List.not_mem_nil, or_false] at hx; omega
  · have := h.lt.2 x hx'; simp only [List.mem_cons, List.not_mem_nil, or_false] at hx; omega
  obtain ⟨O, hO⟩ : ∃ O, O = [s.next + 2, s.next, s.next + 1] := ⟨_, rfl⟩
  rw [← hO] at hS1
  have hOn : ∀ x ∈ O, s.next ≤ x := fun x hx => by rw [hO] at hx; simp only [List.mem_cons, List.not_mem_nil, or_false] at hx; omega
  have hOl : ∀ x ∈ O, x < s1.next := hS1.l.lt
  have e2 : s.next + 1 + 1 = s.next + 2 := by omega
  simp -implicitDefEqProofs only [params, go_sem, ef, ← hs1, e2]
  refine WCall.mono (p24 (ov := ov) T.d ho.o hS1.d) ?_
  rintro u s2 ⟨hr2, hk2, hnew2⟩
  have hS2 := hS1.kept hk2 (by simp) (by simp) (by simp)
  have hn1 := hk1.1
  have hn2 := hk2.1
  obtain ⟨la, lc, hlv⟩ := hr2.len
  rw [List.length_map, hk] at hlv
  subst hlv
  simp -implicitDefEqProofs only [go_sem]
  obtain ⟨l, hl⟩ : ∃ l, l = s.next + 2 := ⟨_, rfl⟩
  rw [← hl] at hS1 hS2 ⊢
  refine wc_loopV (fun m vs s' => s' = s2 ∧ vs = [ptr p, ptr l, .slice la 0 lc, i64 ((0 : Nat) : Int), i64 ((0 : Nat) : Int)]) 0 ?_ ?_
  · simp -implicitDefEqProofs only [go_sem]
    rfl
  · rintro m vs s3 ⟨rfl, rfl⟩ _
    have hlt : decide (((0 : Nat) : Int) < ((0 : Nat) : Int)) = false := rfl
    simp -implicitDefEqProofs only [go_sem, hlt]
    exact ⟨l, O, rfl, by rw [← hL0]; exact hS2, hk1.trans hk2, hOn⟩
end

theorem zed_zero0 : Zed ⟨16, 0, 0, [], []⟩ ⟨7, 0, 1, [], []⟩ 0 :=
  ⟨rfl, rfl, rfl, rfl, rfl, by simp, by simp, by simp [lookF], by simp [readB, lookF], by simp, by simp, rfl⟩
end Go.Proofs.YtehgdocbabaldaaGreat
