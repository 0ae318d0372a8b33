/-
  Pending, Size, Load: what is there.
-/
import Derived.Test.YtehgdocbabaldaaGreatFP3
import Derived.Test.YtehgdocbabaldaaGreatA48
set_option maxRecDepth 100000
set_option linter.unusedVariables false
set_option linter.unusedSimpArgs false
namespace Go.Abs
open Go
theorem storeL_full {c z : List Value} (h : c.length = z.length) : storeL z 0 c = c := by
  rw [storeL_eq _ _ _ (by omega)]
  simp [List.drop_of_length_le (Nat.le_of_eq h.symm)]
theorem ev_build1 {g : Nat → Option AObj} {nx : Nat} {e : TypeId} {sz : Nat} {z c : List Value} (hz : z.length = sz) (hc : c.length = sz) :
    evP g nx (.buildSlice e sz 1 z [(0, sz, .agg c.toArray)]) = some ⟨.slice (some ⟨nx, 0, none⟩) 1 1, [(nx, some (.cells c e sz false))], nx + 1⟩ := by
  have hc' : (cellList (.agg c.toArray)) = c := by simp [cellList, Value.cells]
  simp only [evP, fillL, hc', hc, hz, Nat.zero_add, Nat.le_refl, and_self, if_true, Option.map_some]
  rw [storeL_full (by omega)]
theorem tooBig_small {n b : Nat} (hn : n < 2 ^ 30) (hb : b ≤ 64) : tooBig n b = false := by
  have : n * b ≤ 2 ^ 30 * 64 := Nat.mul_le_mul (by omega) hb
  simp [tooBig]
  omega

theorem RowsO.push {t : TypeId} {sz b : Nat} {s : St} {v : Value} {cs : List (List Value)} {S : List Nat} (h : RowsO t sz s v cs S) {c : List Value} (hc : c.length = sz) (hall : c.all isCell = true) (hl : cs.length < 2 ^ 29) (hb : b ≤ 64) :
    ∃ (val : Value) (s' : List (Nat × Option AObj) × Nat), evP (s.heap.put s.next (some (.cells c t sz false))).get (s.next + 1) (.append t sz b v (.slice (some ⟨s.next, 0, none⟩) 1 1)) = some ⟨val, s'.1, s'.2⟩ ∧
      RowsO t sz ⟨applyUpd (s.heap.put s.next (some (.cells c t sz false))) s'.1, s'.2⟩ val (cs ++ [c]) (wrOf val) ∧ Kept S s ⟨applyUpd (s.heap.put s.next (some (.cells c t sz false))) s'.1, s'.2⟩ ∧ ∀ x ∈ wrOf val, x ∈ S ∨ s.next ≤ x := by
  have hk1 : Kept [] s ⟨s.heap.put s.next (some (.cells c t sz false)), s.next + 1⟩ := kept_put_nil (Nat.le_refl _) (Nat.le_succ _)
  have ho1 := h.kept hk1 (fun _ _ => by simp)
  obtain ⟨val, upd, nx, S', he, ho2, hk2, hS⟩ := ho1.append1 (b := b) (c1 := c) (m := s.next) (t' := t) (sz' := sz) (ro := false) hc hall (by simp only [Heap.get_put, if_true]) (tooBig_small (by omega) hb) (tooBig_small (by omega) hb)
  have hw := wrOf_rowsO ho2
  rw [← hw] at ho2 hS
  refine ⟨val, (upd, nx), he, ho2, ⟨Nat.le_trans hk1.1 hk2.1, fun id hid hn => ?_⟩, fun x hx => ?_⟩
  · have h1 := hk2.2 id (Nat.lt_of_lt_of_le hid hk1.1) hn
    have h2 := hk1.2 id hid (by simp)
    exact h1.trans h2
  · rcases hS x hx with h | h
    · exact .inl h
    · exact .inr (by have := hk1.1; omega)
theorem RowV.keptT {sz : Nat} {s s' : St} {v : Value} {cs : List (List Value)} {T : List Nat} (h : RowV sz s v cs) (hk : Kept T s s') (hd : ∀ x ∈ wrOf v, x ∉ T) : RowV sz s' v cs := by
  obtain ⟨hz, h | ⟨id, o, cap, c, T', ro, rfl, h1, h2, h3, h4⟩⟩ := h
  · exact ⟨hz, .inl h⟩
  · exact ⟨hz, .inr ⟨id, o, cap, c, T', ro, rfl, h1, Nat.lt_of_lt_of_le h2 hk.1, by rw [hk.2 id h2 (hd id (List.mem_singleton.2 rfl))]; exact h3, h4⟩⟩
end Go.Abs
namespace Go.Proofs.YtehgdocbabaldaaGreat
open Go Go.Abs Go.Abs.K

def RQ0 : RQ := ⟨0, .empty, .empty, 0, 0⟩
def idsL (L : LM) : List Int := sortZ (L.live.map fun q => q.1)
def pendL (L : LM) : List RQ := (idsL L).map fun k => (lookG L.live k).getD RQ0
abbrev rqsR (l : List RQ) : List (List Value) := l.map RQ.cells

theorem idsL_len (L : LM) : (idsL L).length = L.live.length := by rw [idsL, sortZ_length, List.length_map]
theorem row1_at {s : St} {lv : Value} {zs : List Int} (hr : RowV 1 s lv (intsR zs)) {i : Nat} (hi : i < zs.length) {z : Int} (hz : zs[i]? = some z) :
    ∃ id o cap c T ro, lv = .slice (some ⟨id, o, none⟩) zs.length cap ∧ id < s.next ∧ s.heap.get id = some (.cells c T 1 ro) ∧ c[o + i]? = some (i64 z) := by
  obtain ⟨id, o, cap, c, T', ro, hv, hid, hg, hle, hrw, hget⟩ := row_read hr (i := i) (by simpa using hi)
  rw [List.length_map] at hv
  have hgw : (intsR zs).getD i [] = [i64 z] := by rw [List.getD_eq_getElem?_getD, List.getElem?_map, hz]; rfl
  refine ⟨id, o, cap, c, T', ro, hv, hid, hg, ?_⟩
  have := hget 0 (by omega)
  rw [hgw, Nat.mul_one, Nat.add_zero] at this
  rw [this]; rfl

section
variable {tbl : FuncId → Option AFun} {ov : CallSem} {s : St} (T : STbl tbl)
include T

theorem e105_gen (ho : OvS ov) {ml : Nat} {es : List MapEntry} {c : Nat} {F : List (Int × RQ)} (h2 : s.heap.get ml = some (.map es c)) (h3 : MOK KInt es c) (h4 : GR ekI RQ.val es F) (hw : ∀ q ∈ F, W64 q.1) (hl : F.length < 2 ^ 20) (K : Value → St → Prop)
    (h : ∀ lv s', RowV 1 s' lv (intsR (sortZ (F.map fun q => q.1))) → Kept [] s s' → K lv s') : WCall (fun k => call tbl ov k) 105 [.map (some ml)] s K := by
  have hk : keysZ es c = some (F.map fun p => p.1) := gr_keysZ h4 h3 hw (by omega)
  obtain ⟨ks, hks⟩ : ∃ ks, ks = F.map fun p => p.1 := ⟨_, rfl⟩
  rw [← hks] at hk h
  have hlen : (sortZ ks).length = ks.length := sortZ_length ks
  cases hkk : ks with
  | nil =>
    rw [hkk] at hk
    rw [WCall.eq (WCall.ov (ov := ov) T.t105 (args := [.map (some ml)]) (s := s) (r := (.slice none 0 0, s)) (by rw [ho.keysI]; simp only [keysSem, if_true, h2, hk, Option.map_some]) ⟨rfl, rfl⟩) K]
    exact h _ _ ⟨by simp [hkk, sortZ], .inl ⟨rfl, by simp [hkk, sortZ]⟩⟩ (Kept.refl _ _)
  | cons x r =>
    rw [hkk] at hk
    rw [WCall.eq (WCall.ov (ov := ov) T.t105 (args := [.map (some ml)]) (s := s) (r := (.slice (some ⟨s.next, 0, none⟩) (x :: r).length (x :: r).length, ⟨s.heap.put s.next (some (.cells ((sortZ (x :: r)).map encZ) 3 1 false)), s.next + 1⟩)) (by rw [ho.keysI]; simp only [keysSem, if_true, h2, hk, Option.map_some]) ⟨rfl, rfl⟩) K]
    rw [← hkk]
    have hfl : ((sortZ ks).map fun k => [i64 k]).flatten = (sortZ ks).map fun n => Value.int .i64 n := by
      induction sortZ ks with
      | nil => rfl
      | cons x l ih => simp [ih]
    refine h _ _ ⟨fun c hc => ?_, .inr ⟨s.next, 0, ks.length, (sortZ ks).map encZ, 3, false, ?_, ?_, by simp only; omega, by simp only [Heap.get_put, if_true], ?_, ?_⟩⟩ (kept_put_nil (Nat.le_refl _) (Nat.le_succ _))
    · obtain ⟨k, _, rfl⟩ := List.mem_map.1 hc
      exact ⟨rfl, rfl⟩
    · simp only [List.length_map, hlen]
    · simp only [List.length_map, hlen]; exact Nat.le_refl _
    · simp only [List.length_map, hlen]; omega
    · rw [hfl, List.length_map, hlen, List.drop_zero, List.take_of_length_le (by rw [List.length_map, hlen]; omega)]

theorem q89 (ho : OvS ov) {l p : Nat} {L : LM} {O : List Nat} (h : LRep s l p L O) (hl : L.live.length < 2 ^ 20) :
    WCall (fun k => call tbl ov k) 89 [ptr l] s fun u s' => RowV 5 s' u (rqsR (pendL L)) ∧ Kept [] s s' ∧ ∀ x ∈ wrOf u, s.next ≤ x := by
  refine WCall.of T.t89 rfl ?_
  have h0 := h
  obtain ⟨ml, mw, es, c, es', c', h1, rfl, h2, h3, h4, h5, h6, h7, h8, h9, h10, h11, h12, h13, h14⟩ := h0
  simp -implicitDefEqProofs only [fun89, code89, params, go_sem, h1]
  refine e105_gen T ho h2 h3 h4 (fun q hq => (h14.live q hq).1) hl _ ?_
  intro lv s1 hr hk1
  obtain ⟨la, lc, hlv⟩ := hr.len
  rw [List.length_map] at hlv
  subst hlv
  have hil : (sortZ (L.live.map fun q => q.1)) = idsL L := rfl
  rw [hil] at hr
  have hnl := idsL_len L
  simp -implicitDefEqProofs only [go_sem, hil]
  obtain ⟨I, hI⟩ : ∃ I : Nat → List Value → St → Prop, I = fun m vs s' => Kept [] s1 s' ∧ ∃ (i : Nat) (v : Value) (S : List Nat), i ≤ (idsL L).length ∧ m = (idsL L).length - i ∧ vs = [ptr l, v, .slice la (idsL L).length lc, i64 ((idsL L).length : Nat), i64 (i : Nat)] ∧
    RowsO 34 5 s' v (rqsR ((pendL L).take i)) S ∧ ∀ x ∈ S, s1.next ≤ x := ⟨_, rfl⟩
  refine wc_loopV I (idsL L).length ?_ ?_
  · simp -implicitDefEqProofs only [go_sem]
    rw [hI]
    exact ⟨Kept.refl _ _, 0, _, [], by omega, by omega, rfl, ⟨by simp, .inl ⟨rfl, by simp, rfl⟩⟩, by simp⟩
  · intro m vs s2 hi _
    rw [hI] at hi
    obtain ⟨hk2, i, v, S, hi1, rfl, rfl, hR, hS⟩ := hi
    have hk02 := hk1.trans hk2
    have h1' : s2.heap.get l = _ := (hk02.2 l h11 (by simp)).trans h1
    have h2' : s2.heap.get ml = _ := (hk02.2 ml h12 (by simp)).trans h2
    cases hlt : decide ((i : Int) < ((idsL L).length : Int))
    · have hie : i = (idsL L).length := by have := of_decide_eq_false hlt; omega
      simp -implicitDefEqProofs only [go_sem, hlt]
      rw [List.take_of_length_le (by simp [pendL, hie])] at hR
      exact ⟨hR.toV, hk02, fun x hx => by rw [wrOf_rowsO hR] at hx; exact Nat.le_trans hk1.1 (hS x hx)⟩
    · have hiN : i < (idsL L).length := by have := of_decide_eq_true hlt; omega
      obtain ⟨k, hk⟩ : ∃ k, (idsL L)[i]? = some k := ⟨_, List.getElem?_eq_getElem hiN⟩
      obtain ⟨id, o, cap, cc, T', ro, hv, hid, hg, hgi⟩ := row1_at (hr.kept hk2) hiN hk
      cases hv
      have hix : 0 ≤ (i : Int) ∧ (i : Int) < ((idsL L).length : Int) := by omega
      have w4 : IntKind.i64.wrap ((i : Int) + 1) = ((i + 1 : Nat) : Int) := by rw [IntKind.wrap_i64]; omega
      have el : ∀ nx, evP s2.heap.get nx (.lookup .int (.agg #[i64 0, .string ⟨#[]⟩, .string ⟨#[]⟩, i64 0, i64 0]) false (.map (some ml)) (i64 k)) = some ⟨((lookG L.live k).getD RQ0).val, [], nx⟩ := fun nx => by
        rw [ev_lookup kindI h3 h2' ⟨k, rfl⟩, gr_get keyG_int h4 k]
        cases lookG L.live k <;> rfl
      have eb : ∀ g nx, evP g nx (.buildSlice 34 5 1 [i64 0, .string ⟨#[]⟩, .string ⟨#[]⟩, i64 0, i64 0] [(0, 5, ((lookG L.live k).getD RQ0).val)]) = _ := fun g nx => ev_build1 rfl rfl
      obtain ⟨val, sx, he, hR2, hk3, hS2⟩ := hR.push (b := 56) (c := ((lookG L.live k).getD RQ0).cells) rfl rfl (by simp [pendL]; omega) (by omega)
      simp -implicitDefEqProofs only [go_sem, hlt, hix, hg, hgi, Nat.add_zero, Nat.mul_one, h1', el, eb, he, w4]
      rw [hI]
      refine ⟨(idsL L).length - (i + 1), by omega, hk2.comp hk3 (fun x hx => .inr (by have := hS x hx; omega)), i + 1, val, wrOf val, by omega, rfl, rfl, ?_, fun x hx => (hS2 x hx).elim (hS x) fun h => Nat.le_trans hk2.1 h⟩
      have : (pendL L).take (i + 1) = (pendL L).take i ++ [(lookG L.live k).getD RQ0] := by
        rw [List.take_succ_eq_append_getElem (by simpa [pendL] using hiN)]
        congr 2
        have : (idsL L)[i] = k := by rw [List.getElem?_eq_getElem hiN] at hk; exact Option.some.inj hk
        simp only [pendL, List.getElem_map, this]
      rw [this, rqsR, List.map_append]
      exact hR2

end
end Go.Proofs.YtehgdocbabaldaaGreat


/-
  records: all that is of use.
-/
set_option maxRecDepth 100000
set_option linter.unusedVariables false
set_option linter.unusedSimpArgs false
namespace Go.Proofs.YtehgdocbabaldaaGreat
open Go Go.Abs Go.Abs.K

def toBA (l : List UInt8) : ByteArray := ⟨l.toArray⟩
def hostsL (L : LM) : List ByteArray := (sortS (L.wait.map fun q => q.1.data.toList)).map toBA
def waitF (h : ByteArray) (t : Int) : FRec := ⟨3, 0, h, .empty, 0, t⟩
def doneF (n : Int) : FRec := ⟨2, n, .empty, .empty, 0, 0⟩
def waitsR (L : LM) : List FRec := (hostsL L).map fun h => waitF h ((lookG L.wait h).getD 0)
def tellR (L : LM) : List FRec := if (lookG L.live (L.next - 1)).isSome = true then [] else [doneF (L.next - 1)]
def putsR (L : LM) : List FRec := (pendL L).map fun r => r.toF 1
def recsL (L : LM) : List FRec := waitsR L ++ tellR L ++ putsR L
abbrev recsR (l : List FRec) : List (List Value) := l.map FRec.cells

theorem hostsL_len (L : LM) : (hostsL L).length = L.wait.length := by rw [hostsL, List.length_map, (sortS_perm _).length_eq, List.length_map]

abbrev strsR (zs : List ByteArray) : List (List Value) := zs.map fun k => [.string k]

theorem row_one {sz : Nat} {α : Type} {f : α → List Value} {s : St} {lv : Value} {zs : List α} (hr : RowV sz s lv (zs.map f)) {i : Nat} (hi : i < zs.length) {z : α} (hz : zs[i]? = some z) :
    ∃ id o cap c T ro, lv = .slice (some ⟨id, o, none⟩) zs.length cap ∧ id < s.next ∧ s.heap.get id = some (.cells c T sz ro) ∧ o + i * sz + sz ≤ c.length ∧ (c.drop (o + i * sz)).take sz = f z ∧ ∀ j, j < sz → c[o + i * sz + j]? = (f z)[j]? := by
  obtain ⟨id, o, cap, c, T', ro, hv, hid, hg, hle, hrw, hget⟩ := row_read hr (i := i) (by simpa using hi)
  rw [List.length_map] at hv
  have hgw : (zs.map f).getD i [] = f z := by rw [List.getD_eq_getElem?_getD, List.getElem?_map, hz]; rfl
  rw [hgw] at hrw hget
  exact ⟨id, o, cap, c, T', ro, hv, hid, hg, hle, hrw, hget⟩

theorem take_snoc {α : Type} {l : List α} {i : Nat} {x : α} (h : l[i]? = some x) : l.take (i + 1) = l.take i ++ [x] := by
  obtain ⟨hi, he⟩ := List.getElem?_eq_some_iff.1 h
  rw [List.take_succ_eq_append_getElem hi, he]

def a74 : ACode := match code74 with | .seq _ (.seq _ (.seq x _)) => x | _ => .skip
def b74 : ACode := match code74 with | .seq _ (.seq _ (.seq _ (.seq x _))) => x | _ => .skip
def c74 : ACode := match code74 with | .seq _ (.seq _ (.seq _ (.seq _ x))) => x | _ => .skip
theorem code74_eq : code74 = .seq (R [o 2 (.mov (.const (.slice none 0 0)))]) (.seq (R [o 3 (.mov (.const (.slice none 0 0)))]) (.seq a74 (.seq b74 c74))) := rfl

section
variable {tbl : FuncId → Option AFun} {ov : CallSem} {s : St} (T : STbl tbl)
include T

theorem e88_gen (ho : OvS ov) {mw : Nat} {es : List MapEntry} {c : Nat} {F : List (ByteArray × Int)} (h2 : s.heap.get mw = some (.map es c)) (h3 : MOK KStr es c) (h4 : GR ekS ekI es F) (hw : ∀ q ∈ F, q.1.size ≤ 4611686018427387904) (hl : F.length < 2 ^ 20) (K : Value → St → Prop)
    (h : ∀ lv s', RowV 1 s' lv (strsR ((sortS (F.map fun q => q.1.data.toList)).map toBA)) → Kept [] s s' → K lv s') : WCall (fun k => call tbl ov k) 88 [.map (some mw)] s K := by
  have hk : keysT es c = some (F.map fun p => p.1.data.toList) := gr_keysT h4 h3 hw (by omega)
  obtain ⟨ks, hks⟩ : ∃ ks, ks = F.map fun p => p.1.data.toList := ⟨_, rfl⟩
  rw [← hks] at hk h
  have hlen : (sortS ks).length = ks.length := (sortS_perm ks).length_eq
  cases hkk : ks with
  | nil =>
    rw [hkk] at hk
    rw [WCall.eq (WCall.ov (ov := ov) T.t88 (args := [.map (some mw)]) (s := s) (r := (.slice none 0 0, s)) (by rw [ho.keysS]; simp only [keysSem, if_true, h2, hk, Option.map_some]) ⟨rfl, rfl⟩) K]
    exact h _ _ ⟨by simp [hkk, sortS], .inl ⟨rfl, by simp [hkk, sortS]⟩⟩ (Kept.refl _ _)
  | cons x r =>
    rw [hkk] at hk
    rw [WCall.eq (WCall.ov (ov := ov) T.t88 (args := [.map (some mw)]) (s := s) (r := (.slice (some ⟨s.next, 0, none⟩) (x :: r).length (x :: r).length, ⟨s.heap.put s.next (some (.cells ((sortS (x :: r)).map encStr) 9 1 false)), s.next + 1⟩)) (by rw [ho.keysS]; simp only [keysSem, if_true, h2, hk, Option.map_some]) ⟨rfl, rfl⟩) K]
    rw [← hkk]
    have hfl : (strsR ((sortS ks).map toBA)).flatten = (sortS ks).map encStr := by
      unfold strsR
      induction sortS ks with
      | nil => rfl
      | cons x l ih => simp only [List.map_cons, List.flatten_cons, ih]; rfl
    refine h _ _ ⟨fun c hc => ?_, .inr ⟨s.next, 0, ks.length, (sortS ks).map encStr, 9, false, ?_, ?_, by simp only; omega, by simp only [Heap.get_put, if_true], ?_, ?_⟩⟩ (kept_put_nil (Nat.le_refl _) (Nat.le_succ _))
    · obtain ⟨k, _, rfl⟩ := List.mem_map.1 hc
      exact ⟨rfl, rfl⟩
    · simp only [List.length_map, hlen]
    · simp only [List.length_map, hlen]; exact Nat.le_refl _
    · simp only [List.length_map, hlen]; omega
    · rw [hfl]; simp only [List.length_map, hlen]; rw [List.drop_zero, List.take_of_length_le (by rw [List.length_map, hlen]; omega)]

theorem a74_spec (ho : OvS ov) {l p : Nat} {L : LM} {O : List Nat} {e : Env} (h : LRep s l p L O) (hl : L.wait.length < 2 ^ 20) (g0 : e.get 0 = some (ptr l)) (g3 : e.get 3 = some (.slice none 0 0)) :
    WCode (fun k => call tbl ov k) a74 e s fun x e' s' => x = .normal ∧ e'.get 0 = some (ptr l) ∧ Kept [] s s' ∧ ∃ v S, e'.get 3 = some v ∧ RowsO 70 6 s' v (recsR (waitsR L)) S ∧ ∀ x ∈ S, s.next ≤ x := by
  have h0 := h
  obtain ⟨ml, mw, es, c, es', c', h1, rfl, h2, h3, h4, h5, h6, h7, h8, h9, h10, h11, h12, h13, h14⟩ := h0
  simp -implicitDefEqProofs only [a74, code74, go_sem, g0, h1]
  refine e88_gen T ho h5 h6 h7 (fun q hq => (h14.wait q hq).2) hl _ ?_
  intro lv s1 hr hk1
  obtain ⟨la, lc, hlv⟩ := hr.len
  rw [List.length_map] at hlv
  subst hlv
  have hil : ((sortS (L.wait.map fun q => q.1.data.toList)).map toBA) = hostsL L := rfl
  rw [hil] at hr
  have hnl := hostsL_len L
  simp -implicitDefEqProofs only [go_sem, hil, g0, g3]
  obtain ⟨I, hI⟩ : ∃ I : Nat → List Value → St → Prop, I = fun m vs s' => Kept [] s1 s' ∧ ∃ (i : Nat) (v : Value) (S : List Nat), i ≤ (hostsL L).length ∧ m = (hostsL L).length - i ∧ vs = [ptr l, v, .slice la (hostsL L).length lc, i64 ((hostsL L).length : Nat), i64 (i : Nat)] ∧
    RowsO 70 6 s' v (recsR ((waitsR L).take i)) S ∧ ∀ x ∈ S, s1.next ≤ x := ⟨_, rfl⟩
  refine wc_loopV I (hostsL L).length ?_ ?_
  · simp -implicitDefEqProofs only [go_sem, g0, g3]
    rw [hI]
    exact ⟨Kept.refl _ _, 0, _, [], by omega, by omega, rfl, ⟨by simp, .inl ⟨rfl, by simp, rfl⟩⟩, by simp⟩
  · intro m vs s2 hi _
    rw [hI] at hi
    obtain ⟨hk2, i, v, S, hi1, rfl, rfl, hR, hS⟩ := hi
    have hk02 := hk1.trans hk2
    have h1' : s2.heap.get l = _ := (hk02.2 l h11 (by simp)).trans h1
    have h5' : s2.heap.get mw = _ := (hk02.2 mw h13 (by simp)).trans h5
    cases hlt : decide ((i : Int) < ((hostsL L).length : Int))
    · have hie : i = (hostsL L).length := by have := of_decide_eq_false hlt; omega
      simp -implicitDefEqProofs only [go_sem, hlt]
      rw [List.take_of_length_le (by simp [waitsR, hie])] at hR
      exact ⟨hk02, _, S, rfl, hR, fun x hx => Nat.le_trans hk1.1 (hS x hx)⟩
    · have hiN : i < (hostsL L).length := by have := of_decide_eq_true hlt; omega
      obtain ⟨k, hk⟩ : ∃ k, (hostsL L)[i]? = some k := ⟨_, List.getElem?_eq_getElem hiN⟩
      obtain ⟨id, o, cap, cc, T', ro, hv, hid, hg, _, _, hgi⟩ := row_one (hr.kept hk2) hiN hk
      cases hv
      have hgi := hgi 0 (by omega)
      simp only [Nat.mul_one, Nat.add_zero, List.getElem?_cons_zero] at hgi
      have hix : 0 ≤ (i : Int) ∧ (i : Int) < ((hostsL L).length : Int) := by omega
      have w4 : IntKind.i64.wrap ((i : Int) + 1) = ((i + 1 : Nat) : Int) := by rw [IntKind.wrap_i64]; omega
      have el : ∀ nx, evP s2.heap.get nx (.lookup .string (i64 0) false (.map (some mw)) (.string k)) = some ⟨i64 ((lookG L.wait k).getD 0), [], nx⟩ := fun nx => by
        rw [ev_lookup kindS h6 h5' ⟨k, rfl⟩, gr_get keyG_str h7 k]
        cases lookG L.wait k <;> rfl
      have ef1 : fillL [i64 0, .string ⟨#[]⟩, .string ⟨#[]⟩, i64 0, i64 0] [(1, 1, .string k), (4, 1, i64 ((lookG L.wait k).getD 0))] = some [i64 0, .string k, .string ⟨#[]⟩, i64 0, i64 ((lookG L.wait k).getD 0)] := rfl
      have ef2 : fillL [i64 0, i64 0, .string ⟨#[]⟩, .string ⟨#[]⟩, i64 0, i64 0] [(0, 1, i64 3), (1, 5, .agg [i64 0, .string k, .string ⟨#[]⟩, i64 0, i64 ((lookG L.wait k).getD 0)].toArray)] = some (waitF k ((lookG L.wait k).getD 0)).cells := rfl
      have eb : ∀ g nx, evP g nx (.buildSlice 70 6 1 [i64 0, i64 0, .string ⟨#[]⟩, .string ⟨#[]⟩, i64 0, i64 0] [(0, 6, .agg (waitF k ((lookG L.wait k).getD 0)).cells.toArray)]) = _ := fun g nx => ev_build1 rfl rfl
      obtain ⟨val, sx, he, hR2, hk3, hS2⟩ := hR.push (b := 64) (c := (waitF k ((lookG L.wait k).getD 0)).cells) rfl rfl (by simp [waitsR]; omega) (by omega)
      simp -implicitDefEqProofs only [go_sem, hlt, hix, hg, hgi, Nat.add_zero, Nat.mul_one, h1', el, ef1, ef2, eb, he, w4]
      rw [hI]
      refine ⟨(hostsL L).length - (i + 1), by omega, hk2.comp hk3 (fun x hx => .inr (by have := hS x hx; omega)), i + 1, val, wrOf val, by omega, rfl, rfl, ?_, fun x hx => (hS2 x hx).elim (hS x) fun h => Nat.le_trans hk2.1 h⟩
      have : (waitsR L)[i]? = some (waitF k ((lookG L.wait k).getD 0)) := by simp only [waitsR, List.getElem?_map, hk, Option.map_some]
      rw [take_snoc this, recsR, List.map_append]
      exact hR2

omit T in
theorem b74_spec {l p : Nat} {L : LM} {O : List Nat} {e : Env} {v : Value} {A : List FRec} {S : List Nat} (h : LRep s l p L O) (hn : 1 ≤ L.next) (hA : A.length < 2 ^ 21) (hR : RowsO 70 6 s v (recsR A) S) (hSO : ∀ x ∈ S, x ∉ O) (g0 : e.get 0 = some (ptr l)) (g3 : e.get 3 = some v) :
    WCode (fun k => call tbl ov k) b74 e s fun x e' s' => x = .normal ∧ e'.get 0 = some (ptr l) ∧ Kept S s s' ∧ ∃ v S', e'.get 3 = some v ∧ RowsO 70 6 s' v (recsR (A ++ tellR L)) S' ∧ ∀ x ∈ S', x ∈ S ∨ s.next ≤ x := by
  have h0 := h
  obtain ⟨ml, mw, es, c, es', c', h1, rfl, h2, h3, h4, h5, h6, h7, h8, h9, h10, h11, h12, h13, h14⟩ := h0
  have w1 : IntKind.i64.wrap (L.next - 1) = L.next - 1 := by have := h14.next; unfold W64 at this; rw [IntKind.wrap_i64]; omega
  have n1 : ¬ l = s.next := by omega
  cases hq : lookG L.live (L.next - 1) with
  | some r =>
    have el : ∀ nx, evP s.heap.get nx (.lookup .int (.agg #[i64 0, .string ⟨#[]⟩, .string ⟨#[]⟩, i64 0, i64 0]) true (.map (some ml)) (i64 (L.next - 1))) = some ⟨.tuple #[r.val, .bool true], [], nx⟩ := fun nx => by
      rw [ev_lookup kindI h3 h2 ⟨_, rfl⟩, gr_get keyG_int h4, hq]; rfl
    have c1 : r.cells.length = 5 := rfl
    have c2 : r.cells.all isCell = true := rfl
    have ht : tellR L = [] := by unfold tellR; rw [hq]; rfl
    simp -implicitDefEqProofs only [b74, code74, go_sem, g0, g3, h1, n1, w1, el, c1, c2, ht, List.append_nil]
    have hk : Kept [] s ⟨(s.heap.put s.next (some (.cells [i64 0, .string ⟨#[]⟩, .string ⟨#[]⟩, i64 0, i64 0] 34 0 false))).put s.next (some (.cells (storeL [i64 0, .string ⟨#[]⟩, .string ⟨#[]⟩, i64 0, i64 0] 0 r.cells) 34 0 false)), s.next + 1⟩ :=
      ⟨Nat.le_succ _, fun j hj _ => by have : ¬ j = s.next := by omega
                                       simp only [Heap.get_put, this, if_false]⟩
    exact ⟨hk.sub (by simp), _, S, rfl, hR.kept hk (by simp), fun x hx => .inl hx⟩
  | none =>
    have el : ∀ nx, evP s.heap.get nx (.lookup .int (.agg #[i64 0, .string ⟨#[]⟩, .string ⟨#[]⟩, i64 0, i64 0]) true (.map (some ml)) (i64 (L.next - 1))) = some ⟨.tuple #[RQ0.val, .bool false], [], nx⟩ := fun nx => by
      rw [ev_lookup kindI h3 h2 ⟨_, rfl⟩, gr_get keyG_int h4, hq]; rfl
    have c1 : RQ0.cells.length = 5 := rfl
    have c2 : RQ0.cells.all isCell = true := rfl
    have ht : tellR L = [doneF (L.next - 1)] := by unfold tellR; rw [hq]; rfl
    obtain ⟨s1, hs1⟩ : ∃ s1 : St, s1 = ⟨(s.heap.put s.next (some (.cells [i64 0, .string ⟨#[]⟩, .string ⟨#[]⟩, i64 0, i64 0] 34 0 false))).put s.next (some (.cells (storeL [i64 0, .string ⟨#[]⟩, .string ⟨#[]⟩, i64 0, i64 0] 0 RQ0.cells) 34 0 false)), s.next + 1⟩ := ⟨_, rfl⟩
    have hk : Kept [] s s1 := by
      rw [hs1]
      exact ⟨Nat.le_succ _, fun j hj _ => by have : ¬ j = s.next := by omega
                                             simp only [Heap.get_put, this, if_false]⟩
    have hn1 : s1.next = s.next + 1 := by rw [hs1]
    have hp1 : s1.heap = (s.heap.put s.next (some (.cells [i64 0, .string ⟨#[]⟩, .string ⟨#[]⟩, i64 0, i64 0] 34 0 false))).put s.next (some (.cells (storeL [i64 0, .string ⟨#[]⟩, .string ⟨#[]⟩, i64 0, i64 0] 0 RQ0.cells) 34 0 false)) := by rw [hs1]
    obtain ⟨val, sx, he, hR2, hk3, hS2⟩ := (hR.kept hk (by simp)).push (b := 64) (c := (doneF (L.next - 1)).cells) rfl rfl (by simp; omega) (by omega)
    have ef1 : fillL [i64 0, .string ⟨#[]⟩, .string ⟨#[]⟩, i64 0, i64 0] [(0, 1, i64 (L.next - 1))] = some [i64 (L.next - 1), .string ⟨#[]⟩, .string ⟨#[]⟩, i64 0, i64 0] := rfl
    have ef2 : fillL [i64 0, i64 0, .string ⟨#[]⟩, .string ⟨#[]⟩, i64 0, i64 0] [(0, 1, i64 2), (1, 5, .agg [i64 (L.next - 1), .string ⟨#[]⟩, .string ⟨#[]⟩, i64 0, i64 0].toArray)] = some (doneF (L.next - 1)).cells := rfl
    have eb : ∀ g nx, evP g nx (.buildSlice 70 6 1 [i64 0, i64 0, .string ⟨#[]⟩, .string ⟨#[]⟩, i64 0, i64 0] [(0, 6, .agg (doneF (L.next - 1)).cells.toArray)]) = _ := fun g nx => ev_build1 rfl rfl
    rw [hn1, hp1] at he
    have h1' : s1.heap.get l = _ := (hk.2 l h11 (by simp)).trans h1
    rw [hp1] at h1'
    simp -implicitDefEqProofs only [b74, code74, go_sem, g0, g3, h1, n1, w1, el, c1, c2, ef1, ef2, eb, he, ht]
    rw [hp1] at hR2 hk3
    rw [hn1] at hR2 hk3 hS2
    rw [recsR, List.map_append]
    exact ⟨⟨Nat.le_trans hk.1 hk3.1, fun j hj hn => (hk3.2 j (by omega) hn).trans (hk.2 j hj (by simp))⟩, _, wrOf val, rfl, hR2, fun x hx => (hS2 x hx).imp_right fun h => by omega⟩

theorem c74_spec (ho : OvS ov) {l p : Nat} {L : LM} {O : List Nat} {e : Env} {v : Value} {A : List FRec} {S : List Nat} (h : LRep s l p L O) (hl : L.live.length < 2 ^ 20) (hA : A.length < 2 ^ 22) (hR : RowsO 70 6 s v (recsR A) S) (hSO : ∀ x ∈ S, x ∉ O) (g0 : e.get 0 = some (ptr l)) (g3 : e.get 3 = some v) :
    WCode (fun k => call tbl ov k) c74 e s fun x e' s' => x = .ret ∧ Kept S s s' ∧ ∃ v S', e'.get 2 = some v ∧ RowsO 70 6 s' v (recsR (A ++ putsR L)) S' ∧ ∀ x ∈ S', x ∈ S ∨ s.next ≤ x := by
  simp -implicitDefEqProofs only [c74, code74, go_sem, g0, g3]
  refine WCall.mono (q89 (ov := ov) T ho h hl) ?_
  rintro u s1 ⟨hr, hk1, hnew⟩
  obtain ⟨la, lc, hlv⟩ := hr.len
  rw [List.length_map] at hlv
  subst hlv
  have hpl : (pendL L).length = L.live.length := by rw [pendL, List.length_map, idsL_len]
  simp -implicitDefEqProofs only [go_sem, g3]
  have hR1 := hR.kept hk1 (by simp)
  have hSl := hR.lt
  obtain ⟨I, hI⟩ : ∃ I : Nat → List Value → St → Prop, I = fun m vs s' => Kept S s1 s' ∧ ∃ (i : Nat) (v : Value) (S' : List Nat), i ≤ (pendL L).length ∧ m = (pendL L).length - i ∧ vs = [v, .slice la (pendL L).length lc, i64 ((pendL L).length : Nat), i64 (i : Nat)] ∧
    RowsO 70 6 s' v (recsR (A ++ (putsR L).take i)) S' ∧ ∀ x ∈ S', x ∈ S ∨ s1.next ≤ x := ⟨_, rfl⟩
  refine wc_loopV I (pendL L).length ?_ ?_
  · simp -implicitDefEqProofs only [go_sem, g3]
    rw [hI]
    exact ⟨Kept.refl _ _, 0, _, S, by omega, by omega, rfl, by simpa using hR1, fun x hx => .inl hx⟩
  · intro m vs s2 hi _
    rw [hI] at hi
    obtain ⟨hk2, i, v, S', hi1, rfl, rfl, hR, hS⟩ := hi
    cases hlt : decide ((i : Int) < ((pendL L).length : Int))
    · have hie : i = (pendL L).length := by have := of_decide_eq_false hlt; omega
      simp -implicitDefEqProofs only [go_sem, hlt]
      rw [List.take_of_length_le (by simp [putsR, hie])] at hR
      exact ⟨(hk1.sub (T := S) (by simp)).trans hk2, _, S', rfl, hR, fun x hx => (hS x hx).imp_right fun h => by have := hk1.1; omega⟩
    · have hiN : i < (pendL L).length := by have := of_decide_eq_true hlt; omega
      obtain ⟨k, hk⟩ : ∃ k, (pendL L)[i]? = some k := ⟨_, List.getElem?_eq_getElem hiN⟩
      have hr2 := hr.keptT hk2 (fun x hx hx' => by have := hnew x hx; have := hSl x hx'; omega)
      obtain ⟨id, o, cap, cc, T', ro, hv, hid, hg, hle, hrw, hgi⟩ := row_one hr2 hiN hk
      cases hv
      have n1 : ¬ id = s2.next := by omega
      have hix : 0 ≤ (i : Int) ∧ (i : Int) < ((pendL L).length : Int) := by omega
      have w4 : IntKind.i64.wrap ((i : Int) + 1) = ((i + 1 : Nat) : Int) := by rw [IntKind.wrap_i64]; omega
      have c1 : k.cells.length = 5 := rfl
      have c2 : k.cells.all isCell = true := rfl
      have c3 : storeL [i64 0, .string ⟨#[]⟩, .string ⟨#[]⟩, i64 0, i64 0] 0 k.cells = k.cells := rfl
      have c4 : k.cells.take 5 = k.cells := rfl
      obtain ⟨s3, hs3⟩ : ∃ s3 : St, s3 = ⟨(s2.heap.put s2.next (some (.cells [i64 0, .string ⟨#[]⟩, .string ⟨#[]⟩, i64 0, i64 0] 34 0 false))).put s2.next (some (.cells k.cells 34 0 false)), s2.next + 1⟩ := ⟨_, rfl⟩
      have hk3 : Kept [] s2 s3 := by
        rw [hs3]
        exact ⟨Nat.le_succ _, fun j hj _ => by have : ¬ j = s2.next := by omega
                                               simp only [Heap.get_put, this, if_false]⟩
      have hn1 : s3.next = s2.next + 1 := by rw [hs3]
      have hp1 : s3.heap = (s2.heap.put s2.next (some (.cells [i64 0, .string ⟨#[]⟩, .string ⟨#[]⟩, i64 0, i64 0] 34 0 false))).put s2.next (some (.cells k.cells 34 0 false)) := by rw [hs3]
      obtain ⟨val, sx, he, hR2, hk4, hS2⟩ := (hR.kept hk3 (by simp)).push (b := 64) (c := (k.toF 1).cells) rfl rfl (by simp [putsR]; omega) (by omega)
      have ef2 : fillL [i64 0, i64 0, .string ⟨#[]⟩, .string ⟨#[]⟩, i64 0, i64 0] [(0, 1, i64 1), (1, 5, .agg k.cells.toArray)] = some (k.toF 1).cells := rfl
      have eb : ∀ g nx, evP g nx (.buildSlice 70 6 1 [i64 0, i64 0, .string ⟨#[]⟩, .string ⟨#[]⟩, i64 0, i64 0] [(0, 6, .agg (k.toF 1).cells.toArray)]) = _ := fun g nx => ev_build1 rfl rfl
      rw [hn1, hp1] at he
      simp -implicitDefEqProofs only [go_sem, hlt, hix, hg, hle, hrw, n1, Nat.add_zero, c1, c2, c3, c4, List.drop_zero, ef2, eb, he, w4]
      rw [hI]
      rw [hp1, hn1] at hR2 hk4
      rw [hn1] at hS2
      have hk34 : Kept S' s2 ⟨applyUpd (((s2.heap.put s2.next (some (.cells [i64 0, .string ⟨#[]⟩, .string ⟨#[]⟩, i64 0, i64 0] 34 0 false))).put s2.next (some (.cells k.cells 34 0 false))).put (s2.next + 1) (some (.cells (k.toF 1).cells 70 6 false))) sx.1, sx.2⟩ :=
        ⟨Nat.le_trans hk3.1 hk4.1, fun j hj hn => (hk4.2 j (by omega) hn).trans (hk3.2 j hj (by simp))⟩
      refine ⟨(pendL L).length - (i + 1), by omega, hk2.comp hk34 (fun x hx => hS x hx), i + 1, val, wrOf val, by omega, rfl, rfl, ?_, fun x hx => (hS2 x hx).elim (hS x) fun h => .inr (by have := hk2.1; omega)⟩
      have : (putsR L)[i]? = some (k.toF 1) := by simp only [putsR, List.getElem?_map, hk, Option.map_some]
      rw [take_snoc this, recsR, ← List.append_assoc, List.map_append]
      exact hR2

theorem q74 (ho : OvS ov) {l p : Nat} {L : LM} {O : List Nat} (h : LRep s l p L O) (hn : 1 ≤ L.next) (hl : L.live.length < 2 ^ 20) (hw : L.wait.length < 2 ^ 20) :
    WCall (fun k => call tbl ov k) 74 [ptr l] s fun u s' => RowV 6 s' u (recsR (recsL L)) ∧ Kept [] s s' ∧ ∀ x ∈ wrOf u, s.next ≤ x := by
  refine WCall.of T.t74 rfl ?_
  rw [show fun74.body = _ from code74_eq, show fun74.res = [.tmp 2] from rfl]
  simp -implicitDefEqProofs only [params, go_sem]
  have hwl : (waitsR L).length = L.wait.length := by rw [waitsR, List.length_map, hostsL_len]
  have htl : (tellR L).length ≤ 1 := by unfold tellR; split <;> simp
  refine WCode.mono ?_ (a74_spec T ho h hw rfl rfl)
  rintro x e1 s1 ⟨rfl, g0, hk1, v1, S1, g3, hR1, hS1⟩
  simp -implicitDefEqProofs only [go_sem]
  have hlt := h.lt
  refine WCode.mono ?_ (b74_spec (S := S1) (h.kept hk1 (by simp)) hn (by omega) hR1 (fun x hx hx' => by have := hlt x hx'; have := hS1 x hx; omega) g0 g3)
  rintro x e2 s2 ⟨rfl, g0, hk2, v2, S2, g3, hR2, hS2⟩
  simp -implicitDefEqProofs only [go_sem]
  have hk12 := hk1.comp hk2 (fun x hx => .inr (hS1 x hx))
  have hS2' : ∀ x ∈ S2, s.next ≤ x := fun x hx => (hS2 x hx).elim (hS1 x) fun h => Nat.le_trans hk1.1 h
  refine WCode.mono ?_ (c74_spec (S := S2) T ho (h.kept hk12 (by simp)) hl (by rw [List.length_append]; omega) hR2 (fun x hx hx' => by have := hlt x hx'; have := hS2' x hx; omega) g0 g3)
  rintro x e3 s3 ⟨rfl, hk3, v3, S3, g2, hR3, hS3⟩
  simp -implicitDefEqProofs only [go_sem, g2]
  exact ⟨hR3.toV, hk12.comp hk3 (fun x hx => .inr (hS2' x hx)), fun x hx => by rw [wrOf_rowsO hR3] at hx; exact (hS3 x hx).elim (hS2' x) fun h => by have := hk12.1; omega⟩
end
end Go.Proofs.YtehgdocbabaldaaGreat


/-
  slices.Reverse at numbers; drop.
-/
set_option maxRecDepth 100000
set_option linter.unusedVariables false
set_option linter.unusedSimpArgs false
namespace Go.Proofs.YtehgdocbabaldaaGreat
open Go Go.Abs Go.Abs.K

theorem intsR_flat (zs : List Int) : (intsR zs).flatten = zs.map i64 := by
  induction zs with
  | nil => rfl
  | cons z zs ih => simp only [List.map_cons, List.flatten_cons, ih]; rfl
theorem intsR_ok (zs : List Int) : ∀ c ∈ intsR zs, c.length = 1 ∧ c.all isCell = true := fun c hc => by
  obtain ⟨k, _, rfl⟩ := List.mem_map.1 hc
  exact ⟨rfl, rfl⟩

def dropsM : DM → List Int → DM × Int
  | D, [] => (D, 0)
  | D, n :: r => if dropE D n = 7 then (dropD D n, 7) else dropsM (dropD D n) r

theorem dropD_loose (D : DM) (n : Int) : (dropD D n).loose.length ≤ D.loose.length := by
  unfold dropD
  have := List.length_filter_le (fun w : Int × Int => !(w.1 == n)) D.loose
  repeat' split
  all_goals (first | (simp only [wD]; omega) | omega)

section
variable {tbl : FuncId → Option AFun} {ov : CallSem} {s : St} (T : STbl tbl)
include T

theorem q75 {v : Value} {zs : List Int} {S : List Nat} (h : RowsO 3 1 s v (intsR zs) S) (hn : zs.length < 2 ^ 40) (h0 : 0 < zs.length) :
    WCall (fun k => call tbl ov k) 75 [v] s fun u s' => RowsO 3 1 s' v (intsR zs.reverse) S ∧ Kept S s s' := by
  refine WCall.of T.t75 rfl ?_
  obtain ⟨hz, ⟨rfl, h1, rfl⟩ | ⟨id, o, cap, c, rfl, rfl, h1, h2, h3, h4, h5⟩⟩ := h
  · cases zs with
    | nil => simp at h0
    | cons z zs => simp at h1
  · rw [List.length_map] at h1 h5 ⊢
    rw [intsR_flat, Nat.mul_one] at h5
    rw [Nat.mul_one] at h4
    have hget : ∀ k, k < zs.length → c[o + k]? = some (i64 (zs.getD k 0)) := fun k hk => by
      have := congrArg (fun l => l[k]?) h5
      simp only [List.getElem?_take, if_pos hk, List.getElem?_drop, List.getElem?_map, List.getElem?_eq_getElem hk, Option.map_some] at this
      rw [this, List.getD_eq_getElem?_getD, List.getElem?_eq_getElem hk, Option.getD_some]
    have w1 : IntKind.i64.wrap ((zs.length : Int) - 1) = (zs.length : Int) - 1 := by rw [IntKind.wrap_i64]; omega
    simp -implicitDefEqProofs only [fun75, code75, params, go_sem, w1]
    obtain ⟨I, hI⟩ : ∃ I : Nat → List Value → St → Prop, I = fun m vs s' => Kept [id] s s' ∧ s'.next = s.next ∧ ∃ (i : Nat) (c' : List Value), m = zs.length - i ∧ i ≤ zs.length ∧ vs = [.slice (some ⟨id, o, none⟩) zs.length cap, i64 (i : Nat), i64 ((zs.length : Int) - 1 - i)] ∧
      s'.heap.get id = some (.cells c' 3 1 false) ∧ c'.length = c.length ∧ ∀ k, k < zs.length → c'[o + k]? = some (i64 (if k < i ∨ zs.length - 1 - k < i then zs.getD (zs.length - 1 - k) 0 else zs.getD k 0)) := ⟨_, rfl⟩
    refine wc_loopV I zs.length ?_ ?_
    · simp -implicitDefEqProofs only [go_sem]
      rw [hI]
      refine ⟨Kept.refl _ _, rfl, 0, c, by omega, by omega, by simp, h3, rfl, fun k hk => ?_⟩
      rw [hget k hk]
      simp
    · intro m vs s1 hi _
      rw [hI] at hi
      obtain ⟨hk1, hnx, i, c', rfl, hil, rfl, g1, g2, g3⟩ := hi
      cases hlt : decide ((i : Int) < (zs.length : Int) - 1 - i)
      · have hge := of_decide_eq_false hlt
        simp -implicitDefEqProofs only [go_sem, hlt]
        refine ⟨⟨intsR_ok _, .inr ⟨id, o, cap, c', ?_, rfl, ?_, by omega, g1, by omega, ?_⟩⟩, hk1⟩
        · rw [List.length_map, List.length_reverse]
        · rw [List.length_map, List.length_reverse]; exact h1
        · rw [List.length_map, List.length_reverse, Nat.mul_one, intsR_flat]
          refine List.ext_getElem? fun k => ?_
          rw [List.getElem?_take, List.getElem?_drop]
          split
          · rename_i hk
            rw [g3 k hk, List.getElem?_map, List.getElem?_reverse hk]
            have hk2 : zs.length - 1 - k < zs.length := by omega
            rw [List.getElem?_eq_getElem hk2, Option.map_some]
            split
            · rw [List.getD_eq_getElem?_getD, List.getElem?_eq_getElem hk2, Option.getD_some]
            · rename_i hx
              have : zs.length - 1 - k = k := by omega
              simp only [this]
              rw [List.getD_eq_getElem?_getD, List.getElem?_eq_getElem hk, Option.getD_some]
          · rename_i hk
            rw [List.getElem?_map, List.getElem?_eq_none (by rw [List.length_reverse]; omega)]
            rfl
      · have hlt' := of_decide_eq_true hlt
        have hiN : i < zs.length := by omega
        obtain ⟨j, hj⟩ : ∃ j : Nat, j = zs.length - 1 - i := ⟨_, rfl⟩
        have hje : (zs.length : Int) - 1 - i = (j : Int) := by omega
        have hjN : j < zs.length := by omega
        have hij : i < j := by omega
        have gi := g3 i hiN
        have gj := g3 j hjN
        rw [if_neg (by omega)] at gi gj
        have i1 : 0 ≤ (i : Int) ∧ (i : Int) < (zs.length : Int) := by omega
        have i2 : 0 ≤ (j : Int) ∧ (j : Int) < (zs.length : Int) := by omega
        have b1 : o + i + 1 ≤ c'.length := by omega
        have b2 : o + j + 1 ≤ c'.length := by omega
        have w4 : IntKind.i64.wrap ((i : Int) + 1) = ((i + 1 : Nat) : Int) := by rw [IntKind.wrap_i64]; omega
        have w5 : IntKind.i64.wrap ((j : Int) - 1) = (zs.length : Int) - 1 - ((i + 1 : Nat) : Int) := by rw [IntKind.wrap_i64]; omega
        rw [hje] at hlt
        rw [hje]
        simp -implicitDefEqProofs only [go_sem, hlt, i1, i2, g1, gi, gj, b1, b2, Nat.mul_one, Nat.add_zero, w4, w5]
        rw [hI]
        refine ⟨zs.length - (i + 1), by omega, ⟨by simp only; omega, fun x hx hn => ?_⟩, hnx, i + 1, (c'.set (o + i) (i64 (zs.getD j 0))).set (o + j) (i64 (zs.getD i 0)), rfl, by omega, rfl, ?_, by rw [List.length_set, List.length_set]; exact g2, fun k hk => ?_⟩
        · have : ¬ x = id := by simpa using hn
          simp only [Heap.get_put, this, if_false]
          exact hk1.2 x hx hn
        · simp only [Heap.get_put, if_true]
        · rw [List.getElem?_set, List.getElem?_set]
          by_cases e1 : k = j
          · subst e1
            rw [if_pos rfl, if_pos (by rw [List.length_set]; omega), if_pos (.inr (by omega))]
            congr 3; omega
          · rw [if_neg (by omega)]
            by_cases e2 : k = i
            · subst e2
              rw [if_pos rfl, if_pos (by omega), if_pos (.inl (by omega))]
              congr 3
            · rw [if_neg (by omega), g3 k hk]
              by_cases e3 : k < i ∨ zs.length - 1 - k < i
              · rw [if_pos e3, if_pos (by omega)]
              · rw [if_neg e3, if_neg (by omega)]

theorem q76 {l p : Nat} {D : DM} {L : LM} {O OD V : List Nat} {lv : Value} {ns : List Int} (h : SRep s l p D L O OD V) (hr : RowV 1 s lv (intsR ns)) (hd : ∀ x ∈ wrOf lv, x ∉ OD) (hn : ns.length < 2 ^ 40) (hll : D.loose.length < 2 ^ 20) :
    WCall (fun k => call tbl ov k) 76 [ptr l, lv] s fun u s' => u = i64 (dropsM D ns).2 ∧ Kept OD s s' ∧ SRep s' l p (dropsM D ns).1 L O OD V := by
  refine WCall.of T.t76 rfl ?_
  obtain ⟨la, lc, hlv⟩ := hr.len
  rw [List.length_map] at hlv
  subst hlv
  simp -implicitDefEqProofs only [fun76, code76, params, go_sem]
  obtain ⟨I, hI⟩ : ∃ I : Nat → List Value → St → Prop, I = fun m vs s' => Kept OD s s' ∧ ∃ (i : Nat) (D1 : DM), i ≤ ns.length ∧ m = ns.length - i ∧ vs = [ptr l, .slice la ns.length lc, i64 (ns.length : Nat), i64 (i : Nat)] ∧
    SRep s' l p D1 L O OD V ∧ D1.loose.length < 2 ^ 20 ∧ dropsM D1 (ns.drop i) = dropsM D ns := ⟨_, rfl⟩
  refine wc_loopV I ns.length ?_ ?_
  · simp -implicitDefEqProofs only [go_sem]
    rw [hI]
    exact ⟨Kept.refl _ _, 0, D, by omega, by omega, rfl, h, hll, rfl⟩
  · intro m vs s1 hi _
    rw [hI] at hi
    obtain ⟨hk1, i, D1, hil, rfl, rfl, hS, hll1, hD1⟩ := hi
    cases hlt : decide ((i : Int) < (ns.length : Int))
    · have hie : i = ns.length := by have := of_decide_eq_false hlt; omega
      subst hie
      rw [List.drop_length] at hD1
      simp -implicitDefEqProofs only [go_sem, hlt]
      rw [← hD1]
      exact ⟨rfl, hk1, hS⟩
    · have hiN : i < ns.length := by have := of_decide_eq_true hlt; omega
      obtain ⟨k, hk⟩ : ∃ k, ns[i]? = some k := ⟨_, List.getElem?_eq_getElem hiN⟩
      obtain ⟨id, o, cap, cc, T', ro, hv, hid, hg, hgi⟩ := row1_at (hr.keptT hk1 hd) hiN hk
      cases hv
      have hix : 0 ≤ (i : Int) ∧ (i : Int) < (ns.length : Int) := by omega
      have w4 : IntKind.i64.wrap ((i : Int) + 1) = ((i + 1 : Nat) : Int) := by rw [IntKind.wrap_i64]; omega
      have hL := hS.l
      obtain ⟨ml, mw, es, c, es', c', h1, rfl, h2, h3, h4, h5, h6, h7, h8, h9, h10, h11, h12, h13, h14⟩ := hL
      simp -implicitDefEqProofs only [go_sem, hlt, hix, hg, hgi, Nat.add_zero, Nat.mul_one, h1]
      refine WCall.mono (p90 (ov := ov) T.d hS.d hll1) ?_
      rintro u s2 ⟨rfl, hk2, hd2⟩
      have hdr : ns.drop i = k :: ns.drop (i + 1) := by
        rw [List.drop_eq_getElem_cons hiN]
        congr 1
        rw [List.getElem?_eq_getElem hiN] at hk
        exact Option.some.inj hk
      have hS2 : SRep s2 l p (dropD D1 k) L [l, ml, mw] OD V := ⟨hS.l.kept hk2 fun x hx => (hS.dis x hx).1, hd2, hS.dis⟩
      rw [hdr] at hD1
      simp only [dropsM] at hD1
      cases he : (dropE D1 k == 7)
      · simp -implicitDefEqProofs only [go_sem, he, w4]
        rw [hI]
        rw [if_neg (by simpa using he)] at hD1
        exact ⟨ns.length - (i + 1), by omega, hk1.trans hk2, i + 1, dropD D1 k, by omega, rfl, rfl, hS2, Nat.lt_of_le_of_lt (dropD_loose ..) hll1, hD1⟩
      · simp -implicitDefEqProofs only [go_sem, he]
        rw [if_pos (by simpa using he)] at hD1
        rw [← hD1]
        exact ⟨by rw [show dropE D1 k = 7 by simpa using he], hk1.trans hk2, hS2⟩
end
end Go.Proofs.YtehgdocbabaldaaGreat
