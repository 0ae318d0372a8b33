/-
  lay: records into segments behind all others.
-/
import Derived.Test.YtehgdocbabaldaaGreatFP6
set_option maxRecDepth 100000
set_option linter.unusedVariables false
set_option linter.unusedSimpArgs false
namespace Go.Proofs.YtehgdocbabaldaaGreat
open Go Go.Abs Go.Abs.K

def encB (r : FRec) : List Int := if r.sound = true then recL r else []
def encE (r : FRec) : Int := if r.sound = true then 0 else 2
def syncM (D : DM) : DM := if wB D.first D.fails then { wD D with loose := [] } else wD D
def syncE (D : DM) : Int := if wB D.first D.fails then 0 else 7

def layM : DM → Int → Int → List Int → List FRec → DM × List Int × Int
  | D, at_, sz, news, [] => (syncM D, news, syncE D)
  | D, at_, sz, news, r :: rs =>
    let c : Bool := decide (((encB r).length : Int) > 2048 - sz)
    let at2 := if c then at_ + 1 else at_
    let sz2 := if c then 0 else sz
    let nw := if c then news ++ [at_ + 1] else news
    if appE D at2 (encB r).length = 0 then layM (appD D at2 (encB r)) at2 (sz2 + (encB r).length) nw rs else (appD D at2 (encB r), nw, appE D at2 (encB r).length)

theorem encB_len (r : FRec) : (encB r).length ≤ 1100 := by
  unfold encB
  split
  · rename_i h
    obtain ⟨h1, h2, _⟩ := r.of_sound h
    rw [recL_length, bodyL_length]; omega
  · simp

theorem appD_loose (D : DM) (n : Int) (bs : List Int) : (appD D n bs).loose.length ≤ D.loose.length + 1 := by
  unfold appD
  repeat' split
  all_goals (first | (simp only [wD, List.length_append, List.length_cons, List.length_nil]; omega) | omega)
theorem syncM_loose (D : DM) : (syncM D).loose.length ≤ D.loose.length := by
  unfold syncM
  split
  · exact Nat.zero_le _
  · exact Nat.le_refl _

def a73 : ACode := match code73 with | .seq _ (.seq _ (.seq _ (.seq _ (.seq (.seq _ (.block _ (.loop _ (.seq _ (.seq _ (.seq (.block _ x) _)))))) _)))) => x | _ => .skip
def c73 : ACode := match a73 with | .seq _ (.seq _ (.seq _ x)) => x | _ => .skip

theorem code73_eq : code73 =
 .seq (R [o 4 (.mov (.const (.slice none 0 0))), o 5 (.mov (i 0))])
 (.seq (R [o 14 (.mov (v 0)), o 15 (.nilCheck (v 14)), o 16 (.fieldAddr 2 (v 15)), o 17 (.load none (v 16)), o 18 (.bin .add (v 17) (i 1)), o 6 (.mov (v 18))])
 (.seq (R [o 19 (.mov (v 6)), o 20 (.buildSlice 3 1 1 [(.int .i64 0)] [(0, 1, (v 19))]), o 7 (.mov (v 20))])
 (.seq (R [o 8 (.mov (i 0))])
 (.seq (.seq (R [o 21 (.mov (v 1)), o 22 (.len .slice (v 21)), o 23 (.mov (i 0))])
  (.block 0 (.loop [0, 6, 7, 8, 21, 22, 23] (.seq (R [o 24 (.bin .lss (v 23) (v 22))])
    (.seq (.cond (v 24) (.skip)
     (.exit 0))
    (.seq (.block 1 (.seq (R [o 25 (.indexAddr 6 (v 21) (v 23)), o 26 (.load (some 6) (v 25)), o 10 (.alloc 70 [(.int .i64 0), (.int .i64 0), (.string ⟨#[]⟩), (.string ⟨#[]⟩), (.int .i64 0), (.int .i64 0)]), on (.store 6 (v 10) (v 26))])
      (.seq (R [o 28 (.load (some 6) (v 10)), o 29 (.call (.func 48) [(v 28)]), o 27 (.mov (v 29)), o 30 (.extract (v 27) 0), o 31 (.extract (v 27) 1), o 11 (.mov (v 30)), o 12 (.mov (v 31))])
      (.seq (.seq (R [o 32 (.mov (v 11)), o 33 (.len .slice (v 32)), o 34 (.mov (v 8)), o 35 (.bin .sub (i 2048) (v 34)), o 36 (.bin .gtr (v 33) (v 35))])
       (.cond (v 36) (.seq (R [o 37 (.mov (v 6)), o 38 (.bin .add (v 37) (i 1)), o 6 (.mov (v 38)), o 8 (.mov (i 0))])
        (R [o 39 (.mov (v 7)), o 40 (.mov (v 6)), o 41 (.buildSlice 3 1 1 [(.int .i64 0)] [(0, 1, (v 40))]), o 42 (.append 3 1 8 (v 39) (v 41)), o 7 (.mov (v 42))]))
       (.skip)))
      c73))))
    (R [o 58 (.bin .add (v 23) (i 1)), o 23 (.mov (v 58))])))))))
 (.seq (R [o 59 (.mov (v 7)), o 60 (.mov (v 0)), o 61 (.nilCheck (v 60)), o 62 (.fieldAddr 0 (v 61)), o 63 (.load none (v 62)), o 64 (.call (.func 51) [(v 63)]), o 4 (.mov (v 59)), o 5 (.mov (v 64))])
 (.ret)))))) := rfl

section
variable {tbl : FuncId → Option AFun} {ov : CallSem} {s : St} (T : STbl tbl)
include T

theorem q48 {r : FRec} (hw : r.Wide) : WCall (fun k => call tbl ov k) 48 [r.val] s fun u s' => ∃ x, u = .tuple #[x, i64 (encE r)] ∧ BytesV s' x (encB r) ∧ Kept [] s s' ∧ ∀ y ∈ wrOf x, s.next ≤ y := by
  refine WCall.mono (encode_spec (ov := ov) T.f hw) ?_
  rintro v s' ⟨hk, h1, h2⟩
  unfold encB encE
  cases hs : r.sound with
  | false => exact ⟨_, h1 hs, ⟨by simp, .inl ⟨rfl, rfl⟩⟩, hk, fun y hy => by cases hy⟩
  | true =>
    obtain ⟨w, hv, hb, S, ho, hS⟩ := h2 hs
    refine ⟨w, hv, hb, hk, fun y hy => hS y ?_⟩
    obtain ⟨_, ⟨rfl, _⟩ | ⟨id, o, cap, c, rfl, rfl, _⟩⟩ := ho
    · cases hy
    · exact hy
end

theorem wrOf_mem {v : Value} {id o l c : Nat} (e : v = .slice (some ⟨id, o, none⟩) l c) : id ∈ wrOf v := by rw [e]; exact List.mem_singleton.2 rfl

section
variable {tbl : FuncId → Option AFun} {ov : CallSem} {s : St} (T : STbl tbl)
include T

theorem c73_spec {l p : Nat} {D : DM} {L : LM} {O OD V : List Nat} {bv v7 : Value} {bs : List Int} {at_ sz : Int} {e : Env} (h : SRep s l p D L O OD V) (hb : BytesV s bv bs) (hbO : ∀ y ∈ wrOf bv, y ∉ OD) (hll : D.loose.length < 2 ^ 20) (hat : W64 at_) (hsz : 0 ≤ sz ∧ sz ≤ 2 ^ 40) (hbl : bs.length < 2 ^ 40)
    (g0 : e.get 0 = some (ptr l)) (g6 : e.get 6 = some (i64 at_)) (g7 : e.get 7 = some v7) (g8 : e.get 8 = some (i64 sz)) (g11 : e.get 11 = some bv) :
    WCode (fun k => call tbl ov k) c73 e s fun x e' s' => (Kept OD s s' ∧ ∃ OD' V', SRep s' l p (appD D at_ bs) L O OD' V' ∧ (∀ x ∈ OD', x ∈ OD ∨ s.next ≤ x) ∧ ∀ x ∈ V', x ∈ V ∨ s.next ≤ x) ∧
      ((appE D at_ bs.length = 0 ∧ x = .normal ∧ (∀ j, j < 8 ∨ (20 < j ∧ j < 24) → e'.get j = e.get j) ∧ e'.get 8 = some (i64 (sz + bs.length))) ∨
       (appE D at_ bs.length ≠ 0 ∧ x = .ret ∧ e'.get 4 = some v7 ∧ e'.get 5 = some (i64 (appE D at_ bs.length)))) := by
  have hL := h.l
  obtain ⟨ml, mw, es, c, es', c', h1, rfl, h2, h3, h4, h5, h6, h7, h8, h9, h10, h11, h12, h13, h14⟩ := hL
  obtain ⟨ba, bc, hbe⟩ := hb.len
  have w1 : IntKind.i64.wrap (sz + (bs.length : Int)) = sz + (bs.length : Int) := by rw [IntKind.wrap_i64]; omega
  simp -implicitDefEqProofs only [c73, a73, code73, go_sem, g0, g6, g11, h1]
  refine WCall.mono (p72 (ov := ov) T.d h.d hb (fun id o l c e => hbO id (wrOf_mem e)) hat hll) ?_
  rintro u s1 ⟨rfl, hk, OD', V', hd, hO, hV⟩
  have hP : Kept OD s s1 ∧ ∃ OD' V', SRep s1 l p (appD D at_ bs) L [l, ml, mw] OD' V' ∧ (∀ x ∈ OD', x ∈ OD ∨ s.next ≤ x) ∧ ∀ x ∈ V', x ∈ V ∨ s.next ≤ x := by
    refine ⟨hk, OD', V', ⟨h.l.kept hk fun x hx => (h.dis x hx).1, hd, fun x hx => ⟨fun hx' => ?_, fun hx' => ?_⟩⟩, hO, hV⟩
    · rcases hO x hx' with h' | h'
      · exact (h.dis x hx).1 h'
      · have := h.l.lt x hx; omega
    · rcases hV x hx' with h' | h'
      · exact (h.dis x hx).2 h'
      · have := h.l.lt x hx; omega
  cases he : (appE D at_ bs.length != 0)
  · subst hbe
    simp -implicitDefEqProofs only [go_sem, he, g8, g11, w1]
    refine ⟨hP, .inl ⟨by simpa using he, fun j hj => ?_⟩⟩
    simp (disch := omega) only [if_neg]
  · simp -implicitDefEqProofs only [go_sem, he, g7]
    exact ⟨hP, by simpa using he⟩

theorem q73 {l p : Nat} {D : DM} {L : LM} {O OD V : List Nat} {rv : Value} {rs : List FRec} (h : SRep s l p D L O OD V) (hr : RowV 6 s rv (recsR rs)) (hd : ∀ x ∈ wrOf rv, x ∉ OD) (hw : ∀ r ∈ rs, r.Wide) (hn : rs.length < 2 ^ 19) (hll : D.loose.length < 2 ^ 19) (hla : L.last < 2 ^ 62) :
    WCall (fun k => call tbl ov k) 73 [ptr l, rv] s fun u s' => ∃ v S, u = .tuple #[v, i64 (layM D (L.last + 1) 0 [L.last + 1] rs).2.2] ∧ RowsO 3 1 s' v (intsR (layM D (L.last + 1) 0 [L.last + 1] rs).2.1) S ∧ Kept OD s s' ∧
      ∃ OD' V', SRep s' l p (layM D (L.last + 1) 0 [L.last + 1] rs).1 L O OD' V' ∧ (∀ x ∈ OD', x ∈ OD ∨ s.next ≤ x) ∧ (∀ x ∈ V', x ∈ V ∨ s.next ≤ x) ∧ ∀ x ∈ S, s.next ≤ x ∧ x ∉ OD' ∧ x ∉ V' := by
  refine WCall.of T.t73 rfl ?_
  rw [show fun73.body = _ from code73_eq, show fun73.res = [.tmp 4, .tmp 5] from rfl]
  have hL := h.l
  obtain ⟨ml, mw, es, c, es', c', h1, rfl, h2, h3, h4, h5, h6, h7, h8, h9, h10, h11, h12, h13, h14⟩ := hL
  obtain ⟨la, lc, hlv⟩ := hr.len
  rw [List.length_map] at hlv
  subst hlv
  have hlw := h14.last
  unfold W64 at hlw
  have w0 : IntKind.i64.wrap (L.last + 1) = L.last + 1 := by rw [IntKind.wrap_i64]; omega
  have eb : ∀ g nx n, evP g nx (.buildSlice 3 1 1 [i64 0] [(0, 1, i64 n)]) = some ⟨.slice (some ⟨nx, 0, none⟩) 1 1, [(nx, some (.cells [i64 n] 3 1 false))], nx + 1⟩ := fun g nx n => rfl
  simp -implicitDefEqProofs only [params, go_sem, h1, w0, eb]
  obtain ⟨I, hI⟩ : ∃ I : Nat → List Value → St → Prop, I = fun m vs s' => Kept OD s s' ∧ ∃ (i : Nat) (D1 : DM) (OD1 V1 : List Nat) (at_ sz : Int) (news : List Int) (v : Value) (S : List Nat), i ≤ rs.length ∧ m = rs.length - i ∧ vs = [ptr l, i64 at_, v, i64 sz, .slice la rs.length lc, i64 (rs.length : Nat), i64 (i : Nat)] ∧
    SRep s' l p D1 L [l, ml, mw] OD1 V1 ∧ (∀ x ∈ OD1, x ∈ OD ∨ s.next ≤ x) ∧ (∀ x ∈ V1, x ∈ V ∨ s.next ≤ x) ∧ RowsO 3 1 s' v (intsR news) S ∧ (∀ x ∈ S, s.next ≤ x ∧ x ∉ OD1 ∧ x ∉ V1) ∧ D1.loose.length ≤ 2 ^ 19 + i ∧ news.length ≤ 1 + i ∧ L.last + 1 ≤ at_ ∧ at_ ≤ L.last + 1 + i ∧ 0 ≤ sz ∧ sz ≤ 1100 * i ∧
    layM D1 at_ sz news (rs.drop i) = layM D (L.last + 1) 0 [L.last + 1] rs := ⟨_, rfl⟩
  refine wc_loopV I rs.length ?_ ?_
  · simp -implicitDefEqProofs only [go_sem]
    rw [hI]
    have hk1 : Kept OD s ⟨s.heap.put s.next (some (.cells [i64 (L.last + 1)] 3 1 false)), s.next + 1⟩ := (kept_put_nil (Nat.le_refl _) (Nat.le_succ _)).sub (by simp)
    have hk0 : Kept [] s ⟨s.heap.put s.next (some (.cells [i64 (L.last + 1)] 3 1 false)), s.next + 1⟩ := kept_put_nil (Nat.le_refl _) (Nat.le_succ _)
    refine ⟨hk1, 0, D, OD, V, L.last + 1, 0, [L.last + 1], _, [s.next], by omega, by omega, rfl, h.kept hk0 (by simp) (by simp) (by simp), fun x hx => .inl hx, fun x hx => .inl hx, ⟨intsR_ok _, .inr ⟨s.next, 0, 1, [i64 (L.last + 1)], rfl, rfl, Nat.le_refl _, Nat.lt_succ_self _, by simp only [Heap.get_put, if_true], Nat.le_refl _, rfl⟩⟩, fun x hx => ?_, by omega, by simp, by omega, by omega, by omega, by omega, rfl⟩
    rw [List.mem_singleton.1 hx]
    exact ⟨Nat.le_refl _, fun hx => Nat.lt_irrefl _ (h.d.lt.1 _ hx), fun hx => Nat.lt_irrefl _ (h.d.lt.2 _ hx)⟩
  · intro m vs s1 hi _
    rw [hI] at hi
    obtain ⟨hk1, i, D1, OD1, V1, at_, sz, news, v, S, hil, rfl, rfl, hS, hO1, hV1, hR, hSn, hll1, hnl, ha1, ha2, hz1, hz2, hm⟩ := hi
    have hLl := hS.l
    obtain ⟨ml2, mw2, _, _, _, _, h1', hOe, _⟩ := hLl
    have hnn := hk1.1
    cases hlt : decide ((i : Int) < (rs.length : Int))
    · have hie : i = rs.length := by have := of_decide_eq_false hlt; omega
      subst hie
      rw [List.drop_length] at hm
      simp only [layM] at hm
      have hLl := hS.l
      have hD := p51 (ov := ov) T.d hS.d
      simp -implicitDefEqProofs only [go_sem, hlt, h1']
      refine WCall.mono hD ?_
      rintro u s2 ⟨rfl, hk2, OD2, hd2, hO2⟩
      simp -implicitDefEqProofs only [go_sem]
      rw [← hm]
      refine ⟨v, S, rfl, hR.kept hk2 fun x hx => (hSn x hx).2.1, hk1.comp hk2 hO1, OD2, V1, ⟨hS.l.kept hk2 fun x hx => (hS.dis x hx).1, hd2, fun x hx => ⟨fun h => (hS.dis x hx).1 (hO2 x h), (hS.dis x hx).2⟩⟩, fun x hx => hO1 x (hO2 x hx), hV1, fun x hx => ⟨(hSn x hx).1, fun h => (hSn x hx).2.1 (hO2 x h), (hSn x hx).2.2⟩⟩
    · have hiN : i < rs.length := by have := of_decide_eq_true hlt; omega
      obtain ⟨r, hk⟩ : ∃ r, rs[i]? = some r := ⟨_, List.getElem?_eq_getElem hiN⟩
      have hrm : r ∈ rs := List.mem_of_getElem? hk
      have hdr : rs.drop i = r :: rs.drop (i + 1) := by
        rw [List.drop_eq_getElem_cons hiN]
        congr 1
        rw [List.getElem?_eq_getElem hiN] at hk
        exact Option.some.inj hk
      rw [hdr] at hm
      obtain ⟨id, o, cap, cc, T', ro, hv, hid, hg, hle, hrw, hgi⟩ := row_one (hr.keptT hk1 hd) hiN hk
      cases hv
      have n1 : ¬ id = s1.next := by omega
      have hix : 0 ≤ (i : Int) ∧ (i : Int) < (rs.length : Int) := by omega
      have w4 : IntKind.i64.wrap ((i : Int) + 1) = ((i + 1 : Nat) : Int) := by rw [IntKind.wrap_i64]; omega
      have c1 : r.cells.length = 6 := rfl
      have c2 : r.cells.all isCell = true := rfl
      have c3 : storeL [i64 0, i64 0, .string ⟨#[]⟩, .string ⟨#[]⟩, i64 0, i64 0] 0 r.cells = r.cells := rfl
      have c4 : r.cells.take 6 = r.cells := rfl
      obtain ⟨s3, hs3⟩ : ∃ s3 : St, s3 = ⟨(s1.heap.put s1.next (some (.cells [i64 0, i64 0, .string ⟨#[]⟩, .string ⟨#[]⟩, i64 0, i64 0] 70 0 false))).put s1.next (some (.cells r.cells 70 0 false)), s1.next + 1⟩ := ⟨_, rfl⟩
      have hk3 : Kept [] s1 s3 := by
        rw [hs3]
        exact ⟨Nat.le_succ _, fun j hj _ => by have : ¬ j = s1.next := by omega
                                               simp only [Heap.get_put, this, if_false]⟩
      have hp3 : s3.heap.get s1.next = some (.cells r.cells 70 0 false) := by rw [hs3]; simp only [Heap.get_put, if_true]
      have hq := q48 (ov := ov) (s := s3) T (hw r hrm)
      have e34 : (Value.agg r.cells.toArray) = r.val := rfl
      simp -implicitDefEqProofs only [go_sem, hlt, hix, hg, hle, hrw, n1, Nat.add_zero, c1, c2, c3, c4, List.drop_zero, e34, ← hs3, hp3]
      refine WCall.mono hq ?_
      rintro u s4 ⟨bv, rfl, hbv, hk4, hbn⟩
      obtain ⟨ba, bc, hbe⟩ := hbv.len
      have hk34 := hk3.trans hk4
      have hS4 := hS.kept hk34 (by simp) (by simp) (by simp)
      have hR4 := hR.kept hk34 (by simp)
      have hlen := encB_len r
      have hbO : ∀ y ∈ wrOf bv, y ∉ OD1 := fun y hy h => by have := hbn y hy; have := hS.d.lt.1 y h; have := hk3.1; omega
      have w5 : IntKind.i64.wrap (2048 - sz) = 2048 - sz := by rw [IntKind.wrap_i64]; omega
      have w6 : IntKind.i64.wrap (at_ + 1) = at_ + 1 := by rw [IntKind.wrap_i64]; omega
      subst hbe
      simp only [layM] at hm
      cases hc : decide (((encB r).length : Int) > 2048 - sz)
      · rw [hc] at hm
        simp only [Bool.false_eq_true, if_false] at hm
        simp -implicitDefEqProofs only [go_sem, w5, hc]
        refine WCode.mono ?_ (c73_spec (bs := encB r) (at_ := at_) (sz := sz) T hS4 hbv hbO (by omega) (by unfold W64; omega) (by omega) (by omega) (by rfl) (by rfl) (by rfl) (by rfl) (by rfl))
        rintro x e5 s5 ⟨⟨hk5, OD5, V5, hS5, hO5, hV5⟩, ⟨he, rfl, gj, g8⟩ | ⟨he, rfl, g4, g5⟩⟩
        · rw [if_pos he] at hm
          have ga := gj 0 (by omega); have gb := gj 6 (by omega); have gc := gj 7 (by omega); have gd := gj 21 (by omega); have ge := gj 22 (by omega); have gf := gj 23 (by omega)
          simp -implicitDefEqProofs only [get_cons, Nat.reduceEqDiff, if_true, if_false] at ga gb gc gd ge gf
          simp -implicitDefEqProofs only [go_sem, ga, gb, gc, gd, ge, gf, g8, w4]
          rw [hI]
          refine ⟨rs.length - (i + 1), by omega, hk1.comp ((hk34.sub (T := OD1) (by simp)).trans hk5) hO1, i + 1, _, OD5, V5, at_, _, news, v, S, by omega, rfl, rfl, hS5, fun x hx => ?_, fun x hx => ?_, hR4.kept hk5 (fun x hx => (hSn x hx).2.1), fun x hx => ⟨(hSn x hx).1, fun h => ?_, fun h => ?_⟩, Nat.le_trans (appD_loose ..) (by omega), by omega, by omega, by omega, by omega, by omega, hm⟩
          all_goals have hk34n := hk34.1
          · exact (hO5 x hx).elim (hO1 x) fun h => .inr (by omega)
          · exact (hV5 x hx).elim (hV1 x) fun h => .inr (by omega)
          · have := hR.lt x hx
            exact (hO5 x h).elim (hSn x hx).2.1 fun h => by omega
          · have := hR.lt x hx
            exact (hV5 x h).elim (hSn x hx).2.2 fun h => by omega
        · rw [if_neg he] at hm
          simp -implicitDefEqProofs only [go_sem, g4, g5]
          rw [← hm]
          refine ⟨v, S, rfl, hR4.kept hk5 (fun x hx => (hSn x hx).2.1), hk1.comp ((hk34.sub (T := OD1) (by simp)).trans hk5) hO1, OD5, V5, hS5, fun x hx => ?_, fun x hx => ?_, fun x hx => ⟨(hSn x hx).1, fun h => ?_, fun h => ?_⟩⟩
          all_goals have hk34n := hk34.1
          · exact (hO5 x hx).elim (hO1 x) fun h => .inr (by omega)
          · exact (hV5 x hx).elim (hV1 x) fun h => .inr (by omega)
          · have := hR.lt x hx
            exact (hO5 x h).elim (hSn x hx).2.1 fun h => by omega
          · have := hR.lt x hx
            exact (hV5 x h).elim (hSn x hx).2.2 fun h => by omega
      · rw [hc] at hm
        simp only [if_true] at hm
        obtain ⟨val, sx, hpe, hR5, hk5, hS5⟩ := hR4.push (b := 8) (c := [i64 (at_ + 1)]) rfl rfl (by simp; omega) (by omega)
        simp -implicitDefEqProofs only [go_sem, w5, w6, hc, eb, hpe]
        obtain ⟨s6, hs6⟩ : ∃ s6 : St, s6 = ⟨applyUpd (s4.heap.put s4.next (some (.cells [i64 (at_ + 1)] 3 1 false))) sx.1, sx.2⟩ := ⟨_, rfl⟩
        rw [← hs6] at hR5 hk5 ⊢
        have hk5n := hk5.1
        have hk34n := hk34.1
        have hS6 := hS4.kept hk5 (fun x hx hx' => (by have := hS.l.lt x hx; have := (hSn x hx').1; have := h.l.lt x (by simpa using hx); omega)) (fun x hx hx' => (hSn x hx').2.1 hx) (fun x hx hx' => (hSn x hx').2.2 hx)
        have hbv6 : BytesV s6 (.slice ba (encB r).length bc) (encB r) :=
          BytesV.kept' (t := 0) (w := undefV) (zs := encB r) (ws := []) hbv hk5 (fun id o n c e hx => by have := hbn id (wrOf_mem e); have := hR.lt id hx; have := hk3.1; omega)
        have hSn5 : ∀ x ∈ wrOf val, s.next ≤ x ∧ x ∉ OD1 ∧ x ∉ V1 := fun x hx => (hS5 x hx).elim (hSn x) fun h => ⟨by omega, fun h' => by have := hS.d.lt.1 x h'; omega, fun h' => by have := hS.d.lt.2 x h'; omega⟩
        have hSlt := hR5.lt
        have hnl5 : (news ++ [at_ + 1]).length = news.length + 1 := by simp
        have hR5' : RowsO 3 1 s6 val (intsR (news ++ [at_ + 1])) (wrOf val) := by rw [intsR, List.map_append]; exact hR5
        have hk16 : Kept OD s s6 := (hk1.comp (hk34.sub (T := []) (by simp)) (by simp)).comp hk5 (fun x hx => .inr (hSn x hx).1)
        refine WCode.mono ?_ (c73_spec (bs := encB r) (at_ := at_ + 1) (sz := 0) T hS6 hbv6 hbO (by omega) (by unfold W64; omega) (by omega) (by omega) (by rfl) (by rfl) (by rfl) (by rfl) (by rfl))
        rintro x e7 s7 ⟨⟨hk7, OD7, V7, hS7, hO7, hV7⟩, ⟨he, rfl, gj, g8⟩ | ⟨he, rfl, g4, g5⟩⟩
        · rw [if_pos he] at hm
          have ga := gj 0 (by omega); have gb := gj 6 (by omega); have gc := gj 7 (by omega); have gd := gj 21 (by omega); have ge := gj 22 (by omega); have gf := gj 23 (by omega)
          simp -implicitDefEqProofs only [get_cons, Nat.reduceEqDiff, if_true, if_false] at ga gb gc gd ge gf
          simp -implicitDefEqProofs only [go_sem, ga, gb, gc, gd, ge, gf, g8, w4]
          rw [hI]
          refine ⟨rs.length - (i + 1), by omega, hk16.comp hk7 hO1, i + 1, _, OD7, V7, at_ + 1, _, news ++ [at_ + 1], val, wrOf val, by omega, rfl, rfl, hS7, fun x hx => ?_, fun x hx => ?_, hR5'.kept hk7 (fun x hx => (hSn5 x hx).2.1), fun x hx => ⟨(hSn5 x hx).1, fun h => ?_, fun h => ?_⟩, Nat.le_trans (appD_loose ..) (by omega), by omega, by omega, by omega, by omega, by omega, hm⟩
          · exact (hO7 x hx).elim (hO1 x) fun h => .inr (by omega)
          · exact (hV7 x hx).elim (hV1 x) fun h => .inr (by omega)
          · have := hSlt x hx
            exact (hO7 x h).elim (hSn5 x hx).2.1 fun h => by omega
          · have := hSlt x hx
            exact (hV7 x h).elim (hSn5 x hx).2.2 fun h => by omega
        · rw [if_neg he] at hm
          simp -implicitDefEqProofs only [go_sem, g4, g5]
          rw [← hm]
          refine ⟨val, wrOf val, rfl, hR5'.kept hk7 (fun x hx => (hSn5 x hx).2.1), hk16.comp hk7 hO1, OD7, V7, hS7, fun x hx => ?_, fun x hx => ?_, fun x hx => ⟨(hSn5 x hx).1, fun h => ?_, fun h => ?_⟩⟩
          · exact (hO7 x hx).elim (hO1 x) fun h => .inr (by omega)
          · exact (hV7 x hx).elim (hV1 x) fun h => .inr (by omega)
          · have := hSlt x hx
            exact (hO7 x h).elim (hSn5 x hx).2.1 fun h => by omega
          · have := hSlt x hx
            exact (hV7 x h).elim (hSn5 x hx).2.2 fun h => by omega
end
end Go.Proofs.YtehgdocbabaldaaGreat


/-
  Compact; add.
-/
set_option maxRecDepth 100000
set_option linter.unusedVariables false
set_option linter.unusedSimpArgs false
namespace Go.Proofs.YtehgdocbabaldaaGreat
open Go Go.Abs Go.Abs.K

def compactM (D : DM) (L : LM) : DM × LM × Int :=
  let x := layM D (L.last + 1) 0 [L.last + 1] (recsL L)
  if x.2.2 = 0 then ((dropsM x.1 (keysF D)).1, { L with last := x.2.1.getLastD 0 }, (dropsM x.1 (keysF D)).2)
  else ((dropsM x.1 x.2.1.reverse).1, { L with last := x.2.1.getLastD 0 }, x.2.2)

def writeM (D : DM) (L : LM) (bs : List Int) : DM × LM × Int := (wrD D L bs, wrL D L bs.length, wrE D L bs.length)
def roomM (D : DM) (L : LM) (bs : List Int) : DM × LM × Int :=
  let x := writeM D L bs
  if x.2.2 = 5 then
    let c := compactM x.1 x.2.1
    if c.2.2 = 0 then writeM c.1 c.2.1 bs else c
  else x
def addM (D : DM) (L : LM) (r : FRec) : DM × LM × Int :=
  if r.sound = true then
    let x := roomM D L (recL r)
    if x.2.2 = 0 then (syncM x.1, x.2.1, syncE x.1) else x
  else (D, L, 2)

theorem layM_news : ∀ (rs : List FRec) (D : DM) (at_ sz : Int) (news : List Int), news ≠ [] → news.getLastD 0 = at_ →
    (layM D at_ sz news rs).2.1 ≠ [] ∧ (layM D at_ sz news rs).2.1.length ≤ news.length + rs.length ∧ at_ ≤ (layM D at_ sz news rs).2.1.getLastD 0 ∧ (layM D at_ sz news rs).2.1.getLastD 0 ≤ at_ + rs.length ∧ (layM D at_ sz news rs).1.loose.length ≤ D.loose.length + rs.length := by
  intro rs
  induction rs with
  | nil =>
    intro D at_ sz news h0 h1
    simp only [layM, List.length_nil, Nat.add_zero, Nat.le_refl, true_and]
    exact ⟨h0, by omega, by rw [h1]; omega, syncM_loose D⟩
  | cons r rs ih =>
    intro D at_ sz news h0 h1
    simp only [layM, List.length_cons]
    have ha := appD_loose D
    cases hc : decide (((encB r).length : Int) > 2048 - sz)
    · simp only [Bool.false_eq_true, if_false]
      split
      · have hi := ih (appD D at_ (encB r)) at_ (sz + (encB r).length) news h0 h1
        have := ha at_ (encB r)
        exact ⟨hi.1, by omega, by omega, by omega, by omega⟩
      · have := ha at_ (encB r)
        refine ⟨h0, by simp only; omega, by simp only; omega, by simp only; omega, by simp only; omega⟩
    · simp only [if_true]
      split
      · have hi := ih (appD D (at_ + 1) (encB r)) (at_ + 1) (0 + (encB r).length) (news ++ [at_ + 1]) (by simp) (by simp)
        have := ha (at_ + 1) (encB r)
        have hl : (news ++ [at_ + 1]).length = news.length + 1 := by simp
        exact ⟨hi.1, by omega, by omega, by omega, by omega⟩
      · have := ha (at_ + 1) (encB r)
        have hl : (news ++ [at_ + 1]).length = news.length + 1 := by simp
        have hl2 : (news ++ [at_ + 1]).getLastD 0 = at_ + 1 := by simp
        exact ⟨by simp, by simp only; omega, by simp only; omega, by simp only; omega, by simp only; omega⟩

theorem dropsM_loose : ∀ (ns : List Int) (D : DM), (dropsM D ns).1.loose.length ≤ D.loose.length := by
  intro ns
  induction ns with
  | nil => intro D; exact Nat.le_refl _
  | cons n ns ih =>
    intro D
    simp only [dropsM]
    have := dropD_loose D n
    split
    · exact this
    · exact Nat.le_trans (ih _) this

theorem recsL_len (L : LM) : (recsL L).length ≤ L.wait.length + L.live.length + 1 := by
  have h1 : (waitsR L).length = L.wait.length := by rw [waitsR, List.length_map, hostsL_len]
  have h2 : (tellR L).length ≤ 1 := by unfold tellR; split <;> simp
  have h3 : (putsR L).length = L.live.length := by rw [putsR, List.length_map, pendL, List.length_map, idsL_len]
  simp only [recsL, List.length_append]; omega

theorem recsL_wide {L : LM} (h : LW L) (hn : 1 ≤ L.next) : ∀ r ∈ recsL L, r.Wide := by
  intro r hr
  simp only [recsL, List.mem_append] at hr
  rcases hr with (hr | hr) | hr
  · obtain ⟨b, hb, rfl⟩ := List.mem_map.1 hr
    refine ⟨by simp [waitF], ?_, by simp [waitF], by simp [waitF]⟩
    simp only [waitF]
    cases hq : lookG L.wait b with
    | none => simp
    | some t => have := (h.wait _ (lookG_mem hq)).1; simpa [W64] using this
  · unfold tellR at hr
    split at hr
    · cases hr
    · rw [List.mem_singleton.1 hr]
      have := h.next
      unfold W64 at this
      exact ⟨by simp only [doneF]; omega, by simp [doneF], by simp [doneF], by simp [doneF]⟩
  · obtain ⟨q, hq, rfl⟩ := List.mem_map.1 hr
    obtain ⟨k, hk, rfl⟩ := List.mem_map.1 hq
    cases hx : lookG L.live k with
    | none => exact ⟨by simp [RQ.toF, RQ0], by simp [RQ.toF, RQ0], by simp [RQ.toF], by simp [RQ.toF, RQ0]⟩
    | some q =>
      have := (h.live _ (lookG_mem hx)).2
      exact ⟨this.id, this.till, by simp [RQ.toF], this.prio⟩

theorem compactM_facts (D : DM) (L : LM) : (compactM D L).2.1 = { L with last := (compactM D L).2.1.last } ∧ L.last + 1 ≤ (compactM D L).2.1.last ∧ (compactM D L).2.1.last ≤ L.last + 1 + (recsL L).length ∧ (compactM D L).1.loose.length ≤ D.loose.length + (recsL L).length := by
  have h := layM_news (recsL L) D (L.last + 1) 0 [L.last + 1] (by simp) (by simp)
  unfold compactM
  simp only
  split
  · refine ⟨rfl, h.2.2.1, h.2.2.2.1, Nat.le_trans (dropsM_loose ..) h.2.2.2.2⟩
  · refine ⟨rfl, h.2.2.1, h.2.2.2.1, Nat.le_trans (dropsM_loose ..) h.2.2.2.2⟩

/-! ### fields of a log -/
def logC (p ml mw : Nat) (L : LM) : List Value := [ptr p, i64 L.most, i64 L.last, .map (some ml), .map (some mw), i64 L.next]

theorem SRep.setLast {s : St} {l p : Nat} {D : DM} {L : LM} {O OD V : List Nat} (h : SRep s l p D L O OD V) : ∃ ml mw, s.heap.get l = some (.cells (logC p ml mw L) 61 0 false) ∧ l < s.next ∧ l ∈ O ∧
    ∀ n, W64 n → SRep ⟨s.heap.put l (some (.cells (logC p ml mw { L with last := n }) 61 0 false)), s.next⟩ l p D { L with last := n } O OD V ∧ Kept [l] s ⟨s.heap.put l (some (.cells (logC p ml mw { L with last := n }) 61 0 false)), s.next⟩ := by
  obtain ⟨⟨ml, mw, es, c, es', c', h1, rfl, h2, h3, h4, h5, h6, h7, h8, h9, h10, h11, h12, h13, h14⟩, hd, hdis⟩ := h
  refine ⟨ml, mw, h1, h11, by simp, fun n hn => ?_⟩
  have n1 : ¬ ml = l := fun e => h8 e.symm
  have n2 : ¬ mw = l := fun e => h9 e.symm
  have hk2 : Kept [l] s ⟨s.heap.put l (some (.cells (logC p ml mw { L with last := n }) 61 0 false)), s.next⟩ := kept_put1 (Nat.le_refl _)
  have hlx : ∀ x ∈ OD, x ∉ [l] := fun x hx e => by rw [List.mem_singleton.1 e] at hx; exact (hdis l (by simp)).1 hx
  have hlv : ∀ x ∈ V, x ∉ [l] := fun x hx e => by rw [List.mem_singleton.1 e] at hx; exact (hdis l (by simp)).2 hx
  exact ⟨⟨⟨ml, mw, es, c, es', c', by simp only [Heap.get_put, if_true]; rfl, rfl, by simp only [Heap.get_put, n1, if_false]; exact h2, h3, h4, by simp only [Heap.get_put, n2, if_false]; exact h5, h6, h7, h8, h9, h10, h11, h12, h13, ⟨h14.most, hn, h14.next, h14.live, h14.wait⟩⟩, hd.kept hk2 hlx hlv, hdis⟩, hk2⟩

theorem SRep.setNext {s : St} {l p : Nat} {D : DM} {L : LM} {O OD V : List Nat} (h : SRep s l p D L O OD V) : ∃ ml mw, s.heap.get l = some (.cells (logC p ml mw L) 61 0 false) ∧ l < s.next ∧ l ∈ O ∧
    ∀ n, W64 n → SRep ⟨s.heap.put l (some (.cells (logC p ml mw { L with next := n }) 61 0 false)), s.next⟩ l p D { L with next := n } O OD V ∧ Kept [l] s ⟨s.heap.put l (some (.cells (logC p ml mw { L with next := n }) 61 0 false)), s.next⟩ := by
  obtain ⟨⟨ml, mw, es, c, es', c', h1, rfl, h2, h3, h4, h5, h6, h7, h8, h9, h10, h11, h12, h13, h14⟩, hd, hdis⟩ := h
  refine ⟨ml, mw, h1, h11, by simp, fun n hn => ?_⟩
  have n1 : ¬ ml = l := fun e => h8 e.symm
  have n2 : ¬ mw = l := fun e => h9 e.symm
  have hk2 : Kept [l] s ⟨s.heap.put l (some (.cells (logC p ml mw { L with next := n }) 61 0 false)), s.next⟩ := kept_put1 (Nat.le_refl _)
  have hlx : ∀ x ∈ OD, x ∉ [l] := fun x hx e => by rw [List.mem_singleton.1 e] at hx; exact (hdis l (by simp)).1 hx
  have hlv : ∀ x ∈ V, x ∉ [l] := fun x hx e => by rw [List.mem_singleton.1 e] at hx; exact (hdis l (by simp)).2 hx
  exact ⟨⟨⟨ml, mw, es, c, es', c', by simp only [Heap.get_put, if_true]; rfl, rfl, by simp only [Heap.get_put, n1, if_false]; exact h2, h3, h4, by simp only [Heap.get_put, n2, if_false]; exact h5, h6, h7, h8, h9, h10, h11, h12, h13, ⟨h14.most, h14.last, hn, h14.live, h14.wait⟩⟩, hd.kept hk2 hlx hlv, hdis⟩, hk2⟩

structure GrownS (s s' : St) (O OD V OD' V' : List Nat) : Prop where
  k : Kept (O ++ OD) s s'
  o : ∀ x ∈ OD', x ∈ OD ∨ s.next ≤ x
  v : ∀ x ∈ V', x ∈ V ∨ s.next ≤ x

theorem GrownS.refl (s : St) (O OD V : List Nat) : GrownS s s O OD V OD V := ⟨Kept.refl _ _, fun _ h => .inl h, fun _ h => .inl h⟩
theorem GrownS.trans {s s1 s2 : St} {O OD V OD1 V1 OD2 V2 : List Nat} (h : GrownS s s1 O OD V OD1 V1) (k : GrownS s1 s2 O OD1 V1 OD2 V2) : GrownS s s2 O OD V OD2 V2 := by
  have hn := h.k.1
  refine ⟨h.k.comp k.k fun x hx => ?_, fun x hx => ?_, fun x hx => ?_⟩
  · rcases List.mem_append.1 hx with hx | hx
    · exact .inl (List.mem_append_left _ hx)
    · exact (h.o x hx).imp_left fun h => List.mem_append_right _ h
  · rcases k.o x hx with hx | hx
    · exact h.o x hx
    · exact .inr (by omega)
  · rcases k.v x hx with hx | hx
    · exact h.v x hx
    · exact .inr (by omega)
theorem GrownS.kept {s s1 : St} {O OD V : List Nat} (h : Kept [] s s1) : GrownS s s1 O OD V OD V := ⟨h.sub (by simp), fun _ h => .inl h, fun _ h => .inl h⟩
theorem GrownS.one {s s1 : St} {O OD V T : List Nat} (h : Kept T s s1) (hT : ∀ x ∈ T, x ∈ O) : GrownS s s1 O OD V OD V := ⟨h.sub fun x hx => List.mem_append_left _ (hT x hx), fun _ h => .inl h, fun _ h => .inl h⟩
theorem GrownS.disk {s s1 : St} {O OD V : List Nat} (h : Kept OD s s1) : GrownS s s1 O OD V OD V := ⟨h.sub fun x hx => List.mem_append_right _ hx, fun _ h => .inl h, fun _ h => .inl h⟩

def b50 : ACode := match code50 with | .seq _ (.seq _ (.seq _ (.seq _ x))) => x | _ => .skip
theorem code50_eq : code50 = .seq (R [o 2 (.mov (i 0))]) (.seq (.seq (R [o 6 (.mov (v 0)), o 7 (.eq false .pointer (v 6) (.const (.pointer none)))]) (.cond (v 7) (.seq (R [o 2 (.mov (i 1))]) (.ret)) (.skip)))
 (.seq (R [o 8 (.mov (v 0)), o 9 (.nilCheck (v 8)), o 10 (.fieldAddr 0 (v 9)), o 11 (.load none (v 10)), o 12 (.call (.func 24) [(v 11)]), o 3 (.mov (v 12))])
 (.seq (R [o 14 (.mov (v 0)), o 15 (.mov (v 0)), o 16 (.call (.func 74) [(v 15)]), o 17 (.call (.func 73) [(v 14), (v 16)]), o 13 (.mov (v 17)), o 18 (.extract (v 13) 0), o 19 (.extract (v 13) 1), o 4 (.mov (v 18)), o 5 (.mov (v 19))])
 b50))) := rfl

section
variable {tbl : FuncId → Option AFun} {ov : CallSem} {s : St} (T : STbl tbl)
include T

theorem q50 (ho : OvS ov) {l p : Nat} {D : DM} {L : LM} {O OD V : List Nat} (h : SRep s l p D L O OD V) (hn : 1 ≤ L.next) (hl : L.live.length < 2 ^ 17) (hw : L.wait.length < 2 ^ 17) (hll : D.loose.length < 2 ^ 18) (hla : L.last < 2 ^ 61) :
    WCall (fun k => call tbl ov k) 50 [ptr l] s fun u s' => u = i64 (compactM D L).2.2 ∧ ∃ OD' V', SRep s' l p (compactM D L).1 (compactM D L).2.1 O OD' V' ∧ GrownS s s' O OD V OD' V' := by
  refine WCall.of T.t50 rfl ?_
  rw [show fun50.body = _ from code50_eq, show fun50.res = [.tmp 2] from rfl]
  have hLW := h.l.wide
  obtain ⟨ml, mw, h1, h11, hlO, _⟩ := h.setLast
  have hrl := recsL_len L
  have hnw := layM_news (recsL L) D (L.last + 1) 0 [L.last + 1] (by simp) (by simp)
  rw [show [L.last + 1].length = 1 from rfl] at hnw
  obtain ⟨X, hX⟩ : ∃ X, X = layM D (L.last + 1) 0 [L.last + 1] (recsL L) := ⟨_, rfl⟩
  simp -implicitDefEqProofs only [params, go_sem, h1, logC]
  refine WCall.mono (p24 (ov := ov) T.d ho.o h.d) ?_
  rintro u s1 ⟨hr1, hk1, hnew1⟩
  have hS1 := h.kept hk1 (by simp) (by simp) (by simp)
  simp -implicitDefEqProofs only [go_sem]
  refine WCall.mono (q74 (ov := ov) T ho hS1.l hn (by omega) (by omega)) ?_
  rintro u2 s2 ⟨hr2, hk2, hnew2⟩
  have hS2 := hS1.kept hk2 (by simp) (by simp) (by simp)
  have hn1 := hk1.1
  have hn2 := hk2.1
  simp -implicitDefEqProofs only [go_sem]
  refine WCall.mono (q73 (ov := ov) T hS2 hr2 (fun x hx h' => by have := hnew2 x hx; have := hS1.d.lt.1 x h'; omega) (recsL_wide hLW hn) (by omega) (by omega) (by omega)) ?_
  rintro u3 s3 ⟨nv, S, rfl, hN, hk3, OD3, V3, hS3, hO3, hV3, hS⟩
  rw [← hX] at hN hS3 hnw ⊢
  have hG3 : GrownS s s3 O OD V OD3 V3 := ⟨(hk1.trans hk2).sub (T := O ++ OD) (by simp) |>.comp hk3 (fun x hx => .inl (List.mem_append_right _ hx)), fun x hx => (hO3 x hx).imp_right fun h => by omega, fun x hx => (hV3 x hx).imp_right fun h => by omega⟩
  obtain ⟨na, nc, hnv⟩ := hN.toV.len
  rw [List.length_map] at hnv
  subst hnv
  have hn0 : 0 < X.2.1.length := List.length_pos_iff.2 hnw.1
  have hlastE : X.2.1[X.2.1.length - 1]? = some (X.2.1.getLastD 0) := by
    rw [List.getLastD_eq_getLast?, List.getLast?_eq_getElem?]
    cases hq : X.2.1[X.2.1.length - 1]? with
    | none => rw [List.getElem?_eq_none_iff] at hq; omega
    | some z => rfl
  obtain ⟨id, o, cap, cc, T', ro, hv, hid, hg, hgi⟩ := row1_at hN.toV (i := X.2.1.length - 1) (by omega) hlastE
  cases hv
  obtain ⟨ml3, mw3, g1, g11, _, hset⟩ := hS3.setLast
  have hlW := hLW.last
  unfold W64 at hlW
  obtain ⟨hS4, hk4⟩ := hset (X.2.1.getLastD 0) (by unfold W64; omega)
  simp only [logC] at g1 hS4 hk4
  have w1 : IntKind.i64.wrap ((X.2.1.length : Int) - 1) = ((X.2.1.length - 1 : Nat) : Int) := by rw [IntKind.wrap_i64]; omega
  have hix : 0 ≤ ((X.2.1.length - 1 : Nat) : Int) ∧ ((X.2.1.length - 1 : Nat) : Int) < (X.2.1.length : Int) := by omega
  have hlS : ∀ x ∈ S, x ∉ [l] := fun x hx hx' => by rw [List.mem_singleton.1 hx'] at hx; have := (hS l hx).1; omega
  obtain ⟨s4, hs4⟩ : ∃ s4 : St, s4 = ⟨s3.heap.put l (some (.cells [ptr p, i64 L.most, i64 (X.2.1.getLastD 0), .map (some ml3), .map (some mw3), i64 L.next] 61 0 false)), s3.next⟩ := ⟨_, rfl⟩
  rw [← hs4] at hS4 hk4
  have hG4 : GrownS s s4 O OD V OD3 V3 := hG3.trans (GrownS.one hk4 fun x hx => by rw [List.mem_singleton.1 hx]; exact hlO)
  have hN4 := hN.kept hk4 hlS
  have hWL := wrOf_rowsO hN4
  simp -implicitDefEqProofs only [b50, code50, go_sem, w1, hix, hg, hgi, Nat.mul_one, Nat.add_zero, g1, ← hs4]
  have hcm : compactM D L = if X.2.2 = 0 then ((dropsM X.1 (keysF D)).1, { L with last := X.2.1.getLastD 0 }, (dropsM X.1 (keysF D)).2)
    else ((dropsM X.1 X.2.1.reverse).1, { L with last := X.2.1.getLastD 0 }, X.2.2) := by rw [hX]; rfl
  cases he : (X.2.2 != 0)
  · rw [if_pos (by simpa using he)] at hcm
    rw [hcm]
    simp -implicitDefEqProofs only [go_sem, he]
    have hklen : (keysF D).length < 2 ^ 40 := by
      obtain ⟨m, lv, S, es, clock, _, _, _, _, _, _, _, _, _, _, _, _, hw⟩ := h.d
      have := hw.fit; have := hw.most
      simp only [sortZ_length, List.length_map]; omega
    have hu4 : RowV 1 s4 u (intsR (keysF D)) := ((hr1.kept hk2).keptT hk3 (fun x hx h' => by have := hnew1 x hx; have := h.d.lt.1 x h'; omega)).keptT hk4 (fun x hx h' => by rw [List.mem_singleton.1 h'] at hx; have := hnew1 l hx; omega)
    have hu4l := wrOf_rowV hr1
    refine WCall.mono (q76 (ov := ov) T hS4 hu4 (fun x hx h' => by have := hnew1 x hx; have := hu4l x hx; rcases hO3 x h' with h' | h'; (have := h.d.lt.1 x h'; omega); omega) hklen (by have := hnw.2.2.2.2; omega)) ?_
    rintro u5 s5 ⟨rfl, hk5, hS5⟩
    simp -implicitDefEqProofs only [go_sem]
    exact ⟨OD3, V3, hS5, hG4.trans (GrownS.disk hk5)⟩
  · rw [if_neg (by simpa using he)] at hcm
    rw [hcm]
    simp -implicitDefEqProofs only [go_sem, he]
    refine WCall.mono (q75 (ov := ov) T hN4 (by omega) hn0) ?_
    rintro u5 s5 ⟨hR5, hk5⟩
    have hS5 : SRep s5 l p X.1 _ O OD3 V3 := hS4.kept hk5 (fun x hx hx' => by have := (hS x hx').1; have := h.l.lt x hx; omega) (fun x hx hx' => (hS x hx').2.1 hx) (fun x hx hx' => (hS x hx').2.2 hx)
    have hrv : X.2.1.length = X.2.1.reverse.length := by simp
    have hWL5 := wrOf_rowsO hR5
    simp -implicitDefEqProofs only [go_sem]
    refine WCall.mono (q76 (ov := ov) (ns := X.2.1.reverse) T hS5 hR5.toV (fun x hx h' => by rw [hWL5] at hx; exact (hS x hx).2.1 h') (by rw [← hrv]; omega) (by have := hnw.2.2.2.2; omega)) ?_
    rintro u6 s6 ⟨_, hk6, hS6⟩
    simp -implicitDefEqProofs only [go_sem]
    have hG5 : GrownS s s5 O OD V OD3 V3 := ⟨hG4.k.comp hk5 fun x hx => .inr (by have := (hS x hx).1; omega), hG4.o, hG4.v⟩
    exact ⟨OD3, V3, hS6, hG5.trans (GrownS.disk hk6)⟩
end
end Go.Proofs.YtehgdocbabaldaaGreat


/-
  add, Put, Done, Wait.
-/
set_option maxRecDepth 100000
set_option linter.unusedVariables false
set_option linter.unusedSimpArgs false
namespace Go.Proofs.YtehgdocbabaldaaGreat
open Go Go.Abs Go.Abs.K

structure Room (D : DM) (L : LM) : Prop where
  next : 1 ≤ L.next
  live : L.live.length < 2 ^ 16
  wait : L.wait.length < 2 ^ 16
  loose : D.loose.length < 2 ^ 17
  last : L.last < 2 ^ 60

theorem wrL_eq (D : DM) (L : LM) (k : Nat) : wrL D L k = { L with last := (wrL D L k).last } ∧ L.last ≤ (wrL D L k).last ∧ (wrL D L k).last ≤ L.last + 1 := by
  unfold wrL
  split
  · exact ⟨rfl, by simp only; omega, by simp only; omega⟩
  · exact ⟨rfl, by omega, by omega⟩
theorem wrD_loose (D : DM) (L : LM) (bs : List Int) : (wrD D L bs).loose.length ≤ D.loose.length + 1 := by
  unfold wrD
  split
  · omega
  · exact appD_loose ..
theorem writeM_facts (D : DM) (L : LM) (bs : List Int) : (writeM D L bs).2.1 = { L with last := (writeM D L bs).2.1.last } ∧ L.last ≤ (writeM D L bs).2.1.last ∧ (writeM D L bs).2.1.last ≤ L.last + 1 ∧ (writeM D L bs).1.loose.length ≤ D.loose.length + 1 :=
  ⟨(wrL_eq D L bs.length).1, (wrL_eq D L bs.length).2.1, (wrL_eq D L bs.length).2.2, wrD_loose D L bs⟩

theorem lm_last {L L' : LM} (h : L' = { L with last := L'.last }) : L'.next = L.next ∧ L'.live = L.live ∧ L'.wait = L.wait ∧ L'.most = L.most := by
  rw [h]; exact ⟨rfl, rfl, rfl, rfl⟩
section
variable {tbl : FuncId → Option AFun} {ov : CallSem} {s : St} (T : STbl tbl)
include T

theorem q49b (ho : OvS ov) {l p : Nat} {D : DM} {L : LM} {O OD V : List Nat} {bv : Value} {bs : List Int} (h : SRep s l p D L O OD V) (hb : BytesV s bv bs) (hbO : ∀ y ∈ wrOf bv, y ∉ OD ∧ y ∉ O) (hll : D.loose.length < 2 ^ 20)
    (hla : L.last < 9223372036854775807) (hbl : bs.length < 2 ^ 40) :
    WCall (fun k => call tbl ov k) 49 [ptr l, bv] s fun u s' => u = i64 (writeM D L bs).2.2 ∧ ∃ OD' V', SRep s' l p (writeM D L bs).1 (writeM D L bs).2.1 O OD' V' ∧ GrownS s s' O OD V OD' V' := by
  refine WCall.mono (q49 T ho h hb (fun id o l c e => hbO id (wrOf_mem e)) hll hla hbl) ?_
  rintro u s' ⟨rfl, hk, OD', V', hS, hO, hV⟩
  exact ⟨rfl, OD', V', hS, hk, hO, hV⟩

omit T in
theorem bytes_grown {s s' : St} {O OD V OD' V' : List Nat} {bv : Value} {bs : List Int} (hb : BytesV s bv bs) (hg : GrownS s s' O OD V OD' V') (hd : ∀ y ∈ wrOf bv, y ∉ OD ∧ y ∉ O) (hl : ∀ y ∈ wrOf bv, y < s.next) :
    BytesV s' bv bs ∧ (∀ y ∈ wrOf bv, y ∉ OD' ∧ y ∉ O) ∧ ∀ y ∈ wrOf bv, y < s'.next := by
  have hn := hg.k.1
  refine ⟨BytesV.kept' (t := 0) (w := undefV) (zs := bs) (ws := []) hb hg.k (fun id o n c e hx => ?_), fun y hy => ⟨fun hx => ?_, (hd y hy).2⟩, fun y hy => by have := hl y hy; omega⟩
  · have := hd id (wrOf_mem e)
    rcases List.mem_append.1 hx with hx | hx
    · exact this.2 hx
    · exact this.1 hx
  · rcases hg.o y hx with h | h
    · exact (hd y hy).1 h
    · have := hl y hy; omega

theorem q28 (ho : OvS ov) {l p : Nat} {D : DM} {L : LM} {O OD V : List Nat} {r : FRec} (h : SRep s l p D L O OD V) (hR : Room D L) (hw : r.Wide) :
    WCall (fun k => call tbl ov k) 28 [ptr l, r.val] s fun u s' => u = i64 (addM D L r).2.2 ∧ ∃ OD' V', SRep s' l p (addM D L r).1 (addM D L r).2.1 O OD' V' ∧ GrownS s s' O OD V OD' V' := by
  refine WCall.of T.t28 rfl ?_
  have c1 : r.cells.length = 6 := rfl
  have c4 : r.cells.take 6 = r.cells := rfl
  have e34 : (Value.agg r.cells.toArray) = r.val := rfl
  have ecl : cellList r.val = r.cells := by simp [cellList, Value.cells]
  obtain ⟨s1, hs1⟩ : ∃ s1 : St, s1 = ⟨s.heap.put s.next (some (.cells r.cells 70 0 false)), s.next + 1⟩ := ⟨_, rfl⟩
  have hk1 : Kept [] s s1 := by rw [hs1]; exact kept_put_nil (Nat.le_refl _) (Nat.le_succ _)
  have hp1 : s1.heap.get s.next = some (.cells r.cells 70 0 false) := by rw [hs1]; simp only [Heap.get_put, if_true]
  have hdz : r.cells.drop 0 = r.cells := rfl
  obtain ⟨Y, hY⟩ : ∃ Y, Y = addM D L r := ⟨_, rfl⟩
  rw [← hY]
  simp -implicitDefEqProofs only [fun28, code28, params, go_sem, c1, c4, hdz, e34, ← hs1, hp1]
  refine WCall.mono (q48 (ov := ov) (s := s1) T hw) ?_
  rintro u s2 ⟨bv, rfl, hb, hk2, hbn⟩
  have hS2 := (h.kept hk1 (by simp) (by simp) (by simp)).kept hk2 (by simp) (by simp) (by simp)
  have hn1 := hk1.1
  have hn2 := hk2.1
  unfold encE encB at *
  cases hs : r.sound with
  | false =>
    simp only [hs, Bool.false_eq_true, if_false] at hb ⊢
    have hYe : Y = (D, L, 2) := by rw [hY]; unfold addM; rw [if_neg (by rw [hs]; simp)]
    simp -implicitDefEqProofs only [go_sem]
    rw [hYe]
    exact ⟨rfl, OD, V, hS2, GrownS.kept (hk1.trans hk2)⟩
  | true =>
    simp only [hs, if_true] at hb ⊢
    obtain ⟨h1r, h2r, _⟩ := r.of_sound hs
    have hbl : (recL r).length < 2 ^ 40 := by rw [recL_length, bodyL_length]; omega
    have hbO : ∀ y ∈ wrOf bv, y ∉ OD ∧ y ∉ O := fun y hy => ⟨fun hx => by have := hbn y hy; have := h.d.lt.1 y hx; omega, fun hx => by have := hbn y hy; have := h.l.lt y hx; omega⟩
    have hbl2 : ∀ y ∈ wrOf bv, y < s2.next := by
      obtain ⟨_, ⟨rfl, _⟩ | ⟨id, o, cap, c, t, sz, ro, rfl, _, h2, _⟩⟩ := hb
      · intro y hy; cases hy
      · intro y hy; rw [List.mem_singleton.1 hy]; exact h2
    have hYe : Y = if (roomM D L (recL r)).2.2 = 0 then (syncM (roomM D L (recL r)).1, (roomM D L (recL r)).2.1, syncE (roomM D L (recL r)).1) else roomM D L (recL r) := by rw [hY]; unfold addM; rw [if_pos hs]
    have fin : ∀ {s3 : St} {Z : DM × LM × Int} {OD3 V3 : List Nat}, SRep s3 l p Z.1 Z.2.1 O OD3 V3 → GrownS s s3 O OD V OD3 V3 → roomM D L (recL r) = Z → Z.2.2 = 0 →
        ∃ ml mw, s3.heap.get l = some (.cells [ptr p, i64 Z.2.1.most, i64 Z.2.1.last, .map (some ml), .map (some mw), i64 Z.2.1.next] 61 0 false) ∧ WCall (fun k => call tbl ov k) 51 [ptr p] s3 fun u s' => u = i64 Y.2.2 ∧ ∃ OD' V', SRep s' l p Y.1 Y.2.1 O OD' V' ∧ GrownS s s' O OD V OD' V' := by
      intro s3 Z OD3 V3 hS3 hG3 hZ hz
      obtain ⟨ml, mw, g1, _⟩ := hS3.setLast
      refine ⟨ml, mw, g1, ?_⟩
      rw [hZ, if_pos hz] at hYe
      refine WCall.mono (p51 (ov := ov) T.d hS3.d) ?_
      rintro u s4 ⟨rfl, hk4, OD4, hd4, hO4⟩
      rw [hYe]
      exact ⟨rfl, OD4, V3, ⟨hS3.l.kept hk4 fun x hx => (hS3.dis x hx).1, hd4, fun x hx => ⟨fun h => (hS3.dis x hx).1 (hO4 x h), (hS3.dis x hx).2⟩⟩, hG3.trans ⟨hk4.sub fun x hx => List.mem_append_right _ hx, fun x hx => .inl (hO4 x hx), fun x hx => .inl hx⟩⟩
    have hwf := writeM_facts D L (recL r)
    simp -implicitDefEqProofs only [go_sem]
    have hRl := hR.last; have hRo := hR.loose
    refine WCall.mono (q49b (ov := ov) T ho hS2 hb hbO (by omega) (by omega) hbl) ?_
    rintro u s3 ⟨rfl, OD3, V3, hS3, hG3⟩
    have hG03 : GrownS s s3 O OD V OD3 V3 := (GrownS.kept (hk1.trans hk2)).trans hG3
    have hrm : roomM D L (recL r) = if (writeM D L (recL r)).2.2 = 5 then (if (compactM (writeM D L (recL r)).1 (writeM D L (recL r)).2.1).2.2 = 0 then writeM (compactM (writeM D L (recL r)).1 (writeM D L (recL r)).2.1).1 (compactM (writeM D L (recL r)).1 (writeM D L (recL r)).2.1).2.1 (recL r) else compactM (writeM D L (recL r)).1 (writeM D L (recL r)).2.1) else writeM D L (recL r) := rfl
    obtain ⟨W1, hW1⟩ : ∃ W1, W1 = writeM D L (recL r) := ⟨_, rfl⟩
    rw [← hW1] at hrm hS3 hwf ⊢
    cases he : (W1.2.2 == 5)
    · rw [if_neg (by simpa using he)] at hrm
      simp -implicitDefEqProofs only [go_sem, he]
      cases he0 : (W1.2.2 != 0)
      · obtain ⟨ml, mw, g1, hc⟩ := fin hS3 hG03 hrm (by simpa using he0)
        simp -implicitDefEqProofs only [go_sem, he0, g1]
        refine WCall.mono hc ?_
        rintro u s4 hh
        simp -implicitDefEqProofs only [go_sem]
        exact hh
      · rw [hrm, if_neg (by simpa using he0)] at hYe
        simp -implicitDefEqProofs only [go_sem, he0]
        rw [hYe]
        exact ⟨rfl, OD3, V3, hS3, hG03⟩
    · rw [if_pos (by simpa using he)] at hrm
      obtain ⟨hnx, hlv, hwt, _⟩ := lm_last hwf.1
      simp -implicitDefEqProofs only [go_sem, he]
      have hRv := hR.live; have hRw := hR.wait
      refine WCall.mono (q50 (ov := ov) T ho hS3 (by rw [hnx]; exact hR.next) (by rw [hlv]; omega) (by rw [hwt]; omega) (by omega) (by omega)) ?_
      rintro u s4 ⟨rfl, OD4, V4, hS4, hG4⟩
      have hG04 := hG03.trans hG4
      have hcf := compactM_facts W1.1 W1.2.1
      have hrl := recsL_len W1.2.1
      rw [hlv, hwt] at hrl
      obtain ⟨C, hC⟩ : ∃ C, C = compactM W1.1 W1.2.1 := ⟨_, rfl⟩
      rw [← hC] at hrm hS4 hcf ⊢
      obtain ⟨b3, d3, l3⟩ := bytes_grown hb hG3 hbO hbl2
      obtain ⟨b4, d4, l4⟩ := bytes_grown b3 hG4 d3 l3
      cases he2 : (C.2.2 == 0)
      · rw [if_neg (by simpa using he2)] at hrm
        rw [hrm, if_neg (by simpa using he2)] at hYe
        have he3 : (C.2.2 != 0) = true := by simpa using he2
        simp -implicitDefEqProofs only [go_sem, he2, he3]
        rw [hYe]
        exact ⟨rfl, OD4, V4, hS4, hG04⟩
      · rw [if_pos (by simpa using he2)] at hrm
        simp -implicitDefEqProofs only [go_sem, he2]
        refine WCall.mono (q49b (ov := ov) T ho hS4 b4 d4 (by omega) (by omega) hbl) ?_
        rintro u s5 ⟨rfl, OD5, V5, hS5, hG5⟩
        have hG05 := hG04.trans hG5
        obtain ⟨W2, hW2⟩ : ∃ W2, W2 = writeM C.1 C.2.1 (recL r) := ⟨_, rfl⟩
        rw [← hW2] at hrm hS5 ⊢
        cases he0 : (W2.2.2 != 0)
        · obtain ⟨ml, mw, g1, hc⟩ := fin hS5 hG05 hrm (by simpa using he0)
          simp -implicitDefEqProofs only [go_sem, he0, g1]
          refine WCall.mono hc ?_
          rintro u s4 hh
          simp -implicitDefEqProofs only [go_sem]
          exact hh
        · rw [hrm, if_neg (by simpa using he0)] at hYe
          simp -implicitDefEqProofs only [go_sem, he0]
          rw [hYe]
          exact ⟨rfl, OD5, V5, hS5, hG05⟩
end
end Go.Proofs.YtehgdocbabaldaaGreat
