/-
  The statement 'FrameCutsSaid': for every list of records and every cut the law returns true, and its arguments read as before.
  No condition.
-/
import Derived.Test.YtaigiehdnhehnaaRows
import Derived.Test.YtaigiehdnhehnaaR1RecArg
import Derived.Test.YtaigiehdnhehnaaR1Cuts2
import Derived.Test.YtaigiehdnhehnaaA34
import Derived.Test.YtaigiehdnhehnaaA27
import Derived.WalkKit
import Derived.ProofKit
import Derived.OpenShut
namespace Go.Proofs.Ytaigiehdnhehnaa.frameCuts
open Go Go.Abs Go.ChangeShapes Go.WideShapes Go.ChangeAt Go.RowKit
set_option linter.unusedVariables false

theorem own : ownKnob Try.prog.godebug = none := by kernel_rfl
theorem laidOut : laidOutB Try.prog = true := by kernel_rfl

def funs : List (FuncId × AFun) := (10, fun10) :: frameFuns

theorem table : TableOK Try.prog (tblOf funs) (known [(23, .bool true)]) :=
  tblOf_ok mixedF (fun p hp => by
    rcases List.mem_cons.1 hp with rfl | hp
    · exact comp10
    · exact frameFuns_ok p hp) awakeF_known

theorem one_of {α : Type} {xs : List α} {i n : Nat} (h : xs.length = n) (hi : i < n) : ∃ y, xs[i]? = some y := ⟨_, List.getElem?_eq_getElem (by omega)⟩

/-- The cells of a record as it is read. -/
theorem rec_of_trod {H : Type} {enc : TypeId × Value → H} {w : World} {n : Nat} {cs : List Value} {x : DataW H × List MemPlace} (h : DataW.trod enc Try.prog w 0 (fun _ => true) true n 50 cs = some x) (hl : cs.length = 6) : ∃ r : FRec, cs = r.cells ∧ r.Wide := by
  have c3 : Try.prog.cellsOf 3 = 1 := by kernel_rfl
  have c9 : Try.prog.cellsOf 9 = 1 := by kernel_rfl
  have c48 : Try.prog.cellsOf 48 = 5 := by kernel_rfl
  obtain ⟨c0, c1, c2, d3, c4, c5, rfl⟩ : ∃ c0 c1 c2 c3 c4 c5, cs = [c0, c1, c2, c3, c4, c5] := by
    match cs, hl with
    | [c0, c1, c2, c3, c4, c5], _ => exact ⟨c0, c1, c2, c3, c4, c5, rfl⟩
  obtain ⟨xs, m, _, _, _, hxl, hf⟩ := DataW.trod_struct Try.underlying50 h
  obtain ⟨y0, hy0⟩ := one_of hxl (i := 0) (by decide)
  obtain ⟨y1, hy1⟩ := one_of hxl (i := 1) (by decide)
  have f0 : DataW.trod enc Try.prog w 0 (fun _ => true) true m 3 (([c0, c1, c2, d3, c4, c5].drop 0).take (Try.prog.cellsOf 3)) = xs[0]? := hf 0 _ rfl
  have f1 : DataW.trod enc Try.prog w 0 (fun _ => true) true m 48 (([c0, c1, c2, d3, c4, c5].drop 1).take (Try.prog.cellsOf 48)) = xs[1]? := hf 1 _ rfl
  rw [c3, hy0] at f0
  rw [c48, hy1] at f1
  obtain ⟨n0, e0, _, w0⟩ := DataW.trod_int Try.underlying3 f0
  obtain ⟨zs, m2, _, _, _, hzl, hg⟩ := DataW.trod_struct Try.underlying48 f1
  obtain ⟨z0, hz0⟩ := one_of hzl (i := 0) (by decide)
  obtain ⟨z1, hz1⟩ := one_of hzl (i := 1) (by decide)
  obtain ⟨z2, hz2⟩ := one_of hzl (i := 2) (by decide)
  obtain ⟨z3, hz3⟩ := one_of hzl (i := 3) (by decide)
  obtain ⟨z4, hz4⟩ := one_of hzl (i := 4) (by decide)
  have g0 : DataW.trod enc Try.prog w 0 (fun _ => true) true m2 3 (((([c0, c1, c2, d3, c4, c5].drop 1).take 5).drop 0).take (Try.prog.cellsOf 3)) = zs[0]? := hg 0 _ rfl
  have g1 : DataW.trod enc Try.prog w 0 (fun _ => true) true m2 9 (((([c0, c1, c2, d3, c4, c5].drop 1).take 5).drop 1).take (Try.prog.cellsOf 9)) = zs[1]? := hg 1 _ rfl
  have g2 : DataW.trod enc Try.prog w 0 (fun _ => true) true m2 9 (((([c0, c1, c2, d3, c4, c5].drop 1).take 5).drop 2).take (Try.prog.cellsOf 9)) = zs[2]? := hg 2 _ rfl
  have g3 : DataW.trod enc Try.prog w 0 (fun _ => true) true m2 3 (((([c0, c1, c2, d3, c4, c5].drop 1).take 5).drop 3).take (Try.prog.cellsOf 3)) = zs[3]? := hg 3 _ rfl
  have g4 : DataW.trod enc Try.prog w 0 (fun _ => true) true m2 3 (((([c0, c1, c2, d3, c4, c5].drop 1).take 5).drop 4).take (Try.prog.cellsOf 3)) = zs[4]? := hg 4 _ rfl
  rw [c3, hz0] at g0
  rw [c9, hz1] at g1
  rw [c9, hz2] at g2
  rw [c3, hz3] at g3
  rw [c3, hz4] at g4
  obtain ⟨n1, e1, _, w1⟩ := DataW.trod_int Try.underlying3 g0
  obtain ⟨b2, e2, _, _⟩ := DataW.trod_string Try.underlying9 g1
  obtain ⟨b3, e3, _, _⟩ := DataW.trod_string Try.underlying9 g2
  obtain ⟨n4, e4, _, w4⟩ := DataW.trod_int Try.underlying3 g3
  obtain ⟨n5, e5, _, w5⟩ := DataW.trod_int Try.underlying3 g4
  simp only [List.drop_zero, List.drop_succ_cons, List.take_succ_cons, List.take_zero, List.cons.injEq, and_true] at e0 e1 e2 e3 e4 e5
  subst e0 e1 e2 e3 e4 e5
  exact ⟨⟨n0, n1, b2, b3, n4, n5⟩, rfl, wide_of_wf w1, wide_of_wf w5, wide_of_wf w0, wide_of_wf w4⟩

theorem recs_of {zs : List Value} : ∀ (n : Nat), (∀ i, i < n → ∃ r : FRec, (zs.drop (i * 6)).take 6 = r.cells ∧ r.Wide) → ∃ L : List FRec, L.length = n ∧ ∀ i, i < n → (zs.drop (i * 6)).take 6 = (rG L i).cells ∧ (rG L i).Wide := by
  intro n
  induction n with
  | zero => intro _; exact ⟨[], rfl, fun i hi => absurd hi (by omega)⟩
  | succ n ih =>
    intro h
    obtain ⟨L, hL, hi⟩ := ih fun i hi => h i (by omega)
    obtain ⟨r, hr⟩ := h n (by omega)
    refine ⟨L ++ [r], by rw [List.length_append, hL]; rfl, fun i hlt => ?_⟩
    by_cases he : i < n
    · have : rG (L ++ [r]) i = rG L i := by
        show (L ++ [r]).getD i _ = L.getD i _
        simp only [List.getD_eq_getElem?_getD]
        rw [List.getElem?_append_left (by omega)]
      rw [this]; exact hi i he
    · have he : i = n := by omega
      subst he
      have : rG (L ++ [r]) i = r := by
        show (L ++ [r]).getD i _ = r
        rw [List.getD_eq_getElem?_getD, List.getElem?_append_right (by omega), hL, Nat.sub_self]; rfl
      rw [this]; exact hr

theorem contract (H : Type) (enc : TypeId × Value → H) (W : World) (base : Nat) (args : Array Value) (ds gs : List (DataW H)) (before : List MemPlace)
    (hval : ∀ (j : Nat) t v, Try.f10.params[j]? = some t → args[j]? = some v → Value.okWide Try.prog W .any base t v)
    (hW : DataW.Whole enc Try.prog Try.f10.params.toList Rows.frameCutsSpec.vars false W args.toList ds gs before) :
    Calls Try.prog 10 args W fun e W' => ∃ v, e = .returned v ∧ Rows.frameCutsSpec.post enc Try.prog Try.f10 false true false false W args v W' := by
  have hW' := hW
  obtain ⟨p, q, hA0, hV, rfl, hfz, hnd⟩ := hW
  have hA : DataW.TrodAll enc Try.prog W 0 (fun _ => true) true Try.f10.params.toList args.toList ds p := hA0
  rw [Try.params10] at hA hval
  obtain ⟨v0, vs0, d0, ds0, p0, q0, hargs, rfl, rfl, h0, r0⟩ := trodAll_cons hA
  obtain ⟨v1, vs1, d1, ds1, p1, q1, rfl, rfl, rfl, h1, r1⟩ := trodAll_cons r0
  obtain ⟨rfl, rfl, rfl⟩ := trodAll_nil r1
  obtain rfl : args = #[v0, v1] := by cases args; simp_all
  obtain ⟨rfl, rfl⟩ := trodVars_none hV
  obtain ⟨n1, rfl, rfl, rfl, w1⟩ := open_int Try.underlying63 (hval 1 63 v1 rfl rfl) h1
  simp [Lit.wf, IntKind.min, IntKind.max, IntKind.signed, IntKind.bits] at w1
  obtain ⟨av, l, len, cap, zs, hlc, hcm, hzl, hrow, hl, hav, hrel⟩ := open_rowsA (c := 6) (Q := fun cs => ∃ r : FRec, cs = r.cells ∧ r.Wide) Try.underlying55 (by kernel_rfl) (by decide) (fun n cs x h hl => rec_of_trod h hl)
    (fun cs ⟨r, hr, _⟩ => by rw [hr]; rfl) (hval 0 55 v0 rfl rfl) h0 0
  obtain ⟨L, hLl, hLr⟩ := recs_of len (fun i hi => hrow i (by omega))
  have hrecs : RecsV ⟨Args.heap l, 1⟩ av L := by
    rcases hav with ⟨rfl, rfl, rfl⟩ | ⟨T, r, rfl, rfl⟩
    · exact .inl ⟨rfl, List.eq_nil_of_length_eq_zero (by omega)⟩
    · have hm : len * 6 ≤ cap * 6 := Nat.mul_le_mul_right _ hlc
      exact .inr ⟨0, 0, cap, zs, T, true, by rw [hLl], Nat.zero_lt_one, rfl, by omega, fun i hi => by rw [Nat.zero_add]; exact (hLr i (by omega)).1⟩
  have hmap : ∀ p ∈ l, Args.map' l 0 = some p.2.1 := by
    rcases hav with ⟨rfl, rfl, rfl⟩ | ⟨T, r, rfl, rfl⟩
    · intro p hp; cases hp
    · intro p hp; simp only [List.mem_singleton] at hp; subst hp; rfl
  have T : FrameTbl (tblOf funs) := ⟨rfl, rfl, rfl, rfl, rfl, rfl, rfl, rfl, rfl, rfl, rfl, rfl, rfl, rfl⟩
  have hlaw := law10 (tbl := tblOf funs) (ov := known [(23, .bool true)]) (c := n1) T rfl rfl (fun s => rfl) (by omega) hrecs (fun i hi => (hLr i (by omega)).2)
  refine (law_args table (f := 10) (fn := fun10) rfl (vs := [av, .int .u16 n1]) (args := [v0, .int .u16 n1]) (n := 1) rfl (fun p hp => ⟨by rw [(hl p hp).1]; exact Nat.zero_lt_one, (hl p hp).2.1, (hl p hp).2.2⟩) hlaw (.cons (hrel _ hmap) (.cons (.prim _ rfl) .nil))).mono fun e W' ⟨he, hb⟩ => ?_
  exact ⟨_, he, law_post (tb := 4) rfl laidOut (by kernel_rfl) rfl Try.underlying4 hW' rfl rfl rfl hb⟩

set_option maxRecDepth 100000 in
theorem lifted (os : Os) (started : os.Started) (H : Type) (enc : TypeId × Value → H) :
    ReturnsInHanded {} Try.checked os 10 .any (Rows.frameCutsSpec.pre6 enc Try.prog Try.f10 Rows.frameCutsRow.domain false) (Rows.frameCutsSpec.post enc Try.prog Try.f10 false true false false) := by
  refine returnsInHanded_of_change (C := Try.checked) own started (by kernel_rfl) Try.func10
    (ChangeSpec.witness6 (enc := enc) (C := Try.checked) false ⟨#[], #[.slice none 0 0, .int .u16 0], []⟩ 8 (by kernel_rfl) (by kernel_rfl) (by kernel_rfl) (by kernel_rfl)) ?_
  intro W base args ds gs before hval0 hW hcnd _
  exact contract H enc W base args ds gs before hval0 hW

theorem over : Rows.frameCutsRow.holds Try.pinned (OpenSpec.ofChange Rows.frameCutsSpec) :=
  OpenClaim.holds_of_wide 10 Try.f10 rfl rfl rfl rfl rfl rfl rfl ⟨rfl, rfl, rfl, rfl, rfl⟩ rfl rfl rfl rfl rfl (by kernel_rfl) Try.func10 (by kernel_rfl)
    (of_decide_eq_true (by kernel_rfl)) (by unfold Func.isWrapper; first | (rw [if_pos (by decide +kernel)]; kernel_rfl) | (rw [if_neg (by decide +kernel)]; exact ⟨rfl, rfl⟩))
    (fun os started H enc _ => lifted os started H enc)

theorem proved : Rows.FrameCutsSaid :=
  over

end Go.Proofs.Ytaigiehdnhehnaa.frameCuts
