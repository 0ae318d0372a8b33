/-
  The statement 'FrontPlaysSaid': for every size, every memory and every list of acts the law returns true, and its arguments read as before.
  No condition.
-/
import Derived.Test.YtehgdocbabaldaaGreatRows
import Derived.Test.YtehgdocbabaldaaGreatFW11
import Derived.Test.YtehgdocbabaldaaGreatG3
import Derived.Test.YtehgdocbabaldaaGreatA48
import Derived.WalkKit
import Derived.ProofKit
import Derived.OpenShut
namespace Go.Proofs.YtehgdocbabaldaaGreat.frontPlays
open Go Go.Abs Go.ChangeShapes Go.WideShapes Go.ChangeAt Go.RowKit
set_option linter.unusedVariables false

theorem own : ownKnob Tryz.prog.godebug = none := by kernel_rfl
theorem laidOut : laidOutB Tryz.prog = true := by kernel_rfl

def funs : List (FuncId × AFun) := (4, fun4) :: seatFuns

theorem table : TableOK Tryz.prog (tblOf funs) ovE :=
  tblOf_ok mixed (fun p hp => by
    unfold funs at hp
    rcases List.mem_cons.1 hp with rfl | hp
    · exact comp4
    exact seatFuns_ok p hp) ovE_good

theorem sTbl : STbl (tblOf funs) := by repeat (first | rfl | constructor)
theorem fTbl : FTbl (tblOf funs) := by constructor <;> rfl
theorem qTbl : Q.QTbl (tblOf funs) := by constructor <;> rfl
theorem one_of' {α : Type} {xs : List α} {i n : Nat} (h : xs.length = n) (hi : i < n) : ∃ y, xs[i]? = some y := ⟨_, List.getElem?_eq_getElem (by omega)⟩
theorem act_of_trod {H : Type} {enc : TypeId × Value → H} {w : World} {n : Nat} {cs : List Value} {x : DataW H × List MemPlace} (h : DataW.trod enc Tryz.prog w 0 (fun _ => true) true n 46 cs = some x) (hl : cs.length = 5) : ∃ a : FAct, cs = a.cells ∧ a.Wide := by
  have c3 : Tryz.prog.cellsOf 3 = 1 := by kernel_rfl
  have c9 : Tryz.prog.cellsOf 9 = 1 := by kernel_rfl
  have c5 : Tryz.prog.cellsOf 5 = 1 := by kernel_rfl
  obtain ⟨b0, b1, b2, b3, b4, rfl⟩ : ∃ b0 b1 b2 b3 b4, cs = [b0, b1, b2, b3, b4] := by
    match cs, hl with
    | [b0, b1, b2, b3, b4], _ => exact ⟨b0, b1, b2, b3, b4, rfl⟩
  obtain ⟨zs, m2, _, _, _, hzl, hg⟩ := DataW.trod_struct Tryz.underlying46 h
  obtain ⟨z0, hz0⟩ := one_of' hzl (i := 0) (by decide)
  obtain ⟨z1, hz1⟩ := one_of' hzl (i := 1) (by decide)
  obtain ⟨z2, hz2⟩ := one_of' hzl (i := 2) (by decide)
  obtain ⟨z3, hz3⟩ := one_of' hzl (i := 3) (by decide)
  obtain ⟨z4, hz4⟩ := one_of' hzl (i := 4) (by decide)
  have g0 : DataW.trod enc Tryz.prog w 0 (fun _ => true) true m2 3 (([b0, b1, b2, b3, b4].drop 0).take (Tryz.prog.cellsOf 3)) = zs[0]? := hg 0 _ rfl
  have g1 : DataW.trod enc Tryz.prog w 0 (fun _ => true) true m2 3 (([b0, b1, b2, b3, b4].drop 1).take (Tryz.prog.cellsOf 3)) = zs[1]? := hg 1 _ rfl
  have g2 : DataW.trod enc Tryz.prog w 0 (fun _ => true) true m2 3 (([b0, b1, b2, b3, b4].drop 2).take (Tryz.prog.cellsOf 3)) = zs[2]? := hg 2 _ rfl
  have g3 : DataW.trod enc Tryz.prog w 0 (fun _ => true) true m2 9 (([b0, b1, b2, b3, b4].drop 3).take (Tryz.prog.cellsOf 9)) = zs[3]? := hg 3 _ rfl
  have g4 : DataW.trod enc Tryz.prog w 0 (fun _ => true) true m2 5 (([b0, b1, b2, b3, b4].drop 4).take (Tryz.prog.cellsOf 5)) = zs[4]? := hg 4 _ rfl
  rw [c3, hz0] at g0
  rw [c3, hz1] at g1
  rw [c3, hz2] at g2
  rw [c9, hz3] at g3
  rw [c5, hz4] at g4
  obtain ⟨n0, e0, _, w0⟩ := DataW.trod_int Tryz.underlying3 g0
  obtain ⟨n1, e1, _, w1⟩ := DataW.trod_int Tryz.underlying3 g1
  obtain ⟨n2, e2, _, w2⟩ := DataW.trod_int Tryz.underlying3 g2
  obtain ⟨p3, e3, _, _⟩ := DataW.trod_string Tryz.underlying9 g3
  obtain ⟨n4, e4, _, w4⟩ := DataW.trod_int Tryz.underlying5 g4
  simp only [List.drop_zero, List.drop_succ_cons, List.take_succ_cons, List.take_zero, List.cons.injEq, and_true] at e0 e1 e2 e3 e4
  subst e0 e1 e2 e3 e4
  refine ⟨⟨n0, n1, n2, p3, n4⟩, rfl, ⟨?_, ?_⟩⟩
  · simp [Lit.wf, IntKind.min, IntKind.max, IntKind.signed, IntKind.bits] at w1
    unfold W64; simp only; omega
  · simp [Lit.wf, IntKind.min, IntKind.max, IntKind.signed, IntKind.bits] at w4
    simp only; omega

set_option maxRecDepth 100000 in
theorem contract (H : Type) (enc : TypeId × Value → H) (W : World) (base : Nat) (args : Array Value) (ds gs : List (DataW H)) (before : List MemPlace)
    (hval : ∀ (j : Nat) t v, Tryz.f4.params[j]? = some t → args[j]? = some v → Value.okWide Tryz.prog W .any base t v)
    (hW : DataW.Whole enc Tryz.prog Tryz.f4.params.toList Rows.frontPlaysSpec.vars false W args.toList ds gs before) :
    Calls Tryz.prog 4 args W fun e W' => ∃ v, e = .returned v ∧ Rows.frontPlaysSpec.post enc Tryz.prog Tryz.f4 false true false false W args v W' := by
  have hW' := hW
  obtain ⟨p, q, hA0, hV, rfl, hfz, hnd⟩ := hW
  have hA : DataW.TrodAll enc Tryz.prog W 0 (fun _ => true) true Tryz.f4.params.toList args.toList ds p := hA0
  rw [Tryz.params4] at hA hval
  obtain ⟨v0, vs0, d0, ds0, p0, q0, hargs, rfl, rfl, h0, r0⟩ := trodAll_cons hA
  obtain ⟨v1, vs1, d1, ds1, p1, q1, rfl, rfl, rfl, h1, r1⟩ := trodAll_cons r0
  obtain ⟨v2, vs2, d2, ds2, p2, q2, rfl, rfl, rfl, h2, r2⟩ := trodAll_cons r1
  obtain ⟨rfl, rfl, rfl⟩ := trodAll_nil r2
  obtain rfl : args = #[v0, v1, v2] := Array.toList_inj.1 hargs
  obtain ⟨rfl, rfl⟩ := trodVars_none hV
  obtain ⟨n0, rfl, rfl, rfl, w0⟩ := open_int Tryz.underlying5 (hval 0 5 v0 rfl rfl) h0
  obtain ⟨n1, rfl, rfl, rfl, w1⟩ := open_int Tryz.underlying5 (hval 1 5 v1 rfl rfl) h1
  obtain ⟨av, l, M, hM, hMW, _, hl, hrel⟩ := open_recs FAct.cells FAct.Wide Tryz.underlying43 (c := 5) (by kernel_rfl) (by decide) (fun _ => rfl) (fun _ => rfl) (fun n cs x h hl => act_of_trod h hl) (hval 2 43 v2 rfl rfl) h2
  have u0 : 0 ≤ n0 ∧ n0 ≤ 255 := by
    simp [Lit.wf, IntKind.min, IntKind.max, IntKind.signed, IntKind.bits] at w0
    omega
  have u1 : 0 ≤ n1 ∧ n1 ≤ 255 := by
    simp [Lit.wf, IntKind.min, IntKind.max, IntKind.signed, IntKind.bits] at w1
    omega
  refine (law_args table (f := 4) (fn := fun4) rfl (vs := [.int .u8 n0, .int .u8 n1, av]) (args := [.int .u8 n0, .int .u8 n1, v2]) (n := 1) rfl hl (law4 fTbl rfl qTbl sTbl ovE_S ovE_Q u0 u1 hM hMW) (.cons (.prim _ rfl) (.cons (.prim _ rfl) (.cons hrel .nil)))).mono fun e W' ⟨he, hb⟩ => ?_
  exact ⟨_, he, law_post (tb := 4) rfl laidOut (by kernel_rfl) rfl Tryz.underlying4 hW' rfl rfl rfl hb⟩

set_option maxRecDepth 100000 in
theorem lifted (os : Os) (started : os.Started) (H : Type) (enc : TypeId × Value → H) :
    ReturnsInHanded {} Tryz.checked os 4 .any (Rows.frontPlaysSpec.pre6 enc Tryz.prog Tryz.f4 Rows.frontPlaysRow.domain false) (Rows.frontPlaysSpec.post enc Tryz.prog Tryz.f4 false true false false) := by
  refine returnsInHanded_of_change (C := Tryz.checked) own started (by kernel_rfl) Tryz.func4
    (ChangeSpec.witness6 (enc := enc) (C := Tryz.checked) false ⟨#[], #[.int .u8 0, .int .u8 0, .slice none 0 0], []⟩ 8 (by kernel_rfl) (by kernel_rfl) (by kernel_rfl) (by kernel_rfl)) ?_
  intro W base args ds gs before hval0 hW hcnd _
  exact contract H enc W base args ds gs before hval0 hW

theorem over : Rows.frontPlaysRow.holds Tryz.pinned (OpenSpec.ofChange Rows.frontPlaysSpec) :=
  OpenClaim.holds_of_wide 4 Tryz.f4 rfl rfl rfl rfl rfl rfl rfl ⟨rfl, rfl, rfl, rfl, rfl⟩ rfl rfl rfl rfl rfl (by kernel_rfl) Tryz.func4 (by kernel_rfl)
    (of_decide_eq_true (by kernel_rfl)) (by unfold Func.isWrapper; first | (rw [if_pos (by decide +kernel)]; kernel_rfl) | (rw [if_neg (by decide +kernel)]; exact ⟨rfl, rfl⟩))
    (fun os started H enc _ => lifted os started H enc)

theorem proved : Rows.FrontPlaysSaid :=
  over

end Go.Proofs.YtehgdocbabaldaaGreat.frontPlays
