/-
  The statement 'QueuePlaysSaid': for every size and every list of acts the law returns true, and its arguments read as before.
  No condition.
-/
import Derived.Test.YtgnpafmhdmmmhaaRows
import Derived.Test.YtgnpafmhdmmmhaaQ15
import Derived.Test.YtgnpafmhdmmmhaaA43
import Derived.WalkKit
import Derived.ProofKit
import Derived.OpenShut
namespace Go.Proofs.Ytgnpafmhdmmmhaa.queuePlays
open Go Go.Abs Go.ChangeShapes Go.WideShapes Go.ChangeAt Go.RowKit
set_option linter.unusedVariables false

theorem own : ownKnob Try.prog.godebug = none := by kernel_rfl
theorem laidOut : laidOutB Try.prog = true := by kernel_rfl

def funs : List (FuncId × AFun) := (4, fun4) :: queueFuns

theorem table : TableOK Try.prog (tblOf funs) ovQ :=
  tblOf_ok mixed (fun p hp => by
    rcases List.mem_cons.1 hp with rfl | hp
    · exact comp4
    · exact queueFuns_ok p hp) ovQ_good

theorem qTbl : QTbl (tblOf funs) := ⟨rfl, rfl, rfl, rfl, rfl, rfl, rfl, rfl, rfl, rfl, rfl, rfl, rfl, rfl, rfl, rfl, rfl, rfl, rfl, rfl, rfl, rfl, rfl, rfl, rfl, rfl, rfl⟩
theorem ovOK : OvOK ovQ := ⟨fun a l s => rfl, fun s => rfl⟩

/-- The cells of an act as it is read. -/
theorem act_of_trod {H : Type} {enc : TypeId × Value → H} {w : World} {n : Nat} {cs : List Value} {x : DataW H × List MemPlace} (h : DataW.trod enc Try.prog w 0 (fun _ => true) true n 37 cs = some x) (hl : cs.length = 7) : ∃ a : QAct, cs = a.cells ∧ True := by
  have c3 : Try.prog.cellsOf 3 = 1 := by kernel_rfl
  have c28 : Try.prog.cellsOf 28 = 5 := by kernel_rfl
  obtain ⟨b0, b1, c0, c1, c2, d3, c4, rfl⟩ : ∃ b0 b1 c0 c1 c2 c3 c4, cs = [b0, b1, c0, c1, c2, c3, c4] := by
    match cs, hl with
    | [b0, b1, c0, c1, c2, c3, c4], _ => exact ⟨b0, b1, c0, c1, c2, c3, c4, rfl⟩
  obtain ⟨zs, m2, _, _, _, hzl, hg⟩ := DataW.trod_struct Try.underlying37 h
  obtain ⟨z0, hz0⟩ := one_of hzl (i := 0) (by decide)
  obtain ⟨z1, hz1⟩ := one_of hzl (i := 1) (by decide)
  obtain ⟨z2, hz2⟩ := one_of hzl (i := 2) (by decide)
  have g0 : DataW.trod enc Try.prog w 0 (fun _ => true) true m2 3 (([b0, b1, c0, c1, c2, d3, c4].drop 0).take (Try.prog.cellsOf 3)) = zs[0]? := hg 0 _ rfl
  have g1 : DataW.trod enc Try.prog w 0 (fun _ => true) true m2 3 (([b0, b1, c0, c1, c2, d3, c4].drop 1).take (Try.prog.cellsOf 3)) = zs[1]? := hg 1 _ rfl
  have g2 : DataW.trod enc Try.prog w 0 (fun _ => true) true m2 28 (([b0, b1, c0, c1, c2, d3, c4].drop 2).take (Try.prog.cellsOf 28)) = zs[2]? := hg 2 _ rfl
  rw [c3, hz0] at g0
  rw [c3, hz1] at g1
  rw [c28, hz2] at g2
  obtain ⟨n1, e1, _, w1⟩ := DataW.trod_int Try.underlying3 g0
  obtain ⟨n2, e2, _, w2⟩ := DataW.trod_int Try.underlying3 g1
  obtain ⟨r, hr, _⟩ := req_of_trod g2 rfl
  simp only [List.drop_zero, List.drop_succ_cons, List.take_succ_cons, List.take_zero, List.cons.injEq, and_true] at e1 e2 hr
  subst e1 e2
  exact ⟨⟨n1, n2, r⟩, congrArg (fun l => i64 n1 :: i64 n2 :: l) hr, trivial⟩

set_option maxRecDepth 100000 in
theorem contract (H : Type) (enc : TypeId × Value → H) (W : World) (base : Nat) (args : Array Value) (ds gs : List (DataW H)) (before : List MemPlace)
    (hval : ∀ (j : Nat) t v, Try.f4.params[j]? = some t → args[j]? = some v → Value.okWide Try.prog W .any base t v)
    (hW : DataW.Whole enc Try.prog Try.f4.params.toList Rows.queuePlaysSpec.vars false W args.toList ds gs before) :
    Calls Try.prog 4 args W fun e W' => ∃ v, e = .returned v ∧ Rows.queuePlaysSpec.post enc Try.prog Try.f4 false true false false W args v W' := by
  have hW' := hW
  obtain ⟨p, q, hA0, hV, rfl, hfz, hnd⟩ := hW
  have hA : DataW.TrodAll enc Try.prog W 0 (fun _ => true) true Try.f4.params.toList args.toList ds p := hA0
  rw [Try.params4] at hA hval
  obtain ⟨v0, vs0, d0, ds0, p0, q0, hargs, rfl, rfl, h0, r0⟩ := trodAll_cons hA
  obtain ⟨v1, vs1, d1, ds1, p1, q1, rfl, rfl, rfl, h1, r1⟩ := trodAll_cons r0
  obtain ⟨rfl, rfl, rfl⟩ := trodAll_nil r1
  obtain rfl : args = #[v0, v1] := Array.toList_inj.1 hargs
  obtain ⟨rfl, rfl⟩ := trodVars_none hV
  obtain ⟨n1, rfl, rfl, rfl, w1⟩ := open_int Try.underlying3 (hval 0 3 v0 rfl rfl) h0
  obtain ⟨av, l, M, hM, _, _, hl, hrel⟩ := open_recs QAct.cells (fun _ => True) Try.underlying34 (c := 7) (by kernel_rfl) (by decide) (fun _ => rfl) (fun _ => rfl) (fun n cs x h hl => act_of_trod h hl) (hval 1 34 v1 rfl rfl) h1
  refine (law_args table (f := 4) (fn := fun4) rfl (vs := [.int .i64 n1, av]) (args := [.int .i64 n1, v1]) (n := 1) rfl hl (law4 qTbl ovOK rfl hM) (.cons (.prim _ rfl) (.cons hrel .nil))).mono fun e W' ⟨he, hb⟩ => ?_
  exact ⟨_, he, law_post (tb := 4) rfl laidOut (by kernel_rfl) rfl Try.underlying4 hW' rfl rfl rfl hb⟩

set_option maxRecDepth 100000 in
theorem lifted (os : Os) (started : os.Started) (H : Type) (enc : TypeId × Value → H) :
    ReturnsInHanded {} Try.checked os 4 .any (Rows.queuePlaysSpec.pre6 enc Try.prog Try.f4 Rows.queuePlaysRow.domain false) (Rows.queuePlaysSpec.post enc Try.prog Try.f4 false true false false) := by
  refine returnsInHanded_of_change (C := Try.checked) own started (by kernel_rfl) Try.func4
    (ChangeSpec.witness6 (enc := enc) (C := Try.checked) false ⟨#[], #[.int .i64 0, .slice none 0 0], []⟩ 8 (by kernel_rfl) (by kernel_rfl) (by kernel_rfl) (by kernel_rfl)) ?_
  intro W base args ds gs before hval0 hW hcnd _
  exact contract H enc W base args ds gs before hval0 hW

theorem over : Rows.queuePlaysRow.holds Try.pinned (OpenSpec.ofChange Rows.queuePlaysSpec) :=
  OpenClaim.holds_of_wide 4 Try.f4 rfl rfl rfl rfl rfl rfl rfl ⟨rfl, rfl, rfl, rfl, rfl⟩ rfl rfl rfl rfl rfl (by kernel_rfl) Try.func4 (by kernel_rfl)
    (of_decide_eq_true (by kernel_rfl)) (by unfold Func.isWrapper; first | (rw [if_pos (by decide +kernel)]; kernel_rfl) | (rw [if_neg (by decide +kernel)]; exact ⟨rfl, rfl⟩))
    (fun os started H enc _ => lifted os started H enc)

theorem proved : Rows.QueuePlaysSaid :=
  over

end Go.Proofs.Ytgnpafmhdmmmhaa.queuePlays
