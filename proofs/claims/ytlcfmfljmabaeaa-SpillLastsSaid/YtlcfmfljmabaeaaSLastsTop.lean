/-
  The statement 'SpillLastsSaid': for every list of acts and every crash the law returns true, and its arguments read as before.
  No condition.
-/
import Derived.Test.YtlcfmfljmabaeaaRows
import Derived.Test.YtlcfmfljmabaeaaSA6
import Derived.Test.YtlcfmfljmabaeaaSA7
import Derived.WalkKit
import Derived.ProofKit
import Derived.OpenShut
namespace Go.Proofs.Ytlcfmfljmabaeaa.spillLasts
open Go Go.Abs Go.ChangeShapes Go.WideShapes Go.ChangeAt Go.RowKit
set_option linter.unusedVariables false

theorem own : ownKnob Try.prog.godebug = none := by kernel_rfl
theorem laidOut : laidOutB Try.prog = true := by kernel_rfl

def funs : List (FuncId × AFun) := (6, fun6) :: (21, fun21) :: (23, fun23) :: seatFuns

theorem table : TableOK Try.prog (tblOf funs) ovD :=
  tblOf_ok mixed (fun p hp => by
    unfold funs at hp
    rcases List.mem_cons.1 hp with rfl | hp
    · exact comp6
    rcases List.mem_cons.1 hp with rfl | hp
    · exact comp21
    rcases List.mem_cons.1 hp with rfl | hp
    · exact comp23
    exact seatFuns_ok p hp) ovD_good

theorem sTbl : STbl (tblOf funs) := ⟨rfl, rfl, rfl, rfl, rfl, rfl, rfl, rfl, rfl, rfl, rfl, rfl, rfl, rfl, rfl, rfl, rfl, rfl, rfl, rfl, ⟨rfl, rfl, rfl, rfl, rfl, rfl, rfl, rfl, rfl, rfl, rfl, rfl, rfl, rfl, rfl, rfl, rfl⟩, ⟨rfl, rfl, rfl, rfl, rfl, rfl, rfl, rfl, rfl, rfl⟩⟩
theorem or_l {a b : CallSem} {f : FuncId} {args : List Value} {s : St} (h : b f args s = none) : orSem a b f args s = a f args s := by unfold orSem; rw [h]; cases a f args s <;> rfl
theorem or_r {a b : CallSem} {f : FuncId} {args : List Value} {s : St} (h : a f args s = none) : orSem a b f args s = b f args s := by unfold orSem; rw [h]
theorem ovOK : OvS ovD := ⟨⟨fun v s => by unfold ovD knownD; rw [or_r rfl, or_l (by rw [or_r rfl]; rfl)], fun s => rfl⟩, fun v s => by unfold ovD knownD; rw [or_r rfl, or_r rfl, or_l rfl], fun v s => by unfold ovD knownD; rw [or_r rfl, or_r rfl, or_r rfl]⟩

set_option maxRecDepth 100000 in
theorem contract (H : Type) (enc : TypeId × Value → H) (W : World) (base : Nat) (args : Array Value) (ds gs : List (DataW H)) (before : List MemPlace)
    (hval : ∀ (j : Nat) t v, Try.f6.params[j]? = some t → args[j]? = some v → Value.okWide Try.prog W .any base t v)
    (hW : DataW.Whole enc Try.prog Try.f6.params.toList Rows.spillLastsSpec.vars false W args.toList ds gs before) :
    Calls Try.prog 6 args W fun e W' => ∃ v, e = .returned v ∧ Rows.spillLastsSpec.post enc Try.prog Try.f6 false true false false W args v W' := by
  have hW' := hW
  obtain ⟨p, q, hA0, hV, rfl, hfz, hnd⟩ := hW
  have hA : DataW.TrodAll enc Try.prog W 0 (fun _ => true) true Try.f6.params.toList args.toList ds p := hA0
  rw [Try.params6] at hA hval
  obtain ⟨v0, vs0, d0, ds0, p0, q0, hargs, rfl, rfl, h0, r0⟩ := trodAll_cons hA
  obtain ⟨v1, vs1, d1, ds1, p1, q1, rfl, rfl, rfl, h1, r1⟩ := trodAll_cons r0
  obtain ⟨rfl, rfl, rfl⟩ := trodAll_nil r1
  obtain rfl : args = #[v0, v1] := Array.toList_inj.1 hargs
  obtain ⟨rfl, rfl⟩ := trodVars_none hV
  obtain ⟨n1, rfl, rfl, rfl, w1⟩ := open_int Try.underlying3 (hval 1 3 v1 rfl rfl) h1
  obtain ⟨av, l, M, hM, hMW, _, hl, hrel⟩ := open_recs SAct.cells SAct.Wide Try.underlying50 (c := 9) (by kernel_rfl) (by decide) (fun _ => rfl) (fun _ => rfl) (fun n cs x h hl => act_of_trod h hl) (hval 0 50 v0 rfl rfl) h0
  refine (law_args table (f := 6) (fn := fun6) rfl (vs := [av, .int .i64 n1]) (args := [v0, .int .i64 n1]) (n := 1) rfl hl (law6 sTbl rfl rfl rfl ovOK hM hMW (w64_of_wf w1)) (.cons hrel (.cons (.prim _ rfl) .nil))).mono fun e W' ⟨he, hb⟩ => ?_
  exact ⟨_, he, law_post (tb := 4) rfl laidOut (by kernel_rfl) rfl Try.underlying4 hW' rfl rfl rfl hb⟩

set_option maxRecDepth 100000 in
theorem lifted (os : Os) (started : os.Started) (H : Type) (enc : TypeId × Value → H) :
    ReturnsInHanded {} Try.checked os 6 .any (Rows.spillLastsSpec.pre6 enc Try.prog Try.f6 Rows.spillLastsRow.domain false) (Rows.spillLastsSpec.post enc Try.prog Try.f6 false true false false) := by
  refine returnsInHanded_of_change (C := Try.checked) own started (by kernel_rfl) Try.func6
    (ChangeSpec.witness6 (enc := enc) (C := Try.checked) false ⟨#[], #[.slice none 0 0, .int .i64 0], []⟩ 8 (by kernel_rfl) (by kernel_rfl) (by kernel_rfl) (by kernel_rfl)) ?_
  intro W base args ds gs before hval0 hW hcnd _
  exact contract H enc W base args ds gs before hval0 hW

theorem over : Rows.spillLastsRow.holds Try.pinned (OpenSpec.ofChange Rows.spillLastsSpec) :=
  OpenClaim.holds_of_wide 6 Try.f6 rfl rfl rfl rfl rfl rfl rfl ⟨rfl, rfl, rfl, rfl, rfl⟩ rfl rfl rfl rfl rfl (by kernel_rfl) Try.func6 (by kernel_rfl)
    (of_decide_eq_true (by kernel_rfl)) (by unfold Func.isWrapper; first | (rw [if_pos (by decide +kernel)]; kernel_rfl) | (rw [if_neg (by decide +kernel)]; exact ⟨rfl, rfl⟩))
    (fun os started H enc _ => lifted os started H enc)

theorem proved : Rows.SpillLastsSaid :=
  over

end Go.Proofs.Ytlcfmfljmabaeaa.spillLasts
