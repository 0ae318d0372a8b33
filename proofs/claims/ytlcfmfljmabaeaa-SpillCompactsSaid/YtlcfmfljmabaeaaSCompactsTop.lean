/-
  The statement 'SpillCompactsSaid': for every list of acts, every fault and every crash the law returns true, and its arguments read as before.
  No condition.
-/
import Derived.Test.YtlcfmfljmabaeaaRows
import Derived.Test.YtlcfmfljmabaeaaSC4
import Derived.Test.YtlcfmfljmabaeaaSA7
import Derived.WalkKit
import Derived.ProofKit
import Derived.OpenShut
namespace Go.Proofs.Ytlcfmfljmabaeaa.spillCompacts
open Go Go.Abs Go.ChangeShapes Go.WideShapes Go.ChangeAt Go.RowKit
set_option linter.unusedVariables false

theorem own : ownKnob Try.prog.godebug = none := by kernel_rfl
theorem laidOut : laidOutB Try.prog = true := by kernel_rfl

def funs : List (FuncId × AFun) := (7, fun7) :: seatFuns

theorem table : TableOK Try.prog (tblOf funs) ovD :=
  tblOf_ok mixed (fun p hp => by
    unfold funs at hp
    rcases List.mem_cons.1 hp with rfl | hp
    · exact comp7
    exact seatFuns_ok p hp) ovD_good

theorem sTbl : STbl (tblOf funs) := ⟨rfl, rfl, rfl, rfl, rfl, rfl, rfl, rfl, rfl, rfl, rfl, rfl, rfl, rfl, rfl, rfl, rfl, rfl, rfl, rfl, ⟨rfl, rfl, rfl, rfl, rfl, rfl, rfl, rfl, rfl, rfl, rfl, rfl, rfl, rfl, rfl, rfl, rfl⟩, ⟨rfl, rfl, rfl, rfl, rfl, rfl, rfl, rfl, rfl, rfl⟩⟩
theorem or_l {a b : CallSem} {f : FuncId} {args : List Value} {s : St} (h : b f args s = none) : orSem a b f args s = a f args s := by unfold orSem; rw [h]; cases a f args s <;> rfl
theorem or_r {a b : CallSem} {f : FuncId} {args : List Value} {s : St} (h : a f args s = none) : orSem a b f args s = b f args s := by unfold orSem; rw [h]
theorem ovOK : OvS ovD := ⟨⟨fun v s => by unfold ovD knownD; rw [or_r rfl, or_l (by rw [or_r rfl]; rfl)], fun s => rfl⟩, fun v s => by unfold ovD knownD; rw [or_r rfl, or_r rfl, or_l rfl], fun v s => by unfold ovD knownD; rw [or_r rfl, or_r rfl, or_r rfl]⟩

set_option maxRecDepth 100000 in
theorem contract (H : Type) (enc : TypeId × Value → H) (W : World) (base : Nat) (args : Array Value) (ds gs : List (DataW H)) (before : List MemPlace)
    (hval : ∀ (j : Nat) t v, Try.f7.params[j]? = some t → args[j]? = some v → Value.okWide Try.prog W .any base t v)
    (hW : DataW.Whole enc Try.prog Try.f7.params.toList Rows.spillCompactsSpec.vars false W args.toList ds gs before) :
    Calls Try.prog 7 args W fun e W' => ∃ v, e = .returned v ∧ Rows.spillCompactsSpec.post enc Try.prog Try.f7 false true false false W args v W' := by
  have hW' := hW
  obtain ⟨p, q, hA0, hV, rfl, hfz, hnd⟩ := hW
  have hA : DataW.TrodAll enc Try.prog W 0 (fun _ => true) true Try.f7.params.toList args.toList ds p := hA0
  rw [Try.params7] at hA hval
  obtain ⟨v0, vs0, d0, ds0, p0, q0, hargs, rfl, rfl, h0, r0⟩ := trodAll_cons hA
  obtain ⟨v1, vs1, d1, ds1, p1, q1, rfl, rfl, rfl, h1, r1⟩ := trodAll_cons r0
  obtain ⟨v2, vs2, d2, ds2, p2, q2, rfl, rfl, rfl, h2, r2⟩ := trodAll_cons r1
  obtain ⟨v3, vs3, d3, ds3, p3, q3, rfl, rfl, rfl, h3, r3⟩ := trodAll_cons r2
  obtain ⟨rfl, rfl, rfl⟩ := trodAll_nil r3
  obtain rfl : args = #[v0, v1, v2, v3] := Array.toList_inj.1 hargs
  obtain ⟨rfl, rfl⟩ := trodVars_none hV
  obtain ⟨n1, rfl, rfl, rfl, w1⟩ := open_int Try.underlying5 (hval 1 5 v1 rfl rfl) h1
  obtain ⟨n2, rfl, rfl, rfl, w2⟩ := open_int Try.underlying5 (hval 2 5 v2 rfl rfl) h2
  obtain ⟨n3, rfl, rfl, rfl, w3⟩ := open_int Try.underlying3 (hval 3 3 v3 rfl rfl) h3
  obtain ⟨av, l, M, hM, hMW, _, hl, hrel⟩ := open_recs SAct.cells SAct.Wide Try.underlying50 (c := 9) (by kernel_rfl) (by decide) (fun _ => rfl) (fun _ => rfl) (fun n cs x h hl => act_of_trod h hl) (hval 0 50 v0 rfl rfl) h0
  refine (law_args table (f := 7) (fn := fun7) rfl (vs := [av, .int .u8 n1, .int .u8 n2, .int .i64 n3]) (args := [v0, .int .u8 n1, .int .u8 n2, .int .i64 n3]) (n := 1) rfl hl (law7 sTbl rfl rfl ovOK hM hMW (w64_of_wf w3) (u8_of_wf w1) (u8_of_wf w2)) (.cons hrel (.cons (.prim _ rfl) (.cons (.prim _ rfl) (.cons (.prim _ rfl) .nil))))).mono fun e W' ⟨he, hb⟩ => ?_
  exact ⟨_, he, law_post (tb := 4) rfl laidOut (by kernel_rfl) rfl Try.underlying4 hW' rfl rfl rfl hb⟩

set_option maxRecDepth 100000 in
theorem lifted (os : Os) (started : os.Started) (H : Type) (enc : TypeId × Value → H) :
    ReturnsInHanded {} Try.checked os 7 .any (Rows.spillCompactsSpec.pre6 enc Try.prog Try.f7 Rows.spillCompactsRow.domain false) (Rows.spillCompactsSpec.post enc Try.prog Try.f7 false true false false) := by
  refine returnsInHanded_of_change (C := Try.checked) own started (by kernel_rfl) Try.func7
    (ChangeSpec.witness6 (enc := enc) (C := Try.checked) false ⟨#[], #[.slice none 0 0, .int .u8 0, .int .u8 0, .int .i64 0], []⟩ 8 (by kernel_rfl) (by kernel_rfl) (by kernel_rfl) (by kernel_rfl)) ?_
  intro W base args ds gs before hval0 hW hcnd _
  exact contract H enc W base args ds gs before hval0 hW

theorem over : Rows.spillCompactsRow.holds Try.pinned (OpenSpec.ofChange Rows.spillCompactsSpec) :=
  OpenClaim.holds_of_wide 7 Try.f7 rfl rfl rfl rfl rfl rfl rfl ⟨rfl, rfl, rfl, rfl, rfl⟩ rfl rfl rfl rfl rfl (by kernel_rfl) Try.func7 (by kernel_rfl)
    (of_decide_eq_true (by kernel_rfl)) (by unfold Func.isWrapper; first | (rw [if_pos (by decide +kernel)]; kernel_rfl) | (rw [if_neg (by decide +kernel)]; exact ⟨rfl, rfl⟩))
    (fun os started H enc _ => lifted os started H enc)

theorem proved : Rows.SpillCompactsSaid :=
  over

end Go.Proofs.Ytlcfmfljmabaeaa.spillCompacts
