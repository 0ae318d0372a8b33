/-
  The statement 'SpillNextSaid': for every list of acts the law returns true, and its argument reads as before.
  No condition.
-/
import Derived.Test.YtlcfmfljmabaeaaRows
import Derived.Test.YtlcfmfljmabaeaaSN2
import Derived.WalkKit
import Derived.ProofKit
import Derived.OpenShut

namespace Go.Proofs.Ytlcfmfljmabaeaa.spillNext
open Go Go.Abs Go.ChangeShapes Go.WideShapes Go.ChangeAt Go.RowKit
set_option linter.unusedVariables false

theorem own : ownKnob Try.prog.godebug = none := by kernel_rfl
theorem laidOut : laidOutB Try.prog = true := by kernel_rfl

def funs : List (FuncId × AFun) := (3, fun3) :: seatFuns

theorem table : TableOK Try.prog (tblOf funs) ovD :=
  tblOf_ok mixed (fun p hp => by
    unfold funs at hp
    rcases List.mem_cons.1 hp with rfl | hp
    · exact comp3
    exact seatFuns_ok p hp) ovD_good

theorem sTbl : STbl (tblOf funs) := ⟨rfl, rfl, rfl, rfl, rfl, rfl, rfl, rfl, rfl, rfl, rfl, rfl, rfl, rfl, rfl, rfl, rfl, rfl, rfl, rfl, ⟨rfl, rfl, rfl, rfl, rfl, rfl, rfl, rfl, rfl, rfl, rfl, rfl, rfl, rfl, rfl, rfl, rfl⟩, ⟨rfl, rfl, rfl, rfl, rfl, rfl, rfl, rfl, rfl, rfl⟩⟩
theorem or_l {a b : CallSem} {f : FuncId} {args : List Value} {s : St} (h : b f args s = none) : orSem a b f args s = a f args s := by unfold orSem; rw [h]; cases a f args s <;> rfl
theorem or_r {a b : CallSem} {f : FuncId} {args : List Value} {s : St} (h : a f args s = none) : orSem a b f args s = b f args s := by unfold orSem; rw [h]
theorem ovOK : OvS ovD := ⟨⟨fun v s => by unfold ovD knownD; rw [or_r rfl, or_l (by rw [or_r rfl]; rfl)], fun s => rfl⟩, fun v s => by unfold ovD knownD; rw [or_r rfl, or_r rfl, or_l rfl], fun v s => by unfold ovD knownD; rw [or_r rfl, or_r rfl, or_r rfl]⟩

set_option maxRecDepth 100000 in
theorem contract (H : Type) (enc : TypeId × Value → H) (W : World) (base : Nat) (args : Array Value) (ds gs : List (DataW H)) (before : List MemPlace)
    (hval : ∀ (j : Nat) t v, Try.f3.params[j]? = some t → args[j]? = some v → Value.okWide Try.prog W .any base t v)
    (hW : DataW.Whole enc Try.prog Try.f3.params.toList Rows.spillNextSpec.vars false W args.toList ds gs before) :
    Calls Try.prog 3 args W fun e W' => ∃ v, e = .returned v ∧ Rows.spillNextSpec.post enc Try.prog Try.f3 false true false false W args v W' := by
  have hW' := hW
  obtain ⟨p, q, hA0, hV, rfl, hfz, hnd⟩ := hW
  have hA : DataW.TrodAll enc Try.prog W 0 (fun _ => true) true Try.f3.params.toList args.toList ds p := hA0
  rw [Try.params3] at hA hval
  obtain ⟨v0, vs0, d0, ds0, p0, q0, hargs, rfl, rfl, h0, r0⟩ := trodAll_cons hA
  obtain ⟨rfl, rfl, rfl⟩ := trodAll_nil r0
  obtain rfl : args = #[v0] := Array.toList_inj.1 hargs
  obtain ⟨rfl, rfl⟩ := trodVars_none hV
  obtain ⟨av, l, len, cap, zs, hlc, hcm, hzc, hwf, hl, hav, hrel, _⟩ := open_intsA Try.underlying22 Try.underlying5 rfl (hval 0 22 v0 rfl rfl) h0 0
  have hbytes : BytesV ⟨Args.heap l, 1⟩ av (zs.take len) := by
    have hln : (zs.take len).length = len := by rw [List.length_take]; omega
    refine ⟨fun z hz => ?_, ?_⟩
    · have := hwf z (List.mem_of_mem_take hz)
      simp [Lit.wf, IntKind.min, IntKind.max, IntKind.signed, IntKind.bits] at this
      omega
    · rcases hav with ⟨rfl, rfl, rfl⟩ | ⟨T, r, rfl, rfl⟩
      · exact .inl ⟨rfl, by simp⟩
      · exact .inr ⟨0, 0, cap, _, T, 1, true, by rw [hln], by omega, Nat.zero_lt_one, rfl, by rw [hln, List.drop_zero, List.map_take], .inl rfl, by rw [hln, List.length_map]; omega⟩
  have hmap : ∀ p ∈ l, Args.map' l 0 = some p.2.1 := by
    rcases hav with ⟨rfl, rfl, rfl⟩ | ⟨T, r, rfl, rfl⟩
    · intro p hp; cases hp
    · intro p hp; simp only [List.mem_singleton] at hp; subst hp; rfl
  refine (law_args table (f := 3) (fn := fun3) rfl (vs := [av]) (args := [v0]) (n := 1) rfl (fun p hp => ⟨by rw [(hl p hp).1]; exact Nat.zero_lt_one, (hl p hp).2.1, (hl p hp).2.2⟩) (law3 sTbl rfl ovOK hbytes) (.cons (hrel _ hmap) .nil)).mono fun e W' ⟨he, hb⟩ => ?_
  exact ⟨_, he, law_post (tb := 4) rfl laidOut (by kernel_rfl) rfl Try.underlying4 hW' rfl rfl rfl hb⟩

set_option maxRecDepth 100000 in
theorem lifted (os : Os) (started : os.Started) (H : Type) (enc : TypeId × Value → H) :
    ReturnsInHanded {} Try.checked os 3 .any (Rows.spillNextSpec.pre6 enc Try.prog Try.f3 Rows.spillNextRow.domain false) (Rows.spillNextSpec.post enc Try.prog Try.f3 false true false false) := by
  refine returnsInHanded_of_change (C := Try.checked) own started (by kernel_rfl) Try.func3
    (ChangeSpec.witness6 (enc := enc) (C := Try.checked) false ⟨#[], #[.slice none 0 0], []⟩ 8 (by kernel_rfl) (by kernel_rfl) (by kernel_rfl) (by kernel_rfl)) ?_
  intro W base args ds gs before hval0 hW hcnd _
  exact contract H enc W base args ds gs before hval0 hW

theorem over : Rows.spillNextRow.holds Try.pinned (OpenSpec.ofChange Rows.spillNextSpec) :=
  OpenClaim.holds_of_wide 3 Try.f3 rfl rfl rfl rfl rfl rfl rfl ⟨rfl, rfl, rfl, rfl, rfl⟩ rfl rfl rfl rfl rfl (by kernel_rfl) Try.func3 (by kernel_rfl)
    (of_decide_eq_true (by kernel_rfl)) (by unfold Func.isWrapper; first | (rw [if_pos (by decide +kernel)]; kernel_rfl) | (rw [if_neg (by decide +kernel)]; exact ⟨rfl, rfl⟩))
    (fun os started H enc _ => lifted os started H enc)

theorem proved : Rows.SpillNextSaid :=
  over

end Go.Proofs.Ytlcfmfljmabaeaa.spillNext
