/-
  The statement 'FrameScansSaid': for every slice of bytes the law returns true, and its argument reads as before.
  No condition.
-/
import Derived.Test.YtaigiehdnhehnaaRows
import Derived.Test.YtaigiehdnhehnaaR1Scans
import Derived.Test.YtaigiehdnhehnaaA27
import Derived.WalkKit
import Derived.ProofKit
import Derived.OpenShut
namespace Go.Proofs.Ytaigiehdnhehnaa.frameScans
open Go Go.Abs Go.ChangeShapes Go.WideShapes Go.ChangeAt Go.RowKit
set_option linter.unusedVariables false

theorem own : ownKnob Try.prog.godebug = none := by kernel_rfl
theorem laidOut : laidOutB Try.prog = true := by kernel_rfl

def funs : List (FuncId × AFun) := (8, fun8) :: frameFuns

theorem table : TableOK Try.prog (tblOf funs) (known [(23, .bool true)]) :=
  tblOf_ok mixedF (fun p hp => by
    rcases List.mem_cons.1 hp with rfl | hp
    · exact comp8
    · exact frameFuns_ok p hp) awakeF_known

theorem contract (H : Type) (enc : TypeId × Value → H) (W : World) (base : Nat) (args : Array Value) (ds gs : List (DataW H)) (before : List MemPlace)
    (hval : ∀ (j : Nat) t v, Try.f8.params[j]? = some t → args[j]? = some v → Value.okWide Try.prog W .any base t v)
    (hW : DataW.Whole enc Try.prog Try.f8.params.toList Rows.frameScansSpec.vars false W args.toList ds gs before) :
    Calls Try.prog 8 args W fun e W' => ∃ v, e = .returned v ∧ Rows.frameScansSpec.post enc Try.prog Try.f8 false true false false W args v W' := by
  have hW' := hW
  obtain ⟨p, q, hA0, hV, rfl, hfz, hnd⟩ := hW
  have hA : DataW.TrodAll enc Try.prog W 0 (fun _ => true) true Try.f8.params.toList args.toList ds p := hA0
  rw [Try.params8] at hA hval
  obtain ⟨v0, vs0, d0, ds0, p0, q0, hargs, rfl, rfl, h0, r0⟩ := trodAll_cons hA
  obtain ⟨rfl, rfl, rfl⟩ := trodAll_nil r0
  obtain rfl : args = #[v0] := by cases args; simp_all
  obtain ⟨rfl, rfl⟩ := trodVars_none hV
  obtain ⟨av, l, len, cap, zs, hlc, hcm, hzc, hwf, hl, hav, hrel, _⟩ := open_intsA Try.underlying33 Try.underlying5 rfl (hval 0 33 v0 rfl rfl) h0 0
  have hbytes : BytesV ⟨Args.heap l, 1⟩ av (zs.take len) := by
    have hln : (zs.take len).length = len := by rw [List.length_take]; omega
    refine ⟨fun z hz => ?_, ?_⟩
    · have := hwf z (List.mem_of_mem_take hz)
      simp [Lit.wf, IntKind.min, IntKind.max, IntKind.signed, IntKind.bits] at this
      omega
    · rcases hav with ⟨rfl, rfl, rfl⟩ | ⟨T, r, rfl, rfl⟩
      · exact .inl ⟨rfl, by simp⟩
      · exact .inr ⟨0, 0, cap, _, T, 1, true, by rw [hln], by omega, Nat.zero_lt_one, rfl, by rw [hln, List.drop_zero, List.map_take], .inl rfl, by rw [hln, List.length_map]; omega⟩
  have hmap : ∀ p ∈ l, Args.map' l 0 = some p.2.1 := by
    rcases hav with ⟨rfl, rfl, rfl⟩ | ⟨T, r, rfl, rfl⟩
    · intro p hp; cases hp
    · intro p hp; simp only [List.mem_singleton] at hp; subst hp; rfl
  refine (law_args table (f := 8) (fn := fun8) rfl (vs := [av]) (args := [v0]) (n := 1) rfl (fun p hp => ⟨by rw [(hl p hp).1]; exact Nat.zero_lt_one, (hl p hp).2.1, (hl p hp).2.2⟩) (law8 ⟨rfl, rfl, rfl, rfl, rfl, rfl, rfl, rfl, rfl, rfl, rfl, rfl, rfl, rfl⟩ rfl rfl (fun s => rfl) hbytes) (.cons (hrel _ hmap) .nil)).mono fun e W' ⟨he, hb⟩ => ?_
  exact ⟨_, he, law_post (tb := 4) rfl laidOut (by kernel_rfl) rfl Try.underlying4 hW' rfl rfl rfl hb⟩

set_option maxRecDepth 100000 in
theorem lifted (os : Os) (started : os.Started) (H : Type) (enc : TypeId × Value → H) :
    ReturnsInHanded {} Try.checked os 8 .any (Rows.frameScansSpec.pre6 enc Try.prog Try.f8 Rows.frameScansRow.domain false) (Rows.frameScansSpec.post enc Try.prog Try.f8 false true false false) := by
  refine returnsInHanded_of_change (C := Try.checked) own started (by kernel_rfl) Try.func8
    (ChangeSpec.witness6 (enc := enc) (C := Try.checked) false ⟨#[], #[.slice none 0 0], []⟩ 8 (by kernel_rfl) (by kernel_rfl) (by kernel_rfl) (by kernel_rfl)) ?_
  intro W base args ds gs before hval0 hW hcnd _
  exact contract H enc W base args ds gs before hval0 hW

theorem over : Rows.frameScansRow.holds Try.pinned (OpenSpec.ofChange Rows.frameScansSpec) :=
  OpenClaim.holds_of_wide 8 Try.f8 rfl rfl rfl rfl rfl rfl rfl ⟨rfl, rfl, rfl, rfl, rfl⟩ rfl rfl rfl rfl rfl (by kernel_rfl) Try.func8 (by kernel_rfl)
    (of_decide_eq_true (by kernel_rfl)) (by unfold Func.isWrapper; first | (rw [if_pos (by decide +kernel)]; kernel_rfl) | (rw [if_neg (by decide +kernel)]; exact ⟨rfl, rfl⟩))
    (fun os started H enc _ => lifted os started H enc)

theorem proved : Rows.FrameScansSaid :=
  over

end Go.Proofs.Ytaigiehdnhehnaa.frameScans
