/-
  The statement 'FrameTurnedSaid': for every record, place and turn the law returns true, and its arguments read as before.
  No condition.
-/
import Derived.Test.YtaigiehdnhehnaaRows
import Derived.Test.YtaigiehdnhehnaaR1RecArg
import Derived.Test.YtaigiehdnhehnaaR1Turn3
import Derived.Test.YtaigiehdnhehnaaA27
import Derived.WalkKit
import Derived.ProofKit
import Derived.OpenShut
namespace Go.Proofs.Ytaigiehdnhehnaa.frameTurned
open Go Go.Abs Go.ChangeShapes Go.WideShapes Go.ChangeAt Go.RowKit
set_option linter.unusedVariables false

theorem own : ownKnob Try.prog.godebug = none := by kernel_rfl
theorem laidOut : laidOutB Try.prog = true := by kernel_rfl

def funs : List (FuncId × AFun) := (11, fun11) :: frameFuns

theorem table : TableOK Try.prog (tblOf funs) (known [(23, .bool true)]) :=
  tblOf_ok mixedF (fun p hp => by
    rcases List.mem_cons.1 hp with rfl | hp
    · exact comp11
    · exact frameFuns_ok p hp) awakeF_known

theorem contract (H : Type) (enc : TypeId × Value → H) (W : World) (base : Nat) (args : Array Value) (ds gs : List (DataW H)) (before : List MemPlace)
    (hval : ∀ (j : Nat) t v, Try.f11.params[j]? = some t → args[j]? = some v → Value.okWide Try.prog W .any base t v)
    (hW : DataW.Whole enc Try.prog Try.f11.params.toList Rows.frameTurnedSpec.vars false W args.toList ds gs before) :
    Calls Try.prog 11 args W fun e W' => ∃ v, e = .returned v ∧ Rows.frameTurnedSpec.post enc Try.prog Try.f11 false true false false W args v W' := by
  have hW' := hW
  obtain ⟨p, q, hA0, hV, rfl, hfz, hnd⟩ := hW
  have hA : DataW.TrodAll enc Try.prog W 0 (fun _ => true) true Try.f11.params.toList args.toList ds p := hA0
  rw [Try.params11] at hA hval
  obtain ⟨v0, vs0, d0, ds0, p0, q0, hargs, rfl, rfl, h0, r0⟩ := trodAll_cons hA
  obtain ⟨v1, vs1, d1, ds1, p1, q1, rfl, rfl, rfl, h1, r1⟩ := trodAll_cons r0
  obtain ⟨v2, vs2, d2, ds2, p2, q2, rfl, rfl, rfl, h2, r2⟩ := trodAll_cons r1
  obtain ⟨rfl, rfl, rfl⟩ := trodAll_nil r2
  obtain rfl : args = #[v0, v1, v2] := by cases args; simp_all
  obtain ⟨rfl, rfl⟩ := trodVars_none hV
  obtain ⟨a, rfl, wa⟩ := open_rec (hval 0 50 v0 rfl rfl)
  obtain ⟨n1, rfl, rfl, rfl, w1⟩ := open_int Try.underlying63 (hval 1 63 v1 rfl rfl) h1
  obtain ⟨n2, rfl, rfl, rfl, w2⟩ := open_int Try.underlying61 (hval 2 61 v2 rfl rfl) h2
  have T : FrameTbl (tblOf funs) := ⟨rfl, rfl, rfl, rfl, rfl, rfl, rfl, rfl, rfl, rfl, rfl, rfl, rfl, rfl⟩
  simp [Lit.wf, IntKind.min, IntKind.max, IntKind.signed, IntKind.bits] at w1 w2
  have hn2 : n2 = ((BitVec.ofInt 32 n2).toNat : Int) := by rw [BitVec.toNat_ofInt]; omega
  have hlaw := law11 (tbl := tblOf funs) (ov := known [(23, .bool true)]) (s := ⟨Args.heap [], 0⟩) (t := BitVec.ofInt 32 n2) (at_ := n1) T rfl rfl (fun s => rfl) wa (by omega)
  rw [u32, ← hn2] at hlaw
  refine (law_args table (f := 11) (fn := fun11) rfl (vs := [a.val, .int .u16 n1, .int .u32 n2]) (args := [a.val, .int .u16 n1, .int .u32 n2]) (l := []) (n := 0) rfl (fun p hp => by cases hp) hlaw (.cons (rec_rel _ a) (.cons (.prim _ rfl) (.cons (.prim _ rfl) .nil)))).mono fun e W' ⟨he, hb⟩ => ?_
  exact ⟨_, he, law_post (tb := 4) rfl laidOut (by kernel_rfl) rfl Try.underlying4 hW' rfl rfl rfl hb⟩

set_option maxRecDepth 100000 in
theorem lifted (os : Os) (started : os.Started) (H : Type) (enc : TypeId × Value → H) :
    ReturnsInHanded {} Try.checked os 11 .any (Rows.frameTurnedSpec.pre6 enc Try.prog Try.f11 Rows.frameTurnedRow.domain false) (Rows.frameTurnedSpec.post enc Try.prog Try.f11 false true false false) := by
  refine returnsInHanded_of_change (C := Try.checked) own started (by kernel_rfl) Try.func11
    (ChangeSpec.witness6 (enc := enc) (C := Try.checked) false ⟨#[], #[.agg #[.int .i64 0, .int .i64 0, .string .empty, .string .empty, .int .i64 0, .int .i64 0], .int .u16 0, .int .u32 0], []⟩ 8 (by kernel_rfl) (by kernel_rfl) (by kernel_rfl) (by kernel_rfl)) ?_
  intro W base args ds gs before hval0 hW hcnd _
  exact contract H enc W base args ds gs before hval0 hW

theorem over : Rows.frameTurnedRow.holds Try.pinned (OpenSpec.ofChange Rows.frameTurnedSpec) :=
  OpenClaim.holds_of_wide 11 Try.f11 rfl rfl rfl rfl rfl rfl rfl ⟨rfl, rfl, rfl, rfl, rfl⟩ rfl rfl rfl rfl rfl (by kernel_rfl) Try.func11 (by kernel_rfl)
    (of_decide_eq_true (by kernel_rfl)) (by unfold Func.isWrapper; first | (rw [if_pos (by decide +kernel)]; kernel_rfl) | (rw [if_neg (by decide +kernel)]; exact ⟨rfl, rfl⟩))
    (fun os started H enc _ => lifted os started H enc)

theorem proved : Rows.FrameTurnedSaid :=
  over

end Go.Proofs.Ytaigiehdnhehnaa.frameTurned
