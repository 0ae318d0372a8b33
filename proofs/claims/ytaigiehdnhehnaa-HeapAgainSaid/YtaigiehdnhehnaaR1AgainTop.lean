/-
  The statement 'HeapAgainSaid': for every slice of numbers and every slice of bytes the law returns true, and its arguments read as before.
  No condition.
-/
import Derived.Test.YtaigiehdnhehnaaRows
import Derived.Test.YtaigiehdnhehnaaR1Again3
import Derived.Test.YtaigiehdnhehnaaA27
import Derived.WalkKit
import Derived.ProofKit
import Derived.OpenShut
namespace Go.Proofs.Ytaigiehdnhehnaa.heapAgain
open Go Go.Abs Go.ChangeShapes Go.WideShapes Go.ChangeAt Go.RowKit
set_option linter.unusedVariables false

theorem own : ownKnob Try.prog.godebug = none := by kernel_rfl
theorem laidOut : laidOutB Try.prog = true := by kernel_rfl

def funs : List (FuncId × AFun) := (4, fun4) :: heapFuns

theorem table : TableOK Try.prog (tblOf funs) (known [(17, .bool true)]) :=
  tblOf_ok mixed (fun p hp => by
    rcases List.mem_cons.1 hp with rfl | hp
    · exact comp4
    · exact heapFuns_ok p hp) awake_known

theorem heapTbl : HeapTbl (tblOf funs) := ⟨rfl, rfl, rfl, rfl, rfl, rfl, rfl, rfl, rfl, rfl, rfl⟩

theorem contract (H : Type) (enc : TypeId × Value → H) (W : World) (base : Nat) (args : Array Value) (ds gs : List (DataW H)) (before : List MemPlace)
    (hval : ∀ (j : Nat) t v, Try.f4.params[j]? = some t → args[j]? = some v → Value.okWide Try.prog W .any base t v)
    (hW : DataW.Whole enc Try.prog Try.f4.params.toList Rows.heapAgainSpec.vars false W args.toList ds gs before) :
    Calls Try.prog 4 args W fun e W' => ∃ v, e = .returned v ∧ Rows.heapAgainSpec.post enc Try.prog Try.f4 false true false false W args v W' := by
  have hW' := hW
  obtain ⟨p, q, hA0, hV, rfl, hfz, hnd⟩ := hW
  have hA : DataW.TrodAll enc Try.prog W 0 (fun _ => true) true Try.f4.params.toList args.toList ds p := hA0
  rw [Try.params4] at hA hval
  obtain ⟨v0, vs0, d0, ds0, p0, q0, hargs, rfl, rfl, h0, r0⟩ := trodAll_cons hA
  obtain ⟨v1, vs1, d1, ds1, p1, q1, rfl, rfl, rfl, h1, r1⟩ := trodAll_cons r0
  obtain ⟨rfl, rfl, rfl⟩ := trodAll_nil r1
  obtain rfl : args = #[v0, v1] := by cases args; simp_all
  obtain ⟨rfl, rfl⟩ := trodVars_none hV
  obtain ⟨av, l, len, cap, zs, hlc, hcm, hzc, hwf, hl, hav, hrel, _⟩ := open_intsA Try.underlying22 Try.underlying3 rfl (hval 0 22 v0 rfl rfl) h0 0
  obtain ⟨bv, m, blen, bcap, ys, hlc', hcm', hzc', hwf', hl', hbv, hrel', _⟩ := open_intsA Try.underlying33 Try.underlying5 rfl (hval 1 33 v1 rfl rfl) h1 1
  have hnd : ((l ++ m).map fun p => p.1).Nodup := by
    rcases hav with ⟨_, rfl, _⟩ | ⟨_, _, _, rfl⟩ <;> rcases hbv with ⟨_, rfl, _⟩ | ⟨_, _, _, rfl⟩ <;> simp
  have hall : ∀ p ∈ l ++ m, p.1 < 2 ∧ (∀ β, ORel β p.2.1 p.2.2 W.heap[p.2.1.blk]?) ∧ p.2.2.isRo = true := by
    intro p hp
    rcases List.mem_append.1 hp with hp | hp
    · have := hl p hp; exact ⟨by omega, this.2⟩
    · have := hl' p hp; exact ⟨by omega, this.2⟩
  have hkeys : KeysAt ⟨Args.heap (l ++ m), 2⟩ av zs len := by
    refine ⟨by omega, ?_⟩
    rcases hav with ⟨rfl, rfl, rfl⟩ | ⟨T, r, rfl, rfl⟩
    · simp only [List.length_nil] at hzc
      exact .inl ⟨rfl, by omega⟩
    · exact .inr ⟨0, cap, T, rfl, by show 0 < 2; omega, rfl⟩
  have hbytes : BytesAt ⟨Args.heap (l ++ m), 2⟩ bv ys blen := by
    refine ⟨by omega, fun z hz => ?_, ?_⟩
    · have := hwf' z hz
      simp [Lit.wf, IntKind.min, IntKind.max, IntKind.signed, IntKind.bits] at this
      omega
    · rcases hbv with ⟨rfl, rfl, rfl⟩ | ⟨T, r, rfl, rfl⟩
      · simp only [List.length_nil] at hzc'
        exact .inl ⟨rfl, by omega⟩
      · exact .inr ⟨1, bcap, T, rfl, by show 1 < 2; omega, Args.get_mem hnd (p := (1, r, _)) (by simp)⟩
  have hm0 : ∀ p ∈ l, Args.map' (l ++ m) 0 = some p.2.1 := fun p hp => by
    have := Args.map'_mem hnd (List.mem_append_left m hp)
    rwa [(hl p hp).1] at this
  have hm1 : ∀ p ∈ m, Args.map' (l ++ m) 1 = some p.2.1 := fun p hp => by
    have := Args.map'_mem hnd (List.mem_append_right l hp)
    rwa [(hl' p hp).1] at this
  refine (law_args table (f := 4) (fn := fun4) rfl (vs := [av, bv]) (args := [v0, v1]) (n := 2) rfl hall (law4 heapTbl rfl rfl (fun s => rfl) hkeys hbytes) (.cons (hrel _ hm0) (.cons (hrel' _ hm1) .nil))).mono fun e W' ⟨he, hb⟩ => ?_
  exact ⟨_, he, law_post (tb := 4) rfl laidOut (by kernel_rfl) rfl Try.underlying4 hW' rfl rfl rfl hb⟩

set_option maxRecDepth 100000 in
theorem lifted (os : Os) (started : os.Started) (H : Type) (enc : TypeId × Value → H) :
    ReturnsInHanded {} Try.checked os 4 .any (Rows.heapAgainSpec.pre6 enc Try.prog Try.f4 Rows.heapAgainRow.domain false) (Rows.heapAgainSpec.post enc Try.prog Try.f4 false true false false) := by
  refine returnsInHanded_of_change (C := Try.checked) own started (by kernel_rfl) Try.func4
    (ChangeSpec.witness6 (enc := enc) (C := Try.checked) false ⟨#[], #[.slice none 0 0, .slice none 0 0], []⟩ 8 (by kernel_rfl) (by kernel_rfl) (by kernel_rfl) (by kernel_rfl)) ?_
  intro W base args ds gs before hval0 hW hcnd _
  exact contract H enc W base args ds gs before hval0 hW

theorem over : Rows.heapAgainRow.holds Try.pinned (OpenSpec.ofChange Rows.heapAgainSpec) :=
  OpenClaim.holds_of_wide 4 Try.f4 rfl rfl rfl rfl rfl rfl rfl ⟨rfl, rfl, rfl, rfl, rfl⟩ rfl rfl rfl rfl rfl (by kernel_rfl) Try.func4 (by kernel_rfl)
    (of_decide_eq_true (by kernel_rfl)) (by unfold Func.isWrapper; first | (rw [if_pos (by decide +kernel)]; kernel_rfl) | (rw [if_neg (by decide +kernel)]; exact ⟨rfl, rfl⟩))
    (fun os started H enc _ => lifted os started H enc)

theorem proved : Rows.HeapAgainSaid :=
  over

end Go.Proofs.Ytaigiehdnhehnaa.heapAgain
