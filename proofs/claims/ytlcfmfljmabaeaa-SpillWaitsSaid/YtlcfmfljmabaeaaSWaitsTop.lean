/-
  The statement 'SpillWaitsSaid': for all lists of hosts and times and every crash the law returns true, and its arguments read as before.
  No condition.
-/
import Derived.Test.YtlcfmfljmabaeaaRows
import Derived.Test.YtlcfmfljmabaeaaSW2
import Derived.WalkKit
import Derived.ProofKit
import Derived.OpenShut

namespace Go.Proofs.Ytlcfmfljmabaeaa.spillWaits
open Go Go.Abs Go.ChangeShapes Go.WideShapes Go.ChangeAt Go.RowKit
set_option linter.unusedVariables false

theorem own : ownKnob Try.prog.godebug = none := by kernel_rfl
theorem laidOut : laidOutB Try.prog = true := by kernel_rfl

def funs : List (FuncId × AFun) := (5, fun5) :: seatFuns

theorem table : TableOK Try.prog (tblOf funs) ovD :=
  tblOf_ok mixed (fun p hp => by
    unfold funs at hp
    rcases List.mem_cons.1 hp with rfl | hp
    · exact comp5
    exact seatFuns_ok p hp) ovD_good

theorem sTbl : STbl (tblOf funs) := ⟨rfl, rfl, rfl, rfl, rfl, rfl, rfl, rfl, rfl, rfl, rfl, rfl, rfl, rfl, rfl, rfl, rfl, rfl, rfl, rfl, ⟨rfl, rfl, rfl, rfl, rfl, rfl, rfl, rfl, rfl, rfl, rfl, rfl, rfl, rfl, rfl, rfl, rfl⟩, ⟨rfl, rfl, rfl, rfl, rfl, rfl, rfl, rfl, rfl, rfl⟩⟩
theorem or_l {a b : CallSem} {f : FuncId} {args : List Value} {s : St} (h : b f args s = none) : orSem a b f args s = a f args s := by unfold orSem; rw [h]; cases a f args s <;> rfl
theorem or_r {a b : CallSem} {f : FuncId} {args : List Value} {s : St} (h : a f args s = none) : orSem a b f args s = b f args s := by unfold orSem; rw [h]
theorem ovOK : OvS ovD := ⟨⟨fun v s => by unfold ovD knownD; rw [or_r rfl, or_l (by rw [or_r rfl]; rfl)], fun s => rfl⟩, fun v s => by unfold ovD knownD; rw [or_r rfl, or_r rfl, or_l rfl], fun v s => by unfold ovD knownD; rw [or_r rfl, or_r rfl, or_r rfl]⟩

set_option maxRecDepth 100000 in
theorem contract (H : Type) (enc : TypeId × Value → H) (W : World) (base : Nat) (args : Array Value) (ds gs : List (DataW H)) (before : List MemPlace)
    (hval : ∀ (j : Nat) t v, Try.f5.params[j]? = some t → args[j]? = some v → Value.okWide Try.prog W .any base t v)
    (hW : DataW.Whole enc Try.prog Try.f5.params.toList Rows.spillWaitsSpec.vars false W args.toList ds gs before) :
    Calls Try.prog 5 args W fun e W' => ∃ v, e = .returned v ∧ Rows.spillWaitsSpec.post enc Try.prog Try.f5 false true false false W args v W' := by
  have hW' := hW
  obtain ⟨p, q, hA0, hV, rfl, hfz, hnd⟩ := hW
  have hA : DataW.TrodAll enc Try.prog W 0 (fun _ => true) true Try.f5.params.toList args.toList ds p := hA0
  rw [Try.params5] at hA hval
  obtain ⟨v0, vs0, d0, ds0, p0, q0, hargs, rfl, rfl, h0, r0⟩ := trodAll_cons hA
  obtain ⟨v1, vs1, d1, ds1, p1, q1, rfl, rfl, rfl, h1, r1⟩ := trodAll_cons r0
  obtain ⟨v2, vs2, d2, ds2, p2, q2, rfl, rfl, rfl, h2, r2⟩ := trodAll_cons r1
  obtain ⟨rfl, rfl, rfl⟩ := trodAll_nil r2
  obtain rfl : args = #[v0, v1, v2] := Array.toList_inj.1 hargs
  obtain ⟨rfl, rfl⟩ := trodVars_none hV
  obtain ⟨n2, rfl, rfl, rfl, w2⟩ := open_int Try.underlying3 (hval 2 3 v2 rfl rfl) h2
  obtain ⟨av, l, len, cap, zs, hlc, hcm, hzc, hwf, hl, hav, hrel, _⟩ := open_intsA Try.underlying22 Try.underlying5 rfl (hval 0 22 v0 rfl rfl) h0 0
  obtain ⟨bv, m, blen, bcap, ys, hlc', hcm', hzc', hwf', hl', hbv, hrel', _⟩ := open_intsA Try.underlying44 Try.underlying47 rfl (hval 1 44 v1 rfl rfl) h1 1
  have hnd : ((l ++ m).map fun p => p.1).Nodup := by
    rcases hav with ⟨_, rfl, _⟩ | ⟨_, _, _, rfl⟩ <;> rcases hbv with ⟨_, rfl, _⟩ | ⟨_, _, _, rfl⟩ <;> simp
  have hall : ∀ p ∈ l ++ m, p.1 < 2 ∧ (∀ β, ORel β p.2.1 p.2.2 W.heap[p.2.1.blk]?) ∧ p.2.2.isRo = true := by
    intro p hp
    rcases List.mem_append.1 hp with hp | hp
    · have := hl p hp; exact ⟨by omega, this.2⟩
    · have := hl' p hp; exact ⟨by omega, this.2⟩
  have hbytes : BytesV ⟨Args.heap (l ++ m), 2⟩ av (zs.take len) := by
    have hln : (zs.take len).length = len := by rw [List.length_take]; omega
    refine ⟨fun z hz => ?_, ?_⟩
    · have := hwf z (List.mem_of_mem_take hz)
      simp [Lit.wf, IntKind.min, IntKind.max, IntKind.signed, IntKind.bits] at this
      omega
    · rcases hav with ⟨rfl, rfl, rfl⟩ | ⟨T, r, rfl, rfl⟩
      · exact .inl ⟨rfl, by simp⟩
      · exact .inr ⟨0, 0, cap, zs.map (.int .u8), T, 1, true, by rw [hln], by omega, by show 0 < 2; omega, Args.get_mem hnd (p := (0, r, .cells (zs.map (.int .u8)) T 1 true)) (by simp), by rw [hln, List.drop_zero, List.map_take], .inl rfl, by rw [hln, List.length_map]; omega⟩
  have hints : IntsS .u32 ⟨Args.heap (l ++ m), 2⟩ bv (ys.take blen) := by
    have hln : (ys.take blen).length = blen := by rw [List.length_take]; omega
    rcases hbv with ⟨rfl, rfl, rfl⟩ | ⟨T, r, rfl, rfl⟩
    · exact .inl ⟨rfl, by simp⟩
    · exact .inr ⟨1, 0, bcap, ys.map (.int .u32), T, 1, by rw [hln], by omega, by show 1 < 2; omega, Args.get_mem hnd (p := (1, r, .cells (ys.map (.int .u32)) T 1 true)) (by simp), by rw [hln, List.length_map]; omega, by rw [hln, List.drop_zero, List.map_take]⟩
  have hm0 : ∀ p ∈ l, Args.map' (l ++ m) 0 = some p.2.1 := fun p hp => by
    have := Args.map'_mem hnd (List.mem_append_left m hp)
    rwa [(hl p hp).1] at this
  have hm1 : ∀ p ∈ m, Args.map' (l ++ m) 1 = some p.2.1 := fun p hp => by
    have := Args.map'_mem hnd (List.mem_append_right l hp)
    rwa [(hl' p hp).1] at this
  have hu : ∀ u ∈ ys.take blen, 0 ≤ u ∧ u ≤ 4294967295 := fun u hu => by
    have := hwf' u (List.mem_of_mem_take hu)
    simp [Lit.wf, IntKind.min, IntKind.max, IntKind.signed, IntKind.bits] at this
    omega
  refine (law_args table (f := 5) (fn := fun5) rfl (vs := [av, bv, .int .i64 n2]) (args := [v0, v1, .int .i64 n2]) (n := 2) rfl hall (law5 sTbl rfl ovOK hbytes hints hu (w64_of_wf w2)) (.cons (hrel _ hm0) (.cons (hrel' _ hm1) (.cons (.prim _ rfl) .nil)))).mono fun e W' ⟨he, hb⟩ => ?_
  exact ⟨_, he, law_post (tb := 4) rfl laidOut (by kernel_rfl) rfl Try.underlying4 hW' rfl rfl rfl hb⟩

set_option maxRecDepth 100000 in
theorem lifted (os : Os) (started : os.Started) (H : Type) (enc : TypeId × Value → H) :
    ReturnsInHanded {} Try.checked os 5 .any (Rows.spillWaitsSpec.pre6 enc Try.prog Try.f5 Rows.spillWaitsRow.domain false) (Rows.spillWaitsSpec.post enc Try.prog Try.f5 false true false false) := by
  refine returnsInHanded_of_change (C := Try.checked) own started (by kernel_rfl) Try.func5
    (ChangeSpec.witness6 (enc := enc) (C := Try.checked) false ⟨#[], #[.slice none 0 0, .slice none 0 0, .int .i64 0], []⟩ 8 (by kernel_rfl) (by kernel_rfl) (by kernel_rfl) (by kernel_rfl)) ?_
  intro W base args ds gs before hval0 hW hcnd _
  exact contract H enc W base args ds gs before hval0 hW

theorem over : Rows.spillWaitsRow.holds Try.pinned (OpenSpec.ofChange Rows.spillWaitsSpec) :=
  OpenClaim.holds_of_wide 5 Try.f5 rfl rfl rfl rfl rfl rfl rfl ⟨rfl, rfl, rfl, rfl, rfl⟩ rfl rfl rfl rfl rfl (by kernel_rfl) Try.func5 (by kernel_rfl)
    (of_decide_eq_true (by kernel_rfl)) (by unfold Func.isWrapper; first | (rw [if_pos (by decide +kernel)]; kernel_rfl) | (rw [if_neg (by decide +kernel)]; exact ⟨rfl, rfl⟩))
    (fun os started H enc _ => lifted os started H enc)

theorem proved : Rows.SpillWaitsSaid :=
  over

end Go.Proofs.Ytlcfmfljmabaeaa.spillWaits
