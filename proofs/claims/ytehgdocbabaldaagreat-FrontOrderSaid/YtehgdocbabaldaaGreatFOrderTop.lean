/-
  The statement 'FrontOrderSaid': for every memory and all lists of paths and priorities the law returns true, and its arguments read as before.
  No condition.
-/
import Derived.Test.YtehgdocbabaldaaGreatRows
import Derived.Test.YtehgdocbabaldaaGreatFW4
import Derived.Test.YtehgdocbabaldaaGreatG3
import Derived.Test.YtehgdocbabaldaaGreatA48
import Derived.WalkKit
import Derived.ProofKit
import Derived.OpenShut
namespace Go.Proofs.YtehgdocbabaldaaGreat.frontOrder
open Go Go.Abs Go.ChangeShapes Go.WideShapes Go.ChangeAt Go.RowKit
set_option linter.unusedVariables false

theorem own : ownKnob Tryz.prog.godebug = none := by kernel_rfl
theorem laidOut : laidOutB Tryz.prog = true := by kernel_rfl

def funs : List (FuncId × AFun) := (3, fun3) :: seatFuns

theorem table : TableOK Tryz.prog (tblOf funs) ovE :=
  tblOf_ok mixed (fun p hp => by
    unfold funs at hp
    rcases List.mem_cons.1 hp with rfl | hp
    · exact comp3
    exact seatFuns_ok p hp) ovE_good

theorem sTbl : STbl (tblOf funs) := by repeat (first | rfl | constructor)
theorem fTbl : FTbl (tblOf funs) := by constructor <;> rfl
theorem qTbl : Q.QTbl (tblOf funs) := by constructor <;> rfl

set_option maxRecDepth 100000 in
theorem contract (H : Type) (enc : TypeId × Value → H) (W : World) (base : Nat) (args : Array Value) (ds gs : List (DataW H)) (before : List MemPlace)
    (hval : ∀ (j : Nat) t v, Tryz.f3.params[j]? = some t → args[j]? = some v → Value.okWide Tryz.prog W .any base t v)
    (hW : DataW.Whole enc Tryz.prog Tryz.f3.params.toList Rows.frontOrderSpec.vars false W args.toList ds gs before) :
    Calls Tryz.prog 3 args W fun e W' => ∃ v, e = .returned v ∧ Rows.frontOrderSpec.post enc Tryz.prog Tryz.f3 false true false false W args v W' := by
  have hW' := hW
  obtain ⟨p, q, hA0, hV, rfl, hfz, hnd⟩ := hW
  have hA : DataW.TrodAll enc Tryz.prog W 0 (fun _ => true) true Tryz.f3.params.toList args.toList ds p := hA0
  rw [Tryz.params3] at hA hval
  obtain ⟨v0, vs0, d0, ds0, p0, q0, hargs, rfl, rfl, h0, r0⟩ := trodAll_cons hA
  obtain ⟨v1, vs1, d1, ds1, p1, q1, rfl, rfl, rfl, h1, r1⟩ := trodAll_cons r0
  obtain ⟨v2, vs2, d2, ds2, p2, q2, rfl, rfl, rfl, h2, r2⟩ := trodAll_cons r1
  obtain ⟨rfl, rfl, rfl⟩ := trodAll_nil r2
  obtain rfl : args = #[v0, v1, v2] := Array.toList_inj.1 hargs
  obtain ⟨rfl, rfl⟩ := trodVars_none hV
  obtain ⟨n0, rfl, rfl, rfl, w0⟩ := open_int Tryz.underlying5 (hval 0 5 v0 rfl rfl) h0
  obtain ⟨av, l, len, cap, zs, hlc, hcm, hzl, hrow, hl, hav, hrel⟩ := open_rowsA (c := 1) (Q := fun cs => ∃ b : ByteArray, cs = [.string b]) Tryz.underlying22 (by kernel_rfl) (by decide) (fun n cs x h _ => by obtain ⟨b, e, _⟩ := DataW.trod_string Tryz.underlying9 h; exact ⟨b, e⟩) (fun cs ⟨b, hb⟩ => by rw [hb]; rfl) (hval 1 22 v1 rfl rfl) h1 0
  obtain ⟨bv, m, blen, bcap, ys, hlc', hcm', hzc', hwf', hl', hbv, hrel', _⟩ := open_intsA Tryz.underlying23 Tryz.underlying5 rfl (hval 2 23 v2 rfl rfl) h2 1
  have hnd : ((l ++ m).map fun p => p.1).Nodup := by
    rcases hav with ⟨_, rfl, _⟩ | ⟨_, _, _, rfl⟩ <;> rcases hbv with ⟨_, rfl, _⟩ | ⟨_, _, _, rfl⟩ <;> simp
  have hall : ∀ p ∈ l ++ m, p.1 < 2 ∧ (∀ β, ORel β p.2.1 p.2.2 W.heap[p.2.1.blk]?) ∧ p.2.2.isRo = true := by
    intro p hp
    rcases List.mem_append.1 hp with hp | hp
    · have := hl p hp; exact ⟨by omega, this.2⟩
    · have := hl' p hp; exact ⟨by omega, this.2⟩
  obtain ⟨M, hM, hMf, _⟩ := rows_of (cells := fun b : ByteArray => [.string b]) (W := fun _ => True) hzl (fun i hi => by obtain ⟨b, hb⟩ := hrow i hi; exact ⟨b, hb, trivial⟩) len hlc
  have hrows : RowV 1 ⟨Args.heap (l ++ m), 2⟩ av (strsR M) := by
    refine ⟨fun x hx => ?_, ?_⟩
    · obtain ⟨r, _, rfl⟩ := List.mem_map.1 hx
      exact ⟨rfl, rfl⟩
    · rcases hav with ⟨rfl, rfl, rfl⟩ | ⟨T, r, rfl, rfl⟩
      · have : M = [] := List.eq_nil_of_length_eq_zero (by omega)
        subst this
        exact .inl ⟨rfl, rfl⟩
      · exact .inr ⟨0, 0, cap, zs, T, true, by rw [List.length_map, hM], by rw [List.length_map, hM]; exact hlc, by show 0 < 2; omega, Args.get_mem hnd (p := (0, r, .cells zs T 1 true)) (by simp), by rw [List.length_map, hM]; omega, by rw [List.length_map, hM, List.drop_zero]; exact hMf⟩
  have hbytes : BytesV ⟨Args.heap (l ++ m), 2⟩ bv (ys.take blen) := by
    have hln : (ys.take blen).length = blen := by rw [List.length_take]; omega
    refine ⟨fun z hz => ?_, ?_⟩
    · have := hwf' z (List.mem_of_mem_take hz)
      simp [Lit.wf, IntKind.min, IntKind.max, IntKind.signed, IntKind.bits] at this
      omega
    · rcases hbv with ⟨rfl, rfl, rfl⟩ | ⟨T, r, rfl, rfl⟩
      · exact .inl ⟨rfl, by simp⟩
      · exact .inr ⟨1, 0, bcap, ys.map (.int .u8), T, 1, true, by rw [hln], by omega, by show 1 < 2; omega, Args.get_mem hnd (p := (1, r, .cells (ys.map (.int .u8)) T 1 true)) (by simp), by rw [hln, List.drop_zero, List.map_take], .inl rfl, by rw [hln, List.length_map]; omega⟩
  have hm0 : ∀ p ∈ l, Args.map' (l ++ m) 0 = some p.2.1 := fun p hp => by
    have := Args.map'_mem hnd (List.mem_append_left m hp)
    rwa [(hl p hp).1] at this
  have hm1 : ∀ p ∈ m, Args.map' (l ++ m) 1 = some p.2.1 := fun p hp => by
    have := Args.map'_mem hnd (List.mem_append_right l hp)
    rwa [(hl' p hp).1] at this
  have hu : 0 ≤ n0 ∧ n0 ≤ 255 := by
    simp [Lit.wf, IntKind.min, IntKind.max, IntKind.signed, IntKind.bits] at w0
    omega
  refine (law_args table (f := 3) (fn := fun3) rfl (vs := [.int .u8 n0, av, bv]) (args := [.int .u8 n0, v1, v2]) (n := 2) rfl hall (law3 fTbl rfl qTbl sTbl ovE_S ovE_Q hu hrows hbytes) (.cons (.prim _ rfl) (.cons (hrel _ hm0) (.cons (hrel' _ hm1) .nil)))).mono fun e W' ⟨he, hb⟩ => ?_
  exact ⟨_, he, law_post (tb := 4) rfl laidOut (by kernel_rfl) rfl Tryz.underlying4 hW' rfl rfl rfl hb⟩

set_option maxRecDepth 100000 in
theorem lifted (os : Os) (started : os.Started) (H : Type) (enc : TypeId × Value → H) :
    ReturnsInHanded {} Tryz.checked os 3 .any (Rows.frontOrderSpec.pre6 enc Tryz.prog Tryz.f3 Rows.frontOrderRow.domain false) (Rows.frontOrderSpec.post enc Tryz.prog Tryz.f3 false true false false) := by
  refine returnsInHanded_of_change (C := Tryz.checked) own started (by kernel_rfl) Tryz.func3
    (ChangeSpec.witness6 (enc := enc) (C := Tryz.checked) false ⟨#[], #[.int .u8 0, .slice none 0 0, .slice none 0 0], []⟩ 8 (by kernel_rfl) (by kernel_rfl) (by kernel_rfl) (by kernel_rfl)) ?_
  intro W base args ds gs before hval0 hW hcnd _
  exact contract H enc W base args ds gs before hval0 hW

theorem over : Rows.frontOrderRow.holds Tryz.pinned (OpenSpec.ofChange Rows.frontOrderSpec) :=
  OpenClaim.holds_of_wide 3 Tryz.f3 rfl rfl rfl rfl rfl rfl rfl ⟨rfl, rfl, rfl, rfl, rfl⟩ rfl rfl rfl rfl rfl (by kernel_rfl) Tryz.func3 (by kernel_rfl)
    (of_decide_eq_true (by kernel_rfl)) (by unfold Func.isWrapper; first | (rw [if_pos (by decide +kernel)]; kernel_rfl) | (rw [if_neg (by decide +kernel)]; exact ⟨rfl, rfl⟩))
    (fun os started H enc _ => lifted os started H enc)

theorem proved : Rows.FrontOrderSaid :=
  over

end Go.Proofs.YtehgdocbabaldaaGreat.frontOrder
