/-
  The statement 'HeapPlaysSaid': for every list of acts the law returns true, and its argument reads as before.
  No condition.
-/
import Derived.Test.YtaigiehdnhehnaaRows
import Derived.Test.YtaigiehdnhehnaaR1Plays5
import Derived.Test.YtaigiehdnhehnaaA34
import Derived.Test.YtaigiehdnhehnaaA27
import Derived.WalkKit
import Derived.ProofKit
import Derived.OpenShut
namespace Go.Proofs.Ytaigiehdnhehnaa.heapPlays
open Go Go.Abs Go.ChangeShapes Go.WideShapes Go.ChangeAt Go.RowKit
set_option linter.unusedVariables false

theorem own : ownKnob Try.prog.godebug = none := by kernel_rfl
theorem laidOut : laidOutB Try.prog = true := by kernel_rfl

def funs : List (FuncId × AFun) := (5, fun5) :: (21, fun21) :: (19, fun19) :: heapFuns

theorem table : TableOK Try.prog (tblOf funs) (known [(17, .bool true)]) :=
  tblOf_ok mixed (fun p hp => by
    rcases List.mem_cons.1 hp with rfl | hp
    · exact comp5
    rcases List.mem_cons.1 hp with rfl | hp
    · exact comp21
    rcases List.mem_cons.1 hp with rfl | hp
    · exact comp19
    · exact heapFuns_ok p hp) awake_known

theorem one_of {α : Type} {xs : List α} {i n : Nat} (h : xs.length = n) (hi : i < n) : ∃ y, xs[i]? = some y := ⟨_, List.getElem?_eq_getElem (by omega)⟩

/-- The cells of an act as it is read. -/
theorem act_of_trod {H : Type} {enc : TypeId × Value → H} {w : World} {n : Nat} {cs : List Value} {x : DataW H × List MemPlace} (h : DataW.trod enc Try.prog w 0 (fun _ => true) true n 38 cs = some x) (hl : cs.length = 3) : ∃ a b c : Int, cs = [ik a, ik b, ik c] := by
  have c3 : Try.prog.cellsOf 3 = 1 := by kernel_rfl
  obtain ⟨c0, c1, c2, rfl⟩ : ∃ c0 c1 c2, cs = [c0, c1, c2] := by
    match cs, hl with
    | [c0, c1, c2], _ => exact ⟨c0, c1, c2, rfl⟩
  obtain ⟨xs, m, _, _, _, hxl, hf⟩ := DataW.trod_struct Try.underlying38 h
  obtain ⟨y0, hy0⟩ := one_of hxl (i := 0) (by decide)
  obtain ⟨y1, hy1⟩ := one_of hxl (i := 1) (by decide)
  obtain ⟨y2, hy2⟩ := one_of hxl (i := 2) (by decide)
  have f0 : DataW.trod enc Try.prog w 0 (fun _ => true) true m 3 (([c0, c1, c2].drop 0).take (Try.prog.cellsOf 3)) = xs[0]? := hf 0 _ rfl
  have f1 : DataW.trod enc Try.prog w 0 (fun _ => true) true m 3 (([c0, c1, c2].drop 1).take (Try.prog.cellsOf 3)) = xs[1]? := hf 1 _ rfl
  have f2 : DataW.trod enc Try.prog w 0 (fun _ => true) true m 3 (([c0, c1, c2].drop 2).take (Try.prog.cellsOf 3)) = xs[2]? := hf 2 _ rfl
  rw [c3, hy0] at f0
  rw [c3, hy1] at f1
  rw [c3, hy2] at f2
  obtain ⟨n0, e0, _, w0⟩ := DataW.trod_int Try.underlying3 f0
  obtain ⟨n1, e1, _, w1⟩ := DataW.trod_int Try.underlying3 f1
  obtain ⟨n2, e2, _, w2⟩ := DataW.trod_int Try.underlying3 f2
  simp only [List.drop_zero, List.drop_succ_cons, List.take_succ_cons, List.take_zero, List.cons.injEq, and_true] at e0 e1 e2
  subst e0 e1 e2
  exact ⟨n0, n1, n2, rfl⟩

theorem chunks {zs : List Value} : ∀ n, n * 3 ≤ zs.length → ((List.range n).map fun i => (zs.drop (i * 3)).take 3).flatten = zs.take (n * 3) := by
  intro n
  induction n with
  | zero => intro _; simp
  | succ n ih =>
    intro h
    rw [List.range_succ, List.map_append, List.flatten_append, ih (by omega)]
    simp only [List.map_cons, List.map_nil, List.flatten_cons, List.flatten_nil, List.append_nil]
    rw [show (n + 1) * 3 = n * 3 + 3 by omega, List.take_add]

theorem contract (H : Type) (enc : TypeId × Value → H) (W : World) (base : Nat) (args : Array Value) (ds gs : List (DataW H)) (before : List MemPlace)
    (hval : ∀ (j : Nat) t v, Try.f5.params[j]? = some t → args[j]? = some v → Value.okWide Try.prog W .any base t v)
    (hW : DataW.Whole enc Try.prog Try.f5.params.toList Rows.heapPlaysSpec.vars false W args.toList ds gs before) :
    Calls Try.prog 5 args W fun e W' => ∃ v, e = .returned v ∧ Rows.heapPlaysSpec.post enc Try.prog Try.f5 false true false false W args v W' := by
  have hW' := hW
  obtain ⟨p, q, hA0, hV, rfl, hfz, hnd⟩ := hW
  have hA : DataW.TrodAll enc Try.prog W 0 (fun _ => true) true Try.f5.params.toList args.toList ds p := hA0
  rw [Try.params5] at hA hval
  obtain ⟨v0, vs0, d0, ds0, p0, q0, hargs, rfl, rfl, h0, r0⟩ := trodAll_cons hA
  obtain ⟨rfl, rfl, rfl⟩ := trodAll_nil r0
  obtain rfl : args = #[v0] := by cases args; simp_all
  obtain ⟨rfl, rfl⟩ := trodVars_none hV
  obtain ⟨av, l, len, cap, zs, hlc, hcm, hzl, hrow, hl, hav, hrel⟩ := open_rowsA (c := 3) (Q := fun cs => ∃ a b c : Int, cs = [ik a, ik b, ik c]) Try.underlying35 (by kernel_rfl) (by decide) (fun n cs x h hl => act_of_trod h hl)
    (fun cs ⟨a, b, c, hr⟩ => by rw [hr]; rfl) (hval 0 35 v0 rfl rfl) h0 0
  obtain ⟨A, hAdef⟩ : ∃ A, A = (List.range len).map fun i => (zs.drop (i * 3)).take 3 := ⟨_, rfl⟩
  have hAl : A.length = len := by rw [hAdef, List.length_map, List.length_range]
  have hAg : ∀ i, i < len → A.getD i [] = (zs.drop (i * 3)).take 3 := fun i hi => by
    rw [hAdef, List.getD_eq_getElem?_getD, List.getElem?_map, List.getElem?_range hi]; rfl
  have hA3 : ∀ i, i < A.length → ∃ w id key, A.getD i [] = [ik w, ik id, ik key] := fun i hi => by
    rw [hAg i (by omega)]; exact hrow i (by omega)
  have hv3 : RowV 3 ⟨Args.heap l, 1⟩ av A := by
    refine ⟨fun c hc => ?_, ?_⟩
    · rw [hAdef] at hc
      obtain ⟨i, hi, rfl⟩ := List.mem_map.1 hc
      obtain ⟨a, b, c, he⟩ := hrow i (by have := List.mem_range.1 hi; omega)
      rw [he]; exact ⟨rfl, rfl⟩
    · rcases hav with ⟨rfl, rfl, rfl⟩ | ⟨T, r, rfl, rfl⟩
      · exact .inl ⟨rfl, List.eq_nil_of_length_eq_zero (by omega)⟩
      · have hm : len * 3 ≤ cap * 3 := Nat.mul_le_mul_right _ hlc
        exact .inr ⟨0, 0, cap, zs, T, true, by rw [hAl], by omega, Nat.zero_lt_one, rfl, by rw [hAl]; omega, by rw [hAl, List.drop_zero, hAdef]; exact (chunks len (by omega)).symm⟩
  have hmap : ∀ p ∈ l, Args.map' l 0 = some p.2.1 := by
    rcases hav with ⟨rfl, rfl, rfl⟩ | ⟨T, r, rfl, rfl⟩
    · intro p hp; cases hp
    · intro p hp; simp only [List.mem_singleton] at hp; subst hp; rfl
  have T : PlayTbl (tblOf funs) := ⟨rfl, rfl, rfl, rfl, rfl, rfl, rfl, rfl, rfl, rfl, rfl, rfl, rfl⟩
  have hlaw := law5 (tbl := tblOf funs) (ov := known [(17, .bool true)]) T rfl rfl (fun s => rfl) hv3 hA3
  refine (law_args table (f := 5) (fn := fun5) rfl (vs := [av]) (args := [v0]) (n := 1) rfl (fun p hp => ⟨by rw [(hl p hp).1]; exact Nat.zero_lt_one, (hl p hp).2.1, (hl p hp).2.2⟩) hlaw (.cons (hrel _ hmap) .nil)).mono fun e W' ⟨he, hb⟩ => ?_
  exact ⟨_, he, law_post (tb := 4) rfl laidOut (by kernel_rfl) rfl Try.underlying4 hW' rfl rfl rfl hb⟩

set_option maxRecDepth 100000 in
theorem lifted (os : Os) (started : os.Started) (H : Type) (enc : TypeId × Value → H) :
    ReturnsInHanded {} Try.checked os 5 .any (Rows.heapPlaysSpec.pre6 enc Try.prog Try.f5 Rows.heapPlaysRow.domain false) (Rows.heapPlaysSpec.post enc Try.prog Try.f5 false true false false) := by
  refine returnsInHanded_of_change (C := Try.checked) own started (by kernel_rfl) Try.func5
    (ChangeSpec.witness6 (enc := enc) (C := Try.checked) false ⟨#[], #[.slice none 0 0], []⟩ 8 (by kernel_rfl) (by kernel_rfl) (by kernel_rfl) (by kernel_rfl)) ?_
  intro W base args ds gs before hval0 hW hcnd _
  exact contract H enc W base args ds gs before hval0 hW

theorem over : Rows.heapPlaysRow.holds Try.pinned (OpenSpec.ofChange Rows.heapPlaysSpec) :=
  OpenClaim.holds_of_wide 5 Try.f5 rfl rfl rfl rfl rfl rfl rfl ⟨rfl, rfl, rfl, rfl, rfl⟩ rfl rfl rfl rfl rfl (by kernel_rfl) Try.func5 (by kernel_rfl)
    (of_decide_eq_true (by kernel_rfl)) (by unfold Func.isWrapper; first | (rw [if_pos (by decide +kernel)]; kernel_rfl) | (rw [if_neg (by decide +kernel)]; exact ⟨rfl, rfl⟩))
    (fun os started H enc _ => lifted os started H enc)

theorem proved : Rows.HeapPlaysSaid :=
  over

end Go.Proofs.Ytaigiehdnhehnaa.heapPlays
