/-
  spill.keys: the keys of a map, sorted; what is known of all calls.
-/
import Derived.Test.YtehgdocbabaldaaGreatG2
import Derived.Test.YtehgdocbabaldaaGreatFQ7
import Derived.Test.YtehgdocbabaldaaGreatFP3
import Derived.Maps.AppendAt
import Derived.WalkKit
import Derived.OwnWalkIn
import Derived.TacticsInMore
import Derived.RegionIn
import Derived.LoopNIn
import Derived.LoopIn
set_option maxRecDepth 100000
set_option linter.unusedVariables false
namespace Go.Proofs.YtehgdocbabaldaaGreat
open Go Go.Abs Go.Shelf Go.Maps Go.Sort Go.RowKit

def sortB_ren : Go.Shelf.Ren := ⟨fun | 6 => 104 | 8 => 85 | 9 => 114 | 19 => 102 | 20 => 103 | 21 => 117 | 22 => 118 | 23 => 119 | 24 => 120 | 25 => 121 | 26 => 122 | 27 => 123 | 28 => 124 | 29 => 125 | 36 => 126 | 31 => 110 | 32 => 111 | 37 => 127 | 38 => 128 | 39 => 129 | 41 => 130 | n => n, fun | 27 => 22 | 29 => 9 | 3 => 3 | 32 => 120 | 26 => 22 | 0 => 0 | 44 => 102 | 46 => 98 | 4 => 4 | 36 => 148 | 35 => 147 | 41 => 51 | 5 => 5 | 9 => 9 | 53 => 161 | 57 => 165 | 63 => 169 | 64 => 170 | n => n, fun | n => n⟩
theorem sortB : Go.Proofs.SlLaysM.n6 Tryz.prog sortB_ren := {
  mixed := by kernel_rfl
  f6 := ⟨Tryz.f104.name, by decide, Tryz.func104.trans (congrArg some (by kernel_rfl))⟩
  f8 := Tryz.func85.trans (congrArg some (by kernel_rfl))
  f9 := ⟨Tryz.f114.name, by decide, Tryz.func114.trans (congrArg some (by kernel_rfl))⟩
  f19 := Tryz.func102.trans (congrArg some (by kernel_rfl))
  f20 := Tryz.func103.trans (congrArg some (by kernel_rfl))
  f21 := ⟨Tryz.f117.name, by decide, Tryz.func117.trans (congrArg some (by kernel_rfl))⟩
  f22 := ⟨Tryz.f118.name, by decide, Tryz.func118.trans (congrArg some (by kernel_rfl))⟩
  f23 := ⟨Tryz.f119.name, by decide, Tryz.func119.trans (congrArg some (by kernel_rfl))⟩
  f24 := ⟨Tryz.f120.name, by decide, Tryz.func120.trans (congrArg some (by kernel_rfl))⟩
  f25 := ⟨Tryz.f121.name, by decide, Tryz.func121.trans (congrArg some (by kernel_rfl))⟩
  f26 := ⟨Tryz.f122.name, by decide, Tryz.func122.trans (congrArg some (by kernel_rfl))⟩
  f27 := ⟨Tryz.f123.name, by decide, Tryz.func123.trans (congrArg some (by kernel_rfl))⟩
  f28 := ⟨Tryz.f124.name, by decide, Tryz.func124.trans (congrArg some (by kernel_rfl))⟩
  f29 := ⟨Tryz.f125.name, by decide, Tryz.func125.trans (congrArg some (by kernel_rfl))⟩
  f31 := Tryz.func110.trans (congrArg some (by kernel_rfl))
  f32 := Tryz.func111.trans (congrArg some (by kernel_rfl))
  f36 := ⟨Tryz.f126.name, by decide, Tryz.func126.trans (congrArg some (by kernel_rfl))⟩
  f37 := ⟨Tryz.f127.name, by decide, Tryz.func127.trans (congrArg some (by kernel_rfl))⟩
  f38 := ⟨Tryz.f128.name, by decide, Tryz.func128.trans (congrArg some (by kernel_rfl))⟩
  f39 := ⟨Tryz.f129.name, by decide, Tryz.func129.trans (congrArg some (by kernel_rfl))⟩
  f41 := ⟨Tryz.f130.name, by decide, Tryz.func130.trans (congrArg some (by kernel_rfl))⟩
  t0 := Tryz.underlying0
  a0 := Tryz.isAgg0
  z0 := Tryz.sizeOf0
  v0 := Tryz.zeroValue0
  t3 := Tryz.underlying3
  a3 := Tryz.isAgg3
  z3 := Tryz.sizeOf3
  v3 := Tryz.zeroValue3
  t4 := Tryz.underlying4
  a4 := Tryz.isAgg4
  z4 := Tryz.sizeOf4
  v4 := Tryz.zeroValue4
  t5 := Tryz.underlying5
  a5 := Tryz.isAgg5
  z5 := Tryz.sizeOf5
  v5 := Tryz.zeroValue5
  t9 := Tryz.underlying9
  a9 := Tryz.isAgg9
  z9 := Tryz.sizeOf9
  v9 := Tryz.zeroValue9
  t26 := Tryz.underlying22
  a26 := Tryz.isAgg22
  z26 := Tryz.sizeOf22
  v26 := Tryz.zeroValue22
  t27 := Tryz.underlying22
  a27 := Tryz.isAgg22
  z27 := Tryz.sizeOf22
  v27 := Tryz.zeroValue22
  t29 := Tryz.underlying9
  a29 := Tryz.isAgg9
  z29 := Tryz.sizeOf9
  v29 := Tryz.zeroValue9
  t32 := Tryz.underlying120
  a32 := Tryz.isAgg120
  z32 := Tryz.sizeOf120
  v32 := Tryz.zeroValue120
  t35 := Tryz.underlying147
  a35 := Tryz.isAgg147
  z35 := Tryz.sizeOf147
  v35 := Tryz.zeroValue147
  t36 := Tryz.underlying148
  a36 := Tryz.isAgg148
  z36 := Tryz.sizeOf148
  v36 := Tryz.zeroValue148
  t41 := Tryz.underlying51
  a41 := Tryz.isAgg51
  z41 := Tryz.sizeOf51
  v41 := Tryz.zeroValue51
  t44 := Tryz.underlying102
  a44 := Tryz.isAgg102
  z44 := Tryz.sizeOf102
  v44 := Tryz.zeroValue102
  t46 := Tryz.underlying98
  a46 := Tryz.isAgg98
  z46 := Tryz.sizeOf98
  v46 := Tryz.zeroValue98
  t53 := Tryz.underlying161
  a53 := Tryz.isAgg161
  z53 := Tryz.sizeOf161
  v53 := Tryz.zeroValue161
  t57 := Tryz.underlying165
  a57 := Tryz.isAgg165
  z57 := Tryz.sizeOf165
  v57 := Tryz.zeroValue165
  t63 := Tryz.underlying169
  a63 := Tryz.isAgg169
  z63 := Tryz.sizeOf169
  v63 := Tryz.zeroValue169
  t64 := Tryz.underlying170
  a64 := Tryz.isAgg170
  z64 := Tryz.sizeOf170
  v64 := Tryz.zeroValue170 }

theorem info3 : (Tryz.prog.info? 3).map (fun i => (i.zero, i.size, i.bytes)) = some (some (.int .i64 0), 1, 8) := by kernel_rfl
theorem info9 : (Tryz.prog.info? 9).map (fun i => (i.zero, i.size, i.bytes)) = some (some (.string ⟨#[]⟩), 1, 16) := by kernel_rfl

set_option maxRecDepth 100000 in
set_option maxHeartbeats 2000000 in
theorem keysI (b n : Nat) (D0 : DataW Unit) (w : World) (hown : w.ownsMap Tryz.prog 3 anyR b n D0) (hmax : Maps.size D0 ≤ 1073741824) :
    CallsIn Fence.wide 6 Tryz.prog 105 #[.map (some b)] w fun e w' => ∃ (v : Value) (ss : List Int), e = .returned v ∧ ss.Perm (intKeys D0) ∧
      w'.ownsRow w.heap.size 3 1 v ss.length ((ss.mergeSort (fun x y => decide (x ≤ y))).map encZ) ∧ (v = .slice none 0 0 ↔ ss = []) ∧ Below w.heap.size w w' := by
  obtain ⟨i0, hi, hz0, hz1, hz2⟩ := info_parts info3
  have hbl := hown.lt
  have hfS : Fence.wide.fn 65 := trivial
  refine callsIn_of_wp Tryz.func105 rfl trivial ?_ rfl
  simp only [Tryz.ntmps105, List.size_toArray, List.length_cons, List.length_nil, Nat.reduceAdd, Nat.reduceSub, Array.replicate_succ, Array.replicate_zero, List.push_toArray, List.append_toArray, List.nil_append, List.cons_append]
  gi_wp2_with (first
    | (gi_at_range; refine wpListIn_range_own _ rfl _ 58 rfl 3 34 (int_keyed Tryz.underlying3) Tryz.underlying58 _ b n _ rfl hown ?_; intro w0 hrg0 hg0 hs0)
    | gi_in)
  go_frame
  gi_loopw [3] (fun v wr => ∃ (left : Lit → Bool) (cnt : Nat) (ss : List Int), wr.ranges Tryz.prog 3 anyR b w.heap.size n D0 left cnt ∧ ss.length + cnt ≤ Maps.size D0 ∧
      wr.ownsRow w.heap.size 3 1 v ss.length (ss.map encZ) ∧ (v = .slice none 0 0 ↔ ss = []) ∧ CollectedI D0 left ss ∧ Below w.heap.size w wr)
    (fun _ wr => wr.rangeLeft b w.heap.size)
  case atStart =>
    exact ⟨_, _, [], hrg0, by simp, ⟨rfl, .inl ⟨rfl, rfl⟩⟩, by simp, CollectedI.start D0, (Below.refl _ _).grown hg0 (Nat.le_refl _) (fun j hj => by cases hj)⟩
  case round =>
    obtain ⟨left, cnt, ss, hrg, hcs, hrow, hnn, hC, hnx⟩ := hrel
    gi_wp2_with (first
      | (gi_at_next; refine wpListIn_next_ranges _ rfl _ rfl 3 (int_keyed Tryz.underlying3) anyR encZ (fun v : Value => v) (fun key kl hk => by obtain ⟨x, hx, _⟩ := Maps.keyOf_i64 Tryz.underlying3 hk; exact ⟨x, hx⟩) (fun v y _ => ⟨v, rfl⟩) b w.heap.size n _ _ _ rfl hrg ?_ ?_)
      | gi_in)
    · intro hc0 hl0
      rcases hrow.2 with ⟨hnil, h0⟩ | ⟨g, cap, cur, rfl, hbase, hb, h1, h2, h3, h4⟩
      · subst hnil
        obtain rfl : ss = [] := List.length_eq_zero_iff.1 h0
        have hc : CallsIn Fence.wide 5 Tryz.prog 65 #[.slice none 0 0] wr fun e w' => e = .returned (.tuple #[]) ∧ w' = wr := callsIn_wide.2 (AnyM.slices_Sort_int_none sortA none 0 wr)
        gi_wp2_with (gi_at_call 65; refine hc.mono ?_; rintro e w' ⟨rfl, rfl⟩)
        go_ret
        exact ⟨_, [], rfl, hC.perm hown (int_keyed Tryz.underlying3) Tryz.underlying3 hl0, by simpa using hrow, by simp, hnx⟩
      · have hH : Holds encZ wr g 0 ss.toArray := holds_of_block_i hb (by simpa using h4)
        have hgl : g < wr.heap.size := (Array.getElem?_eq_some_iff.1 hb).1
        have hc : CallsIn Fence.wide 5 Tryz.prog 65 #[.slice (some ⟨g, 0, none⟩) ss.length cap] wr fun e w' => e = .returned (.tuple #[]) ∧ ∃ n os, w' = grow (putRow encZ (Sort.ahead wr n) g 0 (ss.mergeSort fun x y => decide (x ≤ y)).toArray) os := callsIn_wide.2 (AnyM.slices_Sort_int sortA g 0 cap ss wr hH hgl (by omega))
        gi_wp2_with (gi_at_call 65; refine hc.mono ?_; rintro e w' ⟨rfl, nn, os, rfl⟩)
        go_ret
        exact ⟨_, ss, rfl, hC.perm hown (int_keyed Tryz.underlying3) Tryz.underlying3 hl0, by simpa using ownsRow_sorted_i (ts := ss.mergeSort fun x y => decide (x ≤ y)) (by simp) hbase hb h1 h2 h3, by simpa using hnn, hnx.grown (grownBy_sorted_i _) hnx.size (fun j hj => by cases hj; exact hbase)⟩
    · intro x c kl yd yp w2 cnt2 hkey hlk hv hat hrg2 hlt hg2 hs2 hen
      obtain ⟨x', ex, rfl, _⟩ := Maps.keyOf_i64 Tryz.underlying3 hkey
      obtain rfl : x = x' := encZ_inj ex
      have hrow2 := hrow.kept hg2 (Or.inr (row_ne_iter hrow hrg).symm)
      clear hs2
      gi_wp2_with (first
        | (gi_at_builtin; refine wpListIn_append_own _ rfl _ _ 62 rfl w.heap.size 3 i0 (.int .i64 0) 1 8 Tryz.underlying62 hi hz0 hz1 hz2 rfl (by decide) _ _ _ rfl (hrow2.alloc _) ⟨w2.heap.size, 0, none⟩ 1 1 [encZ x] rfl rfl (cell_one_new _ _ _) (by simp [Value.oneCell', encZ]) (by unfold maxLen at *; omega) (by omega) (by have := hnx.size; have := hg2.size; simp; omega) ?_; intro v' w3 hown' hg3 hnil3; go_frame)
        | gi_in)
      have hrg3 := (hrg2.alloc _).kept hg3 (row_ne_low hrow2 hbl) (row_ne_iter hrow2 hrg2)
      go_roundw
      case rel =>
        refine ⟨_, cnt2, ss ++ [x], hrg3, by simp; omega, by simpa using hown', ⟨fun hv' => by have := (hnil3.1 hv').2; omega, fun h => by simp at h⟩, hC.step hlk hat, ?_⟩
        exact ((hnx.grown hg2 hnx.size (fun j hj => by cases hj; exact Nat.le_refl _)).alloc (by have := hnx.size; have := hg2.size; omega) _).grown hg3 (by have := hnx.size; have := hg2.size; simp; omega) (fun j hj => (hrow2.lt j hj).1)
      case measure => rw [hrg3.left_eq, hrg.left_eq]; exact hlt

set_option maxRecDepth 100000 in
set_option maxHeartbeats 2000000 in
theorem keysS (b n : Nat) (D0 : DataW Unit) (w : World) (hown : w.ownsMap Tryz.prog 9 anyR b n D0) (hmax : Maps.size D0 ≤ 1073741824) :
    CallsIn Fence.wide 6 Tryz.prog 88 #[.map (some b)] w fun e w' => ∃ (v : Value) (ss : List (List UInt8)), e = .returned v ∧ ss.Perm (strKeys D0) ∧
      w'.ownsRow w.heap.size 9 1 v ss.length ((ss.mergeSort (fun x y => decide (x ≤ y))).map encStr) ∧ (v = .slice none 0 0 ↔ ss = []) ∧ Below w.heap.size w w' := by
  obtain ⟨i0, hi, hz0, hz1, hz2⟩ := info_parts info9
  have hbl := hown.lt
  have hfS : Fence.wide.fn 104 := trivial
  refine callsIn_of_wp Tryz.func88 rfl trivial ?_ rfl
  simp only [Tryz.ntmps88, List.size_toArray, List.length_cons, List.length_nil, Nat.reduceAdd, Nat.reduceSub, Array.replicate_succ, Array.replicate_zero, List.push_toArray, List.append_toArray, List.nil_append, List.cons_append]
  gi_wp2_with (first
    | (gi_at_range; refine wpListIn_range_own _ rfl _ 59 rfl 9 3 (string_keyed Tryz.underlying9) Tryz.underlying59 _ b n _ rfl hown ?_; intro w0 hrg0 hg0 hs0)
    | gi_in)
  go_frame
  gi_loopw [3] (fun v wr => ∃ (left : Lit → Bool) (cnt : Nat) (ss : List (List UInt8)), wr.ranges Tryz.prog 9 anyR b w.heap.size n D0 left cnt ∧ ss.length + cnt ≤ Maps.size D0 ∧
      wr.ownsRow w.heap.size 9 1 v ss.length (ss.map encStr) ∧ (v = .slice none 0 0 ↔ ss = []) ∧ Collected D0 left ss ∧ Below w.heap.size w wr)
    (fun _ wr => wr.rangeLeft b w.heap.size)
  case atStart =>
    exact ⟨_, _, [], hrg0, by simp, ⟨rfl, .inl ⟨rfl, rfl⟩⟩, by simp, Collected.start D0, (Below.refl _ _).grown hg0 (Nat.le_refl _) (fun j hj => by cases hj)⟩
  case round =>
    obtain ⟨left, cnt, ss, hrg, hcs, hrow, hnn, hC, hnx⟩ := hrel
    gi_wp2_with (first
      | (gi_at_next; refine wpListIn_next_ranges _ rfl _ rfl 9 (string_keyed Tryz.underlying9) anyR encStr (fun v : Value => v) (fun key kl hk => by obtain ⟨x, hx, _⟩ := Maps.keyOf_str Tryz.underlying9 hk; exact ⟨x, hx⟩) (fun v y _ => ⟨v, rfl⟩) b w.heap.size n _ _ _ rfl hrg ?_ ?_)
      | gi_in)
    · intro hc0 hl0
      rcases hrow.2 with ⟨hnil, h0⟩ | ⟨g, cap, cur, rfl, hbase, hb, h1, h2, h3, h4⟩
      · subst hnil
        obtain rfl : ss = [] := List.length_eq_zero_iff.1 h0
        have hc : CallsIn Fence.wide 5 Tryz.prog 104 #[.slice none 0 0] wr fun e w' => e = .returned (.tuple #[]) ∧ w' = wr := callsIn_wide.2 (AnyM.slices_Sort_string_none sortB none 0 wr)
        gi_wp2_with (gi_at_call 104; refine hc.mono ?_; rintro e w' ⟨rfl, rfl⟩)
        go_ret
        exact ⟨_, [], rfl, hC.perm hown (string_keyed Tryz.underlying9) Tryz.underlying9 hl0, by simpa using hrow, by simp, hnx⟩
      · have hH : Holds encStr wr g 0 ss.toArray := holds_of_block hb (by simpa using h4)
        have hgl : g < wr.heap.size := (Array.getElem?_eq_some_iff.1 hb).1
        have hc : CallsIn Fence.wide 5 Tryz.prog 104 #[.slice (some ⟨g, 0, none⟩) ss.length cap] wr fun e w' => e = .returned (.tuple #[]) ∧ ∃ n os, w' = grow (putRow encStr (Sort.ahead wr n) g 0 (ss.mergeSort fun x y => decide (x ≤ y)).toArray) os := callsIn_wide.2 (AnyM.slices_Sort_string sortB g 0 cap ss wr hH hgl (by omega))
        gi_wp2_with (gi_at_call 104; refine hc.mono ?_; rintro e w' ⟨rfl, nn, os, rfl⟩)
        go_ret
        exact ⟨_, ss, rfl, hC.perm hown (string_keyed Tryz.underlying9) Tryz.underlying9 hl0, by simpa using ownsRow_sorted (ts := ss.mergeSort fun x y => decide (x ≤ y)) (by simp) hbase hb h1 h2 h3, by simpa using hnn, hnx.grown (grownBy_sorted _) hnx.size (fun j hj => by cases hj; exact hbase)⟩
    · intro x c kl yd yp w2 cnt2 hkey hlk hv hat hrg2 hlt hg2 hs2 hen
      obtain ⟨x', ex, rfl, _⟩ := Maps.keyOf_str Tryz.underlying9 hkey
      obtain rfl : x = x' := encStr_inj ex
      have hrow2 := hrow.kept hg2 (Or.inr (row_ne_iter hrow hrg).symm)
      clear hs2
      gi_wp2_with (first
        | (gi_at_builtin; refine wpListIn_append_own _ rfl _ _ 22 rfl w.heap.size 9 i0 (.string ⟨#[]⟩) 1 16 Tryz.underlying22 hi hz0 hz1 hz2 rfl (by decide) _ _ _ rfl (hrow2.alloc _) ⟨w2.heap.size, 0, none⟩ 1 1 [encStr x] rfl rfl (cell_one_new _ _ _) (by simp [Value.oneCell', encStr]) (by unfold maxLen at *; omega) (by omega) (by have := hnx.size; have := hg2.size; simp; omega) ?_; intro v' w3 hown' hg3 hnil3; go_frame)
        | gi_in)
      have hrg3 := (hrg2.alloc _).kept hg3 (row_ne_low hrow2 hbl) (row_ne_iter hrow2 hrg2)
      go_roundw
      case rel =>
        refine ⟨_, cnt2, ss ++ [x], hrg3, by simp; omega, by simpa using hown', ⟨fun hv' => by have := (hnil3.1 hv').2; omega, fun h => by simp at h⟩, hC.step hlk hat, ?_⟩
        exact ((hnx.grown hg2 hnx.size (fun j hj => by cases hj; exact Nat.le_refl _)).alloc (by have := hnx.size; have := hg2.size; omega) _).grown hg3 (by have := hnx.size; have := hg2.size; simp; omega) (fun j hj => (hrow2.lt j hj).1)
      case measure => rw [hrg3.left_eq, hrg.left_eq]; exact hlt

theorem keysIOK : KeysOK Tryz.prog 105 3 3 encZ keysZ sortZ intKeys (fun x y => decide (x ≤ y)) :=
  keysI_ok Tryz.underlying3 ⟨_, Tryz.func105, by kernel_rfl, by kernel_rfl⟩ fun b nn D w h1 h2 => (callsIn_wide (n := 6)).1 (keysI b nn D w h1 h2)
theorem keysSOK : KeysOK Tryz.prog 88 9 9 encStr keysT sortS strKeys (fun x y => decide (x ≤ y)) :=
  keysS_ok Tryz.underlying9 ⟨_, Tryz.func88, by kernel_rfl, by kernel_rfl⟩ fun b nn D w h1 h2 => (callsIn_wide (n := 6)).1 (keysS b nn D w h1 h2)

def ovE : CallSem := orSem ovD (orSem (keysSem 105 3 encZ keysZ sortZ) (keysSem 88 9 encStr keysT sortS))
theorem ovE_good : GoodCalls Tryz.prog ovE ∧ GoodWF ovE := or_good ovD_good (or_good (keys_good keysIOK) (keys_good keysSOK))

theorem or_l {a b : CallSem} {f : FuncId} {args : List Value} {s : St} (h : b f args s = none) : orSem a b f args s = a f args s := by unfold orSem; rw [h]; cases a f args s <;> rfl
theorem or_r {a b : CallSem} {f : FuncId} {args : List Value} {s : St} (h : a f args s = none) : orSem a b f args s = b f args s := by unfold orSem; rw [h]
theorem ovE_S : OvS ovE := ⟨⟨fun v s => by unfold ovE ovD knownD; rw [or_l (by rw [or_r rfl]; rfl), or_r rfl, or_l rfl], fun s => rfl⟩, fun v s => by unfold ovE; rw [or_r rfl, or_l rfl], fun v s => by unfold ovE; rw [or_r rfl, or_r rfl]⟩
theorem ovE_Q : Q.OvOK ovE := ⟨fun a l s => by unfold ovE ovD knownD; rw [or_l (by rw [or_r rfl]; rfl), or_r rfl, or_r rfl], fun s => rfl⟩

end Go.Proofs.YtehgdocbabaldaaGreat
