/-
  spill.keys: the keys of a map, sorted.
-/
import Derived.Test.YtlcfmfljmabaeaaProg
import Derived.Test.YtlcfmfljmabaeaaA48
import Derived.Sort.MapsRangeIn
import Derived.Sort.KeysCollected
import Derived.Sort.OwnSorted
import Derived.Lib.SlKeysI
import Derived.Maps.AppendAt
import Derived.WalkKit
import Derived.OwnWalkIn
import Derived.TacticsInMore
import Derived.RegionIn
import Derived.LoopNIn
import Derived.LoopIn
set_option maxRecDepth 100000
set_option linter.unusedVariables false
namespace Go.Proofs.Ytlcfmfljmabaeaa
open Go Go.Abs Go.Shelf Go.Maps Go.Sort Go.RowKit

def keysA_ren : Go.Shelf.Ren := ⟨fun | 7 => 37 | 10 => 54 | n => n, fun | 23 => 59 | 26 => 3 | 3 => 22 | 28 => 88 | 0 => 0 | 27 => 87 | 33 => 104 | 4 => 4 | n => n, fun | n => n⟩
theorem keysA : Go.Proofs.SlLaysZI.n7 Try.prog keysA_ren := {
  mixed := by kernel_rfl
  f7 := ⟨Try.f37.name, by decide, Try.func37.trans (congrArg some (by kernel_rfl))⟩
  f10 := ⟨Try.f54.name, by decide, Try.func54.trans (congrArg some (by kernel_rfl))⟩
  t0 := Try.underlying0
  a0 := Try.isAgg0
  z0 := Try.sizeOf0
  v0 := Try.zeroValue0
  t4 := Try.underlying4
  a4 := Try.isAgg4
  z4 := Try.sizeOf4
  v4 := Try.zeroValue4
  t23 := Try.underlying59
  a23 := Try.isAgg59
  z23 := Try.sizeOf59
  v23 := Try.zeroValue59
  t26 := Try.underlying3
  a26 := Try.isAgg3
  z26 := Try.sizeOf3
  v26 := Try.zeroValue3
  t27 := Try.underlying87
  a27 := Try.isAgg87
  z27 := Try.sizeOf87
  v27 := Try.zeroValue87
  t28 := Try.underlying88
  a28 := Try.isAgg88
  z28 := Try.sizeOf88
  v28 := Try.zeroValue88
  t33 := Try.underlying104
  a33 := Try.isAgg104
  z33 := Try.sizeOf104
  v33 := Try.zeroValue104 }
def sortedA_ren : Go.Shelf.Ren := ⟨fun | 6 => 36 | 8 => 53 | 9 => 52 | 11 => 63 | 13 => 62 | 12 => 61 | 23 => 76 | 24 => 77 | 14 => 67 | 15 => 68 | 16 => 69 | 17 => 70 | 18 => 71 | 19 => 72 | 20 => 73 | 21 => 74 | 22 => 75 | 25 => 87 | 26 => 88 | 27 => 89 | 28 => 90 | 29 => 91 | 30 => 92 | 31 => 97 | n => n, fun | 26 => 3 | 28 => 88 | 24 => 46 | 0 => 0 | 3 => 3 | 37 => 105 | 48 => 47 | 50 => 92 | 4 => 4 | 40 => 120 | 39 => 119 | 45 => 125 | 5 => 5 | 9 => 9 | 51 => 135 | 55 => 139 | 57 => 144 | 58 => 145 | 33 => 104 | n => n, fun | n => n⟩
theorem sortedA : Go.Proofs.SlLaysZI.n6 Try.prog sortedA_ren := {
  mixed := by kernel_rfl
  f6 := ⟨Try.f36.name, by decide, Try.func36.trans (congrArg some (by kernel_rfl))⟩
  f8 := ⟨Try.f53.name, by decide, Try.func53.trans (congrArg some (by kernel_rfl))⟩
  f11 := ⟨Try.f63.name, by decide, Try.func63.trans (congrArg some (by kernel_rfl))⟩
  t0 := Try.underlying0
  a0 := Try.isAgg0
  z0 := Try.sizeOf0
  v0 := Try.zeroValue0
  t24 := Try.underlying46
  a24 := Try.isAgg46
  z24 := Try.sizeOf46
  v24 := Try.zeroValue46
  t26 := Try.underlying3
  a26 := Try.isAgg3
  z26 := Try.sizeOf3
  v26 := Try.zeroValue3
  t28 := Try.underlying88
  a28 := Try.isAgg88
  z28 := Try.sizeOf88
  v28 := Try.zeroValue88
  i26 := by kernel_rfl }
def sortA_ren : Go.Shelf.Ren := ⟨fun | 5 => 52 | 8 => 62 | 7 => 61 | 19 => 76 | 20 => 77 | 10 => 67 | 11 => 68 | 12 => 69 | 13 => 70 | 14 => 71 | 15 => 72 | 16 => 73 | 17 => 74 | 18 => 75 | 30 => 87 | 31 => 88 | 32 => 89 | 33 => 90 | 34 => 91 | 35 => 92 | 40 => 97 | n => n, fun | 23 => 46 | 25 => 3 | 3 => 3 | 32 => 105 | 22 => 46 | 0 => 0 | 44 => 47 | 46 => 92 | 4 => 4 | 36 => 120 | 35 => 119 | 41 => 125 | 5 => 5 | 9 => 9 | 53 => 135 | 57 => 139 | 63 => 144 | 64 => 145 | n => n, fun | n => n⟩
theorem sortA : Go.Proofs.SlLaysM.n5 Try.prog sortA_ren := {
  mixed := by kernel_rfl
  f5 := ⟨Try.f52.name, by decide, Try.func52.trans (congrArg some (by kernel_rfl))⟩
  f7 := ⟨Try.f61.name, by decide, Try.func61.trans (congrArg some (by kernel_rfl))⟩
  f8 := Try.func62.trans (congrArg some (by kernel_rfl))
  f10 := ⟨Try.f67.name, by decide, Try.func67.trans (congrArg some (by kernel_rfl))⟩
  f11 := ⟨Try.f68.name, by decide, Try.func68.trans (congrArg some (by kernel_rfl))⟩
  f12 := ⟨Try.f69.name, by decide, Try.func69.trans (congrArg some (by kernel_rfl))⟩
  f13 := ⟨Try.f70.name, by decide, Try.func70.trans (congrArg some (by kernel_rfl))⟩
  f14 := ⟨Try.f71.name, by decide, Try.func71.trans (congrArg some (by kernel_rfl))⟩
  f15 := ⟨Try.f72.name, by decide, Try.func72.trans (congrArg some (by kernel_rfl))⟩
  f16 := ⟨Try.f73.name, by decide, Try.func73.trans (congrArg some (by kernel_rfl))⟩
  f17 := ⟨Try.f74.name, by decide, Try.func74.trans (congrArg some (by kernel_rfl))⟩
  f18 := ⟨Try.f75.name, by decide, Try.func75.trans (congrArg some (by kernel_rfl))⟩
  f19 := Try.func76.trans (congrArg some (by kernel_rfl))
  f20 := Try.func77.trans (congrArg some (by kernel_rfl))
  f30 := ⟨Try.f87.name, by decide, Try.func87.trans (congrArg some (by kernel_rfl))⟩
  f31 := Try.func88.trans (congrArg some (by kernel_rfl))
  f32 := Try.func89.trans (congrArg some (by kernel_rfl))
  f33 := ⟨Try.f90.name, by decide, Try.func90.trans (congrArg some (by kernel_rfl))⟩
  f34 := ⟨Try.f91.name, by decide, Try.func91.trans (congrArg some (by kernel_rfl))⟩
  f35 := ⟨Try.f92.name, by decide, Try.func92.trans (congrArg some (by kernel_rfl))⟩
  f40 := ⟨Try.f97.name, by decide, Try.func97.trans (congrArg some (by kernel_rfl))⟩
  t0 := Try.underlying0
  a0 := Try.isAgg0
  z0 := Try.sizeOf0
  v0 := Try.zeroValue0
  t3 := Try.underlying3
  a3 := Try.isAgg3
  z3 := Try.sizeOf3
  v3 := Try.zeroValue3
  t4 := Try.underlying4
  a4 := Try.isAgg4
  z4 := Try.sizeOf4
  v4 := Try.zeroValue4
  t5 := Try.underlying5
  a5 := Try.isAgg5
  z5 := Try.sizeOf5
  v5 := Try.zeroValue5
  t9 := Try.underlying9
  a9 := Try.isAgg9
  z9 := Try.sizeOf9
  v9 := Try.zeroValue9
  t22 := Try.underlying46
  a22 := Try.isAgg46
  z22 := Try.sizeOf46
  v22 := Try.zeroValue46
  t23 := Try.underlying46
  a23 := Try.isAgg46
  z23 := Try.sizeOf46
  v23 := Try.zeroValue46
  t25 := Try.underlying3
  a25 := Try.isAgg3
  z25 := Try.sizeOf3
  v25 := Try.zeroValue3
  t32 := Try.underlying105
  a32 := Try.isAgg105
  z32 := Try.sizeOf105
  v32 := Try.zeroValue105
  t35 := Try.underlying119
  a35 := Try.isAgg119
  z35 := Try.sizeOf119
  v35 := Try.zeroValue119
  t36 := Try.underlying120
  a36 := Try.isAgg120
  z36 := Try.sizeOf120
  v36 := Try.zeroValue120
  t41 := Try.underlying125
  a41 := Try.isAgg125
  z41 := Try.sizeOf125
  v41 := Try.zeroValue125
  t44 := Try.underlying47
  a44 := Try.isAgg47
  z44 := Try.sizeOf47
  v44 := Try.zeroValue47
  t46 := Try.underlying92
  a46 := Try.isAgg92
  z46 := Try.sizeOf92
  v46 := Try.zeroValue92
  t53 := Try.underlying135
  a53 := Try.isAgg135
  z53 := Try.sizeOf135
  v53 := Try.zeroValue135
  t57 := Try.underlying139
  a57 := Try.isAgg139
  z57 := Try.sizeOf139
  v57 := Try.zeroValue139
  t63 := Try.underlying144
  a63 := Try.isAgg144
  z63 := Try.sizeOf144
  v63 := Try.zeroValue144
  t64 := Try.underlying145
  a64 := Try.isAgg145
  z64 := Try.sizeOf145
  v64 := Try.zeroValue145 }
def sortB_ren : Go.Shelf.Ren := ⟨fun | 6 => 57 | 8 => 62 | 9 => 65 | 19 => 76 | 20 => 77 | 21 => 78 | 22 => 79 | 23 => 80 | 24 => 81 | 25 => 82 | 26 => 83 | 27 => 84 | 28 => 85 | 29 => 86 | 36 => 93 | 31 => 88 | 32 => 89 | 37 => 94 | 38 => 95 | 39 => 96 | 41 => 98 | n => n, fun | 27 => 45 | 29 => 9 | 3 => 3 | 32 => 105 | 26 => 45 | 0 => 0 | 44 => 47 | 46 => 92 | 4 => 4 | 36 => 120 | 35 => 119 | 41 => 125 | 5 => 5 | 9 => 9 | 53 => 135 | 57 => 139 | 63 => 144 | 64 => 145 | n => n, fun | n => n⟩
theorem sortB : Go.Proofs.SlLaysM.n6 Try.prog sortB_ren := {
  mixed := by kernel_rfl
  f6 := ⟨Try.f57.name, by decide, Try.func57.trans (congrArg some (by kernel_rfl))⟩
  f8 := Try.func62.trans (congrArg some (by kernel_rfl))
  f9 := ⟨Try.f65.name, by decide, Try.func65.trans (congrArg some (by kernel_rfl))⟩
  f19 := Try.func76.trans (congrArg some (by kernel_rfl))
  f20 := Try.func77.trans (congrArg some (by kernel_rfl))
  f21 := ⟨Try.f78.name, by decide, Try.func78.trans (congrArg some (by kernel_rfl))⟩
  f22 := ⟨Try.f79.name, by decide, Try.func79.trans (congrArg some (by kernel_rfl))⟩
  f23 := ⟨Try.f80.name, by decide, Try.func80.trans (congrArg some (by kernel_rfl))⟩
  f24 := ⟨Try.f81.name, by decide, Try.func81.trans (congrArg some (by kernel_rfl))⟩
  f25 := ⟨Try.f82.name, by decide, Try.func82.trans (congrArg some (by kernel_rfl))⟩
  f26 := ⟨Try.f83.name, by decide, Try.func83.trans (congrArg some (by kernel_rfl))⟩
  f27 := ⟨Try.f84.name, by decide, Try.func84.trans (congrArg some (by kernel_rfl))⟩
  f28 := ⟨Try.f85.name, by decide, Try.func85.trans (congrArg some (by kernel_rfl))⟩
  f29 := ⟨Try.f86.name, by decide, Try.func86.trans (congrArg some (by kernel_rfl))⟩
  f31 := Try.func88.trans (congrArg some (by kernel_rfl))
  f32 := Try.func89.trans (congrArg some (by kernel_rfl))
  f36 := ⟨Try.f93.name, by decide, Try.func93.trans (congrArg some (by kernel_rfl))⟩
  f37 := ⟨Try.f94.name, by decide, Try.func94.trans (congrArg some (by kernel_rfl))⟩
  f38 := ⟨Try.f95.name, by decide, Try.func95.trans (congrArg some (by kernel_rfl))⟩
  f39 := ⟨Try.f96.name, by decide, Try.func96.trans (congrArg some (by kernel_rfl))⟩
  f41 := ⟨Try.f98.name, by decide, Try.func98.trans (congrArg some (by kernel_rfl))⟩
  t0 := Try.underlying0
  a0 := Try.isAgg0
  z0 := Try.sizeOf0
  v0 := Try.zeroValue0
  t3 := Try.underlying3
  a3 := Try.isAgg3
  z3 := Try.sizeOf3
  v3 := Try.zeroValue3
  t4 := Try.underlying4
  a4 := Try.isAgg4
  z4 := Try.sizeOf4
  v4 := Try.zeroValue4
  t5 := Try.underlying5
  a5 := Try.isAgg5
  z5 := Try.sizeOf5
  v5 := Try.zeroValue5
  t9 := Try.underlying9
  a9 := Try.isAgg9
  z9 := Try.sizeOf9
  v9 := Try.zeroValue9
  t26 := Try.underlying45
  a26 := Try.isAgg45
  z26 := Try.sizeOf45
  v26 := Try.zeroValue45
  t27 := Try.underlying45
  a27 := Try.isAgg45
  z27 := Try.sizeOf45
  v27 := Try.zeroValue45
  t29 := Try.underlying9
  a29 := Try.isAgg9
  z29 := Try.sizeOf9
  v29 := Try.zeroValue9
  t32 := Try.underlying105
  a32 := Try.isAgg105
  z32 := Try.sizeOf105
  v32 := Try.zeroValue105
  t35 := Try.underlying119
  a35 := Try.isAgg119
  z35 := Try.sizeOf119
  v35 := Try.zeroValue119
  t36 := Try.underlying120
  a36 := Try.isAgg120
  z36 := Try.sizeOf120
  v36 := Try.zeroValue120
  t41 := Try.underlying125
  a41 := Try.isAgg125
  z41 := Try.sizeOf125
  v41 := Try.zeroValue125
  t44 := Try.underlying47
  a44 := Try.isAgg47
  z44 := Try.sizeOf47
  v44 := Try.zeroValue47
  t46 := Try.underlying92
  a46 := Try.isAgg92
  z46 := Try.sizeOf92
  v46 := Try.zeroValue92
  t53 := Try.underlying135
  a53 := Try.isAgg135
  z53 := Try.sizeOf135
  v53 := Try.zeroValue135
  t57 := Try.underlying139
  a57 := Try.isAgg139
  z57 := Try.sizeOf139
  v57 := Try.zeroValue139
  t63 := Try.underlying144
  a63 := Try.isAgg144
  z63 := Try.sizeOf144
  v63 := Try.zeroValue144
  t64 := Try.underlying145
  a64 := Try.isAgg145
  z64 := Try.sizeOf145
  v64 := Try.zeroValue145 }

theorem info3 : (Try.prog.info? 3).map (fun i => (i.zero, i.size, i.bytes)) = some (some (.int .i64 0), 1, 8) := by kernel_rfl
theorem info9 : (Try.prog.info? 9).map (fun i => (i.zero, i.size, i.bytes)) = some (some (.string ⟨#[]⟩), 1, 16) := by kernel_rfl

set_option maxRecDepth 100000 in
set_option maxHeartbeats 2000000 in
theorem keysI (b n : Nat) (D0 : DataW Unit) (w : World) (hown : w.ownsMap Try.prog 3 anyR b n D0) (hmax : Maps.size D0 ≤ 1073741824) :
    CallsIn Fence.wide 6 Try.prog 35 #[.map (some b)] w fun e w' => ∃ (v : Value) (ss : List Int), e = .returned v ∧ ss.Perm (intKeys D0) ∧
      w'.ownsRow w.heap.size 3 1 v ss.length ((ss.mergeSort (fun x y => decide (x ≤ y))).map encZ) ∧ (v = .slice none 0 0 ↔ ss = []) ∧ Below w.heap.size w w' := by
  obtain ⟨i0, hi, hz0, hz1, hz2⟩ := info_parts info3
  have hbl := hown.lt
  have hfS : Fence.wide.fn 52 := trivial
  refine callsIn_of_wp Try.func35 rfl trivial ?_ rfl
  simp only [Try.ntmps35, List.size_toArray, List.length_cons, List.length_nil, Nat.reduceAdd, Nat.reduceSub, Array.replicate_succ, Array.replicate_zero, List.push_toArray, List.append_toArray, List.nil_append, List.cons_append]
  gi_wp2_with (first
    | (gi_at_range; refine wpListIn_range_own _ rfl _ 63 rfl 3 32 (int_keyed Try.underlying3) Try.underlying63 _ b n _ rfl hown ?_; intro w0 hrg0 hg0 hs0)
    | gi_in)
  go_frame
  gi_loopw [3] (fun v wr => ∃ (left : Lit → Bool) (cnt : Nat) (ss : List Int), wr.ranges Try.prog 3 anyR b w.heap.size n D0 left cnt ∧ ss.length + cnt ≤ Maps.size D0 ∧
      wr.ownsRow w.heap.size 3 1 v ss.length (ss.map encZ) ∧ (v = .slice none 0 0 ↔ ss = []) ∧ CollectedI D0 left ss ∧ Below w.heap.size w wr)
    (fun _ wr => wr.rangeLeft b w.heap.size)
  case atStart =>
    exact ⟨_, _, [], hrg0, by simp, ⟨rfl, .inl ⟨rfl, rfl⟩⟩, by simp, CollectedI.start D0, (Below.refl _ _).grown hg0 (Nat.le_refl _) (fun j hj => by cases hj)⟩
  case round =>
    obtain ⟨left, cnt, ss, hrg, hcs, hrow, hnn, hC, hnx⟩ := hrel
    gi_wp2_with (first
      | (gi_at_next; refine wpListIn_next_ranges _ rfl _ rfl 3 (int_keyed Try.underlying3) anyR encZ (fun v : Value => v) (fun key kl hk => by obtain ⟨x, hx, _⟩ := Maps.keyOf_i64 Try.underlying3 hk; exact ⟨x, hx⟩) (fun v y _ => ⟨v, rfl⟩) b w.heap.size n _ _ _ rfl hrg ?_ ?_)
      | gi_in)
    · intro hc0 hl0
      rcases hrow.2 with ⟨hnil, h0⟩ | ⟨g, cap, cur, rfl, hbase, hb, h1, h2, h3, h4⟩
      · subst hnil
        obtain rfl : ss = [] := List.length_eq_zero_iff.1 h0
        have hc : CallsIn Fence.wide 5 Try.prog 52 #[.slice none 0 0] wr fun e w' => e = .returned (.tuple #[]) ∧ w' = wr := callsIn_wide.2 (AnyM.slices_Sort_int_none sortA none 0 wr)
        gi_wp2_with (gi_at_call 52; refine hc.mono ?_; rintro e w' ⟨rfl, rfl⟩)
        go_ret
        exact ⟨_, [], rfl, hC.perm hown (int_keyed Try.underlying3) Try.underlying3 hl0, by simpa using hrow, by simp, hnx⟩
      · have hH : Holds encZ wr g 0 ss.toArray := holds_of_block_i hb (by simpa using h4)
        have hgl : g < wr.heap.size := (Array.getElem?_eq_some_iff.1 hb).1
        have hc : CallsIn Fence.wide 5 Try.prog 52 #[.slice (some ⟨g, 0, none⟩) ss.length cap] wr fun e w' => e = .returned (.tuple #[]) ∧ ∃ n os, w' = grow (putRow encZ (Sort.ahead wr n) g 0 (ss.mergeSort fun x y => decide (x ≤ y)).toArray) os := callsIn_wide.2 (AnyM.slices_Sort_int sortA g 0 cap ss wr hH hgl (by omega))
        gi_wp2_with (gi_at_call 52; refine hc.mono ?_; rintro e w' ⟨rfl, nn, os, rfl⟩)
        go_ret
        exact ⟨_, ss, rfl, hC.perm hown (int_keyed Try.underlying3) Try.underlying3 hl0, by simpa using ownsRow_sorted_i (ts := ss.mergeSort fun x y => decide (x ≤ y)) (by simp) hbase hb h1 h2 h3, by simpa using hnn, hnx.grown (grownBy_sorted_i _) hnx.size (fun j hj => by cases hj; exact hbase)⟩
    · intro x c kl yd yp w2 cnt2 hkey hlk hv hat hrg2 hlt hg2 hs2 hen
      obtain ⟨x', ex, rfl, _⟩ := Maps.keyOf_i64 Try.underlying3 hkey
      obtain rfl : x = x' := encZ_inj ex
      have hrow2 := hrow.kept hg2 (Or.inr (row_ne_iter hrow hrg).symm)
      clear hs2
      gi_wp2_with (first
        | (gi_at_builtin; refine wpListIn_append_own _ rfl _ _ 46 rfl w.heap.size 3 i0 (.int .i64 0) 1 8 Try.underlying46 hi hz0 hz1 hz2 rfl (by decide) _ _ _ rfl (hrow2.alloc _) ⟨w2.heap.size, 0, none⟩ 1 1 [encZ x] rfl rfl (cell_one_new _ _ _) (by simp [Value.oneCell', encZ]) (by unfold maxLen at *; omega) (by omega) (by have := hnx.size; have := hg2.size; simp; omega) ?_; intro v' w3 hown' hg3 hnil3; go_frame)
        | gi_in)
      have hrg3 := (hrg2.alloc _).kept hg3 (row_ne_low hrow2 hbl) (row_ne_iter hrow2 hrg2)
      go_roundw
      case rel =>
        refine ⟨_, cnt2, ss ++ [x], hrg3, by simp; omega, by simpa using hown', ⟨fun hv' => by have := (hnil3.1 hv').2; omega, fun h => by simp at h⟩, hC.step hlk hat, ?_⟩
        exact ((hnx.grown hg2 hnx.size (fun j hj => by cases hj; exact Nat.le_refl _)).alloc (by have := hnx.size; have := hg2.size; omega) _).grown hg3 (by have := hnx.size; have := hg2.size; simp; omega) (fun j hj => (hrow2.lt j hj).1)
      case measure => rw [hrg3.left_eq, hrg.left_eq]; exact hlt

set_option maxRecDepth 100000 in
set_option maxHeartbeats 2000000 in
theorem keysS (b n : Nat) (D0 : DataW Unit) (w : World) (hown : w.ownsMap Try.prog 9 anyR b n D0) (hmax : Maps.size D0 ≤ 1073741824) :
    CallsIn Fence.wide 6 Try.prog 46 #[.map (some b)] w fun e w' => ∃ (v : Value) (ss : List (List UInt8)), e = .returned v ∧ ss.Perm (strKeys D0) ∧
      w'.ownsRow w.heap.size 9 1 v ss.length ((ss.mergeSort (fun x y => decide (x ≤ y))).map encStr) ∧ (v = .slice none 0 0 ↔ ss = []) ∧ Below w.heap.size w w' := by
  obtain ⟨i0, hi, hz0, hz1, hz2⟩ := info_parts info9
  have hbl := hown.lt
  have hfS : Fence.wide.fn 57 := trivial
  refine callsIn_of_wp Try.func46 rfl trivial ?_ rfl
  simp only [Try.ntmps46, List.size_toArray, List.length_cons, List.length_nil, Nat.reduceAdd, Nat.reduceSub, Array.replicate_succ, Array.replicate_zero, List.push_toArray, List.append_toArray, List.nil_append, List.cons_append]
  gi_wp2_with (first
    | (gi_at_range; refine wpListIn_range_own _ rfl _ 64 rfl 9 3 (string_keyed Try.underlying9) Try.underlying64 _ b n _ rfl hown ?_; intro w0 hrg0 hg0 hs0)
    | gi_in)
  go_frame
  gi_loopw [3] (fun v wr => ∃ (left : Lit → Bool) (cnt : Nat) (ss : List (List UInt8)), wr.ranges Try.prog 9 anyR b w.heap.size n D0 left cnt ∧ ss.length + cnt ≤ Maps.size D0 ∧
      wr.ownsRow w.heap.size 9 1 v ss.length (ss.map encStr) ∧ (v = .slice none 0 0 ↔ ss = []) ∧ Collected D0 left ss ∧ Below w.heap.size w wr)
    (fun _ wr => wr.rangeLeft b w.heap.size)
  case atStart =>
    exact ⟨_, _, [], hrg0, by simp, ⟨rfl, .inl ⟨rfl, rfl⟩⟩, by simp, Collected.start D0, (Below.refl _ _).grown hg0 (Nat.le_refl _) (fun j hj => by cases hj)⟩
  case round =>
    obtain ⟨left, cnt, ss, hrg, hcs, hrow, hnn, hC, hnx⟩ := hrel
    gi_wp2_with (first
      | (gi_at_next; refine wpListIn_next_ranges _ rfl _ rfl 9 (string_keyed Try.underlying9) anyR encStr (fun v : Value => v) (fun key kl hk => by obtain ⟨x, hx, _⟩ := Maps.keyOf_str Try.underlying9 hk; exact ⟨x, hx⟩) (fun v y _ => ⟨v, rfl⟩) b w.heap.size n _ _ _ rfl hrg ?_ ?_)
      | gi_in)
    · intro hc0 hl0
      rcases hrow.2 with ⟨hnil, h0⟩ | ⟨g, cap, cur, rfl, hbase, hb, h1, h2, h3, h4⟩
      · subst hnil
        obtain rfl : ss = [] := List.length_eq_zero_iff.1 h0
        have hc : CallsIn Fence.wide 5 Try.prog 57 #[.slice none 0 0] wr fun e w' => e = .returned (.tuple #[]) ∧ w' = wr := callsIn_wide.2 (AnyM.slices_Sort_string_none sortB none 0 wr)
        gi_wp2_with (gi_at_call 57; refine hc.mono ?_; rintro e w' ⟨rfl, rfl⟩)
        go_ret
        exact ⟨_, [], rfl, hC.perm hown (string_keyed Try.underlying9) Try.underlying9 hl0, by simpa using hrow, by simp, hnx⟩
      · have hH : Holds encStr wr g 0 ss.toArray := holds_of_block hb (by simpa using h4)
        have hgl : g < wr.heap.size := (Array.getElem?_eq_some_iff.1 hb).1
        have hc : CallsIn Fence.wide 5 Try.prog 57 #[.slice (some ⟨g, 0, none⟩) ss.length cap] wr fun e w' => e = .returned (.tuple #[]) ∧ ∃ n os, w' = grow (putRow encStr (Sort.ahead wr n) g 0 (ss.mergeSort fun x y => decide (x ≤ y)).toArray) os := callsIn_wide.2 (AnyM.slices_Sort_string sortB g 0 cap ss wr hH hgl (by omega))
        gi_wp2_with (gi_at_call 57; refine hc.mono ?_; rintro e w' ⟨rfl, nn, os, rfl⟩)
        go_ret
        exact ⟨_, ss, rfl, hC.perm hown (string_keyed Try.underlying9) Try.underlying9 hl0, by simpa using ownsRow_sorted (ts := ss.mergeSort fun x y => decide (x ≤ y)) (by simp) hbase hb h1 h2 h3, by simpa using hnn, hnx.grown (grownBy_sorted _) hnx.size (fun j hj => by cases hj; exact hbase)⟩
    · intro x c kl yd yp w2 cnt2 hkey hlk hv hat hrg2 hlt hg2 hs2 hen
      obtain ⟨x', ex, rfl, _⟩ := Maps.keyOf_str Try.underlying9 hkey
      obtain rfl : x = x' := encStr_inj ex
      have hrow2 := hrow.kept hg2 (Or.inr (row_ne_iter hrow hrg).symm)
      clear hs2
      gi_wp2_with (first
        | (gi_at_builtin; refine wpListIn_append_own _ rfl _ _ 45 rfl w.heap.size 9 i0 (.string ⟨#[]⟩) 1 16 Try.underlying45 hi hz0 hz1 hz2 rfl (by decide) _ _ _ rfl (hrow2.alloc _) ⟨w2.heap.size, 0, none⟩ 1 1 [encStr x] rfl rfl (cell_one_new _ _ _) (by simp [Value.oneCell', encStr]) (by unfold maxLen at *; omega) (by omega) (by have := hnx.size; have := hg2.size; simp; omega) ?_; intro v' w3 hown' hg3 hnil3; go_frame)
        | gi_in)
      have hrg3 := (hrg2.alloc _).kept hg3 (row_ne_low hrow2 hbl) (row_ne_iter hrow2 hrg2)
      go_roundw
      case rel =>
        refine ⟨_, cnt2, ss ++ [x], hrg3, by simp; omega, by simpa using hown', ⟨fun hv' => by have := (hnil3.1 hv').2; omega, fun h => by simp at h⟩, hC.step hlk hat, ?_⟩
        exact ((hnx.grown hg2 hnx.size (fun j hj => by cases hj; exact Nat.le_refl _)).alloc (by have := hnx.size; have := hg2.size; omega) _).grown hg3 (by have := hnx.size; have := hg2.size; simp; omega) (fun j hj => (hrow2.lt j hj).1)
      case measure => rw [hrg3.left_eq, hrg.left_eq]; exact hlt

end Go.Proofs.Ytlcfmfljmabaeaa
