/-
  The disk's functions: the table; slices.Sorted(maps.Keys(m)); and that 'awake' comes to true.
-/
import Derived.Test.YtgnpafmhdmmmhaaD1
import Derived.Test.YtgnpafmhdmmmhaaA48
set_option maxRecDepth 100000
namespace Go.Proofs.Ytgnpafmhdmmmhaa
open Go Go.Abs Go.Shelf Go.Maps Go.Sort Go.RowKit

def keysA_ren : Go.Shelf.Ren := ⟨fun | 7 => 56 | 10 => 66 | n => n, fun | 23 => 88 | 26 => 3 | 3 => 22 | 28 => 102 | 0 => 0 | 27 => 101 | 33 => 31 | 4 => 4 | n => n, fun | n => n⟩
theorem keysA : Go.Proofs.SlLaysZI.n7 Try.prog keysA_ren := {
  mixed := by kernel_rfl
  f7 := ⟨Try.f56.name, by decide, Try.func56.trans (congrArg some (by kernel_rfl))⟩
  f10 := ⟨Try.f66.name, by decide, Try.func66.trans (congrArg some (by kernel_rfl))⟩
  t0 := Try.underlying0
  a0 := Try.isAgg0
  z0 := Try.sizeOf0
  v0 := Try.zeroValue0
  t4 := Try.underlying4
  a4 := Try.isAgg4
  z4 := Try.sizeOf4
  v4 := Try.zeroValue4
  t23 := Try.underlying88
  a23 := Try.isAgg88
  z23 := Try.sizeOf88
  v23 := Try.zeroValue88
  t26 := Try.underlying3
  a26 := Try.isAgg3
  z26 := Try.sizeOf3
  v26 := Try.zeroValue3
  t27 := Try.underlying101
  a27 := Try.isAgg101
  z27 := Try.sizeOf101
  v27 := Try.zeroValue101
  t28 := Try.underlying102
  a28 := Try.isAgg102
  z28 := Try.sizeOf102
  v28 := Try.zeroValue102
  t33 := Try.underlying31
  a33 := Try.isAgg31
  z33 := Try.sizeOf31
  v33 := Try.zeroValue31 }
def sortedA_ren : Go.Shelf.Ren := ⟨fun | 6 => 55 | 8 => 64 | 9 => 65 | 11 => 69 | 13 => 71 | 12 => 70 | 23 => 82 | 24 => 83 | 14 => 73 | 15 => 74 | 16 => 75 | 17 => 76 | 18 => 77 | 19 => 78 | 20 => 79 | 21 => 80 | 22 => 81 | 25 => 84 | 26 => 85 | 27 => 86 | 28 => 87 | 29 => 88 | 30 => 67 | 31 => 89 | n => n, fun | 26 => 3 | 28 => 102 | 24 => 69 | 0 => 0 | 3 => 3 | 37 => 106 | 48 => 125 | 50 => 127 | 4 => 4 | 40 => 118 | 39 => 117 | 45 => 83 | 5 => 5 | 9 => 9 | 51 => 128 | 55 => 132 | 57 => 134 | 58 => 135 | 33 => 31 | n => n, fun | n => n⟩
theorem sortedA : Go.Proofs.SlLaysZI.n6 Try.prog sortedA_ren := {
  mixed := by kernel_rfl
  f6 := ⟨Try.f55.name, by decide, Try.func55.trans (congrArg some (by kernel_rfl))⟩
  f8 := ⟨Try.f64.name, by decide, Try.func64.trans (congrArg some (by kernel_rfl))⟩
  f11 := ⟨Try.f69.name, by decide, Try.func69.trans (congrArg some (by kernel_rfl))⟩
  t0 := Try.underlying0
  a0 := Try.isAgg0
  z0 := Try.sizeOf0
  v0 := Try.zeroValue0
  t24 := Try.underlying69
  a24 := Try.isAgg69
  z24 := Try.sizeOf69
  v24 := Try.zeroValue69
  t26 := Try.underlying3
  a26 := Try.isAgg3
  z26 := Try.sizeOf3
  v26 := Try.zeroValue3
  t28 := Try.underlying102
  a28 := Try.isAgg102
  z28 := Try.sizeOf102
  v28 := Try.zeroValue102
  i26 := by kernel_rfl }
def sortA_ren : Go.Shelf.Ren := ⟨fun | 5 => 65 | 8 => 71 | 7 => 70 | 19 => 82 | 20 => 83 | 10 => 73 | 11 => 74 | 12 => 75 | 13 => 76 | 14 => 77 | 15 => 78 | 16 => 79 | 17 => 80 | 18 => 81 | 30 => 84 | 31 => 85 | 32 => 86 | 33 => 87 | 34 => 88 | 35 => 67 | 40 => 89 | n => n, fun | 23 => 69 | 25 => 3 | 3 => 3 | 32 => 106 | 22 => 69 | 0 => 0 | 44 => 125 | 46 => 127 | 4 => 4 | 36 => 118 | 35 => 117 | 41 => 83 | 5 => 5 | 9 => 9 | 53 => 128 | 57 => 132 | 63 => 134 | 64 => 135 | n => n, fun | n => n⟩
theorem sortA : Go.Proofs.SlLaysM.n5 Try.prog sortA_ren := {
  mixed := by kernel_rfl
  f5 := ⟨Try.f65.name, by decide, Try.func65.trans (congrArg some (by kernel_rfl))⟩
  f7 := ⟨Try.f70.name, by decide, Try.func70.trans (congrArg some (by kernel_rfl))⟩
  f8 := Try.func71.trans (congrArg some (by kernel_rfl))
  f10 := ⟨Try.f73.name, by decide, Try.func73.trans (congrArg some (by kernel_rfl))⟩
  f11 := ⟨Try.f74.name, by decide, Try.func74.trans (congrArg some (by kernel_rfl))⟩
  f12 := ⟨Try.f75.name, by decide, Try.func75.trans (congrArg some (by kernel_rfl))⟩
  f13 := ⟨Try.f76.name, by decide, Try.func76.trans (congrArg some (by kernel_rfl))⟩
  f14 := ⟨Try.f77.name, by decide, Try.func77.trans (congrArg some (by kernel_rfl))⟩
  f15 := ⟨Try.f78.name, by decide, Try.func78.trans (congrArg some (by kernel_rfl))⟩
  f16 := ⟨Try.f79.name, by decide, Try.func79.trans (congrArg some (by kernel_rfl))⟩
  f17 := ⟨Try.f80.name, by decide, Try.func80.trans (congrArg some (by kernel_rfl))⟩
  f18 := ⟨Try.f81.name, by decide, Try.func81.trans (congrArg some (by kernel_rfl))⟩
  f19 := Try.func82.trans (congrArg some (by kernel_rfl))
  f20 := Try.func83.trans (congrArg some (by kernel_rfl))
  f30 := ⟨Try.f84.name, by decide, Try.func84.trans (congrArg some (by kernel_rfl))⟩
  f31 := Try.func85.trans (congrArg some (by kernel_rfl))
  f32 := Try.func86.trans (congrArg some (by kernel_rfl))
  f33 := ⟨Try.f87.name, by decide, Try.func87.trans (congrArg some (by kernel_rfl))⟩
  f34 := ⟨Try.f88.name, by decide, Try.func88.trans (congrArg some (by kernel_rfl))⟩
  f35 := ⟨Try.f67.name, by decide, Try.func67.trans (congrArg some (by kernel_rfl))⟩
  f40 := ⟨Try.f89.name, by decide, Try.func89.trans (congrArg some (by kernel_rfl))⟩
  t0 := Try.underlying0
  a0 := Try.isAgg0
  z0 := Try.sizeOf0
  v0 := Try.zeroValue0
  t3 := Try.underlying3
  a3 := Try.isAgg3
  z3 := Try.sizeOf3
  v3 := Try.zeroValue3
  t4 := Try.underlying4
  a4 := Try.isAgg4
  z4 := Try.sizeOf4
  v4 := Try.zeroValue4
  t5 := Try.underlying5
  a5 := Try.isAgg5
  z5 := Try.sizeOf5
  v5 := Try.zeroValue5
  t9 := Try.underlying9
  a9 := Try.isAgg9
  z9 := Try.sizeOf9
  v9 := Try.zeroValue9
  t22 := Try.underlying69
  a22 := Try.isAgg69
  z22 := Try.sizeOf69
  v22 := Try.zeroValue69
  t23 := Try.underlying69
  a23 := Try.isAgg69
  z23 := Try.sizeOf69
  v23 := Try.zeroValue69
  t25 := Try.underlying3
  a25 := Try.isAgg3
  z25 := Try.sizeOf3
  v25 := Try.zeroValue3
  t32 := Try.underlying106
  a32 := Try.isAgg106
  z32 := Try.sizeOf106
  v32 := Try.zeroValue106
  t35 := Try.underlying117
  a35 := Try.isAgg117
  z35 := Try.sizeOf117
  v35 := Try.zeroValue117
  t36 := Try.underlying118
  a36 := Try.isAgg118
  z36 := Try.sizeOf118
  v36 := Try.zeroValue118
  t41 := Try.underlying83
  a41 := Try.isAgg83
  z41 := Try.sizeOf83
  v41 := Try.zeroValue83
  t44 := Try.underlying125
  a44 := Try.isAgg125
  z44 := Try.sizeOf125
  v44 := Try.zeroValue125
  t46 := Try.underlying127
  a46 := Try.isAgg127
  z46 := Try.sizeOf127
  v46 := Try.zeroValue127
  t53 := Try.underlying128
  a53 := Try.isAgg128
  z53 := Try.sizeOf128
  v53 := Try.zeroValue128
  t57 := Try.underlying132
  a57 := Try.isAgg132
  z57 := Try.sizeOf132
  v57 := Try.zeroValue132
  t63 := Try.underlying134
  a63 := Try.isAgg134
  z63 := Try.sizeOf134
  v63 := Try.zeroValue134
  t64 := Try.underlying135
  a64 := Try.isAgg135
  z64 := Try.sizeOf135
  v64 := Try.zeroValue135 }

theorem mixed : Try.prog.follows .mixedOrders = true := by kernel_rfl

theorem sortsA (m : Nat) : AnyZI.SortsIn Try.prog sortedA_ren Fence.wide m :=
  ⟨fun blk off cap ss W hH hblk hsz => callsIn_wide.2 (AnyM.slices_Sort_int sortA blk off cap ss W hH hblk hsz),
   fun p cap W => callsIn_wide.2 (AnyM.slices_Sort_int_none sortA p cap W)⟩

theorem sortedOK : SortedOK Try.prog 55 66 3 where
  key := Try.underlying3
  can := ⟨_, Try.func55, by kernel_rfl, by kernel_rfl⟩
  run := by
    intro B b nn D w hB hc hown hD
    refine (callsIn_wide (n := 6)).1 ?_
    have hseq : SeqGives Fence.wide (6 - 1 - 1 - 1) Try.prog 66 #[.pointer (some ⟨B, 0, none⟩)] encZ (fun ss => ss.Perm (intKeys D)) (Maps.size D) w :=
      AnyZI.keys_gives (ρ := keysA_ren) { keysA with } Fence.wide _ trivial rfl (by omega) B b nn D w hB hc hown
    have cS := AnyZI.sorted_in sortedA Fence.wide 6 trivial trivial trivial trivial rfl (by omega) (sortsA _) (enters_of Try.func65 (by kernel_rfl) rfl) 66 #[.pointer (some ⟨B, 0, none⟩)] trivial (enters_of Try.func66 (by kernel_rfl) rfl) _ (Maps.size D) (by unfold maxLen; omega) (by omega) _ hseq
    exact cS

/-- What is known of the calls: slices.Sorted(maps.Keys(m)). -/
def sortedD : CallSem := sortedSem 55 66 3
theorem sortedD_good : GoodCalls Try.prog sortedD ∧ GoodWF sortedD := sorted_good sortedOK

def diskFuns : List (FuncId × AFun) := [(25, fun25), (27, fun27), (28, fun28), (29, fun29), (30, fun30), (34, fun34), (36, fun36), (38, fun38), (48, fun48), (49, fun49), (50, fun50), (53, fun53), (54, fun54), (56, fun56), (63, fun63), (31, fun31), (32, fun32), (33, fun33), (35, fun35), (37, fun37), (39, fun39), (51, fun51), (52, fun52)]

theorem diskFuns_ok : ∀ p ∈ diskFuns, FunOK Try.prog p.1 p.2 := by
  intro p hp
  simp only [diskFuns, List.mem_cons, List.not_mem_nil, or_false] at hp
  rcases hp with rfl | rfl | rfl | rfl | rfl | rfl | rfl | rfl | rfl | rfl | rfl | rfl | rfl | rfl | rfl | rfl | rfl | rfl | rfl | rfl | rfl | rfl | rfl
  · exact comp25
  · exact comp27
  · exact comp28
  · exact comp29
  · exact comp30
  · exact comp34
  · exact comp36
  · exact comp38
  · exact comp48
  · exact comp49
  · exact comp50
  · exact comp53
  · exact comp54
  · exact comp56
  · exact comp63
  · exact comp31
  · exact comp32
  · exact comp33
  · exact comp35
  · exact comp37
  · exact comp39
  · exact comp51
  · exact comp52

theorem awake_table : TableOK Try.prog (tblOf ((26, fun26) :: diskFuns)) sortedD :=
  tblOf_ok mixed (fun p hp => by
    rcases List.mem_cons.1 hp with rfl | hp
    · exact comp26
    · exact diskFuns_ok p hp) sortedD_good

theorem awake_runs : (call (tblOf ((26, fun26) :: diskFuns)) sortedD 30 26 [] st0).map (fun r => r.1) = some (.bool true) := by kernel_rfl

/-- The calls whose answers are known. -/
def ovD : CallSem := orSem (known [(26, .bool true)]) sortedD
theorem ovD_good : GoodCalls Try.prog ovD ∧ GoodWF ovD :=
  or_good (known_good fun p hp s => by
    simp only [List.mem_singleton] at hp
    subst hp
    exact closed_known awake_table rfl 30 awake_runs rfl s) sortedD_good

end Go.Proofs.Ytgnpafmhdmmmhaa

/-
  A disk as it lies; New, work, Sync, Fault, Segs.
-/
set_option maxRecDepth 100000
set_option linter.unusedVariables false
set_option linter.unusedSimpArgs false
namespace Go.Proofs.Ytgnpafmhdmmmhaa
open Go Go.Abs Go.Abs.K

/-- A disk: of so many segments at most; so many writes are done, then so many fail; its segments; the writes that may not last. -/
structure DM where
  most : Int
  first : Int
  fails : Int
  F : List (Int × List Int)
  loose : List (Int × Int)

abbrev rowW (q : Int × Int) : List Value := [i64 q.1, i64 q.2]

def N63 (n : Int) : Prop := 0 ≤ n ∧ n ≤ 9223372036854775807

structure DW (D : DM) : Prop where
  first : N63 D.first
  fails : N63 D.fails
  most : 0 ≤ D.most ∧ D.most ≤ 16
  keys : ∀ p ∈ D.F, W64 p.1
  fit : (D.F.length : Int) ≤ D.most
  len : ∀ p ∈ D.F, p.2.length ≤ 2048

def DRep (s : St) (p : Nat) (D : DM) (O V : List Nat) : Prop := ∃ m lv S es clock, s.heap.get p = some (.cells [i64 D.most, .map (some m), lv, i64 D.first, i64 D.fails] 91 0 false) ∧ O = p :: m :: S ∧
  s.heap.get m = some (.map es clock) ∧ MOK KInt es clock ∧ All2 (ER s V) es D.F ∧ RowsP 94 2 s lv (D.loose.map rowW) S ∧ p ≠ m ∧ p ∉ S ∧ m ∉ S ∧ p < s.next ∧ m < s.next ∧ (∀ x ∈ V, x ∉ O ∧ x < s.next) ∧ DW D

theorem DRep.kept {s s' : St} {p : Nat} {D : DM} {O V T : List Nat} (h : DRep s p D O V) (hk : Kept T s s') (hO : ∀ x ∈ O, x ∉ T) (hV : ∀ x ∈ V, x ∉ T) : DRep s' p D O V := by
  obtain ⟨m, lv, S, es, clock, h1, rfl, h2, h3, h4, h5, h6, h7, h8, h9, h10, h11, h12⟩ := h
  refine ⟨m, lv, S, es, clock, ?_, rfl, ?_, h3, er_kept h4 hk hV, h5.kept hk (fun x hx => hO x (by simp [hx])), h6, h7, h8, Nat.lt_of_lt_of_le h9 hk.1, Nat.lt_of_lt_of_le h10 hk.1, fun x hx => ⟨(h11 x hx).1, Nat.lt_of_lt_of_le (h11 x hx).2 hk.1⟩, h12⟩
  · rw [hk.2 p h9 (hO p (by simp))]; exact h1
  · rw [hk.2 m h10 (hO m (by simp))]; exact h2

theorem DRep.lt {s : St} {p : Nat} {D : DM} {O V : List Nat} (h : DRep s p D O V) : (∀ x ∈ O, x < s.next) ∧ ∀ x ∈ V, x < s.next := by
  obtain ⟨m, lv, S, es, clock, h1, rfl, h2, h3, h4, h5, h6, h7, h8, h9, h10, h11, h12⟩ := h
  refine ⟨fun x hx => ?_, fun x hx => (h11 x hx).2⟩
  simp only [List.mem_cons] at hx
  rcases hx with rfl | rfl | hx
  · exact h9
  · exact h10
  · exact h5.lt x hx

/-- Is this write done? -/
def wB (f g : Int) : Bool := decide (f > 0) || !decide (g > 0)
def wF (f : Int) : Int := if f > 0 then f - 1 else f
def wG (f g : Int) : Int := if f > 0 then g else if g > 0 then g - 1 else g
def wD (D : DM) : DM := { D with first := wF D.first, fails := wG D.first D.fails }

theorem wF_range {f : Int} (h : N63 f) : N63 (wF f) := by
  unfold wF N63 at *
  split <;> omega
theorem wG_range {f g : Int} (h : N63 g) : N63 (wG f g) := by
  unfold wG N63 at *
  split
  · exact h
  · split <;> omega

structure DTbl (tbl : FuncId → Option AFun) : Prop where
  t25 : tbl 25 = some fun25
  t26 : tbl 26 = none
  t27 : tbl 27 = some fun27
  t28 : tbl 28 = some fun28
  t29 : tbl 29 = some fun29
  t30 : tbl 30 = some fun30
  t31 : tbl 31 = some fun31
  t32 : tbl 32 = some fun32
  t33 : tbl 33 = some fun33
  t34 : tbl 34 = some fun34
  t35 : tbl 35 = some fun35
  t36 : tbl 36 = some fun36
  t37 : tbl 37 = some fun37
  t38 : tbl 38 = some fun38
  t39 : tbl 39 = some fun39
  t48 : tbl 48 = some fun48
  t49 : tbl 49 = some fun49
  t50 : tbl 50 = some fun50
  t51 : tbl 51 = some fun51
  t52 : tbl 52 = some fun52
  t53 : tbl 53 = some fun53
  t54 : tbl 54 = some fun54
  t55 : tbl 55 = none
  t56 : tbl 56 = some fun56
  t63 : tbl 63 = some fun63

structure OvOK (ov : CallSem) : Prop where
  sorted : ∀ v s, ov 55 [v] s = sortedSem 55 66 3 55 [v] s
  awake : ∀ s, ov 26 [] s = some (.bool true, s)

section
variable {tbl : FuncId → Option AFun} {ov : CallSem} {s : St} (T : DTbl tbl)
include T

theorem p25 {n : Int} (hn : W64 n) : WCall (fun k => call tbl ov k) 25 [i64 n] s fun u s' => u = ptr (s.next + 1) ∧ DRep s' (s.next + 1) ⟨max 0 (min n 16), 0, 0, [], []⟩ [s.next + 1, s.next] [] ∧ Kept [] s s' := by
  refine WCall.of T.t25 rfl ?_
  have e1 : evP s.heap.get s.next (.minmax false [i64 n, i64 16]) = some ⟨i64 (min n 16), [], s.next⟩ := by
    simp only [evP, minmaxV, if_true, Bool.false_eq_true, if_false, Option.map_some]
    congr 3
    by_cases h : (16 : Int) < n
    · rw [if_pos h]; omega
    · rw [if_neg h]; omega
  have e2 : evP s.heap.get s.next (.minmax true [i64 0, i64 (min n 16)]) = some ⟨i64 (max 0 (min n 16)), [], s.next⟩ := by
    simp only [evP, minmaxV, if_true, Option.map_some]
    congr 3
    by_cases h : min n 16 > (0 : Int)
    · rw [if_pos h]; omega
    · rw [if_neg h]; omega
  simp -implicitDefEqProofs only [fun25, code25, params, go_sem, reduceIte, Nat.reduceEqDiff, Nat.reduceAdd, Nat.reduceMul, Nat.reduceLT, Nat.reduceLeDiff, reduceCtorEq, Int.reduceEq, Int.reduceNeg, Nat.reduceSub, Int.reduceLT, Int.reduceLE, Int.reduceGT, Int.reduceGE, Int.reduceAdd, Int.reduceSub, Int.reduceToNat, Int.reduceBNe, Int.reduceBEq, Nat.mul_one, Nat.zero_mul, e1, e2, fillL]
  have hne : ¬ s.next = s.next + 1 := by omega
  refine ⟨⟨s.next, .slice none 0 0, [], [], 0, by simp only [Heap.get_put, if_true], rfl, by simp only [Heap.get_put, if_true, hne, if_false], ⟨by simp, by simp, by simp, .nil⟩, .nil, .nil, by omega, by simp, by simp, by simp only; omega, by simp only; omega, by simp,
    ⟨by unfold N63; simp, by unfold N63; simp, by simp only; omega, by simp, by simp only [List.length_nil]; omega, by simp⟩⟩, ⟨by simp only; omega, fun j hj _ => by simp only [Heap.get_put]; rw [if_neg (by omega), if_neg (by omega)]⟩⟩

theorem p48 {p : Nat} {a b c : Value} {f g : Int} (hp : s.heap.get p = some (.cells [a, b, c, i64 f, i64 g] 91 0 false)) (hf : N63 f) (hg : N63 g) :
    WCall (fun k => call tbl ov k) 48 [ptr p] s fun u s' => u = .bool (wB f g) ∧ s'.next = s.next ∧ s'.heap.get p = some (.cells [a, b, c, i64 (wF f), i64 (wG f g)] 91 0 false) ∧ ∀ j, j ≠ p → s'.heap.get j = s.heap.get j := by
  refine WCall.of T.t48 rfl ?_
  unfold N63 at hf hg
  by_cases h1 : f > 0
  · have d1 : decide (f > 0) = true := by simpa using h1
    have w1 : IntKind.i64.wrap (f - 1) = f - 1 := by rw [IntKind.wrap_i64]; omega
    simp -implicitDefEqProofs only [fun48, code48, params, go_sem, reduceIte, Nat.reduceEqDiff, Nat.reduceAdd, Nat.reduceMul, Nat.reduceLT, Nat.reduceLeDiff, reduceCtorEq, Int.reduceEq, Int.reduceNeg, Nat.reduceSub, Int.reduceLT, Int.reduceLE, Int.reduceGT, Int.reduceGE, Int.reduceAdd, Int.reduceSub, Int.reduceToNat, Int.reduceBNe, Int.reduceBEq, Nat.mul_one, Nat.zero_mul, hp, d1, w1, wB, wF, wG, h1, Bool.true_or]
    exact fun j hj => if_neg hj
  · have d1 : decide (f > 0) = false := by simpa using h1
    by_cases h2 : g > 0
    · have d2 : decide (g > 0) = true := by simpa using h2
      have w1 : IntKind.i64.wrap (g - 1) = g - 1 := by rw [IntKind.wrap_i64]; omega
      simp -implicitDefEqProofs only [fun48, code48, params, go_sem, reduceIte, Nat.reduceEqDiff, Nat.reduceAdd, Nat.reduceMul, Nat.reduceLT, Nat.reduceLeDiff, reduceCtorEq, Int.reduceEq, Int.reduceNeg, Nat.reduceSub, Int.reduceLT, Int.reduceLE, Int.reduceGT, Int.reduceGE, Int.reduceAdd, Int.reduceSub, Int.reduceToNat, Int.reduceBNe, Int.reduceBEq, Nat.mul_one, Nat.zero_mul, hp, d1, d2, w1, wB, wF, wG, h1, h2, Bool.false_or, Bool.not_true]
      exact fun j hj => if_neg hj
    · have d2 : decide (g > 0) = false := by simpa using h2
      simp -implicitDefEqProofs only [fun48, code48, params, go_sem, reduceIte, Nat.reduceEqDiff, Nat.reduceAdd, Nat.reduceMul, Nat.reduceLT, Nat.reduceLeDiff, reduceCtorEq, Int.reduceEq, Int.reduceNeg, Nat.reduceSub, Int.reduceLT, Int.reduceLE, Int.reduceGT, Int.reduceGE, Int.reduceAdd, Int.reduceSub, Int.reduceToNat, Int.reduceBNe, Int.reduceBEq, Nat.mul_one, Nat.zero_mul, hp, d1, d2, wB, wF, wG, h1, h2, Bool.false_or, Bool.not_false]

omit T in
theorem DRep.wrote {s s' : St} {p m : Nat} {D : DM} {V S : List Nat} {lv : Value} {es : List MapEntry} {clock : Nat} {f g : Int} (h2 : s.heap.get m = some (.map es clock)) (h3 : MOK KInt es clock) (h4 : All2 (ER s V) es D.F) (h5 : RowsP 94 2 s lv (D.loose.map rowW) S)
    (h6 : p ≠ m) (h7 : p ∉ S) (h8 : m ∉ S) (h9 : p < s.next) (h10 : m < s.next) (h11 : ∀ x ∈ V, x ∉ p :: m :: S ∧ x < s.next) (h12 : DW D) (hn : s'.next = s.next) (hp : s'.heap.get p = some (.cells [i64 D.most, .map (some m), lv, i64 f, i64 g] 91 0 false)) (ho : ∀ j, j ≠ p → s'.heap.get j = s.heap.get j) (hf : N63 f) (hg : N63 g) :
    s'.heap.get m = some (.map es clock) ∧ All2 (ER s' V) es D.F ∧ RowsP 94 2 s' lv (D.loose.map rowW) S ∧ DRep s' p { D with first := f, fails := g } (p :: m :: S) V ∧ Kept [p] s s' := by
  have hk : Kept [p] s s' := ⟨by omega, fun j _ hj => ho j (by simpa using hj)⟩
  have e4 := er_kept h4 hk (fun x hx => by simp only [List.mem_singleton]; rintro rfl; exact (h11 _ hx).1 (by simp))
  have e5 := h5.kept hk (fun x hx => by simp only [List.mem_singleton]; rintro rfl; exact h7 hx)
  have e2 : s'.heap.get m = some (.map es clock) := by rw [ho m (Ne.symm h6)]; exact h2
  exact ⟨e2, e4, e5, ⟨m, lv, S, es, clock, hp, rfl, e2, h3, e4, e5, h6, h7, h8, by omega, by omega, fun x hx => ⟨(h11 x hx).1, by rw [hn]; exact (h11 x hx).2⟩, ⟨hf, hg, h12.most, h12.keys, h12.fit, h12.len⟩⟩, hk⟩

/-- Sync. -/
theorem p28 {p : Nat} {D : DM} {O V : List Nat} (h : DRep s p D O V) :
    WCall (fun k => call tbl ov k) 28 [ptr p] s fun u s' => u = i64 (if wB D.first D.fails then 0 else 7) ∧ Kept O s s' ∧ ∃ O', DRep s' p (if wB D.first D.fails then { wD D with loose := [] } else wD D) O' V ∧ ∀ x ∈ O', x ∈ O := by
  refine WCall.of T.t28 rfl ?_
  obtain ⟨m, lv, S, es, clock, h1, rfl, h2, h3, h4, h5, h6, h7, h8, h9, h10, h11, h12⟩ := h
  have h48 := p48 (ov := ov) T h1 h12.first h12.fails
  simp -implicitDefEqProofs only [fun28, code28, params, go_sem, reduceIte, Nat.reduceEqDiff, Nat.reduceAdd, Nat.reduceMul, Nat.reduceLT, Nat.reduceLeDiff, reduceCtorEq, Int.reduceEq, Int.reduceNeg, Nat.reduceSub, Int.reduceLT, Int.reduceLE, Int.reduceGT, Int.reduceGE, Int.reduceAdd, Int.reduceSub, Int.reduceToNat, Int.reduceBNe, Int.reduceBEq, Nat.mul_one, Nat.zero_mul]
  refine WCall.mono h48 ?_
  rintro u s1 ⟨rfl, hn, hp, ho⟩
  obtain ⟨g2, g4, g5, gR, gk⟩ := DRep.wrote h2 h3 h4 h5 h6 h7 h8 h9 h10 h11 h12 hn hp ho (wF_range h12.first) (wG_range (f := D.first) h12.fails)
  cases hb : wB D.first D.fails
  · simp -implicitDefEqProofs only [go_sem, reduceIte, Nat.reduceEqDiff, Nat.reduceAdd, Nat.reduceMul, Nat.reduceLT, Nat.reduceLeDiff, reduceCtorEq, Int.reduceEq, Int.reduceNeg, Nat.reduceSub, Int.reduceLT, Int.reduceLE, Int.reduceGT, Int.reduceGE, Int.reduceAdd, Int.reduceSub, Int.reduceToNat, Int.reduceBNe, Int.reduceBEq, Nat.mul_one, Nat.zero_mul, Bool.not_false]
    exact ⟨gk.sub (by simp), _, gR, fun x hx => hx⟩
  · simp -implicitDefEqProofs only [go_sem, reduceIte, Nat.reduceEqDiff, Nat.reduceAdd, Nat.reduceMul, Nat.reduceLT, Nat.reduceLeDiff, reduceCtorEq, Int.reduceEq, Int.reduceNeg, Nat.reduceSub, Int.reduceLT, Int.reduceLE, Int.reduceGT, Int.reduceGE, Int.reduceAdd, Int.reduceSub, Int.reduceToNat, Int.reduceBNe, Int.reduceBEq, Nat.mul_one, Nat.zero_mul, hp, Bool.not_true]
    have hk2 : Kept [p] s1 ⟨s1.heap.put p (some (.cells [i64 D.most, .map (some m), .slice none 0 0, i64 (wF D.first), i64 (wG D.first D.fails)] 91 0 false)), s1.next⟩ := kept_put1 (Nat.le_refl _)
    refine ⟨(gk.trans hk2).sub (by simp), [p, m], ⟨m, .slice none 0 0, [], es, clock, by simp only [Heap.get_put, if_true, wD], rfl, by simp only [Heap.get_put]; rw [if_neg (Ne.symm h6)]; exact g2, h3, er_kept g4 hk2 (fun x hx => by simp only [List.mem_singleton]; rintro rfl; exact (h11 _ hx).1 (by simp)), .nil, h6, by simp, by simp, by simp only; omega, by simp only; omega,
      fun x hx => ⟨fun hx' => (h11 x hx).1 (by simp only [List.mem_cons, List.not_mem_nil, or_false] at hx' ⊢; rcases hx' with h | h <;> simp [h]), by simp only; rw [hn]; exact (h11 x hx).2⟩, ⟨wF_range h12.first, wG_range h12.fails, h12.most, h12.keys, h12.fit, h12.len⟩⟩, fun x hx => by simp only [List.mem_cons, List.not_mem_nil, or_false] at hx ⊢; rcases hx with h | h <;> simp [h]⟩

/-- Fault. -/
theorem p36 {p : Nat} {D : DM} {O V : List Nat} {a b : Int} (h : DRep s p D O V) (ha : W64 a) (hb : W64 b) :
    WCall (fun k => call tbl ov k) 36 [ptr p, i64 a, i64 b] s fun u s' => Kept O s s' ∧ DRep s' p { D with first := max a 0, fails := max b 0 } O V := by
  refine WCall.of T.t36 rfl ?_
  obtain ⟨m, lv, S, es, clock, h1, rfl, h2, h3, h4, h5, h6, h7, h8, h9, h10, h11, h12⟩ := h
  have em : ∀ x : Int, evP s.heap.get s.next (.minmax true [i64 x, i64 0]) = some ⟨i64 (max x 0), [], s.next⟩ := by
    intro x
    simp only [evP, minmaxV, if_true, Option.map_some]
    congr 3
    by_cases h : (0 : Int) > x
    · rw [if_pos h]; omega
    · rw [if_neg h]; omega
  simp -implicitDefEqProofs only [fun36, code36, params, go_sem, reduceIte, Nat.reduceEqDiff, Nat.reduceAdd, Nat.reduceMul, Nat.reduceLT, Nat.reduceLeDiff, reduceCtorEq, Int.reduceEq, Int.reduceNeg, Nat.reduceSub, Int.reduceLT, Int.reduceLE, Int.reduceGT, Int.reduceGE, Int.reduceAdd, Int.reduceSub, Int.reduceToNat, Int.reduceBNe, Int.reduceBEq, Nat.mul_one, Nat.zero_mul, h1, em]
  unfold W64 at ha hb
  obtain ⟨g2, g4, g5, gR, gk⟩ := DRep.wrote (s' := ⟨(s.heap.put p (some (.cells [i64 D.most, .map (some m), lv, i64 (max a 0), i64 D.fails] 91 0 false))).put p (some (.cells [i64 D.most, .map (some m), lv, i64 (max a 0), i64 (max b 0)] 91 0 false)), s.next⟩)
    h2 h3 h4 h5 h6 h7 h8 h9 h10 h11 h12 rfl (by simp only [Heap.get_put, if_true]) (fun j hj => by simp only [Heap.get_put, hj, if_false]) (f := max a 0) (g := max b 0) (by unfold N63; omega) (by unfold N63; omega)
  exact ⟨gk.sub (by simp), gR⟩
end

end Go.Proofs.Ytgnpafmhdmmmhaa

/-
  A disk: Read and Segs.
-/
set_option maxRecDepth 100000
set_option linter.unusedVariables false
set_option linter.unusedSimpArgs false
namespace Go.Abs
open Go
/-- A slice in a block from N on. -/
def NewV (N : Nat) (v : Value) : Prop := ∀ id o l c, v = .slice (some ⟨id, o, none⟩) l c → N ≤ id
theorem NewV.mono {N M : Nat} {v : Value} (h : NewV N v) (hm : M ≤ N) : NewV M v := fun id o l c e => Nat.le_trans hm (h id o l c e)
theorem bytes_clip {s : St} {v : Value} {zs : List Int} (h : BytesV s v zs) :
    ∃ v', evP s.heap.get s.next (.slice (.slice 1) v none (some (.int .i64 (zs.length : Nat))) (some (.int .i64 (zs.length : Nat)))) = some ⟨v', [], s.next⟩ ∧ BytesV s v' zs ∧ ∀ N, NewV N v → NewV N v' := by
  obtain ⟨hz, ⟨rfl, rfl⟩ | ⟨id, o, cap, c, t, sz, ro, rfl, h1, h2, h3, h4, h5, h6⟩⟩ := h
  · exact ⟨.slice none 0 0, by simp [evP, boundsV, boundV], ⟨by simp, .inl ⟨rfl, rfl⟩⟩, fun N h => h⟩
  · have a1 : (zs.length : Int) ≤ cap := by omega
    refine ⟨.slice (some ⟨id, o, none⟩) zs.length zs.length, ?_, ⟨hz, .inr ⟨id, o, zs.length, c, t, sz, ro, rfl, Nat.le_refl _, h2, h3, h4, h5, h6⟩⟩, fun N h id' o' l c e => by cases e; exact h _ _ _ _ rfl⟩
    have h5' : ro = true ∨ sz = 1 ∨ sz = 1 + 4294967296 := h5.imp_right .inl
    simp [evP, boundsV, boundV, a1, h3, h5', h1]
theorem lookF_mem {F : List (Int × List Int)} {k : Int} {bs : List Int} (h : lookF F k = some bs) : (k, bs) ∈ F := by
  induction F with
  | nil => cases h
  | cons p F ih =>
    simp only [lookF] at h
    split at h
    · rename_i hk; cases h; subst hk; exact List.mem_cons_self ..
    · exact List.mem_cons_of_mem _ (ih h)
end Go.Abs
namespace Go.Proofs.Ytgnpafmhdmmmhaa
open Go Go.Abs Go.Abs.K

section
variable {tbl : FuncId → Option AFun} {ov : CallSem} {s : St} (T : DTbl tbl)
include T

theorem p50 {bv : Value} {bs : List Int} (hb : BytesV s bv bs) (hl : bs.length < 2 ^ 40) : WCall (fun k => call tbl ov k) 50 [bv] s fun u s' => BytesV s' u bs ∧ Kept [] s s' ∧ NewV s.next u := by
  refine WCall.of T.t50 rfl ?_
  have hb0 := hb
  obtain ⟨hz, ⟨rfl, rfl⟩ | ⟨id, o, cap, c, t, sz, ro, rfl, h1, h2, h3, h4⟩⟩ := hb
  · simp -implicitDefEqProofs only [fun50, code50, params, go_sem, reduceIte, Nat.reduceEqDiff, Nat.reduceAdd, Nat.reduceMul, Nat.reduceLT, Nat.reduceLeDiff, reduceCtorEq, Int.reduceEq, Int.reduceNeg, Nat.reduceSub, Int.reduceLT, Int.reduceLE, Int.reduceGT, Int.reduceGE, Int.reduceAdd, Int.reduceSub, Int.reduceToNat, Int.reduceBNe, Int.reduceBEq, Nat.mul_one, Nat.zero_mul, Option.isNone_none]
    exact ⟨⟨by simp, .inl ⟨rfl, rfl⟩⟩, Kept.refl _ _, fun id o l c e => by cases e⟩
  · have hk1 : Kept [] s ⟨s.heap.put s.next (some (.cells [] 5 1 false)), s.next + 1⟩ := kept_put_nil (Nat.le_refl _) (Nat.le_succ _)
    have hO : BytesO 5 ⟨s.heap.put s.next (some (.cells [] 5 1 false)), s.next + 1⟩ (.slice (some ⟨s.next, 0, none⟩) 0 0) [] [s.next] :=
      ⟨by simp, .inr ⟨s.next, 0, 0, [], rfl, rfl, Nat.le_refl _, Nat.lt_succ_self _, by simp only [Heap.get_put, if_true], by simp, rfl⟩⟩
    obtain ⟨res, S', he, hR, hk2, hS, _⟩ := hO.append (.inl (hb0.kept hk1)) (by simpa using hl)
    obtain ⟨val, upd, nx⟩ := res
    simp only at hR hk2
    rw [List.nil_append] at hR
    simp -implicitDefEqProofs only [fun50, code50, params, go_sem, reduceIte, Nat.reduceEqDiff, Nat.reduceAdd, Nat.reduceMul, Nat.reduceLT, Nat.reduceLeDiff, reduceCtorEq, Int.reduceEq, Int.reduceNeg, Nat.reduceSub, Int.reduceLT, Int.reduceLE, Int.reduceGT, Int.reduceGE, Int.reduceAdd, Int.reduceSub, Int.reduceToNat, Int.reduceBNe, Int.reduceBEq, Nat.mul_one, Nat.zero_mul, ev_buildSlice, fillL, he]
    refine ⟨hR.toV, ⟨Nat.le_trans hk1.1 hk2.1, fun j hj _ => ?_⟩, fun id o l c e => ?_⟩
    · rw [hk2.2 j (by simp only; omega) (by simp only [List.mem_singleton]; omega)]
      exact hk1.2 j hj (by simp)
    · obtain ⟨_, ⟨hx, _⟩ | ⟨id', o', cap', c', hx, hSx, _⟩⟩ := hR
      · rw [hx] at e; cases e
      · rw [hx] at e
        simp only [Value.slice.injEq, Option.some.injEq, Addr.mk.injEq] at e
        have he := e.1.1
        rcases hS id' (by rw [hSx]; exact List.mem_singleton.2 rfl) with h | h
        · have := List.mem_singleton.1 h; omega
        · simp only at h; omega

theorem p49 {bv : Value} {bs : List Int} (hb : BytesV s bv bs) : WCall (fun k => call tbl ov k) 49 [bv] s fun u s' => (BytesV s u bs ∧ ∀ N, NewV N bv → NewV N u) ∧ s' = s := by
  refine WCall.of T.t49 rfl ?_
  obtain ⟨v', he, hv, hN⟩ := bytes_clip hb
  obtain ⟨a, cap, rfl⟩ := hb.len
  simp -implicitDefEqProofs only [fun49, code49, params, go_sem, reduceIte, Nat.reduceEqDiff, Nat.reduceAdd, Nat.reduceMul, Nat.reduceLT, Nat.reduceLeDiff, reduceCtorEq, Int.reduceEq, Int.reduceNeg, Nat.reduceSub, Int.reduceLT, Int.reduceLE, Int.reduceGT, Int.reduceGE, Int.reduceAdd, Int.reduceSub, Int.reduceToNat, Int.reduceBNe, Int.reduceBEq, Nat.mul_one, Nat.zero_mul, he]
  exact ⟨hv, hN⟩

/-- What is found. -/
def readE (D : DM) (n : Int) : Int := if (lookF D.F n).isSome then 0 else 4
def readB (D : DM) (n : Int) : List Int := (lookF D.F n).getD []

theorem p30 {p : Nat} {D : DM} {O V : List Nat} {n : Int} (h : DRep s p D O V) :
    WCall (fun k => call tbl ov k) 30 [ptr p, i64 n] s fun u s' => ∃ v, u = .tuple #[v, i64 (readE D n)] ∧ BytesV s' v (readB D n) ∧ Kept [] s s' ∧ NewV s.next v := by
  refine WCall.of T.t30 rfl ?_
  obtain ⟨m, lv, S, es, clock, h1, rfl, h2, h3, h4, h5, h6, h7, h8, h9, h10, h11, h12⟩ := h
  have el := ev_lookup (g := s.heap.get) (nx := s.next) (z := .slice none 0 0) (kind_int .i64) h3 h2 (k := i64 n) ⟨n, rfl⟩ true
  cases hl : lookF D.F n with
  | none =>
    rw [er_none h4 hl] at el
    simp only [Option.map_none, lookV, if_true] at el
    simp -implicitDefEqProofs only [fun30, code30, params, go_sem, reduceIte, Nat.reduceEqDiff, Nat.reduceAdd, Nat.reduceMul, Nat.reduceLT, Nat.reduceLeDiff, reduceCtorEq, Int.reduceEq, Int.reduceNeg, Nat.reduceSub, Int.reduceLT, Int.reduceLE, Int.reduceGT, Int.reduceGE, Int.reduceAdd, Int.reduceSub, Int.reduceToNat, Int.reduceBNe, Int.reduceBEq, Nat.mul_one, Nat.zero_mul, h1, el, Bool.not_false, readE, readB, hl, Option.isSome_none, Option.getD_none]
    exact ⟨_, rfl, ⟨by simp, .inl ⟨rfl, rfl⟩⟩, Kept.refl _ _, fun id o l c e => by cases e⟩
  | some bs =>
    obtain ⟨v, hv, hB, _⟩ := er_some h4 hl
    rw [hv] at el
    simp only [Option.map_some, lookV, if_true] at el
    have hlen : bs.length ≤ 2048 := h12.len _ (lookF_mem hl)
    simp -implicitDefEqProofs only [fun30, code30, params, go_sem, reduceIte, Nat.reduceEqDiff, Nat.reduceAdd, Nat.reduceMul, Nat.reduceLT, Nat.reduceLeDiff, reduceCtorEq, Int.reduceEq, Int.reduceNeg, Nat.reduceSub, Int.reduceLT, Int.reduceLE, Int.reduceGT, Int.reduceGE, Int.reduceAdd, Int.reduceSub, Int.reduceToNat, Int.reduceBNe, Int.reduceBEq, Nat.mul_one, Nat.zero_mul, h1, el, Bool.not_true, readE, readB, hl, Option.isSome_some, Option.getD_some]
    refine WCall.mono (p50 T hB (by omega)) ?_
    rintro u s1 ⟨hu, hk, hN⟩
    simp -implicitDefEqProofs only [go_sem, reduceIte, Nat.reduceEqDiff, Nat.reduceAdd, Nat.reduceMul, Nat.reduceLT, Nat.reduceLeDiff, reduceCtorEq, Int.reduceEq, Int.reduceNeg, Nat.reduceSub, Int.reduceLT, Int.reduceLE, Int.reduceGT, Int.reduceGE, Int.reduceAdd, Int.reduceSub, Int.reduceToNat, Int.reduceBNe, Int.reduceBEq, Nat.mul_one, Nat.zero_mul]
    refine WCall.mono (p49 T hu) ?_
    rintro u2 s2 ⟨⟨hu2, hN2⟩, rfl⟩
    simp -implicitDefEqProofs only [go_sem, reduceIte, Nat.reduceEqDiff, Nat.reduceAdd, Nat.reduceMul, Nat.reduceLT, Nat.reduceLeDiff, reduceCtorEq, Int.reduceEq, Int.reduceNeg, Nat.reduceSub, Int.reduceLT, Int.reduceLE, Int.reduceGT, Int.reduceGE, Int.reduceAdd, Int.reduceSub, Int.reduceToNat, Int.reduceBNe, Int.reduceBEq, Nat.mul_one, Nat.zero_mul]
    exact ⟨_, rfl, hu2, hk, hN2 _ hN⟩

theorem p56 {mv : Value} (hc : isCell mv = true) (K : Value → St → Prop) : WCall (fun k => call tbl ov k) 56 [mv] s K = K (.func (.func 66) #[] #[ptr s.next]) ⟨s.heap.put s.next (some (.cells (cellList mv) 88 0 false)), s.next + 1⟩ := by
  refine WCall.eq (WCall.of T.t56 rfl ?_) K
  simp -implicitDefEqProofs only [fun56, code56, params, go_sem, reduceIte, Nat.reduceEqDiff, Nat.reduceAdd, Nat.reduceMul, Nat.reduceLT, Nat.reduceLeDiff, reduceCtorEq, Int.reduceEq, Int.reduceNeg, Nat.reduceSub, Int.reduceLT, Int.reduceLE, Int.reduceGT, Int.reduceGE, Int.reduceAdd, Int.reduceSub, Int.reduceToNat, Int.reduceBNe, Int.reduceBEq, Nat.mul_one, Nat.zero_mul, wv_mkFunc]

abbrev keysF (D : DM) : List Int := sortZ (D.F.map fun p => p.1)

/-- Segs. -/
theorem p38 (ho : OvOK ov) {p : Nat} {D : DM} {O V : List Nat} (h : DRep s p D O V) :
    WCall (fun k => call tbl ov k) 38 [ptr p] s fun u s' => RowV 1 s' u ((keysF D).map fun k => [i64 k]) ∧ Kept [] s s' := by
  refine WCall.of T.t38 rfl ?_
  obtain ⟨m, lv, S, es, clock, h1, rfl, h2, h3, h4, h5, h6, h7, h8, h9, h10, h11, h12⟩ := h
  have hfit : D.F.length ≤ 1073741824 := by have := h12.fit; have := h12.most; omega
  have hk := er_keys h4 h12.keys
  have hf := er_fit h4 h3 h12.keys hfit
  have hne : ¬ m = s.next := by omega
  have hk1 : Kept [] s ⟨s.heap.put s.next (some (.cells [.map (some m)] 88 0 false)), s.next + 1⟩ := kept_put_nil (Nat.le_refl _) (Nat.le_succ _)
  have e56 := fun K => p56 (ov := ov) (s := s) T (mv := .map (some m)) rfl K
  have hseq : seqMap ⟨s.heap.put s.next (some (.cells [.map (some m)] 88 0 false)), s.next + 1⟩ 66 (.func (.func 66) #[] #[ptr s.next]) = some (es, clock) := by
    simp only [seqMap, if_true, Heap.get_put, hne, if_false, h2]
  cases hF : D.F with
  | nil =>
    rw [hF] at hk hf
    have e55 := fun K => WCall.eq (WCall.ov (ov := ov) T.t55 (args := [.func (.func 66) #[] #[ptr s.next]]) (s := ⟨s.heap.put s.next (some (.cells [.map (some m)] 88 0 false)), s.next + 1⟩) (r := (.slice none 0 0, ⟨s.heap.put s.next (some (.cells [.map (some m)] 88 0 false)), s.next + 1⟩))
      (by rw [ho.sorted]; simp only [sortedSem, if_true, hseq, Option.bind_some, hk, hf]; rfl) ⟨rfl, rfl⟩) K
    simp -implicitDefEqProofs only [fun38, code38, params, go_sem, reduceIte, Nat.reduceEqDiff, Nat.reduceAdd, Nat.reduceMul, Nat.reduceLT, Nat.reduceLeDiff, reduceCtorEq, Int.reduceEq, Int.reduceNeg, Nat.reduceSub, Int.reduceLT, Int.reduceLE, Int.reduceGT, Int.reduceGE, Int.reduceAdd, Int.reduceSub, Int.reduceToNat, Int.reduceBNe, Int.reduceBEq, Nat.mul_one, Nat.zero_mul, h1, e56, e55]
    refine ⟨⟨by simp [keysF, hF, sortZ], .inl ⟨rfl, by simp [keysF, hF, sortZ]⟩⟩, hk1⟩
  | cons q F =>
    rw [hF] at hk hf
    obtain ⟨ks, hks⟩ : ∃ ks, ks = (q :: F).map fun p => p.1 := ⟨_, rfl⟩
    rw [← hks] at hk hf
    have hkl : 0 < ks.length := by rw [hks]; simp
    have e55 := fun K => WCall.eq (WCall.ov (ov := ov) T.t55 (args := [.func (.func 66) #[] #[ptr s.next]]) (s := ⟨s.heap.put s.next (some (.cells [.map (some m)] 88 0 false)), s.next + 1⟩)
      (r := (.slice (some ⟨s.next + 1, 0, none⟩) ks.length ks.length, ⟨(s.heap.put s.next (some (.cells [.map (some m)] 88 0 false))).put (s.next + 1) (some (.cells ((sortZ ks).map fun n => Value.int .i64 n) 3 1 false)), s.next + 1 + 1⟩))
      (by
        rw [ho.sorted]; simp only [sortedSem, if_true, hseq, Option.bind_some, hk, hf]
        cases ks with
        | nil => simp at hkl
        | cons x r => rfl) ⟨rfl, rfl⟩) K
    simp -implicitDefEqProofs only [fun38, code38, params, go_sem, reduceIte, Nat.reduceEqDiff, Nat.reduceAdd, Nat.reduceMul, Nat.reduceLT, Nat.reduceLeDiff, reduceCtorEq, Int.reduceEq, Int.reduceNeg, Nat.reduceSub, Int.reduceLT, Int.reduceLE, Int.reduceGT, Int.reduceGE, Int.reduceAdd, Int.reduceSub, Int.reduceToNat, Int.reduceBNe, Int.reduceBEq, Nat.mul_one, Nat.zero_mul, h1, e56, e55]
    have hlen : (sortZ ks).length = ks.length := sortZ_length ks
    have hfl : ((sortZ ks).map fun k => [i64 k]).flatten = (sortZ ks).map fun n => Value.int .i64 n := by
      induction sortZ ks with
      | nil => rfl
      | cons x l ih => simp [ih]
    refine ⟨⟨fun c hc => ?_, .inr ⟨s.next + 1, 0, ks.length, (sortZ ks).map fun n => Value.int .i64 n, 3, false, ?_, ?_, by simp only; omega, by simp only [Heap.get_put, if_true], ?_, ?_⟩⟩, ⟨by simp only; omega, fun j hj _ => by simp only [Heap.get_put]; rw [if_neg (by omega), if_neg (by omega)]⟩⟩
    · obtain ⟨k, _, rfl⟩ := List.mem_map.1 hc
      exact ⟨rfl, rfl⟩
    · simp only [keysF, hF, ← hks, List.length_map, hlen]
    · simp only [keysF, hF, ← hks, List.length_map, hlen]; exact Nat.le_refl _
    · simp only [keysF, hF, ← hks, List.length_map, hlen]; omega
    · simp only [keysF, hF, ← hks, List.length_map, hlen]
      rw [hfl, List.drop_zero, List.take_of_length_le (by rw [List.length_map, hlen]; omega)]
end

end Go.Proofs.Ytgnpafmhdmmmhaa
