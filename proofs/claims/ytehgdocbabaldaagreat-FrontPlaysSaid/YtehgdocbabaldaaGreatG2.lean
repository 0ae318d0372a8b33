/-
  The seat's functions: the table; what is known of calls; and that 'awake' comes to true.
-/
import Derived.Test.YtehgdocbabaldaaGreatG1
import Derived.Sort.MapsRangeIn
import Derived.Sort.KeysCollected
import Derived.Sort.OwnSorted
import Derived.Lib.SlKeysI
set_option maxRecDepth 100000
set_option linter.unusedVariables false
namespace Go.Proofs.YtehgdocbabaldaaGreat
open Go Go.Abs Go.Shelf Go.Maps Go.Sort Go.RowKit

def keysA_ren : Go.Shelf.Ren := ⟨fun | 7 => 42 | 10 => 66 | n => n, fun | 23 => 72 | 26 => 3 | 3 => 23 | 28 => 94 | 0 => 0 | 27 => 93 | 33 => 41 | 4 => 4 | n => n, fun | n => n⟩
theorem keysA : Go.Proofs.SlLaysZI.n7 Tryz.prog keysA_ren := {
  mixed := by kernel_rfl
  f7 := ⟨Tryz.f42.name, by decide, Tryz.func42.trans (congrArg some (by kernel_rfl))⟩
  f10 := ⟨Tryz.f66.name, by decide, Tryz.func66.trans (congrArg some (by kernel_rfl))⟩
  t0 := Tryz.underlying0
  a0 := Tryz.isAgg0
  z0 := Tryz.sizeOf0
  v0 := Tryz.zeroValue0
  t4 := Tryz.underlying4
  a4 := Tryz.isAgg4
  z4 := Tryz.sizeOf4
  v4 := Tryz.zeroValue4
  t23 := Tryz.underlying72
  a23 := Tryz.isAgg72
  z23 := Tryz.sizeOf72
  v23 := Tryz.zeroValue72
  t26 := Tryz.underlying3
  a26 := Tryz.isAgg3
  z26 := Tryz.sizeOf3
  v26 := Tryz.zeroValue3
  t27 := Tryz.underlying93
  a27 := Tryz.isAgg93
  z27 := Tryz.sizeOf93
  v27 := Tryz.zeroValue93
  t28 := Tryz.underlying94
  a28 := Tryz.isAgg94
  z28 := Tryz.sizeOf94
  v28 := Tryz.zeroValue94
  t33 := Tryz.underlying41
  a33 := Tryz.isAgg41
  z33 := Tryz.sizeOf41
  v33 := Tryz.zeroValue41 }
def sortedA_ren : Go.Shelf.Ren := ⟨fun | 6 => 41 | 8 => 64 | 9 => 65 | 11 => 83 | 13 => 85 | 12 => 84 | 23 => 102 | 24 => 103 | 14 => 93 | 15 => 94 | 16 => 95 | 17 => 96 | 18 => 97 | 19 => 98 | 20 => 99 | 21 => 100 | 22 => 101 | 25 => 109 | 26 => 110 | 27 => 111 | 28 => 112 | 29 => 113 | 30 => 91 | 31 => 116 | n => n, fun | 26 => 3 | 28 => 94 | 24 => 62 | 0 => 0 | 3 => 3 | 37 => 120 | 48 => 102 | 50 => 98 | 4 => 4 | 40 => 148 | 39 => 147 | 45 => 51 | 5 => 5 | 9 => 9 | 51 => 161 | 55 => 165 | 57 => 169 | 58 => 170 | 33 => 41 | n => n, fun | n => n⟩
theorem sortedA : Go.Proofs.SlLaysZI.n6 Tryz.prog sortedA_ren := {
  mixed := by kernel_rfl
  f6 := ⟨Tryz.f41.name, by decide, Tryz.func41.trans (congrArg some (by kernel_rfl))⟩
  f8 := ⟨Tryz.f64.name, by decide, Tryz.func64.trans (congrArg some (by kernel_rfl))⟩
  f11 := ⟨Tryz.f83.name, by decide, Tryz.func83.trans (congrArg some (by kernel_rfl))⟩
  t0 := Tryz.underlying0
  a0 := Tryz.isAgg0
  z0 := Tryz.sizeOf0
  v0 := Tryz.zeroValue0
  t24 := Tryz.underlying62
  a24 := Tryz.isAgg62
  z24 := Tryz.sizeOf62
  v24 := Tryz.zeroValue62
  t26 := Tryz.underlying3
  a26 := Tryz.isAgg3
  z26 := Tryz.sizeOf3
  v26 := Tryz.zeroValue3
  t28 := Tryz.underlying94
  a28 := Tryz.isAgg94
  z28 := Tryz.sizeOf94
  v28 := Tryz.zeroValue94
  i26 := by kernel_rfl }
def sortA_ren : Go.Shelf.Ren := ⟨fun | 5 => 65 | 8 => 85 | 7 => 84 | 19 => 102 | 20 => 103 | 10 => 93 | 11 => 94 | 12 => 95 | 13 => 96 | 14 => 97 | 15 => 98 | 16 => 99 | 17 => 100 | 18 => 101 | 30 => 109 | 31 => 110 | 32 => 111 | 33 => 112 | 34 => 113 | 35 => 91 | 40 => 116 | n => n, fun | 23 => 62 | 25 => 3 | 3 => 3 | 32 => 120 | 22 => 62 | 0 => 0 | 44 => 102 | 46 => 98 | 4 => 4 | 36 => 148 | 35 => 147 | 41 => 51 | 5 => 5 | 9 => 9 | 53 => 161 | 57 => 165 | 63 => 169 | 64 => 170 | n => n, fun | n => n⟩
theorem sortA : Go.Proofs.SlLaysM.n5 Tryz.prog sortA_ren := {
  mixed := by kernel_rfl
  f5 := ⟨Tryz.f65.name, by decide, Tryz.func65.trans (congrArg some (by kernel_rfl))⟩
  f7 := ⟨Tryz.f84.name, by decide, Tryz.func84.trans (congrArg some (by kernel_rfl))⟩
  f8 := Tryz.func85.trans (congrArg some (by kernel_rfl))
  f10 := ⟨Tryz.f93.name, by decide, Tryz.func93.trans (congrArg some (by kernel_rfl))⟩
  f11 := ⟨Tryz.f94.name, by decide, Tryz.func94.trans (congrArg some (by kernel_rfl))⟩
  f12 := ⟨Tryz.f95.name, by decide, Tryz.func95.trans (congrArg some (by kernel_rfl))⟩
  f13 := ⟨Tryz.f96.name, by decide, Tryz.func96.trans (congrArg some (by kernel_rfl))⟩
  f14 := ⟨Tryz.f97.name, by decide, Tryz.func97.trans (congrArg some (by kernel_rfl))⟩
  f15 := ⟨Tryz.f98.name, by decide, Tryz.func98.trans (congrArg some (by kernel_rfl))⟩
  f16 := ⟨Tryz.f99.name, by decide, Tryz.func99.trans (congrArg some (by kernel_rfl))⟩
  f17 := ⟨Tryz.f100.name, by decide, Tryz.func100.trans (congrArg some (by kernel_rfl))⟩
  f18 := ⟨Tryz.f101.name, by decide, Tryz.func101.trans (congrArg some (by kernel_rfl))⟩
  f19 := Tryz.func102.trans (congrArg some (by kernel_rfl))
  f20 := Tryz.func103.trans (congrArg some (by kernel_rfl))
  f30 := ⟨Tryz.f109.name, by decide, Tryz.func109.trans (congrArg some (by kernel_rfl))⟩
  f31 := Tryz.func110.trans (congrArg some (by kernel_rfl))
  f32 := Tryz.func111.trans (congrArg some (by kernel_rfl))
  f33 := ⟨Tryz.f112.name, by decide, Tryz.func112.trans (congrArg some (by kernel_rfl))⟩
  f34 := ⟨Tryz.f113.name, by decide, Tryz.func113.trans (congrArg some (by kernel_rfl))⟩
  f35 := ⟨Tryz.f91.name, by decide, Tryz.func91.trans (congrArg some (by kernel_rfl))⟩
  f40 := ⟨Tryz.f116.name, by decide, Tryz.func116.trans (congrArg some (by kernel_rfl))⟩
  t0 := Tryz.underlying0
  a0 := Tryz.isAgg0
  z0 := Tryz.sizeOf0
  v0 := Tryz.zeroValue0
  t3 := Tryz.underlying3
  a3 := Tryz.isAgg3
  z3 := Tryz.sizeOf3
  v3 := Tryz.zeroValue3
  t4 := Tryz.underlying4
  a4 := Tryz.isAgg4
  z4 := Tryz.sizeOf4
  v4 := Tryz.zeroValue4
  t5 := Tryz.underlying5
  a5 := Tryz.isAgg5
  z5 := Tryz.sizeOf5
  v5 := Tryz.zeroValue5
  t9 := Tryz.underlying9
  a9 := Tryz.isAgg9
  z9 := Tryz.sizeOf9
  v9 := Tryz.zeroValue9
  t22 := Tryz.underlying62
  a22 := Tryz.isAgg62
  z22 := Tryz.sizeOf62
  v22 := Tryz.zeroValue62
  t23 := Tryz.underlying62
  a23 := Tryz.isAgg62
  z23 := Tryz.sizeOf62
  v23 := Tryz.zeroValue62
  t25 := Tryz.underlying3
  a25 := Tryz.isAgg3
  z25 := Tryz.sizeOf3
  v25 := Tryz.zeroValue3
  t32 := Tryz.underlying120
  a32 := Tryz.isAgg120
  z32 := Tryz.sizeOf120
  v32 := Tryz.zeroValue120
  t35 := Tryz.underlying147
  a35 := Tryz.isAgg147
  z35 := Tryz.sizeOf147
  v35 := Tryz.zeroValue147
  t36 := Tryz.underlying148
  a36 := Tryz.isAgg148
  z36 := Tryz.sizeOf148
  v36 := Tryz.zeroValue148
  t41 := Tryz.underlying51
  a41 := Tryz.isAgg51
  z41 := Tryz.sizeOf51
  v41 := Tryz.zeroValue51
  t44 := Tryz.underlying102
  a44 := Tryz.isAgg102
  z44 := Tryz.sizeOf102
  v44 := Tryz.zeroValue102
  t46 := Tryz.underlying98
  a46 := Tryz.isAgg98
  z46 := Tryz.sizeOf98
  v46 := Tryz.zeroValue98
  t53 := Tryz.underlying161
  a53 := Tryz.isAgg161
  z53 := Tryz.sizeOf161
  v53 := Tryz.zeroValue161
  t57 := Tryz.underlying165
  a57 := Tryz.isAgg165
  z57 := Tryz.sizeOf165
  v57 := Tryz.zeroValue165
  t63 := Tryz.underlying169
  a63 := Tryz.isAgg169
  z63 := Tryz.sizeOf169
  v63 := Tryz.zeroValue169
  t64 := Tryz.underlying170
  a64 := Tryz.isAgg170
  z64 := Tryz.sizeOf170
  v64 := Tryz.zeroValue170 }

theorem mixed : Tryz.prog.follows .mixedOrders = true := by kernel_rfl

theorem sortsA (m : Nat) : AnyZI.SortsIn Tryz.prog sortedA_ren Fence.wide m :=
  ⟨fun blk off cap ss W hH hblk hsz => callsIn_wide.2 (AnyM.slices_Sort_int sortA blk off cap ss W hH hblk hsz),
   fun p cap W => callsIn_wide.2 (AnyM.slices_Sort_int_none sortA p cap W)⟩

theorem sortedOK : SortedOK Tryz.prog 41 66 3 where
  key := Tryz.underlying3
  can := ⟨_, Tryz.func41, by kernel_rfl, by kernel_rfl⟩
  run := by
    intro B b nn D w hB hc hown hD
    refine (callsIn_wide (n := 6)).1 ?_
    have hseq : SeqGives Fence.wide (6 - 1 - 1 - 1) Tryz.prog 66 #[.pointer (some ⟨B, 0, none⟩)] encZ (fun ss => ss.Perm (intKeys D)) (Maps.size D) w :=
      AnyZI.keys_gives (ρ := keysA_ren) { keysA with } Fence.wide _ trivial rfl (by omega) B b nn D w hB hc hown
    have cS := AnyZI.sorted_in sortedA Fence.wide 6 trivial trivial trivial trivial rfl (by omega) (sortsA _) (enters_of Tryz.func65 (by kernel_rfl) rfl) 66 #[.pointer (some ⟨B, 0, none⟩)] trivial (enters_of Tryz.func66 (by kernel_rfl) rfl) _ (Maps.size D) (by unfold maxLen; omega) (by omega) _ hseq
    exact cS

def zReq : List Value := [.int .i64 0, .string ⟨#[]⟩, .string ⟨#[]⟩, .int .i64 0, .int .i64 0]
theorem compIns : FunOK Tryz.prog 60 (insFun 34 5 56 zReq 81 82) := comp60
theorem ovl : OvlOK Tryz.prog 81 := OvlOK.of (tS := 47) (tR := 4) (e := 34) Tryz.func81 (by kernel_rfl) (by kernel_rfl) (by kernel_rfl) (by kernel_rfl) (by kernel_rfl) (by kernel_rfl)

def knownD : CallSem := orSem (sortedSem 41 66 3) (insSem 60 34 5 56)
theorem knownD_good : GoodCalls Tryz.prog knownD ∧ GoodWF knownD := or_good (sorted_good sortedOK) (ins_good mixed compIns ovl (by decide) rfl)

def seatFuns : List (FuncId × AFun) := [(6, fun6), (7, fun7), (8, fun8), (10, fun10), (11, fun11), (12, fun12), (13, fun13), (14, fun14), (15, fun15), (16, fun16), (17, fun17), (18, fun18), (19, fun19), (20, fun20), (21, fun21), (22, fun22), (23, fun23), (24, fun24), (25, fun25), (26, fun26), (27, fun27), (28, fun28), (29, fun29), (30, fun30), (31, fun31), (32, fun32), (33, fun33), (34, fun34), (35, fun35), (36, fun36), (37, fun37), (38, fun38), (39, fun39), (40, fun40), (42, fun42), (43, fun43), (44, fun44), (45, fun45), (46, fun46), (47, fun47), (48, fun48), (49, fun49), (50, fun50), (51, fun51), (52, fun52), (53, fun53), (54, fun54), (55, fun55), (56, fun56), (57, fun57), (58, fun58), (59, fun59), (61, fun61), (62, fun62), (63, fun63), (67, fun67), (68, fun68), (69, fun69), (70, fun70), (71, fun71), (72, fun72), (73, fun73), (74, fun74), (75, fun75), (76, fun76), (77, fun77), (78, fun78), (79, fun79), (80, fun80), (86, fun86), (87, fun87), (89, fun89), (90, fun90), (91, fun91), (106, fun106), (107, fun107), (115, fun115)]

theorem seatFuns_ok : ∀ p ∈ seatFuns, FunOK Tryz.prog p.1 p.2 := by
  intro p hp
  simp only [seatFuns, List.mem_cons, List.not_mem_nil, or_false] at hp
  rcases hp with rfl | rfl | rfl | rfl | rfl | rfl | rfl | rfl | rfl | rfl | rfl | rfl | rfl | rfl | rfl | rfl | rfl | rfl | rfl | rfl | rfl | rfl | rfl | rfl | rfl | rfl | rfl | rfl | rfl | rfl | rfl | rfl | rfl | rfl | rfl | rfl | rfl | rfl | rfl | rfl | rfl | rfl | rfl | rfl | rfl | rfl | rfl | rfl | rfl | rfl | rfl | rfl | rfl | rfl | rfl | rfl | rfl | rfl | rfl | rfl | rfl | rfl | rfl | rfl | rfl | rfl | rfl | rfl | rfl | rfl | rfl | rfl | rfl | rfl | rfl | rfl | rfl
  · exact comp6
  · exact comp7
  · exact comp8
  · exact comp10
  · exact comp11
  · exact comp12
  · exact comp13
  · exact comp14
  · exact comp15
  · exact comp16
  · exact comp17
  · exact comp18
  · exact comp19
  · exact comp20
  · exact comp21
  · exact comp22
  · exact comp23
  · exact comp24
  · exact comp25
  · exact comp26
  · exact comp27
  · exact comp28
  · exact comp29
  · exact comp30
  · exact comp31
  · exact comp32
  · exact comp33
  · exact comp34
  · exact comp35
  · exact comp36
  · exact comp37
  · exact comp38
  · exact comp39
  · exact comp40
  · exact comp42
  · exact comp43
  · exact comp44
  · exact comp45
  · exact comp46
  · exact comp47
  · exact comp48
  · exact comp49
  · exact comp50
  · exact comp51
  · exact comp52
  · exact comp53
  · exact comp54
  · exact comp55
  · exact comp56
  · exact comp57
  · exact comp58
  · exact comp59
  · exact comp61
  · exact comp62
  · exact comp63
  · exact comp67
  · exact comp68
  · exact comp69
  · exact comp70
  · exact comp71
  · exact comp72
  · exact comp73
  · exact comp74
  · exact comp75
  · exact comp76
  · exact comp77
  · exact comp78
  · exact comp79
  · exact comp80
  · exact comp86
  · exact comp87
  · exact comp89
  · exact comp90
  · exact comp91
  · exact comp106
  · exact comp107
  · exact comp115

theorem awake_table : TableOK Tryz.prog (tblOf ((9, fun9) :: seatFuns)) knownD :=
  tblOf_ok mixed (fun p hp => by
    rcases List.mem_cons.1 hp with rfl | hp
    · exact comp9
    · exact seatFuns_ok p hp) knownD_good

theorem awake_runs : (call (tblOf ((9, fun9) :: seatFuns)) knownD 40 9 [] st0).map (fun r => r.1) = some (.bool true) := by kernel_rfl

def ovD : CallSem := orSem (known [(9, .bool true)]) knownD
theorem ovD_good : GoodCalls Tryz.prog ovD ∧ GoodWF ovD :=
  or_good (known_good fun p hp s => by
    simp only [List.mem_singleton] at hp
    subst hp
    exact closed_known awake_table rfl 40 awake_runs rfl s) knownD_good

end Go.Proofs.YtehgdocbabaldaaGreat
