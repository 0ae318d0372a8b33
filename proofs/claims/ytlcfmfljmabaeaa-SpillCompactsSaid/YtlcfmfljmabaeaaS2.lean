/-
  The log's functions: the table; what is known of calls; and that 'awake' comes to true.
-/
import Derived.Test.YtlcfmfljmabaeaaS0
import Derived.Test.YtlcfmfljmabaeaaS1
set_option maxRecDepth 100000
namespace Go.Proofs.Ytlcfmfljmabaeaa
open Go Go.Abs Go.Shelf Go.Maps Go.Sort Go.RowKit

theorem mixed : Try.prog.follows .mixedOrders = true := by kernel_rfl

theorem sortsA (m : Nat) : AnyZI.SortsIn Try.prog sortedA_ren Fence.wide m :=
  ⟨fun blk off cap ss W hH hblk hsz => callsIn_wide.2 (AnyM.slices_Sort_int sortA blk off cap ss W hH hblk hsz),
   fun p cap W => callsIn_wide.2 (AnyM.slices_Sort_int_none sortA p cap W)⟩

theorem sortedOK : SortedOK Try.prog 36 54 3 where
  key := Try.underlying3
  can := ⟨_, Try.func36, by kernel_rfl, by kernel_rfl⟩
  run := by
    intro B b nn D w hB hc hown hD
    refine (callsIn_wide (n := 6)).1 ?_
    have hseq : SeqGives Fence.wide (6 - 1 - 1 - 1) Try.prog 54 #[.pointer (some ⟨B, 0, none⟩)] encZ (fun ss => ss.Perm (intKeys D)) (Maps.size D) w :=
      AnyZI.keys_gives (ρ := keysA_ren) { keysA with } Fence.wide _ trivial rfl (by omega) B b nn D w hB hc hown
    have cS := AnyZI.sorted_in sortedA Fence.wide 6 trivial trivial trivial trivial rfl (by omega) (sortsA _) (enters_of Try.func52 (by kernel_rfl) rfl) 54 #[.pointer (some ⟨B, 0, none⟩)] trivial (enters_of Try.func54 (by kernel_rfl) rfl) _ (Maps.size D) (by unfold maxLen; omega) (by omega) _ hseq
    exact cS

theorem keysIOK : KeysOK Try.prog 35 3 3 encZ keysZ sortZ intKeys (fun x y => decide (x ≤ y)) :=
  keysI_ok Try.underlying3 ⟨_, Try.func35, by kernel_rfl, by kernel_rfl⟩ fun b nn D w h1 h2 => (callsIn_wide (n := 6)).1 (keysI b nn D w h1 h2)
theorem keysSOK : KeysOK Try.prog 46 9 9 encStr keysT sortS strKeys (fun x y => decide (x ≤ y)) :=
  keysS_ok Try.underlying9 ⟨_, Try.func46, by kernel_rfl, by kernel_rfl⟩ fun b nn D w h1 h2 => (callsIn_wide (n := 6)).1 (keysS b nn D w h1 h2)

def knownD : CallSem := orSem (sortedSem 36 54 3) (orSem (keysSem 35 3 encZ keysZ sortZ) (keysSem 46 9 encStr keysT sortS))
theorem knownD_good : GoodCalls Try.prog knownD ∧ GoodWF knownD := or_good (sorted_good sortedOK) (or_good (keys_good keysIOK) (keys_good keysSOK))

def seatFuns : List (FuncId × AFun) := [(8, fun8), (9, fun9), (10, fun10), (11, fun11), (12, fun12), (13, fun13), (15, fun15), (16, fun16), (17, fun17), (18, fun18), (19, fun19), (20, fun20), (22, fun22), (24, fun24), (25, fun25), (26, fun26), (27, fun27), (28, fun28), (29, fun29), (30, fun30), (31, fun31), (32, fun32), (33, fun33), (34, fun34), (37, fun37), (38, fun38), (39, fun39), (40, fun40), (41, fun41), (42, fun42), (43, fun43), (44, fun44), (45, fun45), (47, fun47), (48, fun48), (49, fun49), (50, fun50), (51, fun51), (55, fun55), (56, fun56), (58, fun58), (59, fun59), (60, fun60), (66, fun66), (64, fun64)]

theorem seatFuns_ok : ∀ p ∈ seatFuns, FunOK Try.prog p.1 p.2 := by
  intro p hp
  simp only [seatFuns, List.mem_cons, List.not_mem_nil, or_false] at hp
  rcases hp with rfl | rfl | rfl | rfl | rfl | rfl | rfl | rfl | rfl | rfl | rfl | rfl | rfl | rfl | rfl | rfl | rfl | rfl | rfl | rfl | rfl | rfl | rfl | rfl | rfl | rfl | rfl | rfl | rfl | rfl | rfl | rfl | rfl | rfl | rfl | rfl | rfl | rfl | rfl | rfl | rfl | rfl | rfl | rfl | rfl
  · exact comp8
  · exact comp9
  · exact comp10
  · exact comp11
  · exact comp12
  · exact comp13
  · exact comp15
  · exact comp16
  · exact comp17
  · exact comp18
  · exact comp19
  · exact comp20
  · exact comp22
  · exact comp24
  · exact comp25
  · exact comp26
  · exact comp27
  · exact comp28
  · exact comp29
  · exact comp30
  · exact comp31
  · exact comp32
  · exact comp33
  · exact comp34
  · exact comp37
  · exact comp38
  · exact comp39
  · exact comp40
  · exact comp41
  · exact comp42
  · exact comp43
  · exact comp44
  · exact comp45
  · exact comp47
  · exact comp48
  · exact comp49
  · exact comp50
  · exact comp51
  · exact comp55
  · exact comp56
  · exact comp58
  · exact comp59
  · exact comp60
  · exact comp66
  · exact comp64

theorem awake_table : TableOK Try.prog (tblOf ((14, fun14) :: seatFuns)) knownD :=
  tblOf_ok mixed (fun p hp => by
    rcases List.mem_cons.1 hp with rfl | hp
    · exact comp14
    · exact seatFuns_ok p hp) knownD_good

theorem awake_runs : (call (tblOf ((14, fun14) :: seatFuns)) knownD 40 14 [] st0).map (fun r => r.1) = some (.bool true) := by kernel_rfl

def ovD : CallSem := orSem (known [(14, .bool true)]) knownD
theorem ovD_good : GoodCalls Try.prog ovD ∧ GoodWF ovD :=
  or_good (known_good fun p hp s => by
    simp only [List.mem_singleton] at hp
    subst hp
    exact closed_known awake_table rfl 40 awake_runs rfl s) knownD_good

end Go.Proofs.Ytlcfmfljmabaeaa
