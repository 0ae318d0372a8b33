/-
  The queue's functions: the table; slices.Insert; and that 'awake' comes to true.
-/
import Derived.Test.YtgnpafmhdmmmhaaQ1
set_option maxRecDepth 100000
namespace Go.Proofs.Ytgnpafmhdmmmhaa
open Go Go.Abs

theorem mixed : Try.prog.follows .mixedOrders = true := by kernel_rfl

def zReq : List Value := [.int .i64 0, .string ⟨#[]⟩, .string ⟨#[]⟩, .int .i64 0, .int .i64 0]
theorem comp45' : FunOK Try.prog 45 (insFun 28 5 56 zReq 61 62) := comp45

theorem ovl : OvlOK Try.prog 61 := OvlOK.of (tS := 35) (tR := 4) (e := 28) Try.func61 (by kernel_rfl) (by kernel_rfl) (by kernel_rfl) (by kernel_rfl) (by kernel_rfl) (by kernel_rfl)

/-- What is known of the calls: slices.Insert. -/
def insQ : CallSem := insSem 45 28 5 56
theorem insQ_good : GoodCalls Try.prog insQ ∧ GoodWF insQ := ins_good mixed comp45' ovl (by decide) rfl

def queueFuns : List (FuncId × AFun) := [(11, fun11), (12, fun12), (13, fun13), (14, fun14), (16, fun16), (17, fun17), (18, fun18), (19, fun19), (20, fun20), (21, fun21), (22, fun22), (23, fun23), (24, fun24), (40, fun40), (41, fun41), (42, fun42), (43, fun43), (44, fun44), (46, fun46), (47, fun47), (57, fun57), (58, fun58), (59, fun59), (60, fun60), (67, fun67)]

theorem queueFuns_ok : ∀ p ∈ queueFuns, FunOK Try.prog p.1 p.2 := by
  intro p hp
  simp only [queueFuns, List.mem_cons, List.not_mem_nil, or_false] at hp
  rcases hp with rfl | rfl | rfl | rfl | rfl | rfl | rfl | rfl | rfl | rfl | rfl | rfl | rfl | rfl | rfl | rfl | rfl | rfl | rfl | rfl | rfl | rfl | rfl | rfl | rfl
  · exact comp11
  · exact comp12
  · exact comp13
  · exact comp14
  · exact comp16
  · exact comp17
  · exact comp18
  · exact comp19
  · exact comp20
  · exact comp21
  · exact comp22
  · exact comp23
  · exact comp24
  · exact comp40
  · exact comp41
  · exact comp42
  · exact comp43
  · exact comp44
  · exact comp46
  · exact comp47
  · exact comp57
  · exact comp58
  · exact comp59
  · exact comp60
  · exact comp67

theorem awake_table : TableOK Try.prog (tblOf ((15, fun15) :: queueFuns)) insQ :=
  tblOf_ok mixed (fun p hp => by
    rcases List.mem_cons.1 hp with rfl | hp
    · exact comp15
    · exact queueFuns_ok p hp) insQ_good

theorem awake_runs : (call (tblOf ((15, fun15) :: queueFuns)) insQ 30 15 [] st0).map (fun r => r.1) = some (.bool true) := by kernel_rfl

/-- The calls whose answers are known. -/
def ovQ : CallSem := orSem (known [(15, .bool true)]) insQ
theorem ovQ_good : GoodCalls Try.prog ovQ ∧ GoodWF ovQ :=
  or_good (known_good fun p hp s => by
    simp only [List.mem_singleton] at hp
    subst hp
    exact closed_known awake_table rfl 30 awake_runs rfl s) insQ_good

end Go.Proofs.Ytgnpafmhdmmmhaa
