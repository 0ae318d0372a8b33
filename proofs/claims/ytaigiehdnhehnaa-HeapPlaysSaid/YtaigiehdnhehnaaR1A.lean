/-
  The heap's functions: the table; and that 'awake' comes to true.
-/
import Derived.Test.YtaigiehdnhehnaaR1H
import Derived.Test.YtaigiehdnhehnaaA22
set_option maxRecDepth 100000
namespace Go.Proofs.Ytaigiehdnhehnaa
open Go Go.Abs

def heapFuns : List (FuncId × AFun) := [(13, fun13), (14, fun14), (15, fun15), (16, fun16), (18, fun18), (20, fun20), (22, fun22), (30, fun30), (31, fun31), (32, fun32), (40, fun40)]

theorem heapFuns_ok : ∀ p ∈ heapFuns, FunOK Try.prog p.1 p.2 := by
  intro p hp
  simp only [heapFuns, List.mem_cons, List.not_mem_nil, or_false] at hp
  rcases hp with rfl | rfl | rfl | rfl | rfl | rfl | rfl | rfl | rfl | rfl | rfl
  · exact comp13
  · exact comp14
  · exact comp15
  · exact comp16
  · exact comp18
  · exact comp20
  · exact comp22
  · exact comp30
  · exact comp31
  · exact comp32
  · exact comp40

theorem mixed : Try.prog.follows .mixedOrders = true := by kernel_rfl

theorem awake_table : TableOK Try.prog (tblOf ((17, fun17) :: heapFuns)) (fun _ _ _ => none) :=
  tblOf_ok mixed (fun p hp => by
    rcases List.mem_cons.1 hp with rfl | hp
    · exact comp17
    · exact heapFuns_ok p hp) none_good

theorem awake_runs : (call (tblOf ((17, fun17) :: heapFuns)) (fun _ _ _ => none) 40 17 [] st0).map (fun r => r.1) = some (.bool true) := by kernel_rfl

theorem awake_known : GoodCalls Try.prog (known [(17, .bool true)]) ∧ GoodWF (known [(17, .bool true)]) :=
  known_good fun p hp s => by
    simp only [List.mem_cons, List.not_mem_nil, or_false] at hp
    subst hp
    exact closed_known awake_table rfl 40 awake_runs rfl s

end Go.Proofs.Ytaigiehdnhehnaa
