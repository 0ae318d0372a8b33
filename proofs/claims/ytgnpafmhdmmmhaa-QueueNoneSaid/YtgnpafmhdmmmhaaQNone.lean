/-
  QueueNone, for every request and number.
-/
import Derived.Test.YtgnpafmhdmmmhaaQ3
set_option maxRecDepth 100000
namespace Go.Proofs.Ytgnpafmhdmmmhaa
open Go Go.Abs

def noneFuns : List (FuncId × AFun) := ((5, fun5) :: queueFuns).map fun p => (p.1, { p.2 with gc := 0 })

theorem none_table : TableOK Try.prog (tblOf noneFuns) ovQ :=
  tblOf_ok mixed (fun p hp => by
    obtain ⟨q, hq, rfl⟩ := List.mem_map.1 hp
    rcases List.mem_cons.1 hq with rfl | hq
    · exact FunOK.gc comp5 0
    · exact FunOK.gc (queueFuns_ok q hq) 0) ovQ_good

theorem none_runs (r : QReq) (n : Int) : (call (tblOf noneFuns) ovQ 40 5 [r.val, i64 n] st0).map (fun r => r.1) = some (.bool true) := by kernel_rfl

end Go.Proofs.Ytgnpafmhdmmmhaa
