/-
  HeapNone, for every number and key.
-/
import Derived.Test.YtaigiehdnhehnaaR1A
set_option maxRecDepth 100000
namespace Go.Proofs.Ytaigiehdnhehnaa
open Go Go.Abs

def noneFuns : List (FuncId × AFun) := (6, fun6) :: heapFuns

theorem none_table : TableOK Try.prog (tblOf noneFuns) (known [(17, .bool true)]) :=
  tblOf_ok mixed (fun p hp => by
    rcases List.mem_cons.1 hp with rfl | hp
    · exact comp6
    · exact heapFuns_ok p hp) awake_known

theorem none_runs (id key : Int) (k : Nat) : call (tblOf noneFuns) (known [(17, .bool true)]) (k + 40) 6 [.int .i64 id, .int .i64 key] st0 = some (.bool true, st0) := by kernel_rfl

end Go.Proofs.Ytaigiehdnhehnaa
