/-
  DiskNone, for whatever bytes and number.
-/
import Derived.Test.YtgnpafmhdmmmhaaD2
set_option maxRecDepth 100000
namespace Go.Proofs.Ytgnpafmhdmmmhaa
open Go Go.Abs Go.Abs.K

def noneFuns : List (FuncId × AFun) := ((9, fun9) :: diskFuns).map fun p => (p.1, { p.2 with gc := 0 })

theorem none_table : TableOK Try.prog (tblOf noneFuns) ovD :=
  tblOf_ok mixed (fun p hp => by
    obtain ⟨q, hq, rfl⟩ := List.mem_map.1 hp
    rcases List.mem_cons.1 hq with rfl | hq
    · exact FunOK.gc comp9 0
    · exact FunOK.gc (diskFuns_ok q hq) 0) ovD_good

theorem none_runs (b : Value) (n : Int) (s : St) : (call (tblOf noneFuns) ovD 40 9 [b, .int .i64 n] s).map (fun r => r.1) = some (.bool true) := by kernel_rfl

end Go.Proofs.Ytgnpafmhdmmmhaa
