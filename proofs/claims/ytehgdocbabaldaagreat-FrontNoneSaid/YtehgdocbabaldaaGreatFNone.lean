/-
  frontNone, for every request and number.
-/
import Derived.Test.YtehgdocbabaldaaGreatF3
set_option maxRecDepth 100000
namespace Go.Proofs.YtehgdocbabaldaaGreat
open Go Go.Abs

def noneFuns : List (FuncId × AFun) := ((5, fun5) :: seatFuns).map fun p => (p.1, { p.2 with gc := 0 })

theorem none_table : TableOK Tryz.prog (tblOf noneFuns) ovD :=
  tblOf_ok mixed (fun p hp => by
    obtain ⟨q, hq, rfl⟩ := List.mem_map.1 hp
    rcases List.mem_cons.1 hq with rfl | hq
    · exact FunOK.gc comp5 0
    · exact FunOK.gc (seatFuns_ok q hq) 0) ovD_good

theorem none_runs (r : QReq) (n : Int) : (call (tblOf noneFuns) ovD 40 5 [r.val, i64 n] st0).map (fun r => r.1) = some (.bool true) := by kernel_rfl

end Go.Proofs.YtehgdocbabaldaaGreat
