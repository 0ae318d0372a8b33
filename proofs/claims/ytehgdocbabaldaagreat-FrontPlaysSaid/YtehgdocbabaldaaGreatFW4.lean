/-
  FrontOrder: the law's second half.
-/
import Derived.Test.YtehgdocbabaldaaGreatFW2
import Derived.Test.YtehgdocbabaldaaGreatFQ11
import Derived.Test.YtehgdocbabaldaaGreatFZ2
set_option maxRecDepth 100000
set_option linter.unusedVariables false
set_option linter.unusedSimpArgs false
namespace Go.Proofs.YtehgdocbabaldaaGreat
open Go Go.Abs Go.Abs.K

def fullQ (r : RQ) : Q.QReq := ⟨r.id, r.host, r.path, r.prio, r.till⟩
theorem before_full (a b : RQ) : Q.beforeR (fullQ a) (fullQ b) = Q.beforeR (bareQ a) (bareQ b) := rfl

section
variable {tbl : FuncId → Option AFun} {ov : CallSem} {s : St} (T : FTbl tbl)
include T

end
end Go.Proofs.YtehgdocbabaldaaGreat


/-
  FrontOrder: the law.
-/
set_option maxRecDepth 100000
set_option linter.unusedVariables false
set_option linter.unusedSimpArgs false
namespace Go.Proofs.YtehgdocbabaldaaGreat
open Go Go.Abs Go.Abs.K

section
variable {tbl : FuncId → Option AFun} {ov : CallSem} {s : St} (T : FTbl tbl)
include T

end
end Go.Proofs.YtehgdocbabaldaaGreat
