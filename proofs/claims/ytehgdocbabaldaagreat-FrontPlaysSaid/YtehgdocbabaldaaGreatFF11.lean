/-
  decode.
-/
import Derived.Test.YtehgdocbabaldaaGreatFF8
set_option maxRecDepth 100000
set_option linter.unusedVariables false
set_option linter.unusedSimpArgs false
namespace Go.Proofs.YtehgdocbabaldaaGreat
open Go Go.Abs

section
variable {tbl : FuncId → Option AFun} {ov : CallSem} {s s1 : St} {e : Env} {v : Value} {zs : List Int} {p q : Nat}

end
end Go.Proofs.YtehgdocbabaldaaGreat


/-
  Scan.
-/
set_option maxRecDepth 100000
set_option linter.unusedVariables false
set_option linter.unusedSimpArgs false
namespace Go.Proofs.YtehgdocbabaldaaGreat
open Go Go.Abs

section
variable {tbl : FuncId → Option AFun} {ov : CallSem} {s s1 : St} {e : Env} {v w : Value} {zs : List Int} {p q i n : Nat}

end
end Go.Proofs.YtehgdocbabaldaaGreat


/-
  Scan of records, in plain terms.
-/
set_option maxRecDepth 100000
set_option linter.unusedVariables false
set_option linter.unusedSimpArgs false
namespace Go.Proofs.YtehgdocbabaldaaGreat
open Go Go.Abs

/-! ### read again -/
end Go.Proofs.YtehgdocbabaldaaGreat
