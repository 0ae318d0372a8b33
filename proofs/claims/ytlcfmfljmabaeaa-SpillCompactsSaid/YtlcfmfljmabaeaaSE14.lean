/-
  awake, as it is known.
-/
import Derived.Test.YtlcfmfljmabaeaaSP11
set_option maxRecDepth 100000
set_option linter.unusedVariables false
namespace Go.Proofs.Ytlcfmfljmabaeaa
open Go Go.Abs Go.Abs.K
section
variable {tbl : FuncId → Option AFun} {ov : CallSem} {s : St} (T : STbl tbl)
include T
theorem e14b (ho : OvS ov) (s : St) (K : Value → St → Prop) : WCall (fun k => call tbl ov k) 14 [] s K = K (.bool true) s :=
  WCall.eq (WCall.ov (ov := ov) T.d.t14 (args := []) (s := s) (r := (.bool true, s)) (by rw [ho.o.awake]) ⟨rfl, rfl⟩) K
end
end Go.Proofs.Ytlcfmfljmabaeaa
