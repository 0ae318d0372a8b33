/-
  SpillNone, for every request and number.
-/
import Derived.Test.YtlcfmfljmabaeaaS3
import Derived.Test.YtlcfmfljmabaeaaA50
set_option maxRecDepth 100000
namespace Go.Proofs.Ytlcfmfljmabaeaa
open Go Go.Abs

def noneFuns : List (FuncId × AFun) := ((4, fun4) :: spillFuns).map fun p => (p.1, { p.2 with gc := 0 })

theorem none_table : TableOK Try.prog (tblOf noneFuns) ovD :=
  tblOf_ok mixed (fun p hp => by
    obtain ⟨q, hq, rfl⟩ := List.mem_map.1 hp
    rcases List.mem_cons.1 hq with rfl | hq
    · exact FunOK.gc comp4 0
    · exact FunOK.gc (spillFuns_ok q hq) 0) ovD_good

def head4 : ACode := match code4 with | .seq a (.seq b (.seq c (.seq d (.seq _ _)))) => .seq (.seq (.seq a b) c) d | c => c
def ops4 : List AOper := match code4 with | .seq _ (.seq _ (.seq _ (.seq _ (.seq (.region ops _) _)))) => ops | _ => []
def draw4 : Draw := match code4 with | .seq _ (.seq _ (.seq _ (.seq _ (.seq (.region _ (some d)) _)))) => d | _ => ⟨[], [], []⟩

theorem code4_cut (cs : CallSem) (n : Nat) (e : Env) (s : St) : evCode cs n code4 e s = evCode cs n (.seq head4 (.seq (.region ops4 (some draw4)) .ret)) e s :=
  evCode_assoc.trans (evCode_assoc.trans evCode_assoc)

theorem none_runs (r : QReq) (n : Int) : (call (tblOf noneFuns) ovD 40 4 [r.val, i64 n] st0).map (fun r => r.1) = some (.bool true) :=
  call_last (fn := { fun4 with gc := 0 }) (a := head4) (ops := ops4) (d := draw4) (by kernel_rfl) rfl rfl (fun e s => code4_cut _ _ e s) (by kernel_rfl) (by kernel_rfl) (by kernel_rfl)
    (fun i hi => by
      have : i = 28 := by simpa [draw4, code4] using hi
      subst this
      show _ = _
      kernel_rfl) (by kernel_rfl)

end Go.Proofs.Ytlcfmfljmabaeaa
