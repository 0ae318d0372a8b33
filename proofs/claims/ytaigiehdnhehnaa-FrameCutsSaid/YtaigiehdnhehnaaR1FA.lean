/-
  The frame's functions: the table; and that 'awake' comes to true.
-/
import Derived.Test.YtaigiehdnhehnaaR1F
import Derived.Test.YtaigiehdnhehnaaA28
set_option maxRecDepth 100000
namespace Go.Proofs.Ytaigiehdnhehnaa
open Go Go.Abs

def frameFuns : List (FuncId × AFun) := [(24, fun24), (25, fun25), (26, fun26), (27, fun27), (28, fun28), (29, fun29), (33, fun33), (34, fun34), (35, fun35), (36, fun36), (37, fun37), (38, fun38), (39, fun39), (41, fun41)]

theorem frameFuns_ok : ∀ p ∈ frameFuns, FunOK Try.prog p.1 p.2 := by
  intro p hp
  simp only [frameFuns, List.mem_cons, List.not_mem_nil, or_false] at hp
  rcases hp with rfl | rfl | rfl | rfl | rfl | rfl | rfl | rfl | rfl | rfl | rfl | rfl | rfl | rfl
  · exact comp24
  · exact comp25
  · exact comp26
  · exact comp27
  · exact comp28
  · exact comp29
  · exact comp33
  · exact comp34
  · exact comp35
  · exact comp36
  · exact comp37
  · exact comp38
  · exact comp39
  · exact comp41

theorem mixedF : Try.prog.follows .mixedOrders = true := by kernel_rfl

theorem awakeF_table : TableOK Try.prog (tblOf ((23, fun23) :: frameFuns)) (fun _ _ _ => none) :=
  tblOf_ok mixedF (fun p hp => by
    rcases List.mem_cons.1 hp with rfl | hp
    · exact comp23
    · exact frameFuns_ok p hp) none_good

theorem awakeF_runs : (call (tblOf ((23, fun23) :: frameFuns)) (fun _ _ _ => none) 100 23 [] st0).map (fun r => r.1) = some (.bool true) := by kernel_rfl

theorem awakeF_known : GoodCalls Try.prog (known [(23, .bool true)]) ∧ GoodWF (known [(23, .bool true)]) :=
  known_good fun p hp s => by
    simp only [List.mem_cons, List.not_mem_nil, or_false] at hp
    subst hp
    exact closed_known awakeF_table rfl 100 awakeF_runs rfl s

end Go.Proofs.Ytaigiehdnhehnaa
