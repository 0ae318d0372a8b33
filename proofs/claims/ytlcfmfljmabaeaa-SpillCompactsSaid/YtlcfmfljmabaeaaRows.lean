/-
  No cell of these rows narrows 'for every input' (looked for: loops, veiled, ifaces, maps, wideKeys, modest, calm, conditions, laid).
  DERIVED. THE GIVEN ROWS OF THIS SEAT. 5 by the template 'for every input the law returns true; each argument reads behind the call as it read before'; 0 by the template 'total and deterministic' (their statements: YtlcfmfljmabaeaaTotals.lean).
  GIVEN WITH THE SEED: the statements are not yours to turn. If you find one false, say at which input.
  Laid BY PROGRAM, IN A SANDBOX (cutbox-rows.mjs): the forced cells as the released guide's own fill.sh prints them over the translation 9f5822394ae39e65… (all of the seat's roots in one cut). By AI agents, Wed Nov 11 2026. No macro, syntax, notation, axiom, sorry.
-/
import Derived.Test.YtlcfmfljmabaeaaChecked
import GoSem.Claim
import GoSem.ClaimJoined
import GoSem.ClaimMapViews
import Derived.JoinedTies
import Derived.KernelRfl
namespace Go.Proofs.Ytlcfmfljmabaeaa
/- THE CELL 'sum', in the pinned program and in every row, IS THE sha256 OF THE DUMP (.gsa) THAT YtlcfmfljmabaeaaProg.lean LOADS. Nothing in Lean hashes anything: it is a label: what it is worth is what the hold of that sum in a sandbox is worth. -/
noncomputable def Try.pinned : Pinned := { name := "ytlcfmfljmabaeaa", sum := "9f5822394ae39e65236fe820d05c52927f4b928aa7ed754dd45e927ee6b3fbcf", checked := Try.checked }
namespace Rows
def none {H : Type} : Left H := { results := [], args := [] }

/-- 'decorumlaw15.SpillNext': WHATEVER THE INPUT: true; the input reads as it did. -/
def spillNextSpec : ChangeSpec := { name := "spillNext", fn := fun _ => fun
  | [d] => { results := [.lit (.bool true)], args := [d] }
  | _ => none }
def spillNextRow : OpenClaim := { program := "ytlcfmfljmabaeaa", sum := "9f5822394ae39e65236fe820d05c52927f4b928aa7ed754dd45e927ee6b3fbcf", func := "decorum/decorumlaw15.SpillNext", spec := "spillNext", unfollowed := true, recurses := true, apart := false }
def SpillNextSaid : Prop := spillNextRow.holds Try.pinned (OpenSpec.ofChange spillNextSpec)

/-- ITS FALSE NEIGHBOUR: 'it returns false'. Refute it at one input. -/
def spillNextWrong : ChangeSpec := { name := "spillNext", fn := fun _ => fun
  | [d] => { results := [.lit (.bool false)], args := [d] }
  | _ => none }
def SpillNextWrongFalsely : Prop := spillNextRow.holds Try.pinned (OpenSpec.ofChange spillNextWrong)

/-- 'decorumlaw15.SpillNone': WHATEVER THE INPUT: true; the input reads as it did. -/
def spillNoneSpec : ChangeSpec := { name := "spillNone", fn := fun _ => fun
  | [d1, d2] => { results := [.lit (.bool true)], args := [d1, d2] }
  | _ => none }
def spillNoneRow : OpenClaim := { program := "ytlcfmfljmabaeaa", sum := "9f5822394ae39e65236fe820d05c52927f4b928aa7ed754dd45e927ee6b3fbcf", func := "decorum/decorumlaw15.SpillNone", spec := "spillNone", unfollowed := true, recurses := true, apart := false }
def SpillNoneSaid : Prop := spillNoneRow.holds Try.pinned (OpenSpec.ofChange spillNoneSpec)

/-- ITS FALSE NEIGHBOUR: 'it returns false'. Refute it at one input. -/
def spillNoneWrong : ChangeSpec := { name := "spillNone", fn := fun _ => fun
  | [d1, d2] => { results := [.lit (.bool false)], args := [d1, d2] }
  | _ => none }
def SpillNoneWrongFalsely : Prop := spillNoneRow.holds Try.pinned (OpenSpec.ofChange spillNoneWrong)

/-- 'decorumlaw15.SpillWaits': WHATEVER THE INPUT: true; the input reads as it did. -/
def spillWaitsSpec : ChangeSpec := { name := "spillWaits", fn := fun _ => fun
  | [d1, d2, d3] => { results := [.lit (.bool true)], args := [d1, d2, d3] }
  | _ => none }
def spillWaitsRow : OpenClaim := { program := "ytlcfmfljmabaeaa", sum := "9f5822394ae39e65236fe820d05c52927f4b928aa7ed754dd45e927ee6b3fbcf", func := "decorum/decorumlaw15.SpillWaits", spec := "spillWaits", unfollowed := true, recurses := true, apart := false }
def SpillWaitsSaid : Prop := spillWaitsRow.holds Try.pinned (OpenSpec.ofChange spillWaitsSpec)

/-- ITS FALSE NEIGHBOUR: 'it returns false'. Refute it at one input. -/
def spillWaitsWrong : ChangeSpec := { name := "spillWaits", fn := fun _ => fun
  | [d1, d2, d3] => { results := [.lit (.bool false)], args := [d1, d2, d3] }
  | _ => none }
def SpillWaitsWrongFalsely : Prop := spillWaitsRow.holds Try.pinned (OpenSpec.ofChange spillWaitsWrong)

/-- 'decorumlaw15.SpillLasts': WHATEVER THE INPUT: true; the input reads as it did. -/
def spillLastsSpec : ChangeSpec := { name := "spillLasts", fn := fun _ => fun
  | [d1, d2] => { results := [.lit (.bool true)], args := [d1, d2] }
  | _ => none }
def spillLastsRow : OpenClaim := { program := "ytlcfmfljmabaeaa", sum := "9f5822394ae39e65236fe820d05c52927f4b928aa7ed754dd45e927ee6b3fbcf", func := "decorum/decorumlaw15.SpillLasts", spec := "spillLasts", unfollowed := true, recurses := true, apart := false }
def SpillLastsSaid : Prop := spillLastsRow.holds Try.pinned (OpenSpec.ofChange spillLastsSpec)

/-- ITS FALSE NEIGHBOUR: 'it returns false'. Refute it at one input. -/
def spillLastsWrong : ChangeSpec := { name := "spillLasts", fn := fun _ => fun
  | [d1, d2] => { results := [.lit (.bool false)], args := [d1, d2] }
  | _ => none }
def SpillLastsWrongFalsely : Prop := spillLastsRow.holds Try.pinned (OpenSpec.ofChange spillLastsWrong)

/-- 'decorumlaw15.SpillCompacts': WHATEVER THE INPUT: true; the input reads as it did. -/
def spillCompactsSpec : ChangeSpec := { name := "spillCompacts", fn := fun _ => fun
  | [d1, d2, d3, d4] => { results := [.lit (.bool true)], args := [d1, d2, d3, d4] }
  | _ => none }
def spillCompactsRow : OpenClaim := { program := "ytlcfmfljmabaeaa", sum := "9f5822394ae39e65236fe820d05c52927f4b928aa7ed754dd45e927ee6b3fbcf", func := "decorum/decorumlaw15.SpillCompacts", spec := "spillCompacts", unfollowed := true, recurses := true, apart := false }
def SpillCompactsSaid : Prop := spillCompactsRow.holds Try.pinned (OpenSpec.ofChange spillCompactsSpec)

/-- ITS FALSE NEIGHBOUR: 'it returns false'. Refute it at one input. -/
def spillCompactsWrong : ChangeSpec := { name := "spillCompacts", fn := fun _ => fun
  | [d1, d2, d3, d4] => { results := [.lit (.bool false)], args := [d1, d2, d3, d4] }
  | _ => none }
def SpillCompactsWrongFalsely : Prop := spillCompactsRow.holds Try.pinned (OpenSpec.ofChange spillCompactsWrong)

/- THE SECOND FORM. 'bulk': how many values and letters a reading holds, each counted each time it is reached (what is shared counts as often as it is met; a slice's spare places count too). A statement '..UptoSaid' is the law's where the arguments, and the package variables that the reading takes, are together of bulk at most 1048576: NARROWER than '..Said'. Prove '..Said' where nothing that the law and all that it calls make is longer than what came in: it says more and counts as full. Else prove '..UptoSaid'. A law counts once. -/
mutual
def uptoBulk {H : Type} : DataW H → Nat
  | .lit (.string bytes) => bytes.length + 1
  | .lit _ => 1
  | .nil => 1
  | .ptr d => uptoBulk d + 1
  | .slice elems spare => uptoBulkAll elems + uptoBulkAll spare + 1
  | .agg parts => uptoBulkAll parts + 1
  | .iface _ d => uptoBulk d + 1
  | .map entries => uptoBulkEntries entries + 1
  | .held _ => 1
def uptoBulkAll {H : Type} : List (DataW H) → Nat
  | [] => 0
  | d :: r => uptoBulk d + uptoBulkAll r
def uptoBulkEntries {H : Type} : List (Lit × DataW H) → Nat
  | [] => 0
  | x :: r => uptoBulkEntry x + uptoBulkEntries r
def uptoBulkEntry {H : Type} : Lit × DataW H → Nat
  | (.string bytes, d) => bytes.length + uptoBulk d + 1
  | (_, d) => uptoBulk d + 1
 end
def uptoSmall : (H : Type) → List (DataW H) → Bool := fun _ ds => decide (uptoBulkAll ds ≤ 1048576)
def OpenSpec.upto (s : _root_.Go.ChangeSpec) : _root_.Go.OpenSpec := { _root_.Go.OpenSpec.ofChange s with cond := some uptoSmall }

/-- 'decorumlaw15.SpillNext', WHERE WHAT IT READS IS OF BULK AT MOST 1048576: true; the input reads as it did. -/
def spillNextUptoRow : OpenClaim := { program := "ytlcfmfljmabaeaa", sum := "9f5822394ae39e65236fe820d05c52927f4b928aa7ed754dd45e927ee6b3fbcf", func := "decorum/decorumlaw15.SpillNext", spec := "spillNext", unfollowed := true, recurses := true, apart := false, narrowed := true }
def SpillNextUptoSaid : Prop := spillNextUptoRow.holds Try.pinned (OpenSpec.upto spillNextSpec)

/-- 'decorumlaw15.SpillNone', WHERE WHAT IT READS IS OF BULK AT MOST 1048576: true; the input reads as it did. -/
def spillNoneUptoRow : OpenClaim := { program := "ytlcfmfljmabaeaa", sum := "9f5822394ae39e65236fe820d05c52927f4b928aa7ed754dd45e927ee6b3fbcf", func := "decorum/decorumlaw15.SpillNone", spec := "spillNone", unfollowed := true, recurses := true, apart := false, narrowed := true }
def SpillNoneUptoSaid : Prop := spillNoneUptoRow.holds Try.pinned (OpenSpec.upto spillNoneSpec)

/-- 'decorumlaw15.SpillWaits', WHERE WHAT IT READS IS OF BULK AT MOST 1048576: true; the input reads as it did. -/
def spillWaitsUptoRow : OpenClaim := { program := "ytlcfmfljmabaeaa", sum := "9f5822394ae39e65236fe820d05c52927f4b928aa7ed754dd45e927ee6b3fbcf", func := "decorum/decorumlaw15.SpillWaits", spec := "spillWaits", unfollowed := true, recurses := true, apart := false, narrowed := true }
def SpillWaitsUptoSaid : Prop := spillWaitsUptoRow.holds Try.pinned (OpenSpec.upto spillWaitsSpec)

/-- 'decorumlaw15.SpillLasts', WHERE WHAT IT READS IS OF BULK AT MOST 1048576: true; the input reads as it did. -/
def spillLastsUptoRow : OpenClaim := { program := "ytlcfmfljmabaeaa", sum := "9f5822394ae39e65236fe820d05c52927f4b928aa7ed754dd45e927ee6b3fbcf", func := "decorum/decorumlaw15.SpillLasts", spec := "spillLasts", unfollowed := true, recurses := true, apart := false, narrowed := true }
def SpillLastsUptoSaid : Prop := spillLastsUptoRow.holds Try.pinned (OpenSpec.upto spillLastsSpec)

/-- 'decorumlaw15.SpillCompacts', WHERE WHAT IT READS IS OF BULK AT MOST 1048576: true; the input reads as it did. -/
def spillCompactsUptoRow : OpenClaim := { program := "ytlcfmfljmabaeaa", sum := "9f5822394ae39e65236fe820d05c52927f4b928aa7ed754dd45e927ee6b3fbcf", func := "decorum/decorumlaw15.SpillCompacts", spec := "spillCompacts", unfollowed := true, recurses := true, apart := false, narrowed := true }
def SpillCompactsUptoSaid : Prop := spillCompactsUptoRow.holds Try.pinned (OpenSpec.upto spillCompactsSpec)

end Rows
end Go.Proofs.Ytlcfmfljmabaeaa
