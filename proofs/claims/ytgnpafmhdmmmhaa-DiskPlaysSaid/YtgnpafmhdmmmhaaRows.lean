/-
  No cell of these rows narrows 'for every input' (looked for: loops, veiled, ifaces, maps, wideKeys, modest, calm, conditions, laid).
  DERIVED. THE GIVEN ROWS OF THIS SEAT. 8 by the template 'for every input the law returns true; each argument reads behind the call as it read before'; 0 by the template 'total and deterministic' (their statements: YtgnpafmhdmmmhaaTotals.lean).
  GIVEN WITH THE SEED: the statements are not yours to turn. If you find one false, say at which input.
  Laid BY PROGRAM, IN A SANDBOX (cutbox-rows.mjs): the forced cells as the released guide's own fill.sh prints them over the translation 0c58d7873cd19877… (all of the seat's roots in one cut). By AI agents, Wed Nov 11 2026. No macro, syntax, notation, axiom, sorry.
-/
import Derived.Test.YtgnpafmhdmmmhaaChecked
import GoSem.Claim
import GoSem.ClaimJoined
import GoSem.ClaimMapViews
import Derived.JoinedTies
import Derived.KernelRfl
namespace Go.Proofs.Ytgnpafmhdmmmhaa
/- THE CELL 'sum', in the pinned program and in every row, IS THE sha256 OF THE DUMP (.gsa) THAT YtgnpafmhdmmmhaaProg.lean LOADS. Nothing in Lean hashes anything: it is a label: what it is worth is what the hold of that sum in a sandbox is worth. -/
noncomputable def Try.pinned : Pinned := { name := "ytgnpafmhdmmmhaa", sum := "0c58d7873cd19877e48b60a5cdef5aca9889f9cf7899cf5a192acd93636c9a2a", checked := Try.checked }
namespace Rows
def none {H : Type} : Left H := { results := [], args := [] }

/-- 'decorumlaw16.QueueOrder': WHATEVER THE INPUT: true; the input reads as it did. -/
def queueOrderSpec : ChangeSpec := { name := "queueOrder", fn := fun _ => fun
  | [d] => { results := [.lit (.bool true)], args := [d] }
  | _ => none }
def queueOrderRow : OpenClaim := { program := "ytgnpafmhdmmmhaa", sum := "0c58d7873cd19877e48b60a5cdef5aca9889f9cf7899cf5a192acd93636c9a2a", func := "decorum/decorumlaw16.QueueOrder", spec := "queueOrder", inPlace := ["slices.overlaps[decorum/api.Req]"], unfollowed := true, recurses := true, apart := false }
def QueueOrderSaid : Prop := queueOrderRow.holds Try.pinned (OpenSpec.ofChange queueOrderSpec)

/-- ITS FALSE NEIGHBOUR: 'it returns false'. Refute it at one input. -/
def queueOrderWrong : ChangeSpec := { name := "queueOrder", fn := fun _ => fun
  | [d] => { results := [.lit (.bool false)], args := [d] }
  | _ => none }
def QueueOrderWrongFalsely : Prop := queueOrderRow.holds Try.pinned (OpenSpec.ofChange queueOrderWrong)

/-- 'decorumlaw16.QueuePlays': WHATEVER THE INPUT: true; the input reads as it did. -/
def queuePlaysSpec : ChangeSpec := { name := "queuePlays", fn := fun _ => fun
  | [d1, d2] => { results := [.lit (.bool true)], args := [d1, d2] }
  | _ => none }
def queuePlaysRow : OpenClaim := { program := "ytgnpafmhdmmmhaa", sum := "0c58d7873cd19877e48b60a5cdef5aca9889f9cf7899cf5a192acd93636c9a2a", func := "decorum/decorumlaw16.QueuePlays", spec := "queuePlays", inPlace := ["slices.overlaps[decorum/api.Req]"], unfollowed := true, recurses := true, apart := false }
def QueuePlaysSaid : Prop := queuePlaysRow.holds Try.pinned (OpenSpec.ofChange queuePlaysSpec)

/-- ITS FALSE NEIGHBOUR: 'it returns false'. Refute it at one input. -/
def queuePlaysWrong : ChangeSpec := { name := "queuePlays", fn := fun _ => fun
  | [d1, d2] => { results := [.lit (.bool false)], args := [d1, d2] }
  | _ => none }
def QueuePlaysWrongFalsely : Prop := queuePlaysRow.holds Try.pinned (OpenSpec.ofChange queuePlaysWrong)

/-- 'decorumlaw16.QueueNone': WHATEVER THE INPUT: true; the input reads as it did. -/
def queueNoneSpec : ChangeSpec := { name := "queueNone", fn := fun _ => fun
  | [d1, d2] => { results := [.lit (.bool true)], args := [d1, d2] }
  | _ => none }
def queueNoneRow : OpenClaim := { program := "ytgnpafmhdmmmhaa", sum := "0c58d7873cd19877e48b60a5cdef5aca9889f9cf7899cf5a192acd93636c9a2a", func := "decorum/decorumlaw16.QueueNone", spec := "queueNone", inPlace := ["slices.overlaps[decorum/api.Req]"], unfollowed := true, recurses := true, apart := false }
def QueueNoneSaid : Prop := queueNoneRow.holds Try.pinned (OpenSpec.ofChange queueNoneSpec)

/-- ITS FALSE NEIGHBOUR: 'it returns false'. Refute it at one input. -/
def queueNoneWrong : ChangeSpec := { name := "queueNone", fn := fun _ => fun
  | [d1, d2] => { results := [.lit (.bool false)], args := [d1, d2] }
  | _ => none }
def QueueNoneWrongFalsely : Prop := queueNoneRow.holds Try.pinned (OpenSpec.ofChange queueNoneWrong)

/-- 'decorumlaw16.QueueLate': WHATEVER THE INPUT: true; the input reads as it did. -/
def queueLateSpec : ChangeSpec := { name := "queueLate", fn := fun _ => fun
  | [d1, d2] => { results := [.lit (.bool true)], args := [d1, d2] }
  | _ => none }
def queueLateRow : OpenClaim := { program := "ytgnpafmhdmmmhaa", sum := "0c58d7873cd19877e48b60a5cdef5aca9889f9cf7899cf5a192acd93636c9a2a", func := "decorum/decorumlaw16.QueueLate", spec := "queueLate", inPlace := ["slices.overlaps[decorum/api.Req]"], unfollowed := true, recurses := true, apart := false }
def QueueLateSaid : Prop := queueLateRow.holds Try.pinned (OpenSpec.ofChange queueLateSpec)

/-- ITS FALSE NEIGHBOUR: 'it returns false'. Refute it at one input. -/
def queueLateWrong : ChangeSpec := { name := "queueLate", fn := fun _ => fun
  | [d1, d2] => { results := [.lit (.bool false)], args := [d1, d2] }
  | _ => none }
def QueueLateWrongFalsely : Prop := queueLateRow.holds Try.pinned (OpenSpec.ofChange queueLateWrong)

/-- 'decorumlaw13.DiskSure': WHATEVER THE INPUT: true; the input reads as it did. -/
def diskSureSpec : ChangeSpec := { name := "diskSure", fn := fun _ => fun
  | [d1, d2, d3] => { results := [.lit (.bool true)], args := [d1, d2, d3] }
  | _ => none }
def diskSureRow : OpenClaim := { program := "ytgnpafmhdmmmhaa", sum := "0c58d7873cd19877e48b60a5cdef5aca9889f9cf7899cf5a192acd93636c9a2a", func := "decorum/decorumlaw13.DiskSure", spec := "diskSure", unfollowed := true, recurses := true, apart := false }
def DiskSureSaid : Prop := diskSureRow.holds Try.pinned (OpenSpec.ofChange diskSureSpec)

/-- ITS FALSE NEIGHBOUR: 'it returns false'. Refute it at one input. -/
def diskSureWrong : ChangeSpec := { name := "diskSure", fn := fun _ => fun
  | [d1, d2, d3] => { results := [.lit (.bool false)], args := [d1, d2, d3] }
  | _ => none }
def DiskSureWrongFalsely : Prop := diskSureRow.holds Try.pinned (OpenSpec.ofChange diskSureWrong)

/-- 'decorumlaw13.DiskPlays': WHATEVER THE INPUT: true; the input reads as it did. -/
def diskPlaysSpec : ChangeSpec := { name := "diskPlays", fn := fun _ => fun
  | [d1, d2] => { results := [.lit (.bool true)], args := [d1, d2] }
  | _ => none }
def diskPlaysRow : OpenClaim := { program := "ytgnpafmhdmmmhaa", sum := "0c58d7873cd19877e48b60a5cdef5aca9889f9cf7899cf5a192acd93636c9a2a", func := "decorum/decorumlaw13.DiskPlays", spec := "diskPlays", unfollowed := true, recurses := true, apart := false }
def DiskPlaysSaid : Prop := diskPlaysRow.holds Try.pinned (OpenSpec.ofChange diskPlaysSpec)

/-- ITS FALSE NEIGHBOUR: 'it returns false'. Refute it at one input. -/
def diskPlaysWrong : ChangeSpec := { name := "diskPlays", fn := fun _ => fun
  | [d1, d2] => { results := [.lit (.bool false)], args := [d1, d2] }
  | _ => none }
def DiskPlaysWrongFalsely : Prop := diskPlaysRow.holds Try.pinned (OpenSpec.ofChange diskPlaysWrong)

/-- 'decorumlaw13.DiskNone': WHATEVER THE INPUT: true; the input reads as it did. -/
def diskNoneSpec : ChangeSpec := { name := "diskNone", fn := fun _ => fun
  | [d1, d2] => { results := [.lit (.bool true)], args := [d1, d2] }
  | _ => none }
def diskNoneRow : OpenClaim := { program := "ytgnpafmhdmmmhaa", sum := "0c58d7873cd19877e48b60a5cdef5aca9889f9cf7899cf5a192acd93636c9a2a", func := "decorum/decorumlaw13.DiskNone", spec := "diskNone", unfollowed := true, recurses := true, apart := false }
def DiskNoneSaid : Prop := diskNoneRow.holds Try.pinned (OpenSpec.ofChange diskNoneSpec)

/-- ITS FALSE NEIGHBOUR: 'it returns false'. Refute it at one input. -/
def diskNoneWrong : ChangeSpec := { name := "diskNone", fn := fun _ => fun
  | [d1, d2] => { results := [.lit (.bool false)], args := [d1, d2] }
  | _ => none }
def DiskNoneWrongFalsely : Prop := diskNoneRow.holds Try.pinned (OpenSpec.ofChange diskNoneWrong)

/-- 'decorumlaw13.DiskBounds': WHATEVER THE INPUT: true; the input reads as it did. -/
def diskBoundsSpec : ChangeSpec := { name := "diskBounds", fn := fun _ => fun
  | [d1, d2] => { results := [.lit (.bool true)], args := [d1, d2] }
  | _ => none }
def diskBoundsRow : OpenClaim := { program := "ytgnpafmhdmmmhaa", sum := "0c58d7873cd19877e48b60a5cdef5aca9889f9cf7899cf5a192acd93636c9a2a", func := "decorum/decorumlaw13.DiskBounds", spec := "diskBounds", unfollowed := true, recurses := true, apart := false }
def DiskBoundsSaid : Prop := diskBoundsRow.holds Try.pinned (OpenSpec.ofChange diskBoundsSpec)

/-- ITS FALSE NEIGHBOUR: 'it returns false'. Refute it at one input. -/
def diskBoundsWrong : ChangeSpec := { name := "diskBounds", fn := fun _ => fun
  | [d1, d2] => { results := [.lit (.bool false)], args := [d1, d2] }
  | _ => none }
def DiskBoundsWrongFalsely : Prop := diskBoundsRow.holds Try.pinned (OpenSpec.ofChange diskBoundsWrong)

/- THE SECOND FORM. 'bulk': how many values and letters a reading holds, each counted each time it is reached (what is shared counts as often as it is met; a slice's spare places count too). A statement '..UptoSaid' is the law's where the arguments, and the package variables that the reading takes, are together of bulk at most 1048576: NARROWER than '..Said'. Prove '..Said' where nothing that the law and all that it calls make is longer than what came in: it says more and counts as full. Else prove '..UptoSaid'. A law counts once. -/
mutual
def uptoBulk {H : Type} : DataW H → Nat
  | .lit (.string bytes) => bytes.length + 1
  | .lit _ => 1
  | .nil => 1
  | .ptr d => uptoBulk d + 1
  | .slice elems spare => uptoBulkAll elems + uptoBulkAll spare + 1
  | .agg parts => uptoBulkAll parts + 1
  | .iface _ d => uptoBulk d + 1
  | .map entries => uptoBulkEntries entries + 1
  | .held _ => 1
def uptoBulkAll {H : Type} : List (DataW H) → Nat
  | [] => 0
  | d :: r => uptoBulk d + uptoBulkAll r
def uptoBulkEntries {H : Type} : List (Lit × DataW H) → Nat
  | [] => 0
  | x :: r => uptoBulkEntry x + uptoBulkEntries r
def uptoBulkEntry {H : Type} : Lit × DataW H → Nat
  | (.string bytes, d) => bytes.length + uptoBulk d + 1
  | (_, d) => uptoBulk d + 1
 end
def uptoSmall : (H : Type) → List (DataW H) → Bool := fun _ ds => decide (uptoBulkAll ds ≤ 1048576)
def OpenSpec.upto (s : _root_.Go.ChangeSpec) : _root_.Go.OpenSpec := { _root_.Go.OpenSpec.ofChange s with cond := some uptoSmall }

/-- 'decorumlaw16.QueueOrder', WHERE WHAT IT READS IS OF BULK AT MOST 1048576: true; the input reads as it did. -/
def queueOrderUptoRow : OpenClaim := { program := "ytgnpafmhdmmmhaa", sum := "0c58d7873cd19877e48b60a5cdef5aca9889f9cf7899cf5a192acd93636c9a2a", func := "decorum/decorumlaw16.QueueOrder", spec := "queueOrder", inPlace := ["slices.overlaps[decorum/api.Req]"], unfollowed := true, recurses := true, apart := false, narrowed := true }
def QueueOrderUptoSaid : Prop := queueOrderUptoRow.holds Try.pinned (OpenSpec.upto queueOrderSpec)

/-- 'decorumlaw16.QueuePlays', WHERE WHAT IT READS IS OF BULK AT MOST 1048576: true; the input reads as it did. -/
def queuePlaysUptoRow : OpenClaim := { program := "ytgnpafmhdmmmhaa", sum := "0c58d7873cd19877e48b60a5cdef5aca9889f9cf7899cf5a192acd93636c9a2a", func := "decorum/decorumlaw16.QueuePlays", spec := "queuePlays", inPlace := ["slices.overlaps[decorum/api.Req]"], unfollowed := true, recurses := true, apart := false, narrowed := true }
def QueuePlaysUptoSaid : Prop := queuePlaysUptoRow.holds Try.pinned (OpenSpec.upto queuePlaysSpec)

/-- 'decorumlaw16.QueueNone', WHERE WHAT IT READS IS OF BULK AT MOST 1048576: true; the input reads as it did. -/
def queueNoneUptoRow : OpenClaim := { program := "ytgnpafmhdmmmhaa", sum := "0c58d7873cd19877e48b60a5cdef5aca9889f9cf7899cf5a192acd93636c9a2a", func := "decorum/decorumlaw16.QueueNone", spec := "queueNone", inPlace := ["slices.overlaps[decorum/api.Req]"], unfollowed := true, recurses := true, apart := false, narrowed := true }
def QueueNoneUptoSaid : Prop := queueNoneUptoRow.holds Try.pinned (OpenSpec.upto queueNoneSpec)

/-- 'decorumlaw16.QueueLate', WHERE WHAT IT READS IS OF BULK AT MOST 1048576: true; the input reads as it did. -/
def queueLateUptoRow : OpenClaim := { program := "ytgnpafmhdmmmhaa", sum := "0c58d7873cd19877e48b60a5cdef5aca9889f9cf7899cf5a192acd93636c9a2a", func := "decorum/decorumlaw16.QueueLate", spec := "queueLate", inPlace := ["slices.overlaps[decorum/api.Req]"], unfollowed := true, recurses := true, apart := false, narrowed := true }
def QueueLateUptoSaid : Prop := queueLateUptoRow.holds Try.pinned (OpenSpec.upto queueLateSpec)

/-- 'decorumlaw13.DiskSure', WHERE WHAT IT READS IS OF BULK AT MOST 1048576: true; the input reads as it did. -/
def diskSureUptoRow : OpenClaim := { program := "ytgnpafmhdmmmhaa", sum := "0c58d7873cd19877e48b60a5cdef5aca9889f9cf7899cf5a192acd93636c9a2a", func := "decorum/decorumlaw13.DiskSure", spec := "diskSure", unfollowed := true, recurses := true, apart := false, narrowed := true }
def DiskSureUptoSaid : Prop := diskSureUptoRow.holds Try.pinned (OpenSpec.upto diskSureSpec)

/-- 'decorumlaw13.DiskPlays', WHERE WHAT IT READS IS OF BULK AT MOST 1048576: true; the input reads as it did. -/
def diskPlaysUptoRow : OpenClaim := { program := "ytgnpafmhdmmmhaa", sum := "0c58d7873cd19877e48b60a5cdef5aca9889f9cf7899cf5a192acd93636c9a2a", func := "decorum/decorumlaw13.DiskPlays", spec := "diskPlays", unfollowed := true, recurses := true, apart := false, narrowed := true }
def DiskPlaysUptoSaid : Prop := diskPlaysUptoRow.holds Try.pinned (OpenSpec.upto diskPlaysSpec)

/-- 'decorumlaw13.DiskNone', WHERE WHAT IT READS IS OF BULK AT MOST 1048576: true; the input reads as it did. -/
def diskNoneUptoRow : OpenClaim := { program := "ytgnpafmhdmmmhaa", sum := "0c58d7873cd19877e48b60a5cdef5aca9889f9cf7899cf5a192acd93636c9a2a", func := "decorum/decorumlaw13.DiskNone", spec := "diskNone", unfollowed := true, recurses := true, apart := false, narrowed := true }
def DiskNoneUptoSaid : Prop := diskNoneUptoRow.holds Try.pinned (OpenSpec.upto diskNoneSpec)

/-- 'decorumlaw13.DiskBounds', WHERE WHAT IT READS IS OF BULK AT MOST 1048576: true; the input reads as it did. -/
def diskBoundsUptoRow : OpenClaim := { program := "ytgnpafmhdmmmhaa", sum := "0c58d7873cd19877e48b60a5cdef5aca9889f9cf7899cf5a192acd93636c9a2a", func := "decorum/decorumlaw13.DiskBounds", spec := "diskBounds", unfollowed := true, recurses := true, apart := false, narrowed := true }
def DiskBoundsUptoSaid : Prop := diskBoundsUptoRow.holds Try.pinned (OpenSpec.upto diskBoundsSpec)

end Rows
end Go.Proofs.Ytgnpafmhdmmmhaa
