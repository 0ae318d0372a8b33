/-
  No cell of these rows narrows 'for every input' (looked for: loops, veiled, ifaces, maps, wideKeys, modest, calm, conditions, laid).
  DERIVED. THE GIVEN ROWS OF THIS SEAT. 3 by the template 'for every input the law returns true; each argument reads behind the call as it read before'; 0 by the template 'total and deterministic' (their statements: YtehgdocbabaldaaGreatTotals.lean).
  GIVEN WITH THE SEED: the statements are not yours to turn. If you find one false, say at which input.
  Laid BY PROGRAM, IN A SANDBOX (cutbox-rows.mjs): the forced cells as the released guide's own fill.sh prints them over the translation 6c6775b108892a62… (all of the seat's roots in one cut). By AI agents, Wed Nov 11 2026. No macro, syntax, notation, axiom, sorry.
-/
import Derived.Test.YtehgdocbabaldaaGreatChecked
import GoSem.Claim
import GoSem.ClaimJoined
import GoSem.ClaimMapViews
import Derived.JoinedTies
import Derived.KernelRfl
namespace Go.Proofs.YtehgdocbabaldaaGreat
/- THE CELL 'sum', in the pinned program and in every row, IS THE sha256 OF THE DUMP (.gsa) THAT YtehgdocbabaldaaGreatProg.lean LOADS. Nothing in Lean hashes anything: it is a label: what it is worth is what the hold of that sum in a sandbox is worth. -/
noncomputable def Tryz.pinned : Pinned := { name := "ytehgdocbabaldaagreat", sum := "6c6775b108892a62b53ed9ca4975e9699858985dac12680f4f000eff9a034633", checked := Tryz.checked }
namespace Rows
def none {H : Type} : Left H := { results := [], args := [] }

/-- 'decorumlaw17.FrontOrder': WHATEVER THE INPUT: true; the input reads as it did. -/
def frontOrderSpec : ChangeSpec := { name := "frontOrder", fn := fun _ => fun
  | [d1, d2, d3] => { results := [.lit (.bool true)], args := [d1, d2, d3] }
  | _ => none }
def frontOrderRow : OpenClaim := { program := "ytehgdocbabaldaagreat", sum := "6c6775b108892a62b53ed9ca4975e9699858985dac12680f4f000eff9a034633", func := "decorum/decorumlaw17.FrontOrder", spec := "frontOrder", inPlace := ["slices.overlaps[decorum/api.Req]"], unfollowed := true, recurses := true, apart := false }
def FrontOrderSaid : Prop := frontOrderRow.holds Tryz.pinned (OpenSpec.ofChange frontOrderSpec)

/-- ITS FALSE NEIGHBOUR: 'it returns false'. Refute it at one input. -/
def frontOrderWrong : ChangeSpec := { name := "frontOrder", fn := fun _ => fun
  | [d1, d2, d3] => { results := [.lit (.bool false)], args := [d1, d2, d3] }
  | _ => none }
def FrontOrderWrongFalsely : Prop := frontOrderRow.holds Tryz.pinned (OpenSpec.ofChange frontOrderWrong)

/-- 'decorumlaw17.FrontPlays': WHATEVER THE INPUT: true; the input reads as it did. -/
def frontPlaysSpec : ChangeSpec := { name := "frontPlays", fn := fun _ => fun
  | [d1, d2, d3] => { results := [.lit (.bool true)], args := [d1, d2, d3] }
  | _ => none }
def frontPlaysRow : OpenClaim := { program := "ytehgdocbabaldaagreat", sum := "6c6775b108892a62b53ed9ca4975e9699858985dac12680f4f000eff9a034633", func := "decorum/decorumlaw17.FrontPlays", spec := "frontPlays", inPlace := ["slices.overlaps[decorum/api.Req]"], unfollowed := true, recurses := true, apart := false }
def FrontPlaysSaid : Prop := frontPlaysRow.holds Tryz.pinned (OpenSpec.ofChange frontPlaysSpec)

/-- ITS FALSE NEIGHBOUR: 'it returns false'. Refute it at one input. -/
def frontPlaysWrong : ChangeSpec := { name := "frontPlays", fn := fun _ => fun
  | [d1, d2, d3] => { results := [.lit (.bool false)], args := [d1, d2, d3] }
  | _ => none }
def FrontPlaysWrongFalsely : Prop := frontPlaysRow.holds Tryz.pinned (OpenSpec.ofChange frontPlaysWrong)

/-- 'decorumlaw17.FrontNone': WHATEVER THE INPUT: true; the input reads as it did. -/
def frontNoneSpec : ChangeSpec := { name := "frontNone", fn := fun _ => fun
  | [d1, d2] => { results := [.lit (.bool true)], args := [d1, d2] }
  | _ => none }
def frontNoneRow : OpenClaim := { program := "ytehgdocbabaldaagreat", sum := "6c6775b108892a62b53ed9ca4975e9699858985dac12680f4f000eff9a034633", func := "decorum/decorumlaw17.FrontNone", spec := "frontNone", inPlace := ["slices.overlaps[decorum/api.Req]"], unfollowed := true, recurses := true, apart := false }
def FrontNoneSaid : Prop := frontNoneRow.holds Tryz.pinned (OpenSpec.ofChange frontNoneSpec)

/-- ITS FALSE NEIGHBOUR: 'it returns false'. Refute it at one input. -/
def frontNoneWrong : ChangeSpec := { name := "frontNone", fn := fun _ => fun
  | [d1, d2] => { results := [.lit (.bool false)], args := [d1, d2] }
  | _ => none }
def FrontNoneWrongFalsely : Prop := frontNoneRow.holds Tryz.pinned (OpenSpec.ofChange frontNoneWrong)

/- THE SECOND FORM. 'bulk': how many values and letters a reading holds, each counted each time it is reached (what is shared counts as often as it is met; a slice's spare places count too). A statement '..UptoSaid' is the law's where the arguments, and the package variables that the reading takes, are together of bulk at most 1048576: NARROWER than '..Said'. Prove '..Said' where nothing that the law and all that it calls make is longer than what came in: it says more and counts as full. Else prove '..UptoSaid'. A law counts once. -/
mutual
def uptoBulk {H : Type} : DataW H → Nat
  | .lit (.string bytes) => bytes.length + 1
  | .lit _ => 1
  | .nil => 1
  | .ptr d => uptoBulk d + 1
  | .slice elems spare => uptoBulkAll elems + uptoBulkAll spare + 1
  | .agg parts => uptoBulkAll parts + 1
  | .iface _ d => uptoBulk d + 1
  | .map entries => uptoBulkEntries entries + 1
  | .held _ => 1
def uptoBulkAll {H : Type} : List (DataW H) → Nat
  | [] => 0
  | d :: r => uptoBulk d + uptoBulkAll r
def uptoBulkEntries {H : Type} : List (Lit × DataW H) → Nat
  | [] => 0
  | x :: r => uptoBulkEntry x + uptoBulkEntries r
def uptoBulkEntry {H : Type} : Lit × DataW H → Nat
  | (.string bytes, d) => bytes.length + uptoBulk d + 1
  | (_, d) => uptoBulk d + 1
 end
def uptoSmall : (H : Type) → List (DataW H) → Bool := fun _ ds => decide (uptoBulkAll ds ≤ 1048576)
def OpenSpec.upto (s : _root_.Go.ChangeSpec) : _root_.Go.OpenSpec := { _root_.Go.OpenSpec.ofChange s with cond := some uptoSmall }

/-- 'decorumlaw17.FrontOrder', WHERE WHAT IT READS IS OF BULK AT MOST 1048576: true; the input reads as it did. -/
def frontOrderUptoRow : OpenClaim := { program := "ytehgdocbabaldaagreat", sum := "6c6775b108892a62b53ed9ca4975e9699858985dac12680f4f000eff9a034633", func := "decorum/decorumlaw17.FrontOrder", spec := "frontOrder", inPlace := ["slices.overlaps[decorum/api.Req]"], unfollowed := true, recurses := true, apart := false, narrowed := true }
def FrontOrderUptoSaid : Prop := frontOrderUptoRow.holds Tryz.pinned (OpenSpec.upto frontOrderSpec)

/-- 'decorumlaw17.FrontPlays', WHERE WHAT IT READS IS OF BULK AT MOST 1048576: true; the input reads as it did. -/
def frontPlaysUptoRow : OpenClaim := { program := "ytehgdocbabaldaagreat", sum := "6c6775b108892a62b53ed9ca4975e9699858985dac12680f4f000eff9a034633", func := "decorum/decorumlaw17.FrontPlays", spec := "frontPlays", inPlace := ["slices.overlaps[decorum/api.Req]"], unfollowed := true, recurses := true, apart := false, narrowed := true }
def FrontPlaysUptoSaid : Prop := frontPlaysUptoRow.holds Tryz.pinned (OpenSpec.upto frontPlaysSpec)

/-- 'decorumlaw17.FrontNone', WHERE WHAT IT READS IS OF BULK AT MOST 1048576: true; the input reads as it did. -/
def frontNoneUptoRow : OpenClaim := { program := "ytehgdocbabaldaagreat", sum := "6c6775b108892a62b53ed9ca4975e9699858985dac12680f4f000eff9a034633", func := "decorum/decorumlaw17.FrontNone", spec := "frontNone", inPlace := ["slices.overlaps[decorum/api.Req]"], unfollowed := true, recurses := true, apart := false, narrowed := true }
def FrontNoneUptoSaid : Prop := frontNoneUptoRow.holds Tryz.pinned (OpenSpec.upto frontNoneSpec)

end Rows
end Go.Proofs.YtehgdocbabaldaaGreat
