/-
  What the rows' lists give: the package variables.
-/
import Derived.Test.YtoiedaegnhifpaaDoorU13
import Derived.Test.YtoiedaegnhifpaaDoorRows
import Derived.Test.YtoiedaegnhifpaaDoorCards
import Derived.Test.YtoiedaegnhifpaaDoorTie
import Derived.ProofKit
import Derived.OpenShut
import Derived.LaidMore
import Derived.Lay
import Derived.SevenTiedAt
import Derived.Stop.Joined
import Derived.Stop.LaidErr
import Derived.Lib.LaidTab
set_option maxRecDepth 100000
set_option linter.unusedVariables false
namespace Go.Proofs.YtoiedaegnhifpaaDoor
open Go Go.Abs Go.Shelf Go.RowKit Go.Abs.K Go.ChangeShapes Go.WideShapes Go.ChangeAt

theorem tabOf {W : World} {name : String} {g : Nat} {arr : Array Value} (h : W.var? Tryd.prog name = some arr) (hg : Tryd.prog.globalNamed name = some g) : ∃ t f, W.heap[g]? = some (.cells arr t f) := by
  unfold World.var? at h
  rw [hg, Option.bind_some] at h
  split at h
  · rename_i cs t f hq
    cases h
    exact ⟨t, f, hq⟩
  · cases h

theorem eP : (Rows.laid_internal_strconv_uint64pow10 : DataW Unit) = Lib.tabData .u64 Lib.pow10Tab := by kernel_rfl
theorem eS : (Rows.laid_strings_asciiSpace : DataW Unit) = Lib.tabData .u8 Lib.asciiSpaceTab := by kernel_rfl

theorem globs_of {W : World} (h : laidMetH Tryd.prog Rows.dateFormsRow.laid W) : GlobsIn W gB := by
  rw [MakeChecks.laidMetH_plain _ _ _ (by kernel_rfl)] at h
  have h3 := laidMet.tail (laidMet.tail h)
  have h6 := laidMet.tail (laidMet.tail (laidMet.tail h3))
  rw [eP] at h3
  rw [eS] at h6
  have tP := Lib.tabIs_of_head (g := 3) (t := 156) (by kernel_rfl) (by kernel_rfl) Tryd.underlying156 Tryd.underlying128 (by kernel_rfl) (by kernel_rfl) h3
  have tS := Lib.tabIs_of_head (g := 0) (t := 80) (by kernel_rfl) (by kernel_rfl) Tryd.underlying80 Tryd.underlying5 (by kernel_rfl) (by kernel_rfl) h6
  obtain ⟨t1, f1, g1⟩ := tabOf tS (by kernel_rfl)
  obtain ⟨t2, f2, g2⟩ := tabOf tP (by kernel_rfl)
  intro g hg
  simp only [gB, List.mem_cons, List.not_mem_nil, or_false] at hg
  rcases hg with rfl | rfl
  · refine ⟨_, g1, ?_⟩
    show (((Lib.asciiSpaceTab.map fun z => Value.int .u8 z).toArray).toList = (List.range 256).map fun i => .int .u8 (if (4294983168 / 2 ^ i) % 2 = 1 then 1 else 0))
    rw [show ((Lib.asciiSpaceTab.map fun z => Value.int .u8 z).toArray).toList = Lib.asciiSpaceTab.map fun z => Value.int .u8 z from rfl, Lib.asciiSpaceTab, List.map_map]
    apply List.map_congr_left
    intro i hi
    have hb := of_decide_eq_true (List.all_eq_true.1 asciiBits i hi)
    exact congrArg (Value.int .u8) hb.symm
  · refine ⟨_, g2, ?_⟩
    show (((Lib.pow10Tab.map fun z => Value.int .u64 z).toArray).toList = (List.range 20).map fun i => .int .u64 ((10 ^ i : Nat) : Int))
    rw [show ((Lib.pow10Tab.map fun z => Value.int .u64 z).toArray).toList = Lib.pow10Tab.map fun z => Value.int .u64 z from rfl, Lib.pow10Tab, List.map_map]
    rfl
end Go.Proofs.YtoiedaegnhifpaaDoor
