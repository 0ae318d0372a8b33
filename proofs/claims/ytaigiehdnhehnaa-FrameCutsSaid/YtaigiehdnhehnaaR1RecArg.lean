/-
  A record as a law's argument.
-/
import Derived.Test.YtaigiehdnhehnaaR1Unlike
import Derived.Test.YtaigiehdnhehnaaA27
import Derived.WalkKit
import Derived.ProofKit
import Derived.OpenShut
set_option maxRecDepth 100000
set_option linter.unusedVariables false
namespace Go.Proofs.Ytaigiehdnhehnaa
open Go Go.Abs Go.ChangeShapes Go.WideShapes Go.RowKit

theorem okWide_int {P : Program} {w : World} {base : Nat} {t : TypeId} {k : IntKind} {v : Value} (ht : P.underlying t = some (.int k)) (h : Cell.okWide P w .any base t v) : ∃ n, v = .int k n ∧ (Lit.int k n).wf = true := by
  cases v <;> simp [Cell.okWide, Cell.ok, ht] at h
  · rename_i k' n
    obtain ⟨rfl, h⟩ := h
    exact ⟨n, rfl, by simpa [Lit.wf, IntKind.has] using h⟩

theorem okWide_string {P : Program} {w : World} {base : Nat} {t : TypeId} {v : Value} (ht : P.underlying t = some .string) (h : Cell.okWide P w .any base t v) : ∃ b, v = .string b := by
  cases v <;> simp [Cell.okWide, Cell.ok, ht] at h
  · exact ⟨_, rfl⟩

theorem wide_of_wf {n : Int} (h : (Lit.int .i64 n).wf = true) : -9223372036854775808 ≤ n ∧ n ≤ 9223372036854775807 := by
  simp [Lit.wf, IntKind.min, IntKind.max, IntKind.signed, IntKind.bits] at h
  exact h

theorem open_rec {w : World} {base : Nat} {v : Value} (hval : Value.okWide Try.prog w .any base 50 v) : ∃ r : FRec, v = r.val ∧ r.Wide := by
  have hts : Try.prog.cellTypes Try.prog.depth 50 = some [3, 3, 9, 9, 3, 3] := by kernel_rfl
  have ht := Try.underlying50
  simp only [Value.okWide, ht] at hval
  obtain ⟨cs, rfl, hsz, ts', hts', hlen, hcell⟩ := hval
  rw [hts] at hts'; cases hts'
  have h6 : cs.toList.length = 6 := by
    have : Try.prog.cellsOf 50 = 6 := by kernel_rfl
    rw [this] at hsz; simpa using hsz
  obtain ⟨c0, c1, c2, c3, c4, c5, hcs⟩ : ∃ c0 c1 c2 c3 c4 c5, cs.toList = [c0, c1, c2, c3, c4, c5] := by
    match hq : cs.toList, h6 with
    | [c0, c1, c2, c3, c4, c5], _ => exact ⟨c0, c1, c2, c3, c4, c5, rfl⟩
  have hcc : cs = #[c0, c1, c2, c3, c4, c5] := by
    rw [← Array.toList_inj]; exact hcs
  subst hcc
  obtain ⟨u0, e0, h0⟩ := hcell 0 c0 rfl
  obtain ⟨u1, e1, h1⟩ := hcell 1 c1 rfl
  obtain ⟨u2, e2, h2⟩ := hcell 2 c2 rfl
  obtain ⟨u3, e3, h3⟩ := hcell 3 c3 rfl
  obtain ⟨u4, e4, h4⟩ := hcell 4 c4 rfl
  obtain ⟨u5, e5, h5⟩ := hcell 5 c5 rfl
  cases e0; cases e1; cases e2; cases e3; cases e4; cases e5
  obtain ⟨n0, rfl, w0⟩ := okWide_int Try.underlying3 h0
  obtain ⟨n1, rfl, w1⟩ := okWide_int Try.underlying3 h1
  obtain ⟨b2, rfl⟩ := okWide_string Try.underlying9 h2
  obtain ⟨b3, rfl⟩ := okWide_string Try.underlying9 h3
  obtain ⟨n4, rfl, w4⟩ := okWide_int Try.underlying3 h4
  obtain ⟨n5, rfl, w5⟩ := okWide_int Try.underlying3 h5
  exact ⟨⟨n0, n1, b2, b3, n4, n5⟩, rfl, wide_of_wf w1, wide_of_wf w5, wide_of_wf w0, wide_of_wf w4⟩

theorem rec_rel (β : Map) (r : FRec) : VRel β r.val r.val := by
  refine prim_agg fun c hc => ?_
  simp only [FRec.cells, List.mem_cons, List.not_mem_nil, or_false] at hc
  rcases hc with rfl | rfl | rfl | rfl | rfl | rfl <;> rfl


end Go.Proofs.Ytaigiehdnhehnaa
