/-
  A request, and how it is read.
-/
import Derived.Test.YtehgdocbabaldaaGreatF2
import Derived.Test.YtehgdocbabaldaaGreatA35
import Derived.ProofKit
import Derived.OpenShut
set_option maxRecDepth 100000
namespace Go.Proofs.YtehgdocbabaldaaGreat
open Go Go.Abs Go.ChangeShapes

structure QReq where
  id : Int
  host : ByteArray
  path : ByteArray
  prio : Int
  til : Int

abbrev i64 (n : Int) : Value := .int .i64 n
def QReq.cells (r : QReq) : List Value := [i64 r.id, .string r.host, .string r.path, i64 r.prio, i64 r.til]
abbrev QReq.val (r : QReq) : Value := .agg r.cells.toArray

def W64 (n : Int) : Prop := -9223372036854775808 ≤ n ∧ n ≤ 9223372036854775807
structure QReq.Wide (r : QReq) : Prop where
  id : W64 r.id
  prio : W64 r.prio
  til : W64 r.til

theorem w64_of_wf {n : Int} (h : (Lit.int .i64 n).wf = true) : W64 n := by
  simp [Lit.wf, IntKind.min, IntKind.max, IntKind.signed, IntKind.bits] at h
  exact h

theorem one_of {α : Type} {xs : List α} {i n : Nat} (h : xs.length = n) (hi : i < n) : ∃ y, xs[i]? = some y := ⟨_, List.getElem?_eq_getElem (by omega)⟩

/-- The cells of a request as it is read. -/
theorem req_of_trod {H : Type} {enc : TypeId × Value → H} {w : World} {n : Nat} {cs : List Value} {x : DataW H × List MemPlace} (h : DataW.trod enc Tryz.prog w 0 (fun _ => true) true n 34 cs = some x) (hl : cs.length = 5) : ∃ r : QReq, cs = r.cells ∧ r.Wide := by
  have c3 : Tryz.prog.cellsOf 3 = 1 := by kernel_rfl
  have c9 : Tryz.prog.cellsOf 9 = 1 := by kernel_rfl
  obtain ⟨c0, c1, c2, d3, c4, rfl⟩ : ∃ c0 c1 c2 c3 c4, cs = [c0, c1, c2, c3, c4] := by
    match cs, hl with
    | [c0, c1, c2, c3, c4], _ => exact ⟨c0, c1, c2, c3, c4, rfl⟩
  obtain ⟨zs, m2, _, _, _, hzl, hg⟩ := DataW.trod_struct Tryz.underlying34 h
  obtain ⟨z0, hz0⟩ := one_of hzl (i := 0) (by decide)
  obtain ⟨z1, hz1⟩ := one_of hzl (i := 1) (by decide)
  obtain ⟨z2, hz2⟩ := one_of hzl (i := 2) (by decide)
  obtain ⟨z3, hz3⟩ := one_of hzl (i := 3) (by decide)
  obtain ⟨z4, hz4⟩ := one_of hzl (i := 4) (by decide)
  have g0 : DataW.trod enc Tryz.prog w 0 (fun _ => true) true m2 3 (([c0, c1, c2, d3, c4].drop 0).take (Tryz.prog.cellsOf 3)) = zs[0]? := hg 0 _ rfl
  have g1 : DataW.trod enc Tryz.prog w 0 (fun _ => true) true m2 9 (([c0, c1, c2, d3, c4].drop 1).take (Tryz.prog.cellsOf 9)) = zs[1]? := hg 1 _ rfl
  have g2 : DataW.trod enc Tryz.prog w 0 (fun _ => true) true m2 9 (([c0, c1, c2, d3, c4].drop 2).take (Tryz.prog.cellsOf 9)) = zs[2]? := hg 2 _ rfl
  have g3 : DataW.trod enc Tryz.prog w 0 (fun _ => true) true m2 3 (([c0, c1, c2, d3, c4].drop 3).take (Tryz.prog.cellsOf 3)) = zs[3]? := hg 3 _ rfl
  have g4 : DataW.trod enc Tryz.prog w 0 (fun _ => true) true m2 3 (([c0, c1, c2, d3, c4].drop 4).take (Tryz.prog.cellsOf 3)) = zs[4]? := hg 4 _ rfl
  rw [c3, hz0] at g0
  rw [c9, hz1] at g1
  rw [c9, hz2] at g2
  rw [c3, hz3] at g3
  rw [c3, hz4] at g4
  obtain ⟨n1, e1, _, w1⟩ := DataW.trod_int Tryz.underlying3 g0
  obtain ⟨b2, e2, _, _⟩ := DataW.trod_string Tryz.underlying9 g1
  obtain ⟨b3, e3, _, _⟩ := DataW.trod_string Tryz.underlying9 g2
  obtain ⟨n4, e4, _, w4⟩ := DataW.trod_int Tryz.underlying3 g3
  obtain ⟨n5, e5, _, w5⟩ := DataW.trod_int Tryz.underlying3 g4
  simp only [List.drop_zero, List.drop_succ_cons, List.take_succ_cons, List.take_zero, List.cons.injEq, and_true] at e1 e2 e3 e4 e5
  subst e1 e2 e3 e4 e5
  exact ⟨⟨n1, b2, b3, n4, n5⟩, rfl, w64_of_wf w1, w64_of_wf w4, w64_of_wf w5⟩

/-- A request handed in. -/
theorem open_req {H : Type} {enc : TypeId × Value → H} {w : World} {base : Nat} {v : Value} {d : DataW H} {ps : List MemPlace} (hval : Value.okWide Tryz.prog w .any base 34 v) (h : DataW.Trod enc Tryz.prog w 0 (fun _ => true) true 34 v d ps) :
    ∃ r : QReq, v = r.val ∧ r.Wide := by
  obtain ⟨cs, rfl, hsz, _⟩ := open_struct Tryz.underlying34 (ts := [3, 9, 9, 3, 3]) (by kernel_rfl) (by kernel_rfl) hval
  obtain ⟨fuel, hf⟩ := h
  have hc : Tryz.prog.cellsOf 34 = 5 := by kernel_rfl
  obtain ⟨r, hr, hw⟩ := req_of_trod hf (by simpa [Value.cells, hc] using hsz)
  refine ⟨r, ?_, hw⟩
  have : cs = r.cells.toArray := by
    rw [← Array.toList_inj]
    simpa [Value.cells] using hr
  rw [this]

end Go.Proofs.YtehgdocbabaldaaGreat
