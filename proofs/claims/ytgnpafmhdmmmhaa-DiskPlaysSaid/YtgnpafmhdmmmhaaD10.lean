/-
  An act, as it is read.
-/
import Derived.Test.YtgnpafmhdmmmhaaD9
import Derived.ProofKit
import Derived.OpenShut
set_option maxRecDepth 100000
namespace Go.Proofs.Ytgnpafmhdmmmhaa
open Go Go.Abs Go.ChangeShapes

theorem act_of_trod {H : Type} {enc : TypeId × Value → H} {w : World} {n : Nat} {cs : List Value} {x : DataW H × List MemPlace} (h : DataW.trod enc Try.prog w 0 (fun _ => true) true n 63 cs = some x) (hl : cs.length = 4) : ∃ a : DAct, All2 (CellW w) a.specs cs ∧ a.Wide := by
  have c3 : Try.prog.cellsOf 3 = 1 := by kernel_rfl
  have c22 : Try.prog.cellsOf 22 = 1 := by kernel_rfl
  obtain ⟨c0, c1, c2, d3, rfl⟩ : ∃ c0 c1 c2 c3, cs = [c0, c1, c2, c3] := by
    match cs, hl with
    | [c0, c1, c2, c3], _ => exact ⟨c0, c1, c2, c3, rfl⟩
  obtain ⟨zs, m2, _, _, _, hzl, hg⟩ := DataW.trod_struct Try.underlying63 h
  obtain ⟨z0, hz0⟩ := one_of hzl (i := 0) (by decide)
  obtain ⟨z1, hz1⟩ := one_of hzl (i := 1) (by decide)
  obtain ⟨z2, hz2⟩ := one_of hzl (i := 2) (by decide)
  obtain ⟨z3, hz3⟩ := one_of hzl (i := 3) (by decide)
  have g0 : DataW.trod enc Try.prog w 0 (fun _ => true) true m2 3 (([c0, c1, c2, d3].drop 0).take (Try.prog.cellsOf 3)) = zs[0]? := hg 0 _ rfl
  have g1 : DataW.trod enc Try.prog w 0 (fun _ => true) true m2 3 (([c0, c1, c2, d3].drop 1).take (Try.prog.cellsOf 3)) = zs[1]? := hg 1 _ rfl
  have g2 : DataW.trod enc Try.prog w 0 (fun _ => true) true m2 3 (([c0, c1, c2, d3].drop 2).take (Try.prog.cellsOf 3)) = zs[2]? := hg 2 _ rfl
  have g3 : DataW.trod enc Try.prog w 0 (fun _ => true) true m2 22 (([c0, c1, c2, d3].drop 3).take (Try.prog.cellsOf 22)) = zs[3]? := hg 3 _ rfl
  rw [c3, hz0] at g0
  rw [c3, hz1] at g1
  rw [c3, hz2] at g2
  rw [c22, hz3] at g3
  obtain ⟨n0, e0, _, w0⟩ := DataW.trod_int Try.underlying3 g0
  obtain ⟨n1, e1, _, w1⟩ := DataW.trod_int Try.underlying3 g1
  obtain ⟨n2, e2, _, w2⟩ := DataW.trod_int Try.underlying3 g2
  simp only [List.drop_zero, List.drop_succ_cons, List.take_succ_cons, List.take_zero, List.cons.injEq, and_true] at e0 e1 e2 g3
  subst e0 e1 e2
  obtain ⟨bs, hb⟩ := CellW.of_trod Try.underlying22 Try.underlying5 (by kernel_rfl) g3
  exact ⟨⟨n0, n1, n2, bs⟩, .cons ⟨rfl, rfl⟩ (.cons ⟨rfl, rfl⟩ (.cons ⟨rfl, rfl⟩ (.cons hb .nil))), ⟨w64_of_wf w1, w64_of_wf w2⟩⟩

end Go.Proofs.Ytgnpafmhdmmmhaa
