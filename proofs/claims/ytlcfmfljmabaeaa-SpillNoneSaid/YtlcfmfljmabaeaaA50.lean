/-
  A law whose last step is a region that draws, with calls that turn nothing: reckoned by the kernel at values that are not known.
-/
import Derived.Test.YtlcfmfljmabaeaaA49
set_option linter.unusedVariables false
namespace Go.Abs
open Go

theorem evCode_assoc {cs : CallSem} {n : Nat} {a b c : ACode} {e : Env} {s : St} : evCode cs n (.seq a (.seq b c)) e s = evCode cs n (.seq (.seq a b) c) e s := by
  simp only [evCode]
  cases evCode cs n a e s with
  | none => rfl
  | some q =>
    obtain ⟨x, e', s'⟩ := q
    cases x <;> rfl

theorem draw_last {cs : CallSem} {n : Nat} {a : ACode} {ops : List AOper} {d : Draw} {e : Env} {s : St}
    (h1 : (evCode cs n a e s).map (fun q => q.1) = some .normal)
    (h2 : ((evCode cs n a e s).bind fun q => (evOpsD cs ops q.2.1 q.2.2).map fun z => d.pairs.all (pairOk z.1)) = some true)
    (h3 : d.apart = [])
    (h4 : ∀ i ∈ d.quiet, ((evCode cs n a e s).bind fun q => (evOpsD cs ops q.2.1 q.2.2).bind fun z => z.1[i]?.map fun f => f.after) = ((evCode cs n a e s).bind fun q => (evOpsD cs ops q.2.1 q.2.2).bind fun z => z.1[i]?.map fun f => f.before)) :
    evCode cs n (.seq a (.seq (.region ops (some d)) .ret)) e s = (evCode cs n a e s).bind fun q => (evOpsD cs ops q.2.1 q.2.2).map fun z => (.ret, z.2) := by
  simp only [evCode]
  cases hq : evCode cs n a e s with
  | none => rfl
  | some q =>
    obtain ⟨x, e', s'⟩ := q
    rw [hq] at h1 h2 h4
    simp only [Option.map_some, Option.some.injEq] at h1
    subst h1
    simp only [Option.bind_some] at h2 h4 ⊢
    cases hz : evOpsD cs ops e' s' with
    | none => rw [hz] at h2; cases h2
    | some z =>
      obtain ⟨fs, p⟩ := z
      rw [hz] at h2 h4
      simp only [Option.map_some, Option.some.injEq, Option.bind_some] at h2 h4
      have : evDraw cs ops d e' s' = some p := evDraw_mk hz h2 ⟨fun i hi f hf => by
        have := h4 i hi
        rw [hf] at this
        simp only [Option.map_some, Option.some.injEq] at this
        intro id _
        rw [this], fun p hp => by rw [h3] at hp; cases hp⟩
      rw [this]
      rfl

/-- The law's answer, where its code ends with such a region. -/
theorem call_last {tbl : FuncId → Option AFun} {ov : CallSem} {k : Nat} {f : FuncId} {fn : AFun} {args : List Value} {s : St} {a : ACode} {ops : List AOper} {d : Draw} {v : Value}
    (ht : tbl f = some fn) (hg : fn.gc = 0) (hn : args.length = fn.np) (hb : ∀ e s, evCode (call tbl ov k) k fn.body e s = evCode (call tbl ov k) k (.seq a (.seq (.region ops (some d)) .ret)) e s)
    (h1 : (evCode (call tbl ov k) k a (params 0 args) s).map (fun q => q.1) = some .normal)
    (h2 : ((evCode (call tbl ov k) k a (params 0 args) s).bind fun q => (evOpsD (call tbl ov k) ops q.2.1 q.2.2).map fun z => d.pairs.all (pairOk z.1)) = some true)
    (h3 : d.apart = [])
    (h4 : ∀ i ∈ d.quiet, ((evCode (call tbl ov k) k a (params 0 args) s).bind fun q => (evOpsD (call tbl ov k) ops q.2.1 q.2.2).bind fun z => z.1[i]?.map fun f => f.after) = ((evCode (call tbl ov k) k a (params 0 args) s).bind fun q => (evOpsD (call tbl ov k) ops q.2.1 q.2.2).bind fun z => z.1[i]?.map fun f => f.before))
    (h5 : ((evCode (call tbl ov k) k a (params 0 args) s).bind fun q => (evOpsD (call tbl ov k) ops q.2.1 q.2.2).bind fun z => (mapList (resV z.2.1 z.2.2) fn.res).map tupleV) = some v) :
    (call tbl ov (k + 1) f args s).map (fun r => r.1) = some v := by
  simp only [call, ht, evFun, if_pos hn, hb, draw_last h1 h2 h3 h4]
  rw [← h5]
  cases evCode (call tbl ov k) k a (params 0 args) s with
  | none => rfl
  | some q =>
    simp only [Option.bind_some]
    cases evOpsD (call tbl ov k) ops q.2.1 q.2.2 with
    | none => rfl
    | some z =>
      simp only [Option.map_some, Option.bind_some]
      rw [hg]
      cases mapList (resV z.2.1 z.2.2) fn.res <;> rfl

end Go.Abs
