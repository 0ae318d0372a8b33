/-
  Calls without arguments that come to a plain value; and what a law's row asks.
-/
import Derived.Test.YtoiedaegnhifpaaDoorA21
import Derived.Carry
import Derived.OpenShut
import Derived.RowKit
set_option linter.unusedVariables false
set_option linter.unusedSimpArgs false
namespace Go.Abs
open Go Go.RowKit Go.ChangeShapes Go.WideShapes

theorem prim_inv {β : Map} {v v' : Value} (hp : primV v = true) (h : VRel β v v') : v' = v := by
  cases h <;> first | rfl | (simp [primV] at hp)

def known (l : List (FuncId × Value)) : CallSem := fun f args s =>
  match args with
  | [] => (l.find? fun p => p.1 == f).map fun p => (p.2, s)
  | _ => none

theorem trodAll_below {H : Type} {enc : TypeId × Value → H} {P : Program} (hl : laidOutB P = true) {W W' : World} (hb : Below W.heap.size W W') : ∀ {ts : List TypeId} {vs : List Value} {ds : List (DataW H)} {p : List MemPlace},
    (∀ t ∈ ts, P.readableRec t = true ∧ t < P.types.size) → (∀ x ∈ p, x.block < W.heap.size) → DataW.TrodAll enc P W 0 (fun _ => true) true ts vs ds p → DataW.TrodAll enc P W' 0 (fun b => decide (b < W.heap.size)) true ts vs ds p := by
  intro ts
  induction ts with
  | nil =>
    intro vs ds p _ _ h
    obtain ⟨rfl, rfl, rfl⟩ := trodAll_nil h
    exact trodAll_mk0
  | cons t ts ih =>
    intro vs ds p ht hlt h
    obtain ⟨v, vs1, d, ds1, a, b, rfl, rfl, rfl, h1, h2⟩ := trodAll_cons h
    exact ⟨a, b, Below.trod hl (ht t (by simp)).1 (ht t (by simp)).2 h1 hb (fun x hx => hlt x (by simp [hx])), ih (fun t' h' => ht t' (by simp [h'])) (fun x hx => hlt x (by simp [hx])) h2, rfl⟩

theorem law_post {H : Type} {enc : TypeId × Value → H} {P : Program} {f : Func} {s : ChangeSpec} {W W' : World} {args : Array Value} {ds gs : List (DataW H)} {before : List MemPlace} {tb : TypeId} (hv : s.vars = []) (hl : laidOutB P = true)
    (ht0 : (f.params.toList.all fun t => P.readableRec t && decide (t < P.types.size)) = true) (hr : f.resultTypes = #[tb]) (htb : P.underlying tb = some .bool)
    (hW : DataW.Whole enc P f.params.toList s.vars false W args.toList ds gs before) (hres : (s.fn H (ds ++ gs)).results = [.lit (.bool true)]) (hargs : (s.fn H (ds ++ gs)).args = ds) (hvars : (s.fn H (ds ++ gs)).vars = [])
    (hb : Below W.heap.size W W') : s.post enc P f false true false false W args (.bool true) W' := by
  have ht : ∀ t ∈ f.params.toList, P.readableRec t = true ∧ t < P.types.size := fun t h => by
    have := List.all_eq_true.1 ht0 t h
    simpa using this
  have hlt : ∀ x ∈ before, x.block < W.heap.size := fun x hx => by simpa using hW.lt x hx
  have hW' := hW
  obtain ⟨p, q, hA, hV, rfl, hfz, hnd⟩ := hW
  rw [hv] at hV
  obtain ⟨rfl, rfl⟩ := trodVars_none hV
  refine ⟨ds, [], p ++ [], [], p, [], hW', ?_, ?_, ?_, World.keptBut_mono (may := fun _ => False) (fun _ f => f.elim) (hb.frame _), fun h => by cases h⟩
  · rw [hres, hr]
    exact trodAll_cons_mk (shut_bool htb _) trodAll_mk0
  · rw [hargs]
    exact trodAll_below hl hb ht (fun x hx => hlt x (by simp [hx])) hA
  · rw [hvars, hv]; rfl

def tblOf (l : List (FuncId × AFun)) : FuncId → Option AFun := fun f => (l.find? fun p => p.1 == f).map fun p => p.2

theorem tblOf_ok {P : Program} {l : List (FuncId × AFun)} {ov : CallSem} (hm : P.follows .mixedOrders = true) (h : ∀ p ∈ l, FunOK P p.1 p.2) (ho : GoodCalls P ov ∧ GoodWF ov) : TableOK P (tblOf l) ov where
  mixed := hm
  funs := by
    intro f fn hq
    simp only [tblOf, Option.map_eq_some_iff] at hq
    obtain ⟨p, hp, rfl⟩ := hq
    have hmem := List.mem_of_find?_eq_some hp
    have he := List.find?_some hp
    have : p.1 = f := by simpa using he
    subst this
    exact h p hmem
  good := ho.1
  wf := ho.2

end Go.Abs
