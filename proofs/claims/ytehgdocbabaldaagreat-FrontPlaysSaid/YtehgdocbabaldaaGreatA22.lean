/-
  Calls without arguments that come to a plain value; and what a law's row asks.
-/
import Derived.Test.YtehgdocbabaldaaGreatA21
import Derived.Carry
import Derived.OpenShut
import Derived.RowKit
set_option linter.unusedVariables false
set_option linter.unusedSimpArgs false
namespace Go.Abs
open Go Go.RowKit Go.ChangeShapes Go.WideShapes

def st0 : St := ⟨[], 0⟩

theorem wf0 : WFs st0 := fun id _ => rfl

theorem prim_inv {β : Map} {v v' : Value} (hp : primV v = true) (h : VRel β v v') : v' = v := by
  cases h <;> first | rfl | (simp [primV] at hp)

theorem closed_ok {P : Program} {tbl : FuncId → Option AFun} {ov : CallSem} (h : TableOK P tbl ov) {k : Nat} {f : FuncId} {fn : AFun} (hf : tbl f = some fn) {v : Value} {s0 : St} (he : call tbl ov k f [] st0 = some (v, s0)) (hp : primV v = true) (s : St) :
    Callable P f ∧ CallOK P f [] s v s := by
  cases k with
  | zero => simp [call] at he
  | succ k =>
    obtain ⟨h1, h2, h3⟩ := call_ok h hf wf0 he
    refine ⟨h1, Nat.le_refl _, fun β w args' hs hfr hargs => ?_⟩
    cases hargs
    have := h3 (fun _ => none) w [] ⟨fun _ _ _ h => (by cases h), fun _ _ _ _ _ _ h => (by cases h)⟩ (fun _ _ _ => rfl) .nil
    refine this.mono ?_
    rintro e w' ⟨v', β', rfl, hv, hs', hst⟩
    have hno : ∀ k, ¬ Owned (fun _ => none) st0.heap.get k := fun k ⟨_, _, _, h, _⟩ => by cases h
    have hfrm : ∀ k, k < w.heap.size → w'.heap[k]? = w.heap[k]? := fun k hk => hst.frame k hk (hno k)
    refine ⟨v', β, rfl, ?_, ⟨fun id r o hb ho => ?_, hs.inj⟩, ⟨Map.le_refl _, Nat.le_refl _, fun id r h1 h2 => (by rw [h1] at h2; cases h2), fun k hk _ => hfrm k hk, hst.size, fun k hk _ => hk, fun id r o h1 h2 _ => ⟨h1, h2⟩, hst.os, hst.tape, hst.output⟩⟩
    · rw [prim_inv hp hv]; exact .prim v hp
    · rw [hfrm _ (hs.lt hb ho)]; exact hs.obj id r o hb ho

def known (l : List (FuncId × Value)) : CallSem := fun f args s =>
  match args with
  | [] => (l.find? fun p => p.1 == f).map fun p => (p.2, s)
  | _ => none

theorem known_good {P : Program} {l : List (FuncId × Value)} (h : ∀ p ∈ l, ∀ s, Callable P p.1 ∧ CallOK P p.1 [] s p.2 s) : GoodCalls P (known l) ∧ GoodWF (known l) := by
  constructor
  · intro f args s v s' _ hq
    unfold known at hq
    split at hq
    · simp only [Option.map_eq_some_iff, Prod.mk.injEq] at hq
      obtain ⟨p, hp, rfl, rfl⟩ := hq
      have hm := List.mem_of_find?_eq_some hp
      have he := List.find?_some hp
      have : p.1 = f := by simpa using he
      subst this
      exact .inl (h p hm s)
    · cases hq
  · intro f args s v s' hq hs
    unfold known at hq
    split at hq
    · simp only [Option.map_eq_some_iff, Prod.mk.injEq] at hq
      obtain ⟨p, hp, rfl, rfl⟩ := hq
      exact hs
    · cases hq

theorem law_calls {P : Program} {tbl : FuncId → Option AFun} {ov : CallSem} (h : TableOK P tbl ov) {f : FuncId} {fn : AFun} (hf : tbl f = some fn) {vs args : List Value} {s : St} {β : Map} {w : World} {v : Value} (hp : primV v = true)
    (hw : WCall (fun k => call tbl ov k) f vs s fun u _ => u = v) (hs : Sim β s.heap.get w) (hro : ∀ id o, s.heap.get id = some o → o.isRo = true) (hfr : ∀ id, s.next ≤ id → β id = none) (hwf : WFs s) (ha : LRel β vs args) :
    Calls P f args.toArray w fun e w' => e = .returned v ∧ Below w.heap.size w w' := by
  obtain ⟨⟨u, s'⟩, rfl, K, hK⟩ := hw
  have he : call tbl ov (K + 1) f vs s = some (u, s') := hK (K + 1) (Nat.le_succ K)
  obtain ⟨h1, h2, h3⟩ := call_ok h hf hwf he
  refine (h3 β w args hs (fun id h1 _ => hfr id h1) ha).mono ?_
  rintro e w' ⟨v', β', rfl, hv, hs', hst⟩
  refine ⟨by rw [prim_inv hp hv], hst.os, hst.tape, hst.output, hst.size, fun k hk => hst.frame k hk ?_⟩
  rintro ⟨id, r, o, _, ho, hr, _⟩
  rw [hro id o ho] at hr; cases hr

theorem trodAll_below {H : Type} {enc : TypeId × Value → H} {P : Program} (hl : laidOutB P = true) {W W' : World} (hb : Below W.heap.size W W') : ∀ {ts : List TypeId} {vs : List Value} {ds : List (DataW H)} {p : List MemPlace},
    (∀ t ∈ ts, P.readableRec t = true ∧ t < P.types.size) → (∀ x ∈ p, x.block < W.heap.size) → DataW.TrodAll enc P W 0 (fun _ => true) true ts vs ds p → DataW.TrodAll enc P W' 0 (fun b => decide (b < W.heap.size)) true ts vs ds p := by
  intro ts
  induction ts with
  | nil =>
    intro vs ds p _ _ h
    obtain ⟨rfl, rfl, rfl⟩ := trodAll_nil h
    exact trodAll_mk0
  | cons t ts ih =>
    intro vs ds p ht hlt h
    obtain ⟨v, vs1, d, ds1, a, b, rfl, rfl, rfl, h1, h2⟩ := trodAll_cons h
    exact ⟨a, b, Below.trod hl (ht t (by simp)).1 (ht t (by simp)).2 h1 hb (fun x hx => hlt x (by simp [hx])), ih (fun t' h' => ht t' (by simp [h'])) (fun x hx => hlt x (by simp [hx])) h2, rfl⟩

theorem law_post {H : Type} {enc : TypeId × Value → H} {P : Program} {f : Func} {s : ChangeSpec} {W W' : World} {args : Array Value} {ds gs : List (DataW H)} {before : List MemPlace} {tb : TypeId} (hv : s.vars = []) (hl : laidOutB P = true)
    (ht0 : (f.params.toList.all fun t => P.readableRec t && decide (t < P.types.size)) = true) (hr : f.resultTypes = #[tb]) (htb : P.underlying tb = some .bool)
    (hW : DataW.Whole enc P f.params.toList s.vars false W args.toList ds gs before) (hres : (s.fn H (ds ++ gs)).results = [.lit (.bool true)]) (hargs : (s.fn H (ds ++ gs)).args = ds) (hvars : (s.fn H (ds ++ gs)).vars = [])
    (hb : Below W.heap.size W W') : s.post enc P f false true false false W args (.bool true) W' := by
  have ht : ∀ t ∈ f.params.toList, P.readableRec t = true ∧ t < P.types.size := fun t h => by
    have := List.all_eq_true.1 ht0 t h
    simpa using this
  have hlt : ∀ x ∈ before, x.block < W.heap.size := fun x hx => by simpa using hW.lt x hx
  have hW' := hW
  obtain ⟨p, q, hA, hV, rfl, hfz, hnd⟩ := hW
  rw [hv] at hV
  obtain ⟨rfl, rfl⟩ := trodVars_none hV
  refine ⟨ds, [], p ++ [], [], p, [], hW', ?_, ?_, ?_, World.keptBut_mono (may := fun _ => False) (fun _ f => f.elim) (hb.frame _), fun h => by cases h⟩
  · rw [hres, hr]
    exact trodAll_cons_mk (shut_bool htb _) trodAll_mk0
  · rw [hargs]
    exact trodAll_below hl hb ht (fun x hx => hlt x (by simp [hx])) hA
  · rw [hvars, hv]; rfl

def tblOf (l : List (FuncId × AFun)) : FuncId → Option AFun := fun f => (l.find? fun p => p.1 == f).map fun p => p.2

theorem tblOf_ok {P : Program} {l : List (FuncId × AFun)} {ov : CallSem} (hm : P.follows .mixedOrders = true) (h : ∀ p ∈ l, FunOK P p.1 p.2) (ho : GoodCalls P ov ∧ GoodWF ov) : TableOK P (tblOf l) ov where
  mixed := hm
  funs := by
    intro f fn hq
    simp only [tblOf, Option.map_eq_some_iff] at hq
    obtain ⟨p, hp, rfl⟩ := hq
    have hmem := List.mem_of_find?_eq_some hp
    have he := List.find?_some hp
    have : p.1 = f := by simpa using he
    subst this
    exact h p hmem
  good := ho.1
  wf := ho.2

theorem closed_known {P : Program} {tbl : FuncId → Option AFun} {ov : CallSem} (h : TableOK P tbl ov) {f : FuncId} {fn : AFun} (hf : tbl f = some fn) {v : Value} (k : Nat) (he : (call tbl ov k f [] st0).map (fun r => r.1) = some v) (hp : primV v = true) (s : St) :
    Callable P f ∧ CallOK P f [] s v s := by
  simp only [Option.map_eq_some_iff] at he
  obtain ⟨⟨u, s0⟩, he, rfl⟩ := he
  exact closed_ok h hf he hp s

end Go.Abs
