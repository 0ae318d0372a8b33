/-
  Calls of plain values whose answer is known: a plain value, or a row of plain values that the call has made; where package variables hold what they must.
-/
import Derived.Test.YtoiedaegnhifpaaDoorA49
set_option linter.unusedVariables false
set_option linter.unusedSimpArgs false
set_option maxRecDepth 100000
namespace Go.Abs
open Go Go.Abs.K Go.RowKit Go.ChangeShapes Go.WideShapes

abbrev GNeed := List (Nat × Nat × Nat)
def globsOK (s : St) (gs : GNeed) : Bool := gs.all fun g => match s.heap.get g.1 with
  | some (.glob b k) => Nat.beq b g.2.1 && Nat.beq k g.2.2
  | _ => false

def GlobsIn (w : World) (gs : GNeed) : Prop := ∀ g ∈ gs, ∃ ob, w.heap[g.2.1]? = some ob ∧ GlobIs g.2.2 ob

theorem globs_in {β : Map} {s : St} {w : World} (hs : Sim β s.heap.get w) {gs : GNeed} (h : globsOK s gs = true) (hk : ∀ g ∈ gs, g.1 < kept0) : GlobsIn w gs := by
  intro g hg
  have := List.all_eq_true.1 h g hg
  split at this
  · rename_i b k hb
    simp only [Bool.and_eq_true, Nat.beq_eq] at this
    obtain ⟨rfl, rfl⟩ := this
    exact hs.glob (hk g hg) hb
  · cases this

theorem lrel_prim {β : Map} : ∀ {vs vs' : List Value}, LRel β vs vs' → vs.all primV = true → vs' = vs := by
  intro vs
  induction vs with
  | nil => intro vs' h _; cases h; rfl
  | cons v vs ih =>
    intro vs' h hp
    cases h with | cons h1 h2 => ?_
    simp only [List.all_cons, Bool.and_eq_true] at hp
    rw [prim_inv hp.1 h1, ih h2 hp.2]

def rowSem (f0 : FuncId) (gs : GNeed) (t : TypeId) (F : List Value → Option (List Value)) : CallSem := fun f args s =>
  if f = f0 then if globsOK s gs && args.all primV then
    match F args with
    | some (x :: r) => some (.slice (some ⟨s.next, 0, none⟩) (x :: r).length (x :: r).length, ⟨s.heap.put s.next (some (.cells (x :: r) t 1 false)), s.next + 1⟩)
    | _ => none
  else none else none

theorem row_good {P : Program} {f0 : FuncId} {gs : GNeed} {t : TypeId} {F : List Value → Option (List Value)} (can : Callable P f0) (hk : ∀ g ∈ gs, g.1 < kept0) (hv : ∀ args vs, F args = some vs → ∀ x ∈ vs, primV x = true)
    (run : ∀ (args : List Value) (vs : List Value) (w : World), F args = some vs → args.all primV = true → GlobsIn w gs → Calls P f0 args.toArray w fun e w' => ∃ v, e = .returned v ∧ w'.ownsRow w.heap.size t 1 v vs.length vs ∧ Below w.heap.size w w') :
    GoodCalls P (rowSem f0 gs t F) ∧ GoodWF (rowSem f0 gs t F) := by
  constructor
  · intro f args s u s' hws hq
    unfold rowSem at hq
    split at hq
    case isFalse => cases hq
    rename_i hf
    subst hf
    split at hq
    case isFalse => cases hq
    rename_i hc
    simp only [Bool.and_eq_true] at hc
    split at hq
    case h_2 => cases hq
    rename_i x r hF
    simp only [Option.some.injEq, Prod.mk.injEq] at hq
    obtain ⟨rfl, rfl⟩ := hq
    refine .inl ⟨can, Nat.le_succ _, fun β w args' hs hfr hargs => ?_⟩
    rw [lrel_prim hargs hc.2]
    refine (run args _ w hF hc.2 (globs_in hs hc.1 hk)).mono ?_
    rintro e w' ⟨v, rfl, hrow, hbel⟩
    obtain ⟨β', h1, h2, h3⟩ := row_known (s := s) hs (hfr s.next (Nat.le_refl _) (Nat.lt_succ_self _)) hbel (by simp) hrow (fun β y hy => .prim y (hv args _ hF y hy))
    exact ⟨_, β', rfl, h1, h2, h3⟩
  · intro f args s u s' hq hws
    unfold rowSem at hq
    split at hq
    case isFalse => cases hq
    split at hq
    case isFalse => cases hq
    split at hq
    case h_2 => cases hq
    cases hq
    intro j hj
    simp only at hj ⊢
    rw [Heap.get_put, if_neg (by omega)]
    exact hws j (by omega)

/-! ### A call without arguments, run where package variables are known -/

def stG (gs : GNeed) : St := ⟨gs.map fun g => (g.1, some (.glob g.2.1 g.2.2)), 8⟩

end Go.Abs
