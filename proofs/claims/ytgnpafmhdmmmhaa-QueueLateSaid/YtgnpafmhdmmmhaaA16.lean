/-
  Regions that draw their order: what is known of the order of the text holds in every order.
-/
import Derived.Test.YtgnpafmhdmmmhaaA15
set_option linter.unusedVariables false
set_option linter.unusedSimpArgs false
namespace Go.Abs
open Go

/-! ### Traces -/
section trace
variable {L V : Type} {n : Nat} {ord : Nat → Nat → Prop} {val : Nat → L → V}

def Inv (n : Nat) (val : Nat → L → V) (S : Nat → Bool) (g : L → V) : Prop := ∀ l, ∃ m, m ≤ n ∧ g l = val m l ∧ ∀ i, i < n → val (i + 1) l ≠ val i l → (i < m ↔ S i = true)

theorem same_between {l : L} : ∀ {m k : Nat}, m ≤ k → (∀ i, m ≤ i → i < k → val (i + 1) l = val i l) → val k l = val m l := by
  intro m k
  induction k with
  | zero => intro h _; have : m = 0 := by omega
            subst this; rfl
  | succ k ih =>
    intro h hc
    by_cases e : m = k + 1
    · subst e; rfl
    · rw [hc k (by omega) (by omega)]
      exact ih (by omega) (fun i h1 h2 => hc i h1 (by omega))

theorem Inv.at {S : Nat → Bool} {g : L → V} (hi : Inv n val S g) {j : Nat} (hj : j ≤ n) {l : L} (h : ∀ i, i < n → val (i + 1) l ≠ val i l → (i < j ↔ S i = true)) : g l = val j l := by
  obtain ⟨m, hm, hg, hc⟩ := hi l
  rw [hg]
  rcases Nat.le_total m j with hmj | hmj
  · refine (same_between hmj fun i h1 h2 => ?_).symm
    refine Classical.byContradiction fun hne => ?_
    have a := (h i (by omega) hne).1 h2
    have b := (hc i (by omega) hne).2 a
    omega
  · refine same_between hmj fun i h1 h2 => ?_
    refine Classical.byContradiction fun hne => ?_
    have a := (hc i (by omega) hne).1 h2
    have b := (h i (by omega) hne).2 a
    omega

theorem Inv.step {S S' : Nat → Bool} {g g' : L → V} (hi : Inv n val S g) {j : Nat} (hj : j < n) (hS : S j = false) (hS' : ∀ i, S' i = (S i || decide (i = j)))
    (hlt : ∀ i k, ord i k → i < k) (hready : ∀ i, ord i j → S i = true) (hdown : ∀ i k, ord i k → S k = true → S i = true) (W : L → Prop)
    (hin : ∀ l, W l → g' l = val (j + 1) l ∧ ∀ i, i < n → val (i + 1) l ≠ val i l → i = j ∨ ord i j ∨ ord j i)
    (hout : ∀ l, ¬ W l → g' l = g l ∧ val (j + 1) l = val j l) : Inv n val S' g' := by
  intro l
  by_cases hw : W l
  · obtain ⟨h1, h2⟩ := hin l hw
    refine ⟨j + 1, by omega, h1, fun i hin' hne => ?_⟩
    rw [hS']
    rcases h2 i hin' hne with rfl | h | h
    · simp
    · have := hlt i j h
      simp [hready i h]; omega
    · have h3 := hlt j i h
      have h4 : S i = false := by
        cases hq : S i with
        | false => rfl
        | true => rw [hdown j i h hq] at hS; cases hS
      simp [h4]; omega
  · obtain ⟨h1, h2⟩ := hout l hw
    obtain ⟨m, hm, hg, hc⟩ := hi l
    refine ⟨m, hm, h1.trans hg, fun i hin' hne => ?_⟩
    rw [hS']
    have hij : i ≠ j := fun e => by subst e; exact hne h2
    simp [hij, hc i hin' hne]

theorem Inv.all {S : Nat → Bool} {g : L → V} (hi : Inv n val S g) (hS : ∀ i, i < n → S i = true) (l : L) : g l = val n l :=
  hi.at (Nat.le_refl n) fun i h _ => ⟨fun _ => hS i h, fun _ => h⟩

theorem Inv.start {S : Nat → Bool} (hS : ∀ i, S i = false) : Inv n val S (val 0) := fun l => ⟨0, by omega, rfl, fun i _ _ => by simp [hS]⟩
end trace

/-! ### The run in the order of the text -/
def StepAt (cs : CallSem) (ao : AOper) (e : Env) (s : St) (v : Value) (e1 : Env) (s1 : St) (f : Foot) : Prop :=
  e1 = setE e ao.dst v ∧ ((wantedA ao e = some true ∧ ∃ av, ao.op.vals e.rd = some av ∧ evOper cs ao.op e s = some (v, s1) ∧ f = ⟨(footOf av).1, (footOf av).2, s, s1⟩) ∨
    (wantedA ao e = some false ∧ v = undefV ∧ s1 = s ∧ f = ⟨[], [], s, s⟩))

theorem run_steps {cs : CallSem} : ∀ {al : List AOper} {e e' : Env} {s s' : St} {fs : List Foot}, evOpsD cs al e s = some (fs, e', s') →
    ∃ (E : Nat → Env) (S : Nat → St) (V : Nat → Value), E 0 = e ∧ S 0 = s ∧ E al.length = e' ∧ S al.length = s' ∧ fs.length = al.length ∧
      ∀ i ao, al[i]? = some ao → ∃ f, fs[i]? = some f ∧ StepAt cs ao (E i) (S i) (V i) (E (i + 1)) (S (i + 1)) f := by
  intro al
  induction al with
  | nil =>
    intro e e' s s' fs h
    simp only [evOpsD, Option.some.injEq, Prod.mk.injEq] at h
    obtain ⟨rfl, rfl, rfl⟩ := h
    exact ⟨fun _ => e, fun _ => s, fun _ => undefV, rfl, rfl, rfl, rfl, rfl, fun i ao h => by simp at h⟩
  | cons ao al ih =>
    intro e e' s s' fs h
    simp only [evOpsD, Option.bind_eq_some_iff] at h
    obtain ⟨b, hb, h⟩ := h
    have fin : ∀ (v : Value) (s1 : St) (f : Foot) (q : List Foot × Env × St), StepAt cs ao e s v (setE e ao.dst v) s1 f → evOpsD cs al (setE e ao.dst v) s1 = some q → (f :: q.1, q.2) = (fs, e', s') →
        ∃ (E : Nat → Env) (S : Nat → St) (V : Nat → Value), E 0 = e ∧ S 0 = s ∧ E (ao :: al).length = e' ∧ S (ao :: al).length = s' ∧ fs.length = (ao :: al).length ∧
      ∀ i ao', (ao :: al)[i]? = some ao' → ∃ f, fs[i]? = some f ∧ StepAt cs ao' (E i) (S i) (V i) (E (i + 1)) (S (i + 1)) f := by
      intro v s1 f q hst hq he
      obtain ⟨fs1, e1, s2⟩ := q
      simp only [Prod.mk.injEq] at he
      obtain ⟨rfl, rfl, rfl⟩ := he
      obtain ⟨E, S, V, h1, h2, h3, h4, h5, h6⟩ := ih hq
      refine ⟨fun i => match i with | 0 => e | i + 1 => E i, fun i => match i with | 0 => s | i + 1 => S i, fun i => match i with | 0 => v | i + 1 => V i, rfl, rfl, h3, h4, by simp [h5], fun i ao' hi => ?_⟩
      cases i with
      | zero =>
        simp only [List.getElem?_cons_zero, Option.some.injEq] at hi
        subst hi
        refine ⟨f, rfl, ?_⟩
        simp only [Nat.zero_add]
        rw [h1, h2]; exact hst
      | succ i =>
        simp only [List.getElem?_cons_succ] at hi ⊢
        exact h6 i ao' hi
    cases b with
    | false =>
      simp only [Bool.false_eq_true, if_false, Option.map_eq_some_iff] at h
      obtain ⟨q, hq, he⟩ := h
      exact fin undefV s _ q ⟨rfl, .inr ⟨hb, rfl, rfl, rfl⟩⟩ hq he
    | true =>
      simp only [if_true, Option.bind_eq_some_iff, Option.map_eq_some_iff] at h
      obtain ⟨av, hav, p, hp, q, hq, he⟩ := h
      exact fin p.1 p.2 _ q ⟨rfl, .inl ⟨hb, av, hav, hp, rfl⟩⟩ hq he

/-! ### What may come before what -/
def mask (o : Oper) (acc : List Nat) : Nat := o.after.toList.foldl (fun s e => if Region.binds .any e then s ||| 2 ^ e.on ||| acc.getD e.on 0 else s) 0

def masks : List Oper → List Nat → List Nat
  | [], acc => acc
  | o :: r, acc => masks r (acc ++ [mask o acc])

inductive OK where
  | pure | act | writer | call
  deriving DecidableEq

def kindOf {α : Type} : AOp α → OK
  | .load _ _ | .lookup _ _ _ _ _ | .alloc _ _ | .box _ _ | .buildSlice _ _ _ _ _ | .mkMap _ | .mkSlice _ _ _ _ _ _ | .appendMake _ _ _ _ _ _ => .act
  | .slice (.slice _) _ _ _ _ => .act
  | .conv .toString _ => .act
  | .cap _ => .act
  | .conv .sameB _ => .act
  | .conv (.toBytes _) _ => .act
  | .len .map _ => .act
  | .store _ _ _ | .mapUpdate _ _ _ _ | .mapEntry _ _ _ _ | .entryStore _ _ _ | .append _ _ _ _ _ | .copy _ _ _ | .delete _ _ _ | .clear _ _ _ => .writer
  | .call _ _ => .call
  | _ => .pure

def tmpsOf (xs : List Operand) : List Nat := xs.filterMap fun | .tmp t => some t | _ => none

/-- The temporaries that an operation looks at, its own excepted. -/
def looks (o : AOper) : List Nat := tmpsOf o.op.ops ++ (match o.guard with | some (t, _) => [t] | none => [])

def apartA (x y : AOper) : Bool :=
  match x.dst with
  | some d => !(looks y).contains d && y.dst != some d
  | none => true

/-- Two that may come in either order. -/
def freeOk (d : Draw) (i j : Nat) (x y : AOper) : Bool :=
  apartA x y && (match kindOf x.op, kindOf y.op with
    | .writer, .call => false
    | .writer, .pure => true
    | .writer, _ => d.pairs.contains (i, j)
    | .call, .pure => true
    | .call, _ => d.quiet.contains i
    | _, _ => true)

def drawOk (ops : List Oper) (al : List AOper) (d : Draw) : Bool :=
  let m := masks ops []
  (ops.zipIdx.all fun p => p.1.after.toList.all fun e => !Region.binds .any e || decide (e.on < p.2)) &&
  (al.zipIdx.all fun q => al.zipIdx.all fun p => decide (q.2 ≤ p.2) || (m.getD q.2 0).testBit p.2 || (freeOk d p.2 q.2 p.1 q.1 && freeOk d q.2 p.2 q.1 p.1))


theorem kindOf_vals {α β : Type} {f : α → Option β} {op : AOp α} {av : AOp β} (h : op.vals f = some av) : kindOf av = kindOf op := by
  cases op <;> simp only [AOp.vals, Option.bind_eq_some_iff, Option.map_eq_some_iff, Option.some.injEq] at h
  case slice k x lo hi mx => obtain ⟨_, _, _, _, _, _, _, _, rfl⟩ := h; cases k <;> rfl
  case conv k x => obtain ⟨_, _, rfl⟩ := h; cases k <;> rfl
  case len k x => obtain ⟨_, _, rfl⟩ := h; cases k <;> rfl
  all_goals (first
    | (subst h; rfl)
    | (obtain ⟨_, _, rfl⟩ := h; rfl)
    | (obtain ⟨_, _, _, _, rfl⟩ := h; rfl)
    | (obtain ⟨_, _, _, _, _, _, rfl⟩ := h; rfl))

theorem wr_kind {av : AOp Value} {id : Nat} (h : id ∈ (footOf av).2) : kindOf av = .writer := by
  unfold footOf at h
  split at h <;> simp only [List.mem_singleton, List.not_mem_nil] at h <;> rfl

theorem rd_kind {av : AOp Value} {id : Nat} (h : id ∈ (footOf av).1 ∨ id ∈ (footOf av).2) : kindOf av ≠ .pure ∧ kindOf av ≠ .call := by
  unfold footOf at h
  split at h <;> simp only [List.mem_singleton, List.not_mem_nil, or_self, or_false, false_or] at h
  all_goals exact ⟨by simp [kindOf], by simp [kindOf]⟩

theorem pure_kind {g : HF} {nx : Nat} {av : AOp Value} {res : Res} (he : evP g nx av = some res) (hk : kindOf av = .pure) : res.upd = [] ∧ res.next = nx := by
  cases av <;> simp only [kindOf, reduceCtorEq] at hk <;> simp only [evP] at he
  all_goals (repeat' (split at he))
  all_goals (try simp only [Option.some.injEq, reduceCtorEq, Option.map_eq_some_iff, Option.bind_eq_some_iff] at he)
  all_goals (first
    | (subst he; exact ⟨rfl, rfl⟩)
    | (obtain ⟨_, _, rfl⟩ := he; exact ⟨rfl, rfl⟩)
    | (simp [kindOf] at hk; done)
    | (exact he.elim)
    | skip)

theorem firstL_none {g : HF} {sz m : Nat} {id o l c : Nat} {sp : Option Nat} (h : g id = none) : firstL g sz m (.slice (some ⟨id, o, sp⟩) l c) = none := by
  cases sp with
  | none => simp only [firstL, cellsAt, h]; split <;> rfl
  | some _ => rfl

theorem rd_live {g : HF} {nx : Nat} {av : AOp Value} {res : Res} (he : evP g nx av = some res) {id : Nat} (h : id ∈ (footOf av).1 ∨ id ∈ (footOf av).2) (hnone : g id = none) : False := by
  unfold footOf at h
  split at h <;> simp only [List.mem_singleton, List.not_mem_nil, or_self, or_false, false_or] at h
  · rename_i k a; subst h
    obtain ⟨b, o, sp⟩ := a
    cases sp <;> cases k <;> simp [evP, cellsAt, hnone] at he
  · rename_i k a x; subst h
    obtain ⟨b, o, sp⟩ := a
    cases sp <;> simp [evP, hnone] at he
  · rename_i a l c; subst h
    obtain ⟨b, o, sp⟩ := a
    cases sp <;> simp [evP, cellsAt, hnone] at he
  · rename_i sz a l c lo hi mx; subst h
    simp [evP, hnone] at he
  · rename_i kk z ok r k; subst h
    simp [evP, entriesOf, hnone] at he
  · rename_i kk r k v; subst h
    simp [evP, hnone] at he
  · rename_i kk z r k; subst h
    simp [evP, hnone] at he
  · rename_i r k v; subst h
    cases k <;> simp [evP] at he
    rename_i kk b
    cases kk <;> simp [evP, hnone] at he
  · rename_i r; subst h
    simp [evP, hnone] at he
  · rename_i e sz b x y
    rcases h with h | h
    · split at h
      · rename_i a l c
        simp only [List.mem_singleton] at h; subst h
        obtain ⟨b, o, sp⟩ := a
        cases x <;> simp [evP, firstL_none (g := g) hnone] at he
      · simp at h
    · split at h
      · rename_i a l c
        simp only [List.mem_singleton] at h; subst h
        obtain ⟨b, o, sp⟩ := a
        cases sp <;> simp [evP, hnone] at he
      · simp at h
  · rename_i sz x y
    rcases h with h | h
    · split at h
      · rename_i a l c
        simp only [List.mem_singleton] at h; subst h
        obtain ⟨b, o, sp⟩ := a
        cases x <;> simp [evP, firstL_none (g := g) hnone] at he
      · simp at h
    · split at h
      · rename_i a l c
        simp only [List.mem_singleton] at h; subst h
        obtain ⟨b, o, sp⟩ := a
        cases sp <;> simp [evP, hnone] at he
      · simp at h
  · rename_i kk r k; subst h
    simp [evP, hnone] at he
  · rename_i sz z x
    split at h
    · rename_i a l c
      simp only [List.mem_singleton] at h; subst h
      obtain ⟨b, o, sp⟩ := a
      cases sp <;> simp [evP, hnone] at he
    · simp at h
  · rename_i a l c; subst h
    obtain ⟨b, o, sp⟩ := a
    cases sp <;> simp [evP, hnone] at he
  · rename_i a l c n; subst h
    obtain ⟨b, o, sp⟩ := a
    cases sp <;> cases n
    all_goals (try rename_i k y; cases k)
    all_goals simp [evP, hnone] at he
  · rename_i x
    split at h
    · rename_i a l c
      simp only [List.mem_singleton] at h; subst h
      obtain ⟨b, o, sp⟩ := a
      cases sp <;> simp [evP, hnone] at he
    · simp at h

end Go.Abs
