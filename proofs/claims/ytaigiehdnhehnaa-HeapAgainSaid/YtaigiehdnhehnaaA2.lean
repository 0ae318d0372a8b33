/-
  The evaluator of code and of functions.
-/
import Derived.Test.YtaigiehdnhehnaaA1
namespace Go.Abs
open Go

structure AOper where
  dst : Option Nat
  op : AOp Operand
  guard : Option (Nat × Bool)

/-- Which pairs of a region that draws have to be looked at: one writes, the other reads or writes (indices); and which calls have to be quiet. -/
structure Draw where
  pairs : List (Nat × Nat)
  quiet : List Nat

inductive ACode where
  | skip
  | region (ops : List AOper) (draw : Option Draw)
  | seq (a b : ACode)
  | cond (c : Operand) (a b : ACode)
  | block (id : Nat) (body : ACode)
  | loop (live : List Nat) (body : ACode)
  | exit (id : Nat)
  | ret

inductive AExit where
  | normal | exit (id : Nat) | ret
  deriving DecidableEq

inductive ResK where
  | tmp (t : Nat)
  | cell (a : Nat) (n : Option Nat)

structure AFun where
  np : Nat
  body : ACode
  res : List ResK

abbrev CallSem := FuncId → List Value → St → Option (Value × St)

def Env.rd (e : Env) : Operand → Option Value
  | .tmp t => e.get t
  | .const v => some v
  | .func f => some (.func (.func f) #[] #[])
  | .global _ => none

def applyUpd (h : Heap) : List (Nat × Option AObj) → Heap
  | [] => h
  | (i, o) :: r => applyUpd (h.put i o) r

def setE (e : Env) : Option Nat → Value → Env
  | some d, v => (d, v) :: e
  | none, _ => e

def wantedA (o : AOper) (e : Env) : Option Bool :=
  match o.guard with
  | none => some true
  | some (t, want) =>
    match e.get t with
    | some (.bool b) => some (b == want)
    | some (.tuple _) => some false
    | _ => none

def callee : Value → List Value → Option (FuncId × List Value)
  | .func (.func f) a c, args => some (f, a.toList ++ args ++ c.toList)
  | _, _ => none

def evOper (cs : CallSem) (op : AOp Operand) (e : Env) (s : St) : Option (Value × St) :=
  (op.vals e.rd).bind fun a =>
    match a with
    | .call f args => (callee f args).bind fun p => cs p.1 p.2 s
    | a => (evP s.heap.get s.next a).map fun r => (r.val, ⟨applyUpd s.heap r.upd, r.next⟩)

def evOps (cs : CallSem) : List AOper → Env → St → Option (Env × St)
  | [], e, s => some (e, s)
  | o :: r, e, s => (wantedA o e).bind fun w =>
    if w then (evOper cs o.op e s).bind fun p => evOps cs r (setE e o.dst p.1) p.2
    else evOps cs r (setE e o.dst undefV) s

/-- Which blocks an operation reads and which of the old ones it writes. -/
def footOf : AOp Value → List Nat × List Nat
  | .load _ (.pointer (some a)) => ([a.block], [])
  | .store _ (.pointer (some a)) _ => ([], [a.block])
  | .conv .toString (.slice (some a) _ _) => ([a.block], [])
  | .slice (.slice _) (.slice (some a) _ _) _ _ _ => ([a.block], [])
  | .lookup _ _ _ (.map (some r)) _ => ([r], [])
  | .mapUpdate _ (.map (some r)) _ _ => ([], [r])
  | .mapEntry _ _ (.map (some r)) _ => ([], [r])
  | .entryStore (.map (some r)) _ _ => ([], [r])
  | .len .map (.map (some r)) => ([r], [])
  | .append _ _ _ x y =>
    ((match y with | .slice (some a) _ _ => [a.block] | _ => []), (match x with | .slice (some a) _ _ => [a.block] | _ => []))
  | .copy _ x y =>
    ((match y with | .slice (some a) _ _ => [a.block] | _ => []), (match x with | .slice (some a) _ _ => [a.block] | _ => []))
  | .delete _ (.map (some r)) _ => ([], [r])
  | _ => ([], [])

structure Foot where
  rd : List Nat
  wr : List Nat
  before : St
  after : St

def evOpsD (cs : CallSem) : List AOper → Env → St → Option (List Foot × Env × St)
  | [], e, s => some ([], e, s)
  | o :: r, e, s => (wantedA o e).bind fun w =>
    if w then (o.op.vals e.rd).bind fun a => (evOper cs o.op e s).bind fun p =>
      (evOpsD cs r (setE e o.dst p.1) p.2).map fun q => (⟨(footOf a).1, (footOf a).2, s, p.2⟩ :: q.1, q.2)
    else (evOpsD cs r (setE e o.dst undefV) s).map fun q => (⟨[], [], s, s⟩ :: q.1, q.2)

def disj (a b : List Nat) : Bool := a.all fun x => b.all fun y => decide (x ≠ y)

/-- i writes; j reads or writes. -/
def pairOk (fs : List Foot) (p : Nat × Nat) : Bool :=
  match fs[p.1]?, fs[p.2]? with
  | some f, some g => disj f.wr g.rd && disj f.wr g.wr && disj f.wr (List.range' g.before.next (g.after.next - g.before.next))
  | _, _ => true

def Quiet (s s' : St) : Prop := ∀ id, (id < s.next ∨ s'.next ≤ id) → s'.heap.get id = s.heap.get id

def quietAt (fs : List Foot) (i : Nat) : Prop := ∀ f, fs[i]? = some f → Quiet f.before f.after

open Classical in
noncomputable def evDraw (cs : CallSem) (ops : List AOper) (d : Draw) (e : Env) (s : St) : Option (Env × St) :=
  (evOpsD cs ops e s).bind fun q =>
    if d.pairs.all (pairOk q.1) = true then
      (if d.quiet.isEmpty = true then some q.2 else if ∀ i ∈ d.quiet, quietAt q.1 i then some q.2 else none)
    else none

theorem evDraw_spec {cs : CallSem} {ops : List AOper} {d : Draw} {e : Env} {s : St} {p : Env × St} (h : evDraw cs ops d e s = some p) :
    ∃ fs, evOpsD cs ops e s = some (fs, p) ∧ d.pairs.all (pairOk fs) = true ∧ ∀ i ∈ d.quiet, quietAt fs i := by
  unfold evDraw at h
  simp only [Option.bind_eq_some_iff] at h
  obtain ⟨⟨fs, q⟩, hq, h⟩ := h
  split at h
  case isFalse => cases h
  rename_i hp
  split at h
  · rename_i hem
    cases h
    exact ⟨fs, hq, hp, fun i hi => by rw [List.isEmpty_iff.1 hem] at hi; cases hi⟩
  · split at h
    · rename_i hqu; cases h; exact ⟨fs, hq, hp, hqu⟩
    · cases h

theorem evDraw_mk {cs : CallSem} {ops : List AOper} {d : Draw} {e : Env} {s : St} {p : Env × St} {fs : List Foot} (h : evOpsD cs ops e s = some (fs, p)) (hp : d.pairs.all (pairOk fs) = true) (hq : ∀ i ∈ d.quiet, quietAt fs i) :
    evDraw cs ops d e s = some p := by
  unfold evDraw
  rw [h, Option.bind_some, if_pos hp]
  split
  · rfl
  · first | rfl | rw [if_pos hq]

def restrict (live : List Nat) (e : Env) : Env := live.filterMap fun t => (e.get t).map fun v => (t, v)

def iter (f : Env → St → Option (AExit × Env × St)) (live : List Nat) : Nat → Env → St → Option (AExit × Env × St)
  | 0, _, _ => none
  | k + 1, e, s => (f (restrict live e) s).bind fun q =>
    match q.1 with
    | .normal => iter f live k q.2.1 q.2.2
    | x => some (x, q.2)

noncomputable def evCode (cs : CallSem) (n : Nat) : ACode → Env → St → Option (AExit × Env × St)
  | .skip, e, s => some (.normal, e, s)
  | .region ops d, e, s =>
    match d with
    | none => (evOps cs ops e s).map fun q => (.normal, q)
    | some d => (evDraw cs ops d e s).map fun q => (.normal, q)
  | .seq a b, e, s => (evCode cs n a e s).bind fun q =>
    match q.1 with
    | .normal => evCode cs n b q.2.1 q.2.2
    | x => some (x, q.2)
  | .cond c a b, e, s =>
    match e.rd c with
    | some (.bool t) => if t then evCode cs n a e s else evCode cs n b e s
    | _ => none
  | .block id body, e, s => (evCode cs n body e s).map fun q => (if q.1 = .exit id then .normal else q.1, q.2)
  | .loop live body, e, s => iter (evCode cs n body) live n e s
  | .exit id, e, s => some (.exit id, e, s)
  | .ret, e, s => some (.ret, e, s)

def params : Nat → List Value → Env
  | _, [] => []
  | k, v :: r => (k, v) :: params (k + 1) r

def loadA (s : St) (n : Option Nat) (a : Value) : Option Value := (evP s.heap.get s.next (.load n a)).map (·.val)

def resV (e : Env) (s : St) : ResK → Option Value
  | .tmp t => e.get t
  | .cell a n => (e.get a).bind fun a => loadA s n a

def tupleV : List Value → Value
  | [v] => v
  | vs => .tuple vs.toArray

noncomputable def evFun (cs : CallSem) (n : Nat) (fn : AFun) (args : List Value) (s : St) : Option (Value × St) :=
  if args.length = fn.np then
    (evCode cs n fn.body (params 0 args) s).bind fun q =>
      match q.1 with
      | .exit _ => none
      | _ => (mapList (resV q.2.1 q.2.2) fn.res).map fun vs => (tupleV vs, q.2.2)
  else none

noncomputable def call (tbl : FuncId → Option AFun) (ov : CallSem) : Nat → CallSem
  | 0 => fun _ _ _ => none
  | k + 1 => fun f args s =>
    match tbl f with
    | some fn => evFun (call tbl ov k) k fn args s
    | none => ov f args s

end Go.Abs
