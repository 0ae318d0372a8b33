/-
  The evaluator of code and of functions.
-/
import Derived.Test.YtlcfmfljmabaeaaA1
namespace Go.Abs
open Go

structure AOper where
  dst : Option Nat
  op : AOp Operand
  guard : Option (Nat × Bool)

structure Draw where
  pairs : List (Nat × Nat)
  quiet : List Nat
  /-- a call and an operation that may come on either side of it: what the operation reads or makes, the call does not turn -/
  apart : List (Nat × Nat)

inductive ACode where
  | skip
  | region (ops : List AOper) (draw : Option Draw)
  | seq (a b : ACode)
  | cond (c : Operand) (a b : ACode)
  | block (id : Nat) (body : ACode)
  | loop (live : List Nat) (body : ACode)
  | exit (id : Nat)
  | ret

inductive AExit where
  | normal | exit (id : Nat) | ret
  deriving DecidableEq

inductive ResK where
  | tmp (t : Nat)
  | cell (a : Nat) (n : Option Nat)

structure AFun where
  np : Nat
  body : ACode
  res : List ResK
  /-- 0: the state is handed on as it is; 1: where the result is flat and nothing old has turned, the call leaves the heap -/
  gc : Nat := 0

abbrev CallSem := FuncId → List Value → St → Option (Value × St)

def Env.rd (e : Env) : Operand → Option Value
  | .tmp t => e.get t
  | .const v => some v
  | .func f => some (.func (.func f) #[] #[])
  | .global _ => none

def applyUpd (h : Heap) : List (Nat × Option AObj) → Heap
  | [] => h
  | (i, o) :: r => applyUpd (h.put i o) r

def setE (e : Env) : Option Nat → Value → Env
  | some d, v => (d, v) :: e
  | none, _ => e

def wantedA (o : AOper) (e : Env) : Option Bool :=
  match o.guard with
  | none => some true
  | some (t, want) =>
    match e.get t with
    | some (.bool b) => some (b == want)
    | some (.tuple _) => some false
    | _ => none

def callee : Value → List Value → Option (FuncId × List Value)
  | .func (.func f) a c, args => some (f, a.toList ++ args ++ c.toList)
  | _, _ => none

def evOper (cs : CallSem) (op : AOp Operand) (e : Env) (s : St) : Option (Value × St) :=
  (op.vals e.rd).bind fun a =>
    match a with
    | .call f args => (callee f args).bind fun p => cs p.1 p.2 s
    | a => (evP s.heap.get s.next a).map fun r => (r.val, ⟨applyUpd s.heap r.upd, r.next⟩)

def evOps (cs : CallSem) : List AOper → Env → St → Option (Env × St)
  | [], e, s => some (e, s)
  | o :: r, e, s => (wantedA o e).bind fun w =>
    if w then (evOper cs o.op e s).bind fun p => evOps cs r (setE e o.dst p.1) p.2
    else evOps cs r (setE e o.dst undefV) s

def footOf : AOp Value → List Nat × List Nat
  | .load _ (.pointer (some a)) => ([a.block], [])
  | .store _ (.pointer (some a)) _ => ([], [a.block])
  | .conv .toString (.slice (some a) _ _) => ([a.block], [])
  | .slice (.slice _) (.slice (some a) _ _) _ _ _ => ([a.block], [])
  | .lookup _ _ _ (.map (some r)) _ => ([r], [])
  | .mapUpdate _ (.map (some r)) _ _ => ([], [r])
  | .mapEntry _ _ (.map (some r)) _ => ([], [r])
  | .entryStore (.map (some r)) _ _ => ([], [r])
  | .len .map (.map (some r)) => ([r], [])
  | .append _ _ _ x y =>
    ((match y with | .slice (some a) _ _ => [a.block] | _ => []), (match x with | .slice (some a) _ _ => [a.block] | _ => []))
  | .copy _ x y =>
    ((match y with | .slice (some a) _ _ => [a.block] | _ => []), (match x with | .slice (some a) _ _ => [a.block] | _ => []))
  | .delete _ (.map (some r)) _ => ([], [r])
  | .clear _ _ x => ([], (match x with | .slice (some a) _ _ => [a.block] | _ => []))
  | .cap (.slice (some a) _ _) => ([a.block], [])
  | .appendMake _ _ _ _ (.slice (some a) _ _) _ => ([a.block], [])
  | .conv .sameB x => ((match x with | .slice (some a) _ _ => [a.block] | _ => []), [])
  | _ => ([], [])

structure Foot where
  rd : List Nat
  wr : List Nat
  before : St
  after : St

def evOpsD (cs : CallSem) : List AOper → Env → St → Option (List Foot × Env × St)
  | [], e, s => some ([], e, s)
  | o :: r, e, s => (wantedA o e).bind fun w =>
    if w then (o.op.vals e.rd).bind fun a => (evOper cs o.op e s).bind fun p =>
      (evOpsD cs r (setE e o.dst p.1) p.2).map fun q => (⟨(footOf a).1, (footOf a).2, s, p.2⟩ :: q.1, q.2)
    else (evOpsD cs r (setE e o.dst undefV) s).map fun q => (⟨[], [], s, s⟩ :: q.1, q.2)

def disj (a b : List Nat) : Bool := a.all fun x => b.all fun y => decide (x ≠ y)

def pairOk (fs : List Foot) (p : Nat × Nat) : Bool :=
  match fs[p.1]?, fs[p.2]? with
  | some f, some g => disj f.wr g.rd && disj f.wr g.wr && disj f.wr (List.range' g.before.next (g.after.next - g.before.next))
  | _, _ => true

def Quiet (s s' : St) : Prop := ∀ id, (id < s.next ∨ s'.next ≤ id) → s'.heap.get id = s.heap.get id

def quietAt (fs : List Foot) (i : Nat) : Prop := ∀ f, fs[i]? = some f → Quiet f.before f.after

/-! A quick look whether a call left the old blocks alone: what the kernel can reckon. -/
def sameA : Value → Value → Bool
  | .bool a, .bool b => a == b
  | .int k a, .int k' b => decide (k = k') && a == b
  | .string a, .string b => a.data.toList == b.data.toList
  | .pointer a, .pointer b => decide (a = b)
  | .slice a n c, .slice b m d => decide (a = b) && n == m && c == d
  | .map a, .map b => decide (a = b)
  | .nilFunc, .nilFunc => true
  | .nilIface, .nilIface => true
  | _, _ => false

theorem sameA_eq {a b : Value} (h : sameA a b = true) : a = b := by
  unfold sameA at h
  split at h <;> simp only [Bool.and_eq_true, beq_iff_eq, decide_eq_true_eq, Bool.false_eq_true] at h
  · rw [h]
  · rw [h.1, h.2]
  · rename_i a b
    obtain ⟨⟨a⟩⟩ := a
    obtain ⟨⟨b⟩⟩ := b
    simp only at h
    rw [h]
  · rw [h]
  · rw [h.1.1, h.1.2, h.2]
  · rw [h]
  · rfl
  · rfl

def sameLA : List Value → List Value → Bool
  | [], [] => true
  | a :: as, b :: bs => sameA a b && sameLA as bs
  | _, _ => false

theorem sameLA_eq : ∀ {a b : List Value}, sameLA a b = true → a = b := by
  intro a
  induction a with
  | nil => intro b h; cases b with
    | nil => rfl
    | cons _ _ => simp [sameLA] at h
  | cons x a ih => intro b h; cases b with
    | nil => simp [sameLA] at h
    | cons y b => simp only [sameLA, Bool.and_eq_true] at h; rw [sameA_eq h.1, ih h.2]

def sameV : Value → Value → Bool
  | .agg a, .agg b => sameLA a.toList b.toList
  | a, b => sameA a b

theorem sameV_eq {a b : Value} (h : sameV a b = true) : a = b := by
  unfold sameV at h
  split at h
  · exact congrArg _ (Array.toList_inj.1 (sameLA_eq h))
  · exact sameA_eq h

def sameL : List Value → List Value → Bool
  | [], [] => true
  | a :: as, b :: bs => sameV a b && sameL as bs
  | _, _ => false

theorem sameL_eq : ∀ {a b : List Value}, sameL a b = true → a = b := by
  intro a
  induction a with
  | nil => intro b h; cases b with
    | nil => rfl
    | cons _ _ => simp [sameL] at h
  | cons x a ih => intro b h; cases b with
    | nil => simp [sameL] at h
    | cons y b => simp only [sameL, Bool.and_eq_true] at h; rw [sameV_eq h.1, ih h.2]

def sameE : List MapEntry → List MapEntry → Bool
  | [], [] => true
  | a :: as, b :: bs => sameV a.key b.key && sameV a.val b.val && a.born == b.born && sameE as bs
  | _, _ => false

theorem sameE_eq : ∀ {a b : List MapEntry}, sameE a b = true → a = b := by
  intro a
  induction a with
  | nil => intro b h; cases b with
    | nil => rfl
    | cons _ _ => simp [sameE] at h
  | cons x a ih => intro b h; cases b with
    | nil => simp [sameE] at h
    | cons y b =>
      simp only [sameE, Bool.and_eq_true, beq_iff_eq] at h
      obtain ⟨⟨⟨h1, h2⟩, h3⟩, h4⟩ := h
      obtain ⟨k, v, n⟩ := x
      obtain ⟨k', v', n'⟩ := y
      simp only at h1 h2 h3
      rw [sameV_eq h1, sameV_eq h2, h3, ih h4]

def sameO : Option AObj → Option AObj → Bool
  | none, none => true
  | some (.cells c t sz ro), some (.cells c' t' sz' ro') => sameL c c' && t == t' && sz == sz' && ro == ro'
  | some (.map es k), some (.map es' k') => sameE es es' && k == k'
  | _, _ => false

theorem sameO_eq {a b : Option AObj} (h : sameO a b = true) : a = b := by
  unfold sameO at h
  split at h
  · rfl
  · simp only [Bool.and_eq_true, beq_iff_eq] at h
    obtain ⟨⟨⟨h1, h2⟩, h3⟩, h4⟩ := h
    rw [sameL_eq h1, h2, h3, h4]
  · simp only [Bool.and_eq_true, beq_iff_eq] at h
    rw [sameE_eq h.1, h.2]
  · cases h

def grewB (n m : Nat) : Heap → Heap → Bool
  | [], r => r.all fun p => decide (n ≤ p.1) && decide (p.1 < m)
  | (i, o) :: h, (j, o') :: h' => i == j && sameO o o' && grewB n m h h'
  | _ :: _, [] => false

theorem grewB_get {n m : Nat} : ∀ {h h' : Heap}, grewB n m h h' = true → ∀ id, (id < n ∨ m ≤ id) → h'.get id = h.get id := by
  intro h
  induction h with
  | nil =>
    intro h' hg id hid
    simp only [grewB, List.all_eq_true, Bool.and_eq_true, decide_eq_true_eq] at hg
    induction h' with
    | nil => rfl
    | cons p h' ih =>
      obtain ⟨j, o⟩ := p
      have h1 := hg (j, o) (List.mem_cons_self ..)
      simp only at h1
      have hne : ¬ id = j := by omega
      simp only [Heap.get, hne, if_false]
      exact ih fun p hp => hg p (List.mem_cons_of_mem _ hp)
  | cons p h ih =>
    intro h' hg id hid
    obtain ⟨i, o⟩ := p
    cases h' with
    | nil => simp [grewB] at hg
    | cons q h' =>
      obtain ⟨j, o'⟩ := q
      simp only [grewB, Bool.and_eq_true, beq_iff_eq] at hg
      obtain ⟨⟨rfl, h2⟩, h3⟩ := hg
      simp only [Heap.get]
      split
      · exact (sameO_eq h2).symm
      · exact ih h3 id hid

def quietB (fs : List Foot) (i : Nat) : Bool :=
  match fs[i]? with
  | some f => grewB f.before.next f.after.next f.before.heap f.after.heap
  | none => true

theorem quietB_at {fs : List Foot} {i : Nat} (h : quietB fs i = true) : quietAt fs i := by
  intro f hf id hid
  unfold quietB at h
  rw [hf] at h
  exact grewB_get h id hid

def apartAt (fs : List Foot) (p : Nat × Nat) : Prop := ∀ f g, fs[p.1]? = some f → fs[p.2]? = some g → ∀ id, (id ∈ g.rd ∨ (g.before.next ≤ id ∧ id < g.after.next)) → f.after.heap.get id = f.before.heap.get id

def apartB (fs : List Foot) (p : Nat × Nat) : Bool :=
  match fs[p.1]?, fs[p.2]? with
  | some f, some g => (g.rd ++ List.range' g.before.next (g.after.next - g.before.next)).all fun id => sameO (f.after.heap.get id) (f.before.heap.get id)
  | _, _ => true

theorem apartB_at {fs : List Foot} {p : Nat × Nat} (h : apartB fs p = true) : apartAt fs p := by
  intro f g hf hg id hid
  unfold apartB at h
  rw [hf, hg] at h
  refine sameO_eq (List.all_eq_true.1 h id ?_)
  rcases hid with hid | hid
  · exact List.mem_append_left _ hid
  · refine List.mem_append_right _ ?_
    rw [List.mem_range'_1]
    omega

open Classical in
noncomputable def evDraw (cs : CallSem) (ops : List AOper) (d : Draw) (e : Env) (s : St) : Option (Env × St) :=
  (evOpsD cs ops e s).bind fun q =>
    if d.pairs.all (pairOk q.1) = true then
      (if (d.quiet.all (quietB q.1) && d.apart.all (apartB q.1)) = true then some q.2 else if (∀ i ∈ d.quiet, quietAt q.1 i) ∧ ∀ p ∈ d.apart, apartAt q.1 p then some q.2 else none)
    else none

theorem evDraw_spec {cs : CallSem} {ops : List AOper} {d : Draw} {e : Env} {s : St} {p : Env × St} (h : evDraw cs ops d e s = some p) :
    ∃ fs, evOpsD cs ops e s = some (fs, p) ∧ d.pairs.all (pairOk fs) = true ∧ (∀ i ∈ d.quiet, quietAt fs i) ∧ ∀ p ∈ d.apart, apartAt fs p := by
  unfold evDraw at h
  simp only [Option.bind_eq_some_iff] at h
  obtain ⟨⟨fs, q⟩, hq, h⟩ := h
  split at h
  case isFalse => cases h
  rename_i hp
  split at h
  · rename_i hem
    cases h
    rw [Bool.and_eq_true] at hem
    exact ⟨fs, hq, hp, fun i hi => quietB_at (List.all_eq_true.1 hem.1 i hi), fun i hi => apartB_at (List.all_eq_true.1 hem.2 i hi)⟩
  · split at h
    · rename_i hqu; cases h; exact ⟨fs, hq, hp, hqu.1, hqu.2⟩
    · cases h

theorem evDraw_mk {cs : CallSem} {ops : List AOper} {d : Draw} {e : Env} {s : St} {p : Env × St} {fs : List Foot} (h : evOpsD cs ops e s = some (fs, p)) (hp : d.pairs.all (pairOk fs) = true) (hq : (∀ i ∈ d.quiet, quietAt fs i) ∧ ∀ p ∈ d.apart, apartAt fs p) :
    evDraw cs ops d e s = some p := by
  unfold evDraw
  rw [h, Option.bind_some, if_pos hp]
  split
  · rfl
  · first | rfl | rw [if_pos hq]

def restrict (live : List Nat) (e : Env) : Env := live.filterMap fun t => (e.get t).map fun v => (t, v)

def iter (f : Env → St → Option (AExit × Env × St)) (live : List Nat) : Nat → Env → St → Option (AExit × Env × St)
  | 0, _, _ => none
  | k + 1, e, s => (f (restrict live e) s).bind fun q =>
    match q.1 with
    | .normal => iter f live k q.2.1 q.2.2
    | x => some (x, q.2)

noncomputable def evCode (cs : CallSem) (n : Nat) : ACode → Env → St → Option (AExit × Env × St)
  | .skip, e, s => some (.normal, e, s)
  | .region ops d, e, s =>
    match d with
    | none => (evOps cs ops e s).map fun q => (.normal, q)
    | some d => (evDraw cs ops d e s).map fun q => (.normal, q)
  | .seq a b, e, s => (evCode cs n a e s).bind fun q =>
    match q.1 with
    | .normal => evCode cs n b q.2.1 q.2.2
    | x => some (x, q.2)
  | .cond c a b, e, s =>
    match e.rd c with
    | some (.bool t) => if t then evCode cs n a e s else evCode cs n b e s
    | _ => none
  | .block id body, e, s => (evCode cs n body e s).map fun q => (if q.1 = .exit id then .normal else q.1, q.2)
  | .loop live body, e, s => iter (evCode cs n body) live n e s
  | .exit id, e, s => some (.exit id, e, s)
  | .ret, e, s => some (.ret, e, s)

def params : Nat → List Value → Env
  | _, [] => []
  | k, v :: r => (k, v) :: params (k + 1) r

def loadA (s : St) (n : Option Nat) (a : Value) : Option Value := (evP s.heap.get s.next (.load n a)).map (·.val)

def resV (e : Env) (s : St) : ResK → Option Value
  | .tmp t => e.get t
  | .cell a n => (e.get a).bind fun a => loadA s n a

def tupleV : List Value → Value
  | [v] => v
  | vs => .tuple vs.toArray

noncomputable def evFun (cs : CallSem) (n : Nat) (fn : AFun) (args : List Value) (s : St) : Option (Value × St) :=
  if args.length = fn.np then
    (evCode cs n fn.body (params 0 args) s).bind fun q =>
      match q.1 with
      | .exit _ => none
      | _ => (mapList (resV q.2.1 q.2.2) fn.res).map fun vs => (tupleV vs, q.2.2)
  else none

/-! ### what a call leaves behind -/
def atomV : Value → Bool
  | .bool _ | .int _ _ | .float _ _ | .complex _ _ _ | .string _ | .pointer none | .slice none _ _ | .map none | .chan none | .nilFunc | .nilIface => true
  | _ => false
def flatV : Nat → Value → Bool
  | 0, v => atomV v
  | n + 1, .tuple a => a.toList.all (flatV n)
  | n + 1, .agg a => a.toList.all (flatV n)
  | _ + 1, v => atomV v

def KeptAll (s s' : St) : Prop := ∀ id, id < s.next → s'.heap.get id = s.heap.get id
def keptB (s s' : St) : Bool := grewB s.next s'.next s.heap s'.heap
theorem keptB_all {s s' : St} (h : keptB s s' = true) : KeptAll s s' := fun id hid => grewB_get h id (.inl hid)

open Classical in
noncomputable def gcR (g : Nat) (s : St) (r : Value × St) : Value × St :=
  if g = 0 then r
  else if flatV 2 r.1 = true then
    (if keptB s r.2 = true then (r.1, ⟨s.heap, r.2.next⟩) else if KeptAll s r.2 then (r.1, ⟨s.heap, r.2.next⟩) else r)
  else r

theorem gcR_of {g : Nat} {s : St} {r : Value × St} (hg : g ≠ 0) (hf : flatV 2 r.1 = true) (hk : KeptAll s r.2) : gcR g s r = (r.1, ⟨s.heap, r.2.next⟩) := by
  unfold gcR
  rw [if_neg hg, if_pos hf]
  split
  · rfl
  · first | rfl | rw [if_pos hk]
theorem gcR_cases (g : Nat) (s : St) (r : Value × St) : gcR g s r = r ∨ (flatV 2 r.1 = true ∧ KeptAll s r.2 ∧ gcR g s r = (r.1, ⟨s.heap, r.2.next⟩)) := by
  unfold gcR
  split
  · exact .inl rfl
  · split
    · rename_i hf
      split
      · rename_i hb; exact .inr ⟨hf, keptB_all hb, rfl⟩
      · split
        · rename_i hk; exact .inr ⟨hf, hk, rfl⟩
        · exact .inl rfl
    · exact .inl rfl
theorem gcR_zero (s : St) (r : Value × St) : gcR 0 s r = r := rfl

noncomputable def call (tbl : FuncId → Option AFun) (ov : CallSem) : Nat → CallSem
  | 0 => fun _ _ _ => none
  | k + 1 => fun f args s =>
    match tbl f with
    | some fn => (evFun (call tbl ov k) k fn args s).map (gcR fn.gc s)
    | none => ov f args s

end Go.Abs
