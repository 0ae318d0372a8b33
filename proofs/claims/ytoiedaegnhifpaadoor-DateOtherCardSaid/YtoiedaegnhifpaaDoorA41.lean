/-
  slices.Insert as a call whose answer is known: the slice's real room does not show.
-/
import Derived.Test.YtoiedaegnhifpaaDoorA38
set_option linter.unusedVariables false
set_option linter.unusedSimpArgs false
set_option maxRecDepth 100000
namespace Go.Abs
open Go Go.Abs.K

def sliceOk (sz : Nat) (s : St) : Option Addr → Bool
  | none => true
  | some ad => match s.heap.get ad.block with
    | some (.cells _ _ z ro) => decide (ad.spot = none) && (ro || z == sz)
    | _ => false

def insEnd (e : TypeId) (sz b : Nat) (s : St) (a : Option Addr) (n c yb oy yc : Nat) : Option (Value × St) :=
  if n ≤ c ∧ sliceOk sz s a = true then
    (evP s.heap.get s.next (.append e sz b (.slice a n c) (.slice (some ⟨yb, oy, none⟩) 1 yc))).map fun r => (r.val, ⟨applyUpd s.heap r.upd, r.next⟩)
  else none

def insMid (e : TypeId) (sz b : Nat) (s : St) (id oo n c k yb oy : Nat) : Option (Value × St) :=
  match s.heap.get id, s.heap.get yb with
  | some (.cells cs t z false), some (.cells ys ty zy false) =>
    if id ≠ yb ∧ z = sz ∧ 1 < zy ∧ t = e ∧ cs.all primV = true ∧ ys.all primV = true ∧ oy + sz ≤ ys.length ∧ n ≤ c ∧ oo + c * sz ≤ cs.length ∧ tooBig (n + 1) b = false then
      some (if n + 1 ≤ c then (.slice (some ⟨id, oo, none⟩) (n + 1) c, ⟨s.heap.put id (some (.cells (insPlace cs oo k n sz ((ys.drop oy).take sz)) e sz false)), s.next⟩)
        else (.slice (some ⟨s.next, 0, none⟩) (n + 1) (n + 1), ⟨applyUpd s.heap [(s.next, some (.cells (insGrow cs oo k n sz ((ys.drop oy).take sz)) e sz false)), (id, none)], s.next + 1⟩))
    else none
  | _, _ => none

def insSem (ki : FuncId) (e : TypeId) (sz b : Nat) : CallSem := fun f args s =>
  if f = ki ∧ 1 < sz ∧ sz < 4294967296 then
    match args with
    | [.slice a n c, .int .i64 i, .slice (some ⟨yb, oy, none⟩) 1 yc] =>
      if i = (n : Int) then insEnd e sz b s a n c yb oy yc
      else if 0 ≤ i ∧ i < (n : Int) then
        match a with
        | some ⟨id, oo, none⟩ => insMid e sz b s id oo n c i.toNat yb oy
        | _ => none
      else none
    | _ => none
  else none

/-! ### The world's side -/

theorem prim_get {l : List Value} (h : l.all primV = true) {i : Nat} (hi : i < l.length) : primV l[i] = true := List.all_eq_true.1 h _ (List.getElem_mem hi)

theorem ORel.prim {β β' : Map} {r : Rec} {c : List Value} {t : TypeId} {sz : Nat} {ro : Bool} {q : Option Obj} (h : ORel β r (.cells c t sz ro) q) (hp : c.all primV = true) : ORel β' r (.cells c t sz ro) q := by
  obtain ⟨C, fr, rfl, h1, h2, h3, h4, h5, h6⟩ := h.cells_inv
  refine ⟨rfl, h1, h2, h3, h4, fun i hi => ?_, h6⟩
  obtain ⟨y, hy, hv⟩ := h5 i hi
  exact ⟨y, hy, by rw [prim_inv (prim_get hp hi) hv]; exact .prim _ (prim_get hp hi)⟩

section
variable {β : Map} {h : HF} {w w' : World} {n id yb : Nat} {r ry rn : Rec} {ob oy o' : AObj}
end

end Go.Abs


/-
  slices.Insert as a call whose answer is known.
-/
set_option linter.unusedVariables false
set_option linter.unusedSimpArgs false
set_option maxRecDepth 100000
namespace Go.Abs
open Go Go.Abs.K

theorem insPlace_eq (c : List Value) (o k n sz : Nat) (row : List Value) (h : o + k * sz ≤ c.length) : insPlace c o k n sz row = c.take o ++ insGrow c o k n sz row ++ c.drop (o + (n + 1) * sz) := by
  unfold insPlace insGrow
  rw [List.take_add]
  simp only [List.append_assoc]

theorem insGrow_length (c : List Value) (o k n sz : Nat) (row : List Value) (hr : row.length = sz) (hk : k ≤ n) (h : o + n * sz ≤ c.length) : (insGrow c o k n sz row).length = (n + 1) * sz := by
  have h1 : k * sz + (n - k) * sz = n * sz := by rw [← Nat.add_mul]; congr 1; omega
  have h2 : (n + 1) * sz = n * sz + sz := by rw [Nat.add_mul, Nat.one_mul]
  unfold insGrow
  simp only [List.length_append, List.length_take, List.length_drop, hr]
  omega

theorem all_mid {p : Value → Bool} {c ys : List Value} {o k n sz : Nat} (hc : c.all p = true) (hy : ys.all p = true) : (insPlace c o k n sz ys).all p = true := by
  simp only [List.all_eq_true] at hc hy ⊢
  intro x hx
  unfold insPlace at hx
  simp only [List.mem_append] at hx
  rcases hx with ((hx | hx) | hx) | hx
  · exact hc _ (List.mem_of_mem_take hx)
  · exact hy _ hx
  · exact hc _ (List.mem_of_mem_drop (List.mem_of_mem_take hx))
  · exact hc _ (List.mem_of_mem_drop hx)
theorem all_grow {p : Value → Bool} {c ys : List Value} {o k n sz : Nat} (hc : c.all p = true) (hy : ys.all p = true) : (insGrow c o k n sz ys).all p = true := by
  simp only [List.all_eq_true] at hc hy ⊢
  intro x hx
  unfold insGrow at hx
  simp only [List.mem_append] at hx
  rcases hx with (hx | hx) | hx
  · exact hc _ (List.mem_of_mem_drop (List.mem_of_mem_take hx))
  · exact hy _ hx
  · exact hc _ (List.mem_of_mem_drop (List.mem_of_mem_take hx))

end Go.Abs


/-
  slices.Insert: the call whose answer is known, whole. And such calls side by side.
-/
set_option linter.unusedVariables false
set_option linter.unusedSimpArgs false
set_option maxRecDepth 100000
namespace Go.Abs
open Go Go.Abs.K

def orSem (a b : CallSem) : CallSem := fun f args s =>
  match a f args s with
  | some r => some r
  | none => b f args s

theorem or_good {P : Program} {a b : CallSem} (ha : GoodCalls P a ∧ GoodWF a) (hb : GoodCalls P b ∧ GoodWF b) : GoodCalls P (orSem a b) ∧ GoodWF (orSem a b) := by
  refine ⟨fun f args s v s' hws hq => ?_, fun f args s v s' hq hws => ?_⟩
  · unfold orSem at hq
    split at hq
    · rename_i r hr
      cases hq
      exact ha.1 _ _ _ _ _ hws hr
    · exact hb.1 _ _ _ _ _ hws hq
  · unfold orSem at hq
    split at hq
    · rename_i r hr
      cases hq
      exact ha.2 _ _ _ _ _ hr hws
    · exact hb.2 _ _ _ _ _ hq hws

open Go.RowKit Go.ChangeShapes Go.WideShapes in
theorem law_calls1 {P : Program} {tbl : FuncId → Option AFun} {ov : CallSem} (h : TableOK P tbl ov) {f : FuncId} {fn : AFun} (hf : tbl f = some fn) {vs args : List Value} {s : St} {β : Map} {w : World} {v : Value} (hp : primV v = true)
    (k : Nat) (hw : (call tbl ov (k + 1) f vs s).map (fun r => r.1) = some v) (hs : Sim β s.heap.get w) (hro : ∀ id o, s.heap.get id = some o → o.isRo = true) (hfr : ∀ id, s.next ≤ id → β id = none) (hwf : WFs s) (ha : LRel β vs args) :
    Calls P f args.toArray w fun e w' => e = .returned v ∧ Below w.heap.size w w' := by
  obtain ⟨⟨u, s'⟩, he, rfl⟩ := Option.map_eq_some_iff.1 hw
  obtain ⟨h1, h2, h3⟩ := call_ok h hf hwf he
  refine (h3 β w args hs (fun id h1 _ => hfr id h1) ha).mono ?_
  rintro e w' ⟨v', β', rfl, hv, hs', hst⟩
  refine ⟨by rw [prim_inv hp hv], hst.os, hst.tape, hst.output, hst.size, fun k hk => hst.frame k hk ?_⟩
  rintro ⟨id, r, o, _, ho, hr, _⟩
  rw [hro id o ho] at hr; cases hr

theorem FunOK.gc {P : Program} {f : FuncId} {fn : AFun} (h : FunOK P f fn) (g : Nat) : FunOK P f { fn with gc := g } := ⟨h.ok⟩

end Go.Abs
