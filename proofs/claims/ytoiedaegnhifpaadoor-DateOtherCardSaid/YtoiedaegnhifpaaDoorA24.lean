/-
  The predicate transformer, rule by rule, with the continuations behind names: so a walk by 'simp only' goes forward and never ahead of itself.
-/
import Derived.Test.YtoiedaegnhifpaaDoorA23
set_option linter.unusedVariables false
set_option linter.unusedSimpArgs false
namespace Go.Abs
open Go

def bindP {α : Type} (x : Option α) (f : α → Prop) : Prop := match x with | none => False | some a => f a
theorem bindP_some {α : Type} (a : α) (f : α → Prop) : bindP (some a) f = f a := rfl
def ret (s : St) (K : Value → St → Prop) (v : Value) : Prop := K v s
theorem ret_apply (s : St) (K : Value → St → Prop) (v : Value) : ret s K v = K v s := rfl

def cont (cs : Nat → CallSem) (d : Option Nat) (r : List AOper) (e : Env) (Q : Env → St → Prop) (v : Value) (s : St) : Prop := WOps cs r (setE e d v) s Q
theorem cont_some (cs : Nat → CallSem) (d : Nat) (r : List AOper) (e : Env) (Q : Env → St → Prop) (v : Value) (s : St) : cont cs (some d) r e Q v s = WOps cs r ((d, v) :: e) s Q := rfl
theorem cont_none (cs : Nat → CallSem) (r : List AOper) (e : Env) (Q : Env → St → Prop) (v : Value) (s : St) : cont cs none r e Q v s = WOps cs r e s Q := rfl

def wvals (cs : Nat → CallSem) (s : St) (K : Value → St → Prop) (a : AOp Value) : Prop := WVals cs s K a

def guardV (v : Option Value) (want : Bool) : Option Bool :=
  match v with
  | some (.bool b) => some (b == want)
  | some (.tuple _) => some false
  | _ => none
theorem guardV_bool (b want : Bool) : guardV (some (.bool b)) want = some (b == want) := rfl
theorem guardV_undef (want : Bool) : guardV (some undefV) want = some false := rfl

def gcont (cs : Nat → CallSem) (d : Option Nat) (op : AOp Operand) (r : List AOper) (e : Env) (s : St) (Q : Env → St → Prop) (b : Bool) : Prop :=
  match b with
  | true => WOp cs op e s (cont cs d r e Q)
  | false => WOps cs r (setE e d undefV) s Q
theorem gcont_true (cs : Nat → CallSem) (d : Option Nat) (op : AOp Operand) (r : List AOper) (e : Env) (s : St) (Q : Env → St → Prop) : gcont cs d op r e s Q true = WOp cs op e s (cont cs d r e Q) := rfl
theorem gcont_false (cs : Nat → CallSem) (d : Nat) (op : AOp Operand) (r : List AOper) (e : Env) (s : St) (Q : Env → St → Prop) : gcont cs (some d) op r e s Q false = WOps cs r ((d, undefV) :: e) s Q := rfl
theorem gcont_false' (cs : Nat → CallSem) (op : AOp Operand) (r : List AOper) (e : Env) (s : St) (Q : Env → St → Prop) : gcont cs none op r e s Q false = WOps cs r e s Q := rfl

theorem wo_nil (cs : Nat → CallSem) (e : Env) (s : St) (Q : Env → St → Prop) : WOps cs [] e s Q = Q e s := rfl
theorem wo_cons (cs : Nat → CallSem) (d : Option Nat) (op : AOp Operand) (r : List AOper) (e : Env) (s : St) (Q : Env → St → Prop) : WOps cs (⟨d, op, none⟩ :: r) e s Q = WOp cs op e s (cont cs d r e Q) := rfl
theorem wo_guard (cs : Nat → CallSem) (d : Option Nat) (op : AOp Operand) (t : Nat) (want : Bool) (r : List AOper) (e : Env) (s : St) (Q : Env → St → Prop) :
    WOps cs (⟨d, op, some (t, want)⟩ :: r) e s Q = bindP (guardV (e.get t) want) (gcont cs d op r e s Q) := by
  simp only [WOps, wantedA, guardV]
  cases e.get t with
  | none => rfl
  | some v =>
    cases v <;> try rfl
    rename_i b
    cases b <;> cases want <;> rfl

theorem wop (cs : Nat → CallSem) (op : AOp Operand) (e : Env) (s : St) (K : Value → St → Prop) : WOp cs op e s K = bindP (op.vals e.rd) (wvals cs s K) := by
  unfold WOp bindP wvals; cases op.vals e.rd <;> rfl

/-! ### reading operands -/
theorem rd_tmp (e : Env) (t : Nat) : e.rd (.tmp t) = e.get t := rfl
theorem rd_const (e : Env) (v : Value) : e.rd (.const v) = some v := rfl
theorem rd_func (e : Env) (f : FuncId) : e.rd (.func f) = some (.func (.func f) #[] #[]) := rfl

/-! ### operation by operation -/
def cellAt (h : Heap) (id o : Nat) : Option Value := match h.get id with | some (.cells c _ _ _) => c[o]? | _ => none
def rowAt (h : Heap) (id o n : Nat) : Option (List Value) := cellsAt h.get id o n
def aggK (s : St) (K : Value → St → Prop) (l : List Value) : Prop := K (.agg l.toArray) s
def storeAt (h : Heap) (id o n : Nat) (x : List Value) : Option AObj :=
  match h.get id with
  | some (.cells c t sz false) => if x.length = n ∧ x.all isCell = true ∧ o + n ≤ c.length then some (.cells (storeL c o x) t sz false) else none
  | _ => none
def putK (s : St) (id : Nat) (K : Value → St → Prop) (o : AObj) : Prop := K undefV ⟨s.heap.put id (some o), s.next⟩
def resK (s : St) (K : Value → St → Prop) (r : Res) : Prop := K r.val ⟨applyUpd s.heap r.upd, r.next⟩
def boolK (neg : Bool) (s : St) (K : Value → St → Prop) (b : Bool) : Prop := K (.bool (b != neg)) s
def ccont (cs : Nat → CallSem) (s : St) (K : Value → St → Prop) (p : FuncId × List Value) : Prop := WCall cs p.1 p.2 s K

section
variable (cs : Nat → CallSem) (s : St) (K : Value → St → Prop)
theorem aggK_apply (l : List Value) : aggK s K l = K (.agg l.toArray) s := rfl
theorem putK_apply (id : Nat) (o : AObj) : putK s id K o = K undefV ⟨s.heap.put id (some o), s.next⟩ := rfl
theorem resK_apply (r : Res) : resK s K r = K r.val ⟨applyUpd s.heap r.upd, r.next⟩ := rfl
theorem boolK_apply (neg b : Bool) : boolK neg s K b = K (.bool (b != neg)) s := rfl
theorem ccont_apply (f : FuncId) (as : List Value) : ccont cs s K (f, as) = WCall cs f as s K := rfl

theorem wp_bind (g : Option Res) : WP g s.heap K = bindP g (resK s K) := by cases g <;> rfl
theorem wv_other (a : AOp Value) (h : ∀ f as, a ≠ .call f as) : wvals cs s K a = bindP (evP s.heap.get s.next a) (resK s K) := by
  show WVals cs s K a = _
  cases a
  case call f as => exact (h f as rfl).elim
  all_goals (first | exact wp_bind s K _ | rfl)
theorem wv_mov (x : Value) : wvals cs s K (.mov x) = K x s := rfl
theorem wv_pick (b : Bool) (x y : Value) : wvals cs s K (.pick (.bool b) x y) = K (if b then x else y) s := rfl
theorem wv_alloc (t : TypeId) (z : List Value) : wvals cs s K (.alloc t z) = K (.pointer (some ⟨s.next, 0, none⟩)) ⟨s.heap.put s.next (some (.cells z t 0 false)), s.next + 1⟩ := rfl
theorem wv_box (t : TypeId) (x : Value) : wvals cs s K (.box t x) = K (.pointer (some ⟨s.next, 0, none⟩)) ⟨s.heap.put s.next (some (.cells (cellList x) t 0 false)), s.next + 1⟩ := rfl
theorem wv_build (z : List Value) (ps : List (Nat × Nat × Value)) : wvals cs s K (.build z ps) = bindP (fillL z ps) (aggK s K) := by
  rw [wv_other cs s K _ (by intro _ _ h; cases h)]
  simp only [evP]
  cases fillL z ps <;> rfl
theorem wv_load (id o : Nat) : wvals cs s K (.load none (.pointer (some ⟨id, o, none⟩))) = bindP (cellAt s.heap id o) (ret s K) := by
  rw [wv_other cs s K _ (by intro _ _ h; cases h)]
  simp only [evP, cellAt]
  cases s.heap.get id with
  | none => rfl
  | some ob =>
    cases ob <;> try rfl
    rename_i c _ _ _
    simp only
    cases c[o]? <;> rfl
theorem wv_loadn (id o n : Nat) : wvals cs s K (.load (some n) (.pointer (some ⟨id, o, none⟩))) = bindP (rowAt s.heap id o n) (aggK s K) := by
  rw [wv_other cs s K _ (by intro _ _ h; cases h)]
  simp only [evP, rowAt]
  cases cellsAt s.heap.get id o n <;> rfl
theorem wv_store (n id o : Nat) (x : Value) : wvals cs s K (.store n (.pointer (some ⟨id, o, none⟩)) x) = bindP (storeAt s.heap id o n (cellList x)) (putK s id K) := by
  rw [wv_other cs s K _ (by intro _ _ h; cases h)]
  simp only [evP, storeAt]
  cases s.heap.get id with
  | none => rfl
  | some ob =>
    cases ob <;> try rfl
    rename_i c _ _ ro
    cases ro <;> try rfl
    simp only
    split <;> rfl
theorem wv_nilCheck (a : Addr) : wvals cs s K (.nilCheck (.pointer (some a))) = K (.pointer (some a)) s := rfl
theorem wv_bin (op : BinOp) (x y : Value) : wvals cs s K (.bin op x y) = bindP (binV op x y) (ret s K) := by
  rw [wv_other cs s K _ (by intro _ _ h; cases h)]
  simp only [evP]
  cases binV op x y <;> rfl
theorem wv_eq (neg : Bool) (k : EqK) (x y : Value) : wvals cs s K (.eq neg k x y) = bindP (eqV k x y) (boolK neg s K) := by
  rw [wv_other cs s K _ (by intro _ _ h; cases h)]
  simp only [evP]
  cases eqV k x y <;> rfl
theorem wv_un (op : UnOp) (x : Value) : wvals cs s K (.un op x) = bindP (unV op x) (ret s K) := by
  rw [wv_other cs s K _ (by intro _ _ h; cases h)]
  simp only [evP]
  cases unV op x <;> rfl
theorem wv_convInt (k k' : IntKind) (n : Int) : wvals cs s K (.conv (.int k) (.int k' n)) = K (.int k (k.wrap n)) s := rfl
theorem wv_convSame (x : ByteArray) : wvals cs s K (.conv .same (.string x)) = K (.string x) s := rfl
theorem wv_fieldAddr (off id o : Nat) : wvals cs s K (.fieldAddr off (.pointer (some ⟨id, o, none⟩))) = K (.pointer (some ⟨id, o + off, none⟩)) s := rfl
theorem wv_field (off : Nat) (c : Array Value) : wvals cs s K (.field off none (.agg c)) = bindP (c.toList[off]?) (ret s K) := by
  rw [wv_other cs s K _ (by intro _ _ h; cases h)]
  simp only [evP]
  cases c.toList[off]? <;> rfl
theorem wv_fieldn (off n : Nat) (c : Array Value) : wvals cs s K (.field off (some n) (.agg c)) = K (.agg ((c.toList.drop off).take n).toArray) s := rfl
theorem wv_extract (vs : Array Value) (i : Nat) : wvals cs s K (.extract (.tuple vs) i) = bindP (vs.toList[i]?) (ret s K) := by
  rw [wv_other cs s K _ (by intro _ _ h; cases h)]
  simp only [evP]
  cases vs.toList[i]? <;> rfl
theorem wv_lenSlice (a : Option Addr) (n c : Nat) : wvals cs s K (.len .slice (.slice a n c)) = K (.int .i64 n) s := rfl
theorem wv_lenString (x : ByteArray) : wvals cs s K (.len .string (.string x)) = K (.int .i64 x.size) s := rfl
theorem wv_rangeStr (x : ByteArray) : wvals cs s K (.rangeStr (.string x)) = K (.pointer (some ⟨s.next, 0, none⟩)) ⟨s.heap.put s.next (some (.iter x 0)), s.next + 1⟩ := rfl
theorem wv_nextStr (x : Value) : wvals cs s K (.nextStr x) = bindP (evP s.heap.get s.next (.nextStr x)) (resK s K) := wv_other cs s K _ (by intro _ _ h; cases h)
theorem wv_mkMap (h : Option Value) : wvals cs s K (.mkMap h) = K (.map (some s.next)) ⟨s.heap.put s.next (some (.map [] 0)), s.next + 1⟩ := rfl
theorem wv_call (f : Value) (as : List Value) : wvals cs s K (.call f as) = bindP (callee f as) (ccont cs s K) := by
  show WVals cs s K _ = _
  simp only [WVals]
  cases callee f as <;> rfl
theorem callee_func (f : FuncId) (as : List Value) : callee (.func (.func f) #[] #[]) as = some (f, as) := by simp [callee]

def idx (sz len : Nat) (i : Int) (id o : Nat) : Option Value := if 0 ≤ i ∧ i < (len : Int) then some (.pointer (some ⟨id, o + i.toNat * sz, none⟩)) else none
theorem wv_indexAddr (sz id o len cap : Nat) (k : IntKind) (i : Int) : wvals cs s K (.indexAddr sz (.slice (some ⟨id, o, none⟩) len cap) (.int k i)) = bindP (idx sz len i id o) (ret s K) := by
  rw [wv_other cs s K _ (by intro _ _ h; cases h)]
  simp only [evP, idx]
  split <;> rfl
theorem wv_lookup (kk : KeyK) (z : Value) (ok : Bool) (x k : Value) : wvals cs s K (.lookup kk z ok x k) = bindP (evP s.heap.get s.next (.lookup kk z ok x k)) (resK s K) := wv_other cs s K _ (by intro _ _ h; cases h)
theorem wv_mapUpdate (kk : KeyK) (m k v : Value) : wvals cs s K (.mapUpdate kk m k v) = bindP (evP s.heap.get s.next (.mapUpdate kk m k v)) (resK s K) := wv_other cs s K _ (by intro _ _ h; cases h)
theorem wv_mapEntry (kk : KeyK) (z m k : Value) : wvals cs s K (.mapEntry kk z m k) = bindP (evP s.heap.get s.next (.mapEntry kk z m k)) (resK s K) := wv_other cs s K _ (by intro _ _ h; cases h)
theorem wv_entryStore (m x v : Value) : wvals cs s K (.entryStore m x v) = bindP (evP s.heap.get s.next (.entryStore m x v)) (resK s K) := wv_other cs s K _ (by intro _ _ h; cases h)
theorem wv_delete (kk : KeyK) (m k : Value) : wvals cs s K (.delete kk m k) = bindP (evP s.heap.get s.next (.delete kk m k)) (resK s K) := wv_other cs s K _ (by intro _ _ h; cases h)
theorem wv_append (t : TypeId) (sz b : Nat) (x y : Value) : wvals cs s K (.append t sz b x y) = bindP (evP s.heap.get s.next (.append t sz b x y)) (resK s K) := wv_other cs s K _ (by intro _ _ h; cases h)
theorem wv_slice (k : SliceK) (x : Value) (lo hi mx : Option Value) : wvals cs s K (.slice k x lo hi mx) = bindP (evP s.heap.get s.next (.slice k x lo hi mx)) (resK s K) := wv_other cs s K _ (by intro _ _ h; cases h)
theorem wv_mkSlice (t : TypeId) (sz b : Nat) (z : List Value) (l c : Value) : wvals cs s K (.mkSlice t sz b z l c) = bindP (evP s.heap.get s.next (.mkSlice t sz b z l c)) (resK s K) := wv_other cs s K _ (by intro _ _ h; cases h)
theorem wv_buildSlice (t : TypeId) (sz l : Nat) (z : List Value) (ps : List (Nat × Nat × Value)) : wvals cs s K (.buildSlice t sz l z ps) = bindP (evP s.heap.get s.next (.buildSlice t sz l z ps)) (resK s K) := wv_other cs s K _ (by intro _ _ h; cases h)
theorem wv_index (x i : Value) : wvals cs s K (.index x i) = bindP (evP s.heap.get s.next (.index x i)) (resK s K) := wv_other cs s K _ (by intro _ _ h; cases h)
theorem wv_copy (sz : Nat) (x y : Value) : wvals cs s K (.copy sz x y) = bindP (evP s.heap.get s.next (.copy sz x y)) (resK s K) := wv_other cs s K _ (by intro _ _ h; cases h)
theorem wv_lenMap (x : Value) : wvals cs s K (.len .map x) = bindP (evP s.heap.get s.next (.len .map x)) (resK s K) := wv_other cs s K _ (by intro _ _ h; cases h)
end

/-! ### regions that draw -/
def dcont (cs : Nat → CallSem) (d : Option Nat) (r : List AOper) (fs : List Foot) (rd wr : List Nat) (e : Env) (s : St) (Q : List Foot → Env → St → Prop) (v : Value) (s' : St) : Prop :=
  WDraw cs r (fs ++ [⟨rd, wr, s, s'⟩]) (setE e d v) s' Q
theorem dcont_some (cs : Nat → CallSem) (d : Nat) (r : List AOper) (fs : List Foot) (rd wr : List Nat) (e : Env) (s : St) (Q : List Foot → Env → St → Prop) (v : Value) (s' : St) :
    dcont cs (some d) r fs rd wr e s Q v s' = WDraw cs r (fs ++ [⟨rd, wr, s, s'⟩]) ((d, v) :: e) s' Q := rfl
theorem dcont_none (cs : Nat → CallSem) (r : List AOper) (fs : List Foot) (rd wr : List Nat) (e : Env) (s : St) (Q : List Foot → Env → St → Prop) (v : Value) (s' : St) :
    dcont cs none r fs rd wr e s Q v s' = WDraw cs r (fs ++ [⟨rd, wr, s, s'⟩]) e s' Q := rfl
def dvals (cs : Nat → CallSem) (d : Option Nat) (r : List AOper) (fs : List Foot) (e : Env) (s : St) (Q : List Foot → Env → St → Prop) (a : AOp Value) : Prop :=
  wvals cs s (dcont cs d r fs (footOf a).1 (footOf a).2 e s Q) a
theorem dvals_apply (cs : Nat → CallSem) (d : Option Nat) (r : List AOper) (fs : List Foot) (e : Env) (s : St) (Q : List Foot → Env → St → Prop) (a : AOp Value) :
    dvals cs d r fs e s Q a = wvals cs s (dcont cs d r fs (footOf a).1 (footOf a).2 e s Q) a := rfl
theorem wd_nil (cs : Nat → CallSem) (fs : List Foot) (e : Env) (s : St) (Q : List Foot → Env → St → Prop) : WDraw cs [] fs e s Q = Q fs e s := rfl
theorem wd_cons (cs : Nat → CallSem) (d : Option Nat) (op : AOp Operand) (r : List AOper) (fs : List Foot) (e : Env) (s : St) (Q : List Foot → Env → St → Prop) :
    WDraw cs (⟨d, op, none⟩ :: r) fs e s Q = bindP (op.vals e.rd) (dvals cs d r fs e s Q) := by
  simp only [WDraw, wantedA]
  cases op.vals e.rd <;> rfl

/-! ### code -/
def sq (cs : Nat → CallSem) (b : ACode) (Q : AExit → Env → St → Prop) (e : Env) (s : St) : Prop := WCode cs b e s Q
theorem sq_apply (cs : Nat → CallSem) (b : ACode) (Q : AExit → Env → St → Prop) (e : Env) (s : St) : sq cs b Q e s = WCode cs b e s Q := rfl
def nrm (Q : AExit → Env → St → Prop) (e : Env) (s : St) : Prop := Q .normal e s
theorem nrm_apply (Q : AExit → Env → St → Prop) (e : Env) (s : St) : nrm Q e s = Q .normal e s := rfl
def drawnK (d : Draw) (Q : AExit → Env → St → Prop) (fs : List Foot) (e : Env) (s : St) : Prop := drawn d fs ∧ Q .normal e s
theorem drawnK_apply (d : Draw) (Q : AExit → Env → St → Prop) (fs : List Foot) (e : Env) (s : St) : drawnK d Q fs e s = (drawn d fs ∧ Q .normal e s) := rfl
def boolV (v : Option Value) : Option Bool := match v with | some (.bool b) => some b | _ => none
theorem boolV_bool (b : Bool) : boolV (some (.bool b)) = some b := rfl
def ccond (cs : Nat → CallSem) (a b : ACode) (e : Env) (s : St) (Q : AExit → Env → St → Prop) (t : Bool) : Prop := (t = true → WCode cs a e s Q) ∧ (t = false → WCode cs b e s Q)
theorem ccond_true (cs : Nat → CallSem) (a b : ACode) (e : Env) (s : St) (Q : AExit → Env → St → Prop) : ccond cs a b e s Q true = WCode cs a e s Q := by simp [ccond]
theorem ccond_false (cs : Nat → CallSem) (a b : ACode) (e : Env) (s : St) (Q : AExit → Env → St → Prop) : ccond cs a b e s Q false = WCode cs b e s Q := by simp [ccond]

section
variable (cs : Nat → CallSem) (e : Env) (s : St) (Q : AExit → Env → St → Prop)
theorem wc_skip : WCode cs .skip e s Q = Q .normal e s := rfl
theorem wc_region (ops : List AOper) : WCode cs (.region ops none) e s Q = WOps cs ops e s (nrm Q) := rfl
theorem wc_draw (ops : List AOper) (d : Draw) : WCode cs (.region ops (some d)) e s Q = WDraw cs ops [] e s (drawnK d Q) := rfl
theorem wc_seq (a b : ACode) : WCode cs (.seq a b) e s Q = WCode cs a e s (next Q (sq cs b Q)) := rfl
theorem wc_cond (c : Operand) (a b : ACode) : WCode cs (.cond c a b) e s Q = bindP (boolV (e.rd c)) (ccond cs a b e s Q) := by
  simp only [WCode, boolV]
  split <;> rename_i h <;> (repeat' (split)) <;> simp_all [bindP, ccond]
theorem wc_block (id : Nat) (b : ACode) : WCode cs (.block id b) e s Q = WCode cs b e s (inBlock id Q) := rfl
theorem wc_exit (id : Nat) : WCode cs (.exit id) e s Q = Q (.exit id) e s := rfl
theorem wc_ret : WCode cs .ret e s Q = Q .ret e s := rfl
theorem next_normal (N : Env → St → Prop) : next Q N .normal e s = N e s := rfl
theorem next_exit (N : Env → St → Prop) (id : Nat) : next Q N (.exit id) e s = Q (.exit id) e s := rfl
theorem next_ret (N : Env → St → Prop) : next Q N .ret e s = Q .ret e s := rfl
theorem inBlock_normal (id : Nat) : inBlock id Q .normal e s = Q .normal e s := rfl
theorem inBlock_ret (id : Nat) : inBlock id Q .ret e s = Q .ret e s := rfl
theorem inBlock_exit (id id' : Nat) : inBlock id Q (.exit id') e s = if id' = id then Q .normal e s else Q (.exit id') e s := rfl
end

def endK (Q : Value → St → Prop) (s : St) (vs : List Value) : Prop := Q (tupleV vs) s
theorem endK_apply (Q : Value → St → Prop) (s : St) (vs : List Value) : endK Q s vs = Q (tupleV vs) s := rfl
theorem ends_normal (res : List ResK) (Q : Value → St → Prop) (e : Env) (s : St) : ends res Q .normal e s = bindP (mapList (resV e s) res) (endK Q s) := by
  simp only [ends]; cases mapList (resV e s) res <;> rfl
theorem ends_ret (res : List ResK) (Q : Value → St → Prop) (e : Env) (s : St) : ends res Q .ret e s = bindP (mapList (resV e s) res) (endK Q s) := by
  simp only [ends]; cases mapList (resV e s) res <;> rfl
theorem resV_tmp (e : Env) (s : St) (t : Nat) : resV e s (.tmp t) = e.get t := rfl
theorem get_cons (e : Env) (j : Nat) (v : Value) (i : Nat) : Env.get ((j, v) :: e) i = if i = j then some v else Env.get e i := rfl

end Go.Abs
