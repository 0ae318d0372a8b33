/-
  The abstract machine: a small deterministic language (ACode) over a heap of blocks with names of its own, and its evaluator. Nothing here speaks of the world.
-/
import Derived.Orders
import Derived.Laws.World
import Derived.Laws.Cells
import Derived.Laws.Slices
import Derived.Laws.Sem
namespace Go.Abs
open Go

inductive AObj where
  | cells (c : List Value) (t : TypeId) (sz : Nat) (ro : Bool)
  | map (es : List MapEntry) (clock : Nat)
  | iter (s : ByteArray) (pos : Nat)
  /-- A block of the world by its number, where something of the kind k stands: it is never written. -/
  | glob (b k : Nat)

def AObj.isRo : AObj → Bool
  | .cells _ _ _ ro => ro
  | .glob _ _ => true
  | _ => false

abbrev Heap := List (Nat × Option AObj)

def Heap.get : Heap → Nat → Option AObj
  | [], _ => none
  | (j, o) :: h, i => if i = j then o else Heap.get h i

def Heap.put : Heap → Nat → Option AObj → Heap
  | [], i, o => [(i, o)]
  | (j, p) :: h, i, o => if i = j then (i, o) :: h else (j, p) :: Heap.put h i o

theorem Heap.get_put (h : Heap) (i : Nat) (o : Option AObj) (j : Nat) : (h.put i o).get j = if j = i then o else h.get j := by
  induction h with
  | nil => simp [Heap.put, Heap.get]
  | cons p h ih =>
    obtain ⟨k, q⟩ := p
    by_cases e : i = k
    · subst e; simp only [Heap.put, if_true, Heap.get]; by_cases f : j = i <;> simp [f]
    · simp only [Heap.put, if_neg e, Heap.get, ih]
      by_cases f : j = k
      · have : j ≠ i := fun g => e (g ▸ f)
        simp [f]; intro g; exact absurd g.symm e
      · simp [f]

structure St where
  heap : Heap
  next : Nat

abbrev Env := List (Nat × Value)
def Env.get : Env → Nat → Option Value
  | [], _ => none
  | (j, v) :: e, i => if i = j then some v else Env.get e i

def isCell : Value → Bool
  | .agg _ | .tuple _ => false
  | _ => true

inductive KeyK where
  | int | string | bool
  deriving DecidableEq

inductive EqK where
  | scalar      -- bools
  | pointer | slice | map | func | iface       -- against nil
  | plain (ks : List KeyK)      -- structs of ints, strings, bools
  deriving DecidableEq

inductive ConvK where
  | int (k : IntKind)
  | same
  | toBytes (elem : TypeId)
  | toString
  | sameB
  deriving DecidableEq

inductive LenK where
  | string | slice | map
  deriving DecidableEq

inductive SliceK where
  | string
  | slice (sz : Nat)
  deriving DecidableEq

inductive AOp (α : Type) where
  | mov (x : α)
  | pick (c a b : α)
  | alloc (elem : TypeId) (zero : List Value)
  | box (elem : TypeId) (x : α)
  | build (zero : List Value) (parts : List (Nat × Nat × α))
  | buildSlice (elem : TypeId) (sz len : Nat) (zero : List Value) (parts : List (Nat × Nat × α))
  | load (n : Option Nat) (a : α)
  | store (n : Nat) (a x : α)
  | nilCheck (x : α)
  | bin (op : BinOp) (x y : α)
  | eq (neg : Bool) (k : EqK) (x y : α)
  | un (op : UnOp) (x : α)
  | conv (k : ConvK) (x : α)
  | mkIface (t : TypeId) (x : α)
  | mkFunc (fn : Fn) (first captured : List α)
  | mkMap (hint : Option α)
  | mkSlice (elem : TypeId) (sz bytes : Nat) (zero : List Value) (len cap : α)
  | slice (k : SliceK) (x : α) (lo hi mx : Option α)
  | fieldAddr (off : Nat) (x : α)
  | field (off : Nat) (n : Option Nat) (x : α)
  | indexAddr (sz : Nat) (x i : α)
  | index (x i : α)
  | lookup (kk : KeyK) (zero : Value) (ok : Bool) (x k : α)
  | mapUpdate (kk : KeyK) (m k v : α)
  | mapEntry (kk : KeyK) (zero : Value) (m k : α)
  | entryStore (m s v : α)
  | extract (x : α) (i : Nat)
  | len (k : LenK) (x : α)
  | cap (x : α)
  | append (elem : TypeId) (sz bytes : Nat) (x y : α)
  | appendMake (elem : TypeId) (sz bytes : Nat) (zero : List Value) (x n : α)
  | copy (sz : Nat) (x y : α)
  | clear (sz : Nat) (zero : List Value) (x : α)
  | delete (kk : KeyK) (m k : α)
  | minmax (isMax : Bool) (xs : List α)
  | rangeStr (x : α)
  | nextStr (x : α)
  | call (f : α) (args : List α)

def mapParts {α β : Type} (f : α → Option β) : List (Nat × Nat × α) → Option (List (Nat × Nat × β))
  | [] => some []
  | (i, n, x) :: r => (f x).bind fun y => (mapParts f r).map fun r' => (i, n, y) :: r'

def mapList {α β : Type} (f : α → Option β) : List α → Option (List β)
  | [] => some []
  | x :: r => (f x).bind fun y => (mapList f r).map fun r' => y :: r'

def mapOpt {α β : Type} (f : α → Option β) : Option α → Option (Option β)
  | none => some none
  | some x => (f x).map some

def AOp.vals {α β : Type} (f : α → Option β) : AOp α → Option (AOp β)
  | .mov x => (f x).map .mov
  | .pick c a b => (f c).bind fun c => (f a).bind fun a => (f b).map fun b => .pick c a b
  | .alloc e z => some (.alloc e z)
  | .box e x => (f x).map (.box e)
  | .build z ps => (mapParts f ps).map (.build z)
  | .buildSlice e s l z ps => (mapParts f ps).map (.buildSlice e s l z)
  | .load n a => (f a).map (.load n)
  | .store n a x => (f a).bind fun a => (f x).map fun x => .store n a x
  | .nilCheck x => (f x).map .nilCheck
  | .bin o x y => (f x).bind fun x => (f y).map fun y => .bin o x y
  | .eq b k x y => (f x).bind fun x => (f y).map fun y => .eq b k x y
  | .un o x => (f x).map (.un o)
  | .conv k x => (f x).map (.conv k)
  | .mkIface t x => (f x).map (.mkIface t)
  | .mkFunc fn a b => (mapList f a).bind fun a => (mapList f b).map fun b => .mkFunc fn a b
  | .mkMap h => (mapOpt f h).map .mkMap
  | .mkSlice e s b z l c => (f l).bind fun l => (f c).map fun c => .mkSlice e s b z l c
  | .slice k x l h m => (f x).bind fun x => (mapOpt f l).bind fun l => (mapOpt f h).bind fun h => (mapOpt f m).map fun m => .slice k x l h m
  | .fieldAddr o x => (f x).map (.fieldAddr o)
  | .field o n x => (f x).map (.field o n)
  | .indexAddr s x i => (f x).bind fun x => (f i).map fun i => .indexAddr s x i
  | .index x i => (f x).bind fun x => (f i).map fun i => .index x i
  | .lookup kk z o x k => (f x).bind fun x => (f k).map fun k => .lookup kk z o x k
  | .mapUpdate kk m k v => (f m).bind fun m => (f k).bind fun k => (f v).map fun v => .mapUpdate kk m k v
  | .mapEntry kk z m k => (f m).bind fun m => (f k).map fun k => .mapEntry kk z m k
  | .entryStore m s v => (f m).bind fun m => (f s).bind fun s => (f v).map fun v => .entryStore m s v
  | .extract x i => (f x).map fun x => .extract x i
  | .len k x => (f x).map (.len k)
  | .cap x => (f x).map .cap
  | .append e s b x y => (f x).bind fun x => (f y).map fun y => .append e s b x y
  | .appendMake e s b z x y => (f x).bind fun x => (f y).map fun y => .appendMake e s b z x y
  | .copy s x y => (f x).bind fun x => (f y).map fun y => .copy s x y
  | .clear s z x => (f x).map fun x => .clear s z x
  | .delete kk m k => (f m).bind fun m => (f k).map fun k => .delete kk m k
  | .minmax b xs => (mapList f xs).map (.minmax b)
  | .rangeStr x => (f x).map .rangeStr
  | .nextStr x => (f x).map .nextStr
  | .call g as => (f g).bind fun g => (mapList f as).map fun as => .call g as

/-! ### What an operation comes to -/

structure Res where
  val : Value
  upd : List (Nat × Option AObj)
  next : Nat

def undefV : Value := .tuple #[]

def cellList (v : Value) : List Value := v.cells.toList

def storeL (c : List Value) (o : Nat) : List Value → List Value
  | [] => c
  | v :: vs => storeL (c.set o v) (o + 1) vs

def fillL (cells : List Value) : List (Nat × Nat × Value) → Option (List Value)
  | [] => some cells
  | (off, size, v) :: rest =>
    if (cellList v).length = size ∧ off + size ≤ cells.length then fillL (storeL cells off (cellList v)) rest else none

def cellsAt (g : Nat → Option AObj) (id o n : Nat) : Option (List Value) :=
  match g id with
  | some (.cells c _ _ _) => if o + n ≤ c.length then some ((c.drop o).take n) else none
  | _ => none

def firstL (g : Nat → Option AObj) (sz n : Nat) : Value → Option (List Value)
  | .slice (some ⟨id, o, none⟩) ln _ => if n ≤ ln then cellsAt g id o (n * sz) else none
  | .slice none _ _ => some []
  | .string s => some ((s.extract 0 n).data.toList.map fun b => .int .u8 b.toNat)
  | _ => none

def lenV : Value → Option Nat
  | .slice _ n _ => some n
  | .string s => some s.size
  | _ => none

def keyOk : KeyK → Value → Bool
  | .int, .int _ _ | .string, .string _ | .bool, .bool _ => true
  | _, _ => false

def keyEq : Value → Value → Option Bool
  | .int k a, .int k' b => if k = k' then some (a == b) else none
  | .string a, .string b => some (a == b)
  | .bool a, .bool b => some (a == b)
  | _, _ => none

def findL (k : Value) : List MapEntry → Nat → Option (Option (Nat × Value))
  | [], _ => some none
  | e :: es, i =>
    match keyEq k e.key with
    | some true => some (some (i, e.val))
    | some false => findL k es (i + 1)
    | none => none

def cellEqK (k : KeyK) (x y : Value) : Option Bool := if keyOk k x && keyOk k y then keyEq x y else none

def cellsEqK : List KeyK → List Value → List Value → Option Bool
  | [], [], [] => some true
  | k :: ks, x :: xs, y :: ys => (cellEqK k x y).bind fun b => (cellsEqK ks xs ys).map fun c => b && c
  | _, _, _ => none

def eqV : EqK → Value → Value → Option Bool
  | .scalar, .bool a, .bool b => some (a == b)
  | .plain ks, .agg x, .agg y => cellsEqK ks x.toList y.toList
  | .pointer, .pointer none, .pointer b => some b.isNone
  | .pointer, .pointer _, .pointer none => some false
  | .slice, .slice none _ _, .slice b _ _ => some b.isNone
  | .slice, .slice _ _ _, .slice none _ _ => some false
  | .map, .map none, .map b => some b.isNone
  | .map, .map _, .map none => some false
  | .func, .nilFunc, .nilFunc => some true
  | .func, .nilFunc, .func _ _ _ => some false
  | .func, .func _ _ _, .nilFunc => some false
  | .iface, .nilIface, .iface _ _ => some false
  | .iface, .iface _ _, .nilIface => some false
  | .iface, .nilIface, .nilIface => some true
  | _, _, _ => none

def binV (op : BinOp) : Value → Value → Option Value
  | .int k a, .int k' b =>
    match op with
    | .shl => if b < 0 then none else some (.int k (k.wrap (a * 2 ^ min b.toNat k.bits)))
    | .shr => if b < 0 then none else some (.int k (a.fdiv (2 ^ min b.toNat k.bits)))
    | _ =>
      if k ≠ k' then none else
      match op with
      | .add => some (.int k (k.wrap (a + b)))
      | .sub => some (.int k (k.wrap (a - b)))
      | .mul => some (.int k (k.wrap (a * b)))
      | .quo => if b = 0 then none else some (.int k (k.wrap (a.tdiv b)))
      | .rem => if b = 0 then none else some (.int k (a.tmod b))
      | .and => some (.int k (k.wrap (BitVec.ofInt k.bits a &&& BitVec.ofInt k.bits b).toNat))
      | .or => some (.int k (k.wrap (BitVec.ofInt k.bits a ||| BitVec.ofInt k.bits b).toNat))
      | .xor => some (.int k (k.wrap (BitVec.ofInt k.bits a ^^^ BitVec.ofInt k.bits b).toNat))
      | .andNot => some (.int k (k.wrap (BitVec.ofInt k.bits a &&& ~~~ BitVec.ofInt k.bits b).toNat))
      | .eql => some (.bool (a == b))
      | .neq => some (.bool (a != b))
      | .lss => some (.bool (a < b))
      | .leq => some (.bool (a ≤ b))
      | .gtr => some (.bool (a > b))
      | .geq => some (.bool (a ≥ b))
      | _ => none
  | .string a, .string b =>
    match op with
    | .add => if a.size + b.size < 2 ^ 62 then some (.string (a ++ b)) else none
    | .eql => some (.bool (a.toList == b.toList))
    | .neq => some (.bool !(a.toList == b.toList))
    | .lss => some (.bool (Op.bytesLess a.toList b.toList))
    | .leq => some (.bool (Op.bytesLess a.toList b.toList || a.toList == b.toList))
    | .gtr => some (.bool !(Op.bytesLess a.toList b.toList || a.toList == b.toList))
    | .geq => some (.bool !(Op.bytesLess a.toList b.toList))
    | _ => none
  | _, _ => none

def unV (op : UnOp) : Value → Option Value
  | .int k a =>
    match op with
    | .neg => some (.int k (k.wrap (0 - a)))
    | .xor => some (.int k (k.wrap (BitVec.ofInt k.bits (if k.signed then -1 else k.max) ^^^ BitVec.ofInt k.bits a).toNat))
    | _ => none
  | .bool b => match op with | .not => some (.bool !b) | _ => none
  | _ => none

def bytesOf : List Value → ByteArray → Option ByteArray
  | [], acc => some acc
  | .int .u8 n :: r, acc => bytesOf r (acc.push (UInt8.ofNat n.toNat))
  | _ :: _, _ => none

def boundV (y : Nat) : Value → Option Nat
  | .int _ i => if 0 ≤ i ∧ i ≤ (y : Int) then some i.toNat else none
  | _ => none

def boundsV (len cap : Nat) (lo hi mx : Option Value) : Option (Nat × Nat × Nat) :=
  (match mx with | none => some cap | some v => boundV cap v).bind fun m =>
  (match hi, mx with | none, none => some len | some v, _ => boundV m v | none, some _ => none).bind fun h =>
  (match lo with | none => some 0 | some v => boundV h v).map fun l => (l, h, m)

def minmaxV (isMax : Bool) : Value → List Value → Option Value
  | .int k x, [] => some (.int k x)
  | .int k x, .int k' y :: r => if k = k' then minmaxV isMax (.int k (if isMax then (if y > x then y else x) else (if y < x then y else x))) r else none
  | _, _ => none

def tooBig (n bytes : Nat) : Bool := 2 ^ 46 < n * bytes || 2 ^ 46 < n

def entriesOf (g : Nat → Option AObj) : Value → Option (List MapEntry)
  | .map none => some []
  | .map (some r) => match g r with | some (.map es _) => some es | _ => none
  | _ => none

def lookV (z : Value) (ok : Bool) : Option (Nat × Value) → Value
  | some (_, v) => if ok then .tuple #[v, .bool true] else v
  | none => if ok then .tuple #[z, .bool false] else z

def evP (g : Nat → Option AObj) (nx : Nat) : AOp Value → Option Res
  | .mov x => some ⟨x, [], nx⟩
  | .pick c a b => match c with | .bool t => some ⟨if t then a else b, [], nx⟩ | _ => none
  | .alloc e z => some ⟨.pointer (some ⟨nx, 0, none⟩), [(nx, some (.cells z e 0 false))], nx + 1⟩
  | .box e x => some ⟨.pointer (some ⟨nx, 0, none⟩), [(nx, some (.cells (cellList x) e 0 false))], nx + 1⟩
  | .build z ps => (fillL z ps).map fun c => ⟨.agg c.toArray, [], nx⟩
  | .buildSlice e sz len z ps => (fillL z ps).map fun c => ⟨.slice (some ⟨nx, 0, none⟩) len len, [(nx, some (.cells c e sz false))], nx + 1⟩
  | .load n a =>
    match a with
    | .pointer (some ⟨id, o, none⟩) =>
      match n with
      | none => match g id with | some (.cells c _ _ _) => (c[o]?).map fun v => ⟨v, [], nx⟩ | _ => none
      | some n => (cellsAt g id o n).map fun l => ⟨.agg l.toArray, [], nx⟩
    | _ => none
  | .store n a x =>
    match a with
    | .pointer (some ⟨id, o, none⟩) =>
      match g id with
      | some (.cells c t sz false) =>
        if (cellList x).length = n ∧ (cellList x).all isCell = true ∧ o + n ≤ c.length then some ⟨undefV, [(id, some (.cells (storeL c o (cellList x)) t sz false))], nx⟩ else none
      | _ => none
    | _ => none
  | .nilCheck x => match x with | .pointer (some a) => some ⟨.pointer (some a), [], nx⟩ | .func (.func f) a b => some ⟨.func (.func f) a b, [], nx⟩ | .iface t v => some ⟨.iface t v, [], nx⟩ | _ => none
  | .bin op x y => (binV op x y).map fun v => ⟨v, [], nx⟩
  | .eq neg k x y => (eqV k x y).map fun b => ⟨.bool (b != neg), [], nx⟩
  | .un op x => (unV op x).map fun v => ⟨v, [], nx⟩
  | .conv k x =>
    match k, x with
    | .int k, .int _ n => some ⟨.int k (k.wrap n), [], nx⟩
    | .same, .string s => some ⟨.string s, [], nx⟩
    | .toBytes e, .string s => some ⟨.slice (some ⟨nx, 0, none⟩) s.size s.size, [(nx, some (.cells (s.data.toList.map fun b => .int .u8 b.toNat) e 1 false))], nx + 1⟩
    | .sameB, .slice (some ⟨id, o, none⟩) len cap => match g id with | some (.cells _ _ z false) => if cap = 0 ∨ z ≠ 1 then none else some ⟨.slice (some ⟨id, o, none⟩) len cap, [], nx⟩ | _ => none
    | .toString, .slice none _ _ => some ⟨.string .empty, [], nx⟩
    | .toString, .slice (some ⟨id, o, none⟩) len _ => (cellsAt g id o len).bind fun l => (bytesOf l .empty).map fun s => ⟨.string s, [], nx⟩
    | _, _ => none
  | .mkIface t x => some ⟨.iface t x, [], nx⟩
  | .mkFunc fn a b => some ⟨.func fn a.toArray b.toArray, [], nx⟩
  | .mkMap _ => some ⟨.map (some nx), [(nx, some (.map [] 0))], nx + 1⟩
  | .mkSlice e sz bytes z l c =>
    match l, c with
    | .int .i64 l, .int .i64 c =>
      if 0 ≤ l ∧ l ≤ c ∧ tooBig c.toNat bytes = false ∧ z.length = sz then
        some ⟨.slice (some ⟨nx, 0, none⟩) l.toNat c.toNat, [(nx, some (.cells (List.replicate c.toNat z).flatten e sz false))], nx + 1⟩ else none
    | _, _ => none
  | .slice k x lo hi mx =>
    match k, x with
    | .string, .string s => if mx.isSome then none else (boundsV s.size s.size lo hi none).map fun b => ⟨.string (s.extract b.1 b.2.1), [], nx⟩
    | .slice sz, .slice a len cap =>
      (boundsV len cap lo hi mx).bind fun b =>
        match a with
        | none => some ⟨.slice none (b.2.1 - b.1) (b.2.2 - b.1), [], nx⟩
        | some ad =>
          match g ad.block with
          | some (.cells _ _ z ro) => if ad.spot = none ∧ (ro = true ∨ z = sz ∨ z = sz + 4294967296) ∧ b.2.1 ≤ b.2.2 then some ⟨.slice (some ⟨ad.block, ad.off + b.1 * sz, none⟩) (b.2.1 - b.1) (b.2.2 - b.1), [], nx⟩ else none
          | _ => none
    | _, _ => none
  | .fieldAddr off x => match x with | .pointer (some ⟨id, o, none⟩) => some ⟨.pointer (some ⟨id, o + off, none⟩), [], nx⟩ | _ => none
  | .field off n x =>
    match x with
    | .agg cs =>
      match n with
      | none => (cs.toList[off]?).map fun v => ⟨v, [], nx⟩
      | some n => some ⟨.agg ((cs.toList.drop off).take n).toArray, [], nx⟩
    | _ => none
  | .indexAddr sz x i =>
    match x, i with
    | .slice (some ⟨id, o, none⟩) len _, .int _ i => if 0 ≤ i ∧ i < (len : Int) then some ⟨.pointer (some ⟨id, o + i.toNat * sz, none⟩), [], nx⟩ else none
    | _, _ => none
  | .index x i =>
    match x, i with
    | .string s, .int _ i => if 0 ≤ i then (s.data.toList[i.toNat]?).map fun b => ⟨.int .u8 b.toNat, [], nx⟩ else none
    | _, _ => none
  | .lookup kk z ok x k =>
    if keyOk kk k then (entriesOf g x).bind fun es => (findL k es 0).map fun r => ⟨lookV z ok r, [], nx⟩
    else none
  | .mapUpdate kk m k v =>
    match m with
    | .map (some r) =>
      match g r with
      | some (.map es clock) =>
        if keyOk kk k then (findL k es 0).map fun f =>
          match f with
          | some (i, _) => ⟨undefV, [(r, some (.map (es.modify i fun e => { e with key := k, val := v }) clock))], nx⟩
          | none => ⟨undefV, [(r, some (.map (es ++ [{ key := k, val := v, born := clock }]) (clock + 1)))], nx⟩
        else none
      | _ => none
    | _ => none
  | .mapEntry kk z m k =>
    match m with
    | .map (some r) =>
      match g r with
      | some (.map es clock) =>
        if keyOk kk k then (findL k es 0).map fun f =>
          match f with
          | some (i, v) => ⟨.tuple #[v, .int .i64 (((es[i]?).map (·.born)).getD 0)], [(r, some (.map (es.modify i fun e => { e with key := k }) clock))], nx⟩
          | none => ⟨.tuple #[z, .int .i64 clock], [(r, some (.map (es ++ [{ key := k, val := z, born := clock }]) (clock + 1)))], nx⟩
        else none
      | _ => none
    | _ => none
  | .entryStore m s v =>
    match m, s with
    | .map (some r), .int .i64 b =>
      match g r with
      | some (.map es clock) => (es.findIdx? fun e => (e.born : Int) == b).map fun i => ⟨undefV, [(r, some (.map (es.modify i fun e => { e with val := v }) clock))], nx⟩
      | _ => none
    | _, _ => none
  | .extract x i => match x with | .tuple vs => (vs.toList[i]?).map fun v => ⟨v, [], nx⟩ | _ => none
  | .len k x =>
    match k, x with
    | .string, .string s => some ⟨.int .i64 s.size, [], nx⟩
    | .slice, .slice _ n _ => some ⟨.int .i64 n, [], nx⟩
    | .map, .map none => some ⟨.int .i64 0, [], nx⟩
    | .map, .map (some r) => match g r with | some (.map es _) => some ⟨.int .i64 es.length, [], nx⟩ | _ => none
    | _, _ => none
  | .cap x =>
    match x with
    | .slice none _ c => some ⟨.int .i64 c, [], nx⟩
    | .slice (some ⟨id, _, none⟩) _ c =>
      match g id with
      | some (.cells _ _ z ro) => if ro = true ∨ 4294967296 ≤ z then some ⟨.int .i64 c, [], nx⟩ else none
      | _ => none
    | _ => none
  | .append e sz bytes x y =>
    match x with
    | .slice a sl sc =>
      (lenV y).bind fun n => (firstL g sz n y).bind fun new =>
        if new.all isCell = false ∨ new.length ≠ n * sz then none else
        if sl + n ≤ sc then
          match a with
          | none => some ⟨.slice none (sl + n) sc, [], nx⟩
          | some ⟨id, o, none⟩ =>
            match g id with
            | some (.cells c t z false) => if o + (sl + n) * sz ≤ c.length then some ⟨.slice a (sl + n) sc, [(id, some (.cells (storeL c (o + sl * sz) new) t z false))], nx⟩ else none
            | _ => none
          | _ => none
        else if tooBig (sl + n) bytes then none else
        match a with
        | none => if sl = 0 then some ⟨.slice (some ⟨nx, 0, none⟩) n n, [(nx, some (.cells new e sz false))], nx + 1⟩ else none
        | some ⟨id, o, none⟩ =>
          match g id with
          | some (.cells c t z ro) =>
            if o + sl * sz ≤ c.length ∧ (ro = true ∨ z = sz) ∧ t = e then
              some ⟨.slice (some ⟨nx, 0, none⟩) (sl + n) (sl + n), (nx, some (.cells ((c.drop o).take (sl * sz) ++ new) e sz false)) :: (if ro then [] else [(id, none)]), nx + 1⟩
            else none
          | _ => none
        | _ => none
    | _ => none
  | .appendMake e sz bytes z x n =>
    match x, n with
    | .slice none 0 0, .int .i64 n =>
      if 0 < n ∧ tooBig n.toNat bytes = false ∧ z.length = sz then
        some ⟨.slice (some ⟨nx, 0, none⟩) n.toNat n.toNat, [(nx, some (.cells (List.replicate n.toNat z).flatten e sz false))], nx + 1⟩ else none
    | .slice (some ⟨id, o, none⟩) sl sc, .int .i64 n =>
      match g id with
      | some (.cells c t _ true) =>
        if 0 < n ∧ tooBig (sl + n.toNat) bytes = false ∧ z.length = sz ∧ 0 < sz ∧ t = e ∧ o + sl * sz ≤ c.length ∧ sc < sl + n.toNat then
          some ⟨.slice (some ⟨nx, 0, none⟩) (sl + n.toNat) (sl + n.toNat), [(nx, some (.cells ((c.drop o).take (sl * sz) ++ (List.replicate n.toNat z).flatten) e sz false))], nx + 1⟩ else none
      | _ => none
    | _, _ => none
  | .copy sz x y =>
    match x with
    | .slice a dl _ =>
      (lenV y).bind fun n => (firstL g sz (min n dl) y).bind fun new =>
        if new.all isCell = false ∨ new.length ≠ (min n dl) * sz then none else
        match a with
        | none => some ⟨.int .i64 ((min n dl : Nat) : Int), [], nx⟩
        | some ⟨id, o, none⟩ =>
          match g id with
          | some (.cells c t z false) => if o + (min n dl) * sz ≤ c.length then some ⟨.int .i64 ((min n dl : Nat) : Int), [(id, some (.cells (storeL c o new) t z false))], nx⟩ else none
          | _ => none
        | _ => none
    | _ => none
  | .clear sz z x =>
    match x with
    | .slice none _ _ => some ⟨.tuple #[], [], nx⟩
    | .slice (some ⟨id, o, none⟩) len _ =>
      match g id with
      | none => none
      | some ob =>
      if len = 0 then some ⟨.tuple #[], [], nx⟩ else
      match ob with
      | .cells c t z' false => if o + len * sz ≤ c.length ∧ z.length = sz then some ⟨.tuple #[], [(id, some (.cells (storeL c o (List.replicate len z).flatten) t z' false))], nx⟩ else none
      | _ => none
    | _ => none
  | .delete kk m k =>
    match m with
    | .map none => if keyOk kk k then some ⟨.tuple #[], [], nx⟩ else none
    | .map (some r) =>
      match g r with
      | some (.map es clock) =>
        if keyOk kk k then (findL k es 0).map fun f =>
          match f with
          | some (i, _) => ⟨.tuple #[], [(r, some (.map (es.eraseIdx i) clock))], nx⟩
          | none => ⟨.tuple #[], [(r, some (.map es clock))], nx⟩
        else none
      | _ => none
    | _ => none
  | .minmax b xs => match xs with | x :: r => (minmaxV b x r).map fun v => ⟨v, [], nx⟩ | [] => none
  | .rangeStr x => match x with
    | .string s => some ⟨.pointer (some ⟨nx, 0, none⟩), [(nx, some (.iter s 0))], nx + 1⟩
    | _ => none
  | .nextStr x =>
    match x with
    | .pointer (some ⟨id, 0, none⟩) =>
      match g id with
      | some (.iter s pos) =>
        if pos < s.size then some ⟨.tuple #[.bool true, .int .i64 (pos : Nat), .int .i32 (Utf8.decode s pos).1], [(id, some (.iter s (pos + (Utf8.decode s pos).2)))], nx⟩
        else some ⟨.tuple #[.bool false], [], nx⟩
      | _ => none
    | _ => none
  | .call _ _ => none

end Go.Abs


/-
  The evaluator of code and of functions.
-/
namespace Go.Abs
open Go

structure AOper where
  dst : Option Nat
  op : AOp Operand
  guard : Option (Nat × Bool)

structure Draw where
  pairs : List (Nat × Nat)
  quiet : List Nat
  /-- a call and an operation that may come on either side of it: what the operation reads or makes, the call does not turn -/
  apart : List (Nat × Nat)

inductive ACode where
  | skip
  | region (ops : List AOper) (draw : Option Draw)
  | seq (a b : ACode)
  | cond (c : Operand) (a b : ACode)
  | block (id : Nat) (body : ACode)
  | loop (live : List Nat) (body : ACode)
  | exit (id : Nat)
  | ret

inductive AExit where
  | normal | exit (id : Nat) | ret
  deriving DecidableEq

inductive ResK where
  | tmp (t : Nat)
  | cell (a : Nat) (n : Option Nat)

structure AFun where
  np : Nat
  body : ACode
  res : List ResK
  /-- 0: the state is handed on as it is; 1: where the result is flat and nothing old has turned, the call leaves the heap -/
  gc : Nat := 0

abbrev CallSem := FuncId → List Value → St → Option (Value × St)

def Env.rd (e : Env) : Operand → Option Value
  | .tmp t => e.get t
  | .const v => some v
  | .func f => some (.func (.func f) #[] #[])
  | .global _ => none

def applyUpd (h : Heap) : List (Nat × Option AObj) → Heap
  | [] => h
  | (i, o) :: r => applyUpd (h.put i o) r

def setE (e : Env) : Option Nat → Value → Env
  | some d, v => (d, v) :: e
  | none, _ => e

def wantedA (o : AOper) (e : Env) : Option Bool :=
  match o.guard with
  | none => some true
  | some (t, want) =>
    match e.get t with
    | some (.bool b) => some (b == want)
    | some (.tuple _) => some false
    | _ => none

def callee : Value → List Value → Option (FuncId × List Value)
  | .func (.func f) a c, args => some (f, a.toList ++ args ++ c.toList)
  | _, _ => none

def evOper (cs : CallSem) (op : AOp Operand) (e : Env) (s : St) : Option (Value × St) :=
  (op.vals e.rd).bind fun a =>
    match a with
    | .call f args => (callee f args).bind fun p => cs p.1 p.2 s
    | a => (evP s.heap.get s.next a).map fun r => (r.val, ⟨applyUpd s.heap r.upd, r.next⟩)

def evOps (cs : CallSem) : List AOper → Env → St → Option (Env × St)
  | [], e, s => some (e, s)
  | o :: r, e, s => (wantedA o e).bind fun w =>
    if w then (evOper cs o.op e s).bind fun p => evOps cs r (setE e o.dst p.1) p.2
    else evOps cs r (setE e o.dst undefV) s

def footOf : AOp Value → List Nat × List Nat
  | .load _ (.pointer (some a)) => ([a.block], [])
  | .store _ (.pointer (some a)) _ => ([], [a.block])
  | .conv .toString (.slice (some a) _ _) => ([a.block], [])
  | .slice (.slice _) (.slice (some a) _ _) _ _ _ => ([a.block], [])
  | .lookup _ _ _ (.map (some r)) _ => ([r], [])
  | .mapUpdate _ (.map (some r)) _ _ => ([], [r])
  | .mapEntry _ _ (.map (some r)) _ => ([], [r])
  | .entryStore (.map (some r)) _ _ => ([], [r])
  | .len .map (.map (some r)) => ([r], [])
  | .append _ _ _ x y =>
    ((match y with | .slice (some a) _ _ => [a.block] | _ => []), (match x with | .slice (some a) _ _ => [a.block] | _ => []))
  | .copy _ x y =>
    ((match y with | .slice (some a) _ _ => [a.block] | _ => []), (match x with | .slice (some a) _ _ => [a.block] | _ => []))
  | .delete _ (.map (some r)) _ => ([], [r])
  | .nextStr (.pointer (some a)) => ([], [a.block])
  | .clear _ _ x => ([], (match x with | .slice (some a) _ _ => [a.block] | _ => []))
  | .cap (.slice (some a) _ _) => ([a.block], [])
  | .appendMake _ _ _ _ (.slice (some a) _ _) _ => ([a.block], [])
  | .conv .sameB x => ((match x with | .slice (some a) _ _ => [a.block] | _ => []), [])
  | _ => ([], [])

structure Foot where
  rd : List Nat
  wr : List Nat
  before : St
  after : St

def evOpsD (cs : CallSem) : List AOper → Env → St → Option (List Foot × Env × St)
  | [], e, s => some ([], e, s)
  | o :: r, e, s => (wantedA o e).bind fun w =>
    if w then (o.op.vals e.rd).bind fun a => (evOper cs o.op e s).bind fun p =>
      (evOpsD cs r (setE e o.dst p.1) p.2).map fun q => (⟨(footOf a).1, (footOf a).2, s, p.2⟩ :: q.1, q.2)
    else (evOpsD cs r (setE e o.dst undefV) s).map fun q => (⟨[], [], s, s⟩ :: q.1, q.2)

def disj (a b : List Nat) : Bool := a.all fun x => b.all fun y => decide (x ≠ y)

def pairOk (fs : List Foot) (p : Nat × Nat) : Bool :=
  match fs[p.1]?, fs[p.2]? with
  | some f, some g => disj f.wr g.rd && disj f.wr g.wr && disj f.wr (List.range' g.before.next (g.after.next - g.before.next))
  | _, _ => true

def Quiet (s s' : St) : Prop := ∀ id, (id < s.next ∨ s'.next ≤ id) → s'.heap.get id = s.heap.get id

def quietAt (fs : List Foot) (i : Nat) : Prop := ∀ f, fs[i]? = some f → Quiet f.before f.after

/-! A quick look whether a call left the old blocks alone: what the kernel can reckon. -/
def sameA : Value → Value → Bool
  | .bool a, .bool b => a == b
  | .int k a, .int k' b => decide (k = k') && a == b
  | .string a, .string b => a.data.toList == b.data.toList
  | .pointer a, .pointer b => decide (a = b)
  | .slice a n c, .slice b m d => decide (a = b) && n == m && c == d
  | .map a, .map b => decide (a = b)
  | .nilFunc, .nilFunc => true
  | .nilIface, .nilIface => true
  | _, _ => false

theorem sameA_eq {a b : Value} (h : sameA a b = true) : a = b := by
  unfold sameA at h
  split at h <;> simp only [Bool.and_eq_true, beq_iff_eq, decide_eq_true_eq, Bool.false_eq_true] at h
  · rw [h]
  · rw [h.1, h.2]
  · rename_i a b
    obtain ⟨⟨a⟩⟩ := a
    obtain ⟨⟨b⟩⟩ := b
    simp only at h
    rw [h]
  · rw [h]
  · rw [h.1.1, h.1.2, h.2]
  · rw [h]
  · rfl
  · rfl

def sameLA : List Value → List Value → Bool
  | [], [] => true
  | a :: as, b :: bs => sameA a b && sameLA as bs
  | _, _ => false

theorem sameLA_eq : ∀ {a b : List Value}, sameLA a b = true → a = b := by
  intro a
  induction a with
  | nil => intro b h; cases b with
    | nil => rfl
    | cons _ _ => simp [sameLA] at h
  | cons x a ih => intro b h; cases b with
    | nil => simp [sameLA] at h
    | cons y b => simp only [sameLA, Bool.and_eq_true] at h; rw [sameA_eq h.1, ih h.2]

def sameV : Value → Value → Bool
  | .agg a, .agg b => sameLA a.toList b.toList
  | a, b => sameA a b

theorem sameV_eq {a b : Value} (h : sameV a b = true) : a = b := by
  unfold sameV at h
  split at h
  · exact congrArg _ (Array.toList_inj.1 (sameLA_eq h))
  · exact sameA_eq h

def sameL : List Value → List Value → Bool
  | [], [] => true
  | a :: as, b :: bs => sameV a b && sameL as bs
  | _, _ => false

theorem sameL_eq : ∀ {a b : List Value}, sameL a b = true → a = b := by
  intro a
  induction a with
  | nil => intro b h; cases b with
    | nil => rfl
    | cons _ _ => simp [sameL] at h
  | cons x a ih => intro b h; cases b with
    | nil => simp [sameL] at h
    | cons y b => simp only [sameL, Bool.and_eq_true] at h; rw [sameV_eq h.1, ih h.2]

def sameE : List MapEntry → List MapEntry → Bool
  | [], [] => true
  | a :: as, b :: bs => sameV a.key b.key && sameV a.val b.val && a.born == b.born && sameE as bs
  | _, _ => false

theorem sameE_eq : ∀ {a b : List MapEntry}, sameE a b = true → a = b := by
  intro a
  induction a with
  | nil => intro b h; cases b with
    | nil => rfl
    | cons _ _ => simp [sameE] at h
  | cons x a ih => intro b h; cases b with
    | nil => simp [sameE] at h
    | cons y b =>
      simp only [sameE, Bool.and_eq_true, beq_iff_eq] at h
      obtain ⟨⟨⟨h1, h2⟩, h3⟩, h4⟩ := h
      obtain ⟨k, v, n⟩ := x
      obtain ⟨k', v', n'⟩ := y
      simp only at h1 h2 h3
      rw [sameV_eq h1, sameV_eq h2, h3, ih h4]

def sameO : Option AObj → Option AObj → Bool
  | none, none => true
  | some (.cells c t sz ro), some (.cells c' t' sz' ro') => sameL c c' && t == t' && sz == sz' && ro == ro'
  | some (.map es k), some (.map es' k') => sameE es es' && k == k'
  | _, _ => false

theorem sameO_eq {a b : Option AObj} (h : sameO a b = true) : a = b := by
  unfold sameO at h
  split at h
  · rfl
  · simp only [Bool.and_eq_true, beq_iff_eq] at h
    obtain ⟨⟨⟨h1, h2⟩, h3⟩, h4⟩ := h
    rw [sameL_eq h1, h2, h3, h4]
  · simp only [Bool.and_eq_true, beq_iff_eq] at h
    rw [sameE_eq h.1, h.2]
  · cases h

def grewB (n m : Nat) : Heap → Heap → Bool
  | [], r => r.all fun p => decide (n ≤ p.1) && decide (p.1 < m)
  | (i, o) :: h, (j, o') :: h' => i == j && sameO o o' && grewB n m h h'
  | _ :: _, [] => false

theorem grewB_get {n m : Nat} : ∀ {h h' : Heap}, grewB n m h h' = true → ∀ id, (id < n ∨ m ≤ id) → h'.get id = h.get id := by
  intro h
  induction h with
  | nil =>
    intro h' hg id hid
    simp only [grewB, List.all_eq_true, Bool.and_eq_true, decide_eq_true_eq] at hg
    induction h' with
    | nil => rfl
    | cons p h' ih =>
      obtain ⟨j, o⟩ := p
      have h1 := hg (j, o) (List.mem_cons_self ..)
      simp only at h1
      have hne : ¬ id = j := by omega
      simp only [Heap.get, hne, if_false]
      exact ih fun p hp => hg p (List.mem_cons_of_mem _ hp)
  | cons p h ih =>
    intro h' hg id hid
    obtain ⟨i, o⟩ := p
    cases h' with
    | nil => simp [grewB] at hg
    | cons q h' =>
      obtain ⟨j, o'⟩ := q
      simp only [grewB, Bool.and_eq_true, beq_iff_eq] at hg
      obtain ⟨⟨rfl, h2⟩, h3⟩ := hg
      simp only [Heap.get]
      split
      · exact (sameO_eq h2).symm
      · exact ih h3 id hid

def quietB (fs : List Foot) (i : Nat) : Bool :=
  match fs[i]? with
  | some f => grewB f.before.next f.after.next f.before.heap f.after.heap
  | none => true

theorem quietB_at {fs : List Foot} {i : Nat} (h : quietB fs i = true) : quietAt fs i := by
  intro f hf id hid
  unfold quietB at h
  rw [hf] at h
  exact grewB_get h id hid

def apartAt (fs : List Foot) (p : Nat × Nat) : Prop := ∀ f g, fs[p.1]? = some f → fs[p.2]? = some g → ∀ id, (id ∈ g.rd ∨ (g.before.next ≤ id ∧ id < g.after.next)) → f.after.heap.get id = f.before.heap.get id

def apartB (fs : List Foot) (p : Nat × Nat) : Bool :=
  match fs[p.1]?, fs[p.2]? with
  | some f, some g => (g.rd ++ List.range' g.before.next (g.after.next - g.before.next)).all fun id => sameO (f.after.heap.get id) (f.before.heap.get id)
  | _, _ => true

theorem apartB_at {fs : List Foot} {p : Nat × Nat} (h : apartB fs p = true) : apartAt fs p := by
  intro f g hf hg id hid
  unfold apartB at h
  rw [hf, hg] at h
  refine sameO_eq (List.all_eq_true.1 h id ?_)
  rcases hid with hid | hid
  · exact List.mem_append_left _ hid
  · refine List.mem_append_right _ ?_
    rw [List.mem_range'_1]
    omega

open Classical in
noncomputable def evDraw (cs : CallSem) (ops : List AOper) (d : Draw) (e : Env) (s : St) : Option (Env × St) :=
  (evOpsD cs ops e s).bind fun q =>
    if d.pairs.all (pairOk q.1) = true then
      (if (d.quiet.all (quietB q.1) && d.apart.all (apartB q.1)) = true then some q.2 else if (∀ i ∈ d.quiet, quietAt q.1 i) ∧ ∀ p ∈ d.apart, apartAt q.1 p then some q.2 else none)
    else none

theorem evDraw_spec {cs : CallSem} {ops : List AOper} {d : Draw} {e : Env} {s : St} {p : Env × St} (h : evDraw cs ops d e s = some p) :
    ∃ fs, evOpsD cs ops e s = some (fs, p) ∧ d.pairs.all (pairOk fs) = true ∧ (∀ i ∈ d.quiet, quietAt fs i) ∧ ∀ p ∈ d.apart, apartAt fs p := by
  unfold evDraw at h
  simp only [Option.bind_eq_some_iff] at h
  obtain ⟨⟨fs, q⟩, hq, h⟩ := h
  split at h
  case isFalse => cases h
  rename_i hp
  split at h
  · rename_i hem
    cases h
    rw [Bool.and_eq_true] at hem
    exact ⟨fs, hq, hp, fun i hi => quietB_at (List.all_eq_true.1 hem.1 i hi), fun i hi => apartB_at (List.all_eq_true.1 hem.2 i hi)⟩
  · split at h
    · rename_i hqu; cases h; exact ⟨fs, hq, hp, hqu.1, hqu.2⟩
    · cases h

theorem evDraw_mk {cs : CallSem} {ops : List AOper} {d : Draw} {e : Env} {s : St} {p : Env × St} {fs : List Foot} (h : evOpsD cs ops e s = some (fs, p)) (hp : d.pairs.all (pairOk fs) = true) (hq : (∀ i ∈ d.quiet, quietAt fs i) ∧ ∀ p ∈ d.apart, apartAt fs p) :
    evDraw cs ops d e s = some p := by
  unfold evDraw
  rw [h, Option.bind_some, if_pos hp]
  split
  · rfl
  · first | rfl | rw [if_pos hq]

def restrict (live : List Nat) (e : Env) : Env := live.filterMap fun t => (e.get t).map fun v => (t, v)

def iter (f : Env → St → Option (AExit × Env × St)) (live : List Nat) : Nat → Env → St → Option (AExit × Env × St)
  | 0, _, _ => none
  | k + 1, e, s => (f (restrict live e) s).bind fun q =>
    match q.1 with
    | .normal => iter f live k q.2.1 q.2.2
    | x => some (x, q.2)

noncomputable def evCode (cs : CallSem) (n : Nat) : ACode → Env → St → Option (AExit × Env × St)
  | .skip, e, s => some (.normal, e, s)
  | .region ops d, e, s =>
    match d with
    | none => (evOps cs ops e s).map fun q => (.normal, q)
    | some d => (evDraw cs ops d e s).map fun q => (.normal, q)
  | .seq a b, e, s => (evCode cs n a e s).bind fun q =>
    match q.1 with
    | .normal => evCode cs n b q.2.1 q.2.2
    | x => some (x, q.2)
  | .cond c a b, e, s =>
    match e.rd c with
    | some (.bool t) => if t then evCode cs n a e s else evCode cs n b e s
    | _ => none
  | .block id body, e, s => (evCode cs n body e s).map fun q => (if q.1 = .exit id then .normal else q.1, q.2)
  | .loop live body, e, s => iter (evCode cs n body) live n e s
  | .exit id, e, s => some (.exit id, e, s)
  | .ret, e, s => some (.ret, e, s)

def params : Nat → List Value → Env
  | _, [] => []
  | k, v :: r => (k, v) :: params (k + 1) r

def loadA (s : St) (n : Option Nat) (a : Value) : Option Value := (evP s.heap.get s.next (.load n a)).map (·.val)

def resV (e : Env) (s : St) : ResK → Option Value
  | .tmp t => e.get t
  | .cell a n => (e.get a).bind fun a => loadA s n a

def tupleV : List Value → Value
  | [v] => v
  | vs => .tuple vs.toArray

noncomputable def evFun (cs : CallSem) (n : Nat) (fn : AFun) (args : List Value) (s : St) : Option (Value × St) :=
  if args.length = fn.np then
    (evCode cs n fn.body (params 0 args) s).bind fun q =>
      match q.1 with
      | .exit _ => none
      | _ => (mapList (resV q.2.1 q.2.2) fn.res).map fun vs => (tupleV vs, q.2.2)
  else none

/-! ### what a call leaves behind -/
def atomV : Value → Bool
  | .bool _ | .int _ _ | .float _ _ | .complex _ _ _ | .string _ | .pointer none | .slice none _ _ | .map none | .chan none | .nilFunc | .nilIface => true
  | _ => false
def flatV : Nat → Value → Bool
  | 0, v => atomV v
  | n + 1, .tuple a => a.toList.all (flatV n)
  | n + 1, .agg a => a.toList.all (flatV n)
  | _ + 1, v => atomV v

def KeptAll (s s' : St) : Prop := ∀ id, id < s.next → s'.heap.get id = s.heap.get id
def keptB (s s' : St) : Bool := grewB s.next s'.next s.heap s'.heap
theorem keptB_all {s s' : St} (h : keptB s s' = true) : KeptAll s s' := fun id hid => grewB_get h id (.inl hid)

open Classical in
noncomputable def gcR (g : Nat) (s : St) (r : Value × St) : Value × St :=
  if g = 0 then r
  else if flatV 2 r.1 = true then
    (if keptB s r.2 = true then (r.1, ⟨s.heap, r.2.next⟩) else if KeptAll s r.2 then (r.1, ⟨s.heap, r.2.next⟩) else r)
  else r

theorem gcR_of {g : Nat} {s : St} {r : Value × St} (hg : g ≠ 0) (hf : flatV 2 r.1 = true) (hk : KeptAll s r.2) : gcR g s r = (r.1, ⟨s.heap, r.2.next⟩) := by
  unfold gcR
  rw [if_neg hg, if_pos hf]
  split
  · rfl
  · first | rfl | rw [if_pos hk]
theorem gcR_cases (g : Nat) (s : St) (r : Value × St) : gcR g s r = r ∨ (flatV 2 r.1 = true ∧ KeptAll s r.2 ∧ gcR g s r = (r.1, ⟨s.heap, r.2.next⟩)) := by
  unfold gcR
  split
  · exact .inl rfl
  · split
    · rename_i hf
      split
      · rename_i hb; exact .inr ⟨hf, keptB_all hb, rfl⟩
      · split
        · rename_i hk; exact .inr ⟨hf, hk, rfl⟩
        · exact .inl rfl
    · exact .inl rfl
theorem gcR_zero (s : St) (r : Value × St) : gcR 0 s r = r := rfl

noncomputable def call (tbl : FuncId → Option AFun) (ov : CallSem) : Nat → CallSem
  | 0 => fun _ _ _ => none
  | k + 1 => fun f args s =>
    match tbl f with
    | some fn => (evFun (call tbl ov k) k fn args s).map (gcR fn.gc s)
    | none => ov f args s

end Go.Abs


/-
  How the abstract state stands to the world: values, blocks, steps.
-/
set_option linter.unusedVariables false
set_option linter.unusedSimpArgs false
namespace Go.Abs
open Go

theorem bytes_eq_iff (a b : ByteArray) : (a == b) = true ↔ a = b := by
  show ByteArray.beq a b = true ↔ a = b
  cases a with
  | mk x =>
    cases b with
    | mk y =>
      unfold ByteArray.beq
      simp

structure Rec where
  blk : Nat
  base : Nat
  slack : Nat
  n : Nat
  sz : Nat

abbrev Map := Nat → Option Rec
def Map.le (β β' : Map) : Prop := ∀ id r, β id = some r → β' id = some r
theorem Map.le_refl (β : Map) : Map.le β β := fun _ _ h => h
theorem Map.le_trans {a b c : Map} (h : Map.le a b) (k : Map.le b c) : Map.le a c := fun id r e => k id r (h id r e)

def primV : Value → Bool
  | .bool _ | .int _ _ | .float _ _ | .complex _ _ _ | .string _ | .pointer none | .slice none _ _ | .map none | .chan none | .nilFunc | .nilIface => true
  | _ => false

inductive VRel (β : Map) : Value → Value → Prop where
  | prim (v : Value) (h : primV v = true) : VRel β v v
  | ptr {id o : Nat} {r : Rec} (h : β id = some r) : VRel β (.pointer (some ⟨id, o, none⟩)) (.pointer (some ⟨r.blk, r.base + o, none⟩))
  | slice {id o len cap cap' : Nat} {r : Rec} (h : β id = some r) (hc : cap' = cap ∨ (cap' = cap + r.slack ∧ o + cap * r.sz = r.n)) :
      VRel β (.slice (some ⟨id, o, none⟩) len cap) (.slice (some ⟨r.blk, r.base + o, none⟩) len cap')
  | empty {id o : Nat} {a : Addr} {r : Rec} (h : β id = some r) : VRel β (.slice (some ⟨id, o, none⟩) 0 0) (.slice (some a) 0 0)
  | map {id : Nat} {r : Rec} (h : β id = some r) : VRel β (.map (some id)) (.map (some r.blk))
  | func {fn : Fn} {a c a' c' : Array Value} (h1 : a.size = a'.size) (h2 : c.size = c'.size)
      (h3 : ∀ i (h : i < a.size) (h' : i < a'.size), VRel β a[i] a'[i]) (h4 : ∀ i (h : i < c.size) (h' : i < c'.size), VRel β c[i] c'[i]) :
      VRel β (.func fn a c) (.func fn a' c')
  | iface {t : TypeId} {v v' : Value} (h : VRel β v v') : VRel β (.iface t v) (.iface t v')
  | agg {a a' : Array Value} (h1 : a.size = a'.size) (h3 : ∀ i (h : i < a.size) (h' : i < a'.size), VRel β a[i] a'[i]) : VRel β (.agg a) (.agg a')
  | tuple {a a' : Array Value} (h1 : a.size = a'.size) (h3 : ∀ i (h : i < a.size) (h' : i < a'.size), VRel β a[i] a'[i]) : VRel β (.tuple a) (.tuple a')

theorem VRel.mono {β β' : Map} (hb : Map.le β β') {v v' : Value} (h : VRel β v v') : VRel β' v v' := by
  induction h with
  | prim v h => exact .prim v h
  | ptr h => exact .ptr (hb _ _ h)
  | slice h hc => exact .slice (hb _ _ h) hc
  | empty h => exact .empty (hb _ _ h)
  | map h => exact .map (hb _ _ h)
  | func h1 h2 _ _ ih3 ih4 => exact .func h1 h2 ih3 ih4
  | iface _ ih => exact .iface ih
  | agg h1 _ ih => exact .agg h1 ih
  | tuple h1 _ ih => exact .tuple h1 ih

inductive All2 {α γ : Type} (R : α → γ → Prop) : List α → List γ → Prop where
  | nil : All2 R [] []
  | cons {a : α} {b : γ} {l : List α} {l' : List γ} (h : R a b) (t : All2 R l l') : All2 R (a :: l) (b :: l')

abbrev LRel (β : Map) : List Value → List Value → Prop := All2 (VRel β)

theorem LRel.mono {β β' : Map} (hb : Map.le β β') {l l' : List Value} (h : LRel β l l') : LRel β' l l' := by
  induction h with
  | nil => exact .nil
  | cons h _ ih => exact .cons (h.mono hb) ih

theorem LRel.length {β : Map} {l l' : List Value} (h : LRel β l l') : l.length = l'.length := by
  induction h with
  | nil => rfl
  | cons _ _ ih => simp [ih]

theorem lrel_iff {β : Map} {l l' : List Value} : LRel β l l' ↔ l.length = l'.length ∧ ∀ i (h : i < l.length) (h' : i < l'.length), VRel β l[i] l'[i] := by
  constructor
  · intro h
    refine ⟨h.length, ?_⟩
    induction h with
    | nil => intro i h; exact absurd h (Nat.not_lt_zero i)
    | cons h0 _ ih =>
      intro i h h'
      cases i with
      | zero => exact h0
      | succ i => exact ih i (by simpa using h) (by simpa using h')
  · rintro ⟨hl, h⟩
    induction l generalizing l' with
    | nil =>
      cases l' with
      | nil => exact .nil
      | cons a b => simp at hl
    | cons x l ih =>
      cases l' with
      | nil => simp at hl
      | cons y l' =>
        refine .cons (h 0 (by simp) (by simp)) (ih (by simpa using hl) fun i hi hi' => ?_)
        exact h (i + 1) (by simpa using hi) (by simpa using hi')

theorem lrel_arr {β : Map} {a a' : Array Value} : LRel β a.toList a'.toList ↔ a.size = a'.size ∧ ∀ i (h : i < a.size) (h' : i < a'.size), VRel β a[i] a'[i] := by
  rw [lrel_iff]; simp

theorem LRel.agg {β : Map} {l l' : List Value} (h : LRel β l l') : VRel β (.agg l.toArray) (.agg l'.toArray) := by
  have := lrel_iff.1 h
  exact .agg (by simpa using this.1) (by simpa using this.2)
theorem LRel.tuple {β : Map} {l l' : List Value} (h : LRel β l l') : VRel β (.tuple l.toArray) (.tuple l'.toArray) := by
  have := lrel_iff.1 h
  exact .tuple (by simpa using this.1) (by simpa using this.2)

theorem LRel.get {β : Map} {l l' : List Value} (h : LRel β l l') {i : Nat} {v : Value} (hv : l[i]? = some v) : ∃ v', l'[i]? = some v' ∧ VRel β v v' := by
  obtain ⟨hl, hh⟩ := lrel_iff.1 h
  obtain ⟨hi, rfl⟩ := List.getElem?_eq_some_iff.1 hv
  exact ⟨l'[i]'(hl ▸ hi), List.getElem?_eq_getElem _, hh i hi _⟩

theorem LRel.take {β : Map} {l l' : List Value} (h : LRel β l l') (n : Nat) : LRel β (l.take n) (l'.take n) := by
  induction h generalizing n with
  | nil => simpa using .nil
  | cons h _ ih => cases n with
    | zero => exact .nil
    | succ n => exact .cons h (ih n)
theorem LRel.drop {β : Map} {l l' : List Value} (h : LRel β l l') (n : Nat) : LRel β (l.drop n) (l'.drop n) := by
  induction h generalizing n with
  | nil => simpa using .nil
  | cons h h' ih => cases n with
    | zero => exact .cons h h'
    | succ n => exact ih n
theorem LRel.append {β : Map} {l l' k k' : List Value} (h : LRel β l l') (h2 : LRel β k k') : LRel β (l ++ k) (l' ++ k') := by
  induction h with
  | nil => exact h2
  | cons h _ ih => exact .cons h ih
theorem LRel.set {β : Map} {l l' : List Value} (h : LRel β l l') (i : Nat) {v v' : Value} (hv : VRel β v v') : LRel β (l.set i v) (l'.set i v') := by
  induction h generalizing i with
  | nil => exact .nil
  | cons h h' ih => cases i with
    | zero => exact .cons hv h'
    | succ i => exact .cons h (ih i)
theorem LRel.storeL {β : Map} {vs vs' : List Value} (hv : LRel β vs vs') : ∀ {l l' : List Value} (_ : LRel β l l') (i : Nat), LRel β (storeL l i vs) (storeL l' i vs') := by
  induction hv with
  | nil => intro l l' h i; exact h
  | cons h _ ih => intro l l' hl i; exact ih (hl.set i h) (i + 1)

theorem storeL_length (vs : List Value) : ∀ (l : List Value) (i : Nat), (storeL l i vs).length = l.length := by
  induction vs with
  | nil => intro l i; rfl
  | cons v vs ih => intro l i; simp [storeL, ih]

theorem storeL_get (vs : List Value) : ∀ (L : List Value) (o j : Nat), o + vs.length ≤ L.length → (storeL L o vs)[j]? = if o ≤ j ∧ j < o + vs.length then vs[j - o]? else L[j]? := by
  induction vs with
  | nil => intro L o j _; simp only [storeL, List.length_nil]; rw [if_neg (by omega)]
  | cons v vs ih =>
    intro L o j hle
    simp only [List.length_cons] at hle ⊢
    simp only [storeL]
    rw [ih _ _ _ (by simp; omega)]
    by_cases h1 : o + 1 ≤ j ∧ j < o + 1 + vs.length
    · rw [if_pos h1, if_pos (by omega)]
      obtain ⟨d, rfl⟩ : ∃ d, j = o + 1 + d := ⟨j - (o + 1), by omega⟩
      rw [show o + 1 + d - (o + 1) = d by omega, show o + 1 + d - o = d + 1 by omega]
      simp
    · rw [if_neg h1]
      by_cases h2 : j = o
      · subst h2
        rw [if_pos (by omega), List.getElem?_set_self (by omega)]
        simp
      · rw [if_neg (by omega), List.getElem?_set_ne (Ne.symm h2)]

def plainV : Value → Bool
  | .bool _ | .int _ _ | .float _ _ | .complex _ _ _ | .string _ => true
  | _ => false
def zeroOk (l : List Value) : Bool := l.all primV
theorem LRel.zero {β : Map} {l : List Value} (h : zeroOk l = true) : LRel β l l := by
  induction l with
  | nil => exact .nil
  | cons v l ih =>
    simp only [zeroOk, List.all_cons, Bool.and_eq_true] at h
    exact .cons (.prim v h.1) (ih h.2)

/-! ### Blocks -/

def ERel (β : Map) (e e' : MapEntry) : Prop := e.key = e'.key ∧ plainV e.key = true ∧ VRel β e.val e'.val ∧ e.born = e'.born

def GlobIs : Nat → Obj → Prop
  | 0, .cells C _ _ => ∃ m, C[0]? = some (.int .i64 m)
  | 1, .cells C _ _ => ∃ v, C[0]? = some v ∧ (v = .nilIface ∨ ∃ t p, v = .iface t p)
  | 2, .cells C _ _ => C.toList = (List.range 20).map fun i => .int .u64 ((10 ^ i : Nat) : Int)
  | k + 3, .cells C _ _ => C.toList = (List.range 256).map fun i => .int .u8 (if (k / 2 ^ i) % 2 = 1 then 1 else 0)
  | _, _ => False

def ORel (β : Map) (r : Rec) : AObj → Option Obj → Prop
  | .cells c t sz ro, some (.cells C T fr) =>
    T = t ∧ r.n = c.length ∧ (ro = true → r.slack = 0) ∧ (r.slack ≠ 0 → r.sz = sz ∧ sz < 4294967296) ∧ r.base + c.length + r.slack * r.sz ≤ C.size ∧
    (∀ i, (h : i < c.length) → ∃ y, C[r.base + i]? = some y ∧ VRel β c[i] y) ∧
    (ro = false → fr.1 = fr.2 ∨ (sz = 1 ∧ r.base + c.length + r.slack * r.sz ≤ fr.1)) ∧
    ((1 < sz → ∀ i, i < r.slack * r.sz → ∃ y, C[r.base + c.length + i]? = some y ∧ primV y = true) ∧ (sz = 0 → ro = false → r.n ≠ 0 → r.base = 0))
  | .map es clock, some (.map ES clock') => clock = clock' ∧ All2 (ERel β) es ES.toList
  | .iter s pos, some (.stringIter s' pos') => r.base = 0 ∧ s = s' ∧ pos = pos'
  | .glob b k, some ob => r.blk = b ∧ GlobIs k ob
  | _, _ => False

theorem ERel.mono {β β' : Map} (hb : Map.le β β') {e e' : MapEntry} (h : ERel β e e') : ERel β' e e' := ⟨h.1, h.2.1, h.2.2.1.mono hb, h.2.2.2⟩

theorem forall2_mono {α γ : Type} {R S : α → γ → Prop} (h : ∀ a b, R a b → S a b) {l : List α} {l' : List γ} (hl : All2 R l l') : All2 S l l' := by
  induction hl with
  | nil => exact .nil
  | cons h1 _ ih => exact .cons (h _ _ h1) ih

theorem ORel.mono {β β' : Map} (hb : Map.le β β') {r : Rec} {o : AObj} {q : Option Obj} (h : ORel β r o q) : ORel β' r o q := by
  cases o with
  | cells c t sz ro =>
    cases q with
    | none => exact h
    | some q =>
      cases q <;> try exact h
      obtain ⟨h1, h2, h3, h4, h5, h6, h7⟩ := h
      exact ⟨h1, h2, h3, h4, h5, fun i hi => let ⟨y, e, v⟩ := h6 i hi; ⟨y, e, v.mono hb⟩, h7⟩
  | map es clock =>
    cases q with
    | none => exact h
    | some q =>
      cases q <;> try exact h
      exact ⟨h.1, forall2_mono (fun _ _ => ERel.mono hb) h.2⟩
  | iter s p =>
    cases q with
    | none => exact h
    | some q => cases q <;> exact h
  | glob b ob =>
    cases q with
    | none => exact h
    | some q => exact h

def kept0 : Nat := 8

abbrev HF := Nat → Option AObj

structure Sim (β : Map) (h : HF) (w : World) : Prop where
  obj : ∀ id r o, β id = some r → h id = some o → ORel β r o w.heap[r.blk]?
  inj : ∀ id1 id2 r1 r2 o1 o2, β id1 = some r1 → β id2 = some r2 → h id1 = some o1 → h id2 = some o2 → r1.blk = r2.blk →
    id1 = id2 ∨ (o1.isRo = true ∧ o2.isRo = true)
  tot : ∀ id, id < kept0 → ∃ r, β id = some r

theorem Sim.glob {β : Map} {h : HF} {w : World} (hs : Sim β h w) {id b k : Nat} (hid : id < kept0) (ho : h id = some (.glob b k)) : ∃ ob, w.heap[b]? = some ob ∧ GlobIs k ob := by
  obtain ⟨r, hr⟩ := hs.tot id hid
  have := hs.obj id r _ hr ho
  cases hq : w.heap[r.blk]? with
  | none => rw [hq] at this; exact this.elim
  | some q =>
    rw [hq] at this
    obtain ⟨h1, h2⟩ := this
    exact ⟨q, by rw [← h1, hq], h2⟩

theorem ORel.ne_none {β : Map} {r : Rec} {o : AObj} {q : Option Obj} (h : ORel β r o q) : q ≠ none := by
  intro e; subst e; cases o <;> exact h

theorem Sim.lt {β : Map} {h : HF} {w : World} (hs : Sim β h w) {id : Nat} {r : Rec} {o : AObj} (hb : β id = some r) (ho : h id = some o) : r.blk < w.heap.size := by
  have := (hs.obj id r o hb ho).ne_none
  rcases Nat.lt_or_ge r.blk w.heap.size with h | h
  · exact h
  · exact absurd (Array.getElem?_eq_none h) this

def Fresh (β : Map) (n n' : Nat) : Prop := ∀ id, n ≤ id → id < n' → β id = none

def Owned (β : Map) (h : HF) (k : Nat) : Prop := ∃ id r o, β id = some r ∧ h id = some o ∧ o.isRo = false ∧ r.blk = k

structure Step (β : Map) (h : HF) (w : World) (β' : Map) (h' : HF) (w' : World) (n n' : Nat) : Prop where
  le : Map.le β β'
  next : n ≤ n'
  new : ∀ id r, β' id = some r → β id = none → n ≤ id ∧ id < n'
  frame : ∀ k, k < w.heap.size → ¬ Owned β h k → w'.heap[k]? = w.heap[k]?
  size : w.heap.size ≤ w'.heap.size
  img : ∀ k, Owned β' h' k → k < w.heap.size → Owned β h k
  ro : ∀ id r o, β' id = some r → h' id = some o → o.isRo = true → β id = some r ∧ h id = some o
  os : w'.os = w.os
  tape : w'.tape = w.tape
  output : w'.output = w.output

theorem Step.refl (β : Map) (h : HF) (w : World) (n : Nat) : Step β h w β h w n n :=
  ⟨Map.le_refl β, Nat.le_refl _, fun id r e f => (by rw [f] at e; cases e), fun _ _ _ => rfl, Nat.le_refl _, fun _ o _ => o, fun _ _ _ e f _ => ⟨e, f⟩, rfl, rfl, rfl⟩

theorem Step.trans {β β' β'' : Map} {h h' h'' : HF} {w w' w'' : World} {n n' n'' : Nat} (a : Step β h w β' h' w' n n') (b : Step β' h' w' β'' h'' w'' n' n'') :
    Step β h w β'' h'' w'' n n'' where
  le := Map.le_trans a.le b.le
  next := Nat.le_trans a.next b.next
  new := fun id r e f => by
    cases hb : β' id with
    | none => obtain ⟨h1, h2⟩ := b.new id r e hb; exact ⟨Nat.le_trans a.next h1, h2⟩
    | some r' => obtain ⟨h1, h2⟩ := a.new id r' hb f; exact ⟨h1, Nat.lt_of_lt_of_le h2 b.next⟩
  frame := fun k hk ho => by
    rw [b.frame k (Nat.lt_of_lt_of_le hk a.size) (fun q => ho (a.img k q hk)), a.frame k hk ho]
  size := Nat.le_trans a.size b.size
  img := fun k q hk => a.img k (b.img k q (Nat.lt_of_lt_of_le hk a.size)) hk
  ro := fun id r o e f g => let ⟨e1, f1⟩ := b.ro id r o e f g; a.ro id r o e1 f1 g
  os := b.os.trans a.os
  tape := b.tape.trans a.tape
  output := b.output.trans a.output

theorem Fresh.step {β β' : Map} {h h' : HF} {w w' : World} {n n' n'' : Nat} (hf : Fresh β n n'') (s : Step β h w β' h' w' n n') : Fresh β' n' n'' := by
  intro id h1 h2
  cases e : β' id with
  | none => rfl
  | some r =>
    have := hf id (Nat.le_trans s.next h1) h2
    have := (s.new id r e this).2
    omega

theorem Fresh.left {β : Map} {n n' n'' : Nat} (hf : Fresh β n n'') (h : n' ≤ n'') : Fresh β n n' := fun id h1 h2 => hf id h1 (by omega)

def CallOK (P : Program) (f : FuncId) (args : List Value) (s : St) (v : Value) (s' : St) : Prop :=
  s.next ≤ s'.next ∧ ∀ (β : Map) (w : World) (args' : List Value), Sim β s.heap.get w → Fresh β s.next s'.next → LRel β args args' →
    Calls P f args'.toArray w fun e w' => ∃ v' β', e = .returned v' ∧ VRel β' v v' ∧ Sim β' s'.heap.get w' ∧ Step β s.heap.get w β' s'.heap.get w' s.next s'.next

/-! ### The frame of a call -/

structure EnvRel (β : Map) (e : Env) (a : Act) : Prop where
  rel : ∀ t v, e.get t = some v → t < a.tmps.size ∧ VRel β v (a.tmps.getD t undef)
  defers : a.defers = []

theorem EnvRel.mono {β β' : Map} (hb : Map.le β β') {e : Env} {a : Act} (h : EnvRel β e a) : EnvRel β' e a :=
  ⟨fun t v hv => ⟨(h.rel t v hv).1, (h.rel t v hv).2.mono hb⟩, h.defers⟩

theorem undefV_rel (β : Map) : VRel β undefV undef := .tuple rfl (fun i h => absurd h (Nat.not_lt_zero i))

theorem EnvRel.put {β : Map} {e : Env} {a : Act} (h : EnvRel β e a) {d : Option Nat} (hd : ∀ t, d = some t → t < a.tmps.size) {v v' : Value} (hv : VRel β v v') : EnvRel β (setE e d v) (a.put d v') := by
  cases d with
  | none => exact h
  | some d =>
    refine ⟨fun t u hu => ?_, h.defers⟩
    simp only [setE, Env.get] at hu
    have hs := hd d rfl
    by_cases e : t = d
    · subst e
      simp only [if_true, Option.some.injEq] at hu
      subst hu
      simp only [Act.put, Array.size_setIfInBounds]
      refine ⟨hs, ?_⟩
      simp [Array.getD, hs, hv]
    · rw [if_neg e] at hu
      obtain ⟨h1, h2⟩ := h.rel t u hu
      simp only [Act.put, Array.size_setIfInBounds]
      refine ⟨h1, ?_⟩
      have : (a.tmps.setIfInBounds d v').getD t undef = a.tmps.getD t undef := by
        simp [Array.getD, h1, Ne.symm e]
      rw [this]; exact h2

theorem EnvRel.rd {β : Map} {e : Env} {a : Act} (h : EnvRel β e a) {x : Operand} {v : Value} (hx : ∀ c, x = .const c → primV c = true) (hv : e.rd x = some v) : VRel β v (a.eval x) := by
  cases x with
  | tmp t => exact (h.rel t v hv).2
  | const c => simp only [Env.rd, Option.some.injEq] at hv; subst hv; exact .prim c (hx c rfl)
  | global g => simp [Env.rd] at hv
  | func f =>
    simp only [Env.rd, Option.some.injEq] at hv; subst hv
    exact .func rfl rfl (fun i h => absurd h (Nat.not_lt_zero i)) (fun i h => absurd h (Nat.not_lt_zero i))

end Go.Abs
