/-
  The abstract machine: a small deterministic language (ACode) over a heap of blocks with names of its own, and its evaluator. Nothing here speaks of the world.
-/
import Derived.Orders
import Derived.Laws.World
import Derived.Laws.Cells
import Derived.Laws.Slices
import Derived.Laws.Sem
namespace Go.Abs
open Go

inductive AObj where
  | cells (c : List Value) (t : TypeId) (sz : Nat) (ro : Bool)
  | map (es : List MapEntry) (clock : Nat)
  | iter (s : ByteArray) (pos : Nat)

def AObj.isRo : AObj → Bool
  | .cells _ _ _ ro => ro
  | _ => false

abbrev Heap := List (Nat × Option AObj)

def Heap.get : Heap → Nat → Option AObj
  | [], _ => none
  | (j, o) :: h, i => if i = j then o else Heap.get h i

def Heap.put : Heap → Nat → Option AObj → Heap
  | [], i, o => [(i, o)]
  | (j, p) :: h, i, o => if i = j then (i, o) :: h else (j, p) :: Heap.put h i o

theorem Heap.get_put (h : Heap) (i : Nat) (o : Option AObj) (j : Nat) : (h.put i o).get j = if j = i then o else h.get j := by
  induction h with
  | nil => simp [Heap.put, Heap.get]
  | cons p h ih =>
    obtain ⟨k, q⟩ := p
    by_cases e : i = k
    · subst e; simp only [Heap.put, if_true, Heap.get]; by_cases f : j = i <;> simp [f]
    · simp only [Heap.put, if_neg e, Heap.get, ih]
      by_cases f : j = k
      · have : j ≠ i := fun g => e (g ▸ f)
        simp [f]; intro g; exact absurd g.symm e
      · simp [f]

structure St where
  heap : Heap
  next : Nat

abbrev Env := List (Nat × Value)
def Env.get : Env → Nat → Option Value
  | [], _ => none
  | (j, v) :: e, i => if i = j then some v else Env.get e i

def isCell : Value → Bool
  | .agg _ | .tuple _ => false
  | _ => true

inductive KeyK where
  | int | string | bool
  deriving DecidableEq

inductive EqK where
  | scalar      -- bools
  | pointer | slice | map | func | iface       -- against nil
  | plain (ks : List KeyK)      -- structs of ints, strings, bools
  deriving DecidableEq

inductive ConvK where
  | int (k : IntKind)
  | same
  | toBytes (elem : TypeId)
  | toString
  | sameB
  deriving DecidableEq

inductive LenK where
  | string | slice | map
  deriving DecidableEq

inductive SliceK where
  | string
  | slice (sz : Nat)
  deriving DecidableEq

inductive AOp (α : Type) where
  | mov (x : α)
  | pick (c a b : α)
  | alloc (elem : TypeId) (zero : List Value)
  | box (elem : TypeId) (x : α)
  | build (zero : List Value) (parts : List (Nat × Nat × α))
  | buildSlice (elem : TypeId) (sz len : Nat) (zero : List Value) (parts : List (Nat × Nat × α))
  | load (n : Option Nat) (a : α)
  | store (n : Nat) (a x : α)
  | nilCheck (x : α)
  | bin (op : BinOp) (x y : α)
  | eq (neg : Bool) (k : EqK) (x y : α)
  | un (op : UnOp) (x : α)
  | conv (k : ConvK) (x : α)
  | mkIface (t : TypeId) (x : α)
  | mkFunc (fn : Fn) (first captured : List α)
  | mkMap (hint : Option α)
  | mkSlice (elem : TypeId) (sz bytes : Nat) (zero : List Value) (len cap : α)
  | slice (k : SliceK) (x : α) (lo hi mx : Option α)
  | fieldAddr (off : Nat) (x : α)
  | field (off : Nat) (n : Option Nat) (x : α)
  | indexAddr (sz : Nat) (x i : α)
  | index (x i : α)
  | lookup (kk : KeyK) (zero : Value) (ok : Bool) (x k : α)
  | mapUpdate (kk : KeyK) (m k v : α)
  | mapEntry (kk : KeyK) (zero : Value) (m k : α)
  | entryStore (m s v : α)
  | extract (x : α) (i : Nat)
  | len (k : LenK) (x : α)
  | cap (x : α)
  | append (elem : TypeId) (sz bytes : Nat) (x y : α)
  | appendMake (elem : TypeId) (sz bytes : Nat) (zero : List Value) (x n : α)
  | copy (sz : Nat) (x y : α)
  | clear (sz : Nat) (zero : List Value) (x : α)
  | delete (kk : KeyK) (m k : α)
  | minmax (isMax : Bool) (xs : List α)
  | call (f : α) (args : List α)

def mapParts {α β : Type} (f : α → Option β) : List (Nat × Nat × α) → Option (List (Nat × Nat × β))
  | [] => some []
  | (i, n, x) :: r => (f x).bind fun y => (mapParts f r).map fun r' => (i, n, y) :: r'

def mapList {α β : Type} (f : α → Option β) : List α → Option (List β)
  | [] => some []
  | x :: r => (f x).bind fun y => (mapList f r).map fun r' => y :: r'

def mapOpt {α β : Type} (f : α → Option β) : Option α → Option (Option β)
  | none => some none
  | some x => (f x).map some

def AOp.vals {α β : Type} (f : α → Option β) : AOp α → Option (AOp β)
  | .mov x => (f x).map .mov
  | .pick c a b => (f c).bind fun c => (f a).bind fun a => (f b).map fun b => .pick c a b
  | .alloc e z => some (.alloc e z)
  | .box e x => (f x).map (.box e)
  | .build z ps => (mapParts f ps).map (.build z)
  | .buildSlice e s l z ps => (mapParts f ps).map (.buildSlice e s l z)
  | .load n a => (f a).map (.load n)
  | .store n a x => (f a).bind fun a => (f x).map fun x => .store n a x
  | .nilCheck x => (f x).map .nilCheck
  | .bin o x y => (f x).bind fun x => (f y).map fun y => .bin o x y
  | .eq b k x y => (f x).bind fun x => (f y).map fun y => .eq b k x y
  | .un o x => (f x).map (.un o)
  | .conv k x => (f x).map (.conv k)
  | .mkIface t x => (f x).map (.mkIface t)
  | .mkFunc fn a b => (mapList f a).bind fun a => (mapList f b).map fun b => .mkFunc fn a b
  | .mkMap h => (mapOpt f h).map .mkMap
  | .mkSlice e s b z l c => (f l).bind fun l => (f c).map fun c => .mkSlice e s b z l c
  | .slice k x l h m => (f x).bind fun x => (mapOpt f l).bind fun l => (mapOpt f h).bind fun h => (mapOpt f m).map fun m => .slice k x l h m
  | .fieldAddr o x => (f x).map (.fieldAddr o)
  | .field o n x => (f x).map (.field o n)
  | .indexAddr s x i => (f x).bind fun x => (f i).map fun i => .indexAddr s x i
  | .index x i => (f x).bind fun x => (f i).map fun i => .index x i
  | .lookup kk z o x k => (f x).bind fun x => (f k).map fun k => .lookup kk z o x k
  | .mapUpdate kk m k v => (f m).bind fun m => (f k).bind fun k => (f v).map fun v => .mapUpdate kk m k v
  | .mapEntry kk z m k => (f m).bind fun m => (f k).map fun k => .mapEntry kk z m k
  | .entryStore m s v => (f m).bind fun m => (f s).bind fun s => (f v).map fun v => .entryStore m s v
  | .extract x i => (f x).map fun x => .extract x i
  | .len k x => (f x).map (.len k)
  | .cap x => (f x).map .cap
  | .append e s b x y => (f x).bind fun x => (f y).map fun y => .append e s b x y
  | .appendMake e s b z x y => (f x).bind fun x => (f y).map fun y => .appendMake e s b z x y
  | .copy s x y => (f x).bind fun x => (f y).map fun y => .copy s x y
  | .clear s z x => (f x).map fun x => .clear s z x
  | .delete kk m k => (f m).bind fun m => (f k).map fun k => .delete kk m k
  | .minmax b xs => (mapList f xs).map (.minmax b)
  | .call g as => (f g).bind fun g => (mapList f as).map fun as => .call g as

/-! ### What an operation comes to -/

structure Res where
  val : Value
  upd : List (Nat × Option AObj)
  next : Nat

def undefV : Value := .tuple #[]

def cellList (v : Value) : List Value := v.cells.toList

def storeL (c : List Value) (o : Nat) : List Value → List Value
  | [] => c
  | v :: vs => storeL (c.set o v) (o + 1) vs

def fillL (cells : List Value) : List (Nat × Nat × Value) → Option (List Value)
  | [] => some cells
  | (off, size, v) :: rest =>
    if (cellList v).length = size ∧ off + size ≤ cells.length then fillL (storeL cells off (cellList v)) rest else none

def cellsAt (g : Nat → Option AObj) (id o n : Nat) : Option (List Value) :=
  match g id with
  | some (.cells c _ _ _) => if o + n ≤ c.length then some ((c.drop o).take n) else none
  | _ => none

def firstL (g : Nat → Option AObj) (sz n : Nat) : Value → Option (List Value)
  | .slice (some ⟨id, o, none⟩) ln _ => if n ≤ ln then cellsAt g id o (n * sz) else none
  | .slice none _ _ => some []
  | .string s => some ((s.extract 0 n).data.toList.map fun b => .int .u8 b.toNat)
  | _ => none

def lenV : Value → Option Nat
  | .slice _ n _ => some n
  | .string s => some s.size
  | _ => none

def keyOk : KeyK → Value → Bool
  | .int, .int _ _ | .string, .string _ | .bool, .bool _ => true
  | _, _ => false

def keyEq : Value → Value → Option Bool
  | .int k a, .int k' b => if k = k' then some (a == b) else none
  | .string a, .string b => some (a == b)
  | .bool a, .bool b => some (a == b)
  | _, _ => none

def findL (k : Value) : List MapEntry → Nat → Option (Option (Nat × Value))
  | [], _ => some none
  | e :: es, i =>
    match keyEq k e.key with
    | some true => some (some (i, e.val))
    | some false => findL k es (i + 1)
    | none => none

def cellEqK (k : KeyK) (x y : Value) : Option Bool := if keyOk k x && keyOk k y then keyEq x y else none

def cellsEqK : List KeyK → List Value → List Value → Option Bool
  | [], [], [] => some true
  | k :: ks, x :: xs, y :: ys => (cellEqK k x y).bind fun b => (cellsEqK ks xs ys).map fun c => b && c
  | _, _, _ => none

def eqV : EqK → Value → Value → Option Bool
  | .scalar, .bool a, .bool b => some (a == b)
  | .plain ks, .agg x, .agg y => cellsEqK ks x.toList y.toList
  | .pointer, .pointer none, .pointer b => some b.isNone
  | .pointer, .pointer _, .pointer none => some false
  | .slice, .slice none _ _, .slice b _ _ => some b.isNone
  | .slice, .slice _ _ _, .slice none _ _ => some false
  | .map, .map none, .map b => some b.isNone
  | .map, .map _, .map none => some false
  | .func, .nilFunc, .nilFunc => some true
  | .func, .nilFunc, .func _ _ _ => some false
  | .func, .func _ _ _, .nilFunc => some false
  | .iface, .nilIface, .iface _ _ => some false
  | .iface, .iface _ _, .nilIface => some false
  | .iface, .nilIface, .nilIface => some true
  | _, _, _ => none

def binV (op : BinOp) : Value → Value → Option Value
  | .int k a, .int k' b =>
    match op with
    | .shl => if b < 0 then none else some (.int k (k.wrap (a * 2 ^ min b.toNat k.bits)))
    | .shr => if b < 0 then none else some (.int k (a.fdiv (2 ^ min b.toNat k.bits)))
    | _ =>
      if k ≠ k' then none else
      match op with
      | .add => some (.int k (k.wrap (a + b)))
      | .sub => some (.int k (k.wrap (a - b)))
      | .mul => some (.int k (k.wrap (a * b)))
      | .quo => if b = 0 then none else some (.int k (k.wrap (a.tdiv b)))
      | .rem => if b = 0 then none else some (.int k (a.tmod b))
      | .and => some (.int k (k.wrap (BitVec.ofInt k.bits a &&& BitVec.ofInt k.bits b).toNat))
      | .or => some (.int k (k.wrap (BitVec.ofInt k.bits a ||| BitVec.ofInt k.bits b).toNat))
      | .xor => some (.int k (k.wrap (BitVec.ofInt k.bits a ^^^ BitVec.ofInt k.bits b).toNat))
      | .andNot => some (.int k (k.wrap (BitVec.ofInt k.bits a &&& ~~~ BitVec.ofInt k.bits b).toNat))
      | .eql => some (.bool (a == b))
      | .neq => some (.bool (a != b))
      | .lss => some (.bool (a < b))
      | .leq => some (.bool (a ≤ b))
      | .gtr => some (.bool (a > b))
      | .geq => some (.bool (a ≥ b))
      | _ => none
  | .string a, .string b =>
    match op with
    | .add => if a.size + b.size < 2 ^ 62 then some (.string (a ++ b)) else none
    | .eql => some (.bool (a.toList == b.toList))
    | .neq => some (.bool !(a.toList == b.toList))
    | .lss => some (.bool (Op.bytesLess a.toList b.toList))
    | .leq => some (.bool (Op.bytesLess a.toList b.toList || a.toList == b.toList))
    | .gtr => some (.bool !(Op.bytesLess a.toList b.toList || a.toList == b.toList))
    | .geq => some (.bool !(Op.bytesLess a.toList b.toList))
    | _ => none
  | _, _ => none

def unV (op : UnOp) : Value → Option Value
  | .int k a =>
    match op with
    | .neg => some (.int k (k.wrap (0 - a)))
    | .xor => some (.int k (k.wrap (BitVec.ofInt k.bits (if k.signed then -1 else k.max) ^^^ BitVec.ofInt k.bits a).toNat))
    | _ => none
  | .bool b => match op with | .not => some (.bool !b) | _ => none
  | _ => none

def bytesOf : List Value → ByteArray → Option ByteArray
  | [], acc => some acc
  | .int .u8 n :: r, acc => bytesOf r (acc.push (UInt8.ofNat n.toNat))
  | _ :: _, _ => none

def boundV (y : Nat) : Value → Option Nat
  | .int _ i => if 0 ≤ i ∧ i ≤ (y : Int) then some i.toNat else none
  | _ => none

def boundsV (len cap : Nat) (lo hi mx : Option Value) : Option (Nat × Nat × Nat) :=
  (match mx with | none => some cap | some v => boundV cap v).bind fun m =>
  (match hi, mx with | none, none => some len | some v, _ => boundV m v | none, some _ => none).bind fun h =>
  (match lo with | none => some 0 | some v => boundV h v).map fun l => (l, h, m)

def minmaxV (isMax : Bool) : Value → List Value → Option Value
  | .int k x, [] => some (.int k x)
  | .int k x, .int k' y :: r => if k = k' then minmaxV isMax (.int k (if isMax then (if y > x then y else x) else (if y < x then y else x))) r else none
  | _, _ => none

def tooBig (n bytes : Nat) : Bool := 2 ^ 46 < n * bytes || 2 ^ 46 < n

def entriesOf (g : Nat → Option AObj) : Value → Option (List MapEntry)
  | .map none => some []
  | .map (some r) => match g r with | some (.map es _) => some es | _ => none
  | _ => none

def lookV (z : Value) (ok : Bool) : Option (Nat × Value) → Value
  | some (_, v) => if ok then .tuple #[v, .bool true] else v
  | none => if ok then .tuple #[z, .bool false] else z

def evP (g : Nat → Option AObj) (nx : Nat) : AOp Value → Option Res
  | .mov x => some ⟨x, [], nx⟩
  | .pick c a b => match c with | .bool t => some ⟨if t then a else b, [], nx⟩ | _ => none
  | .alloc e z => some ⟨.pointer (some ⟨nx, 0, none⟩), [(nx, some (.cells z e 0 false))], nx + 1⟩
  | .box e x => some ⟨.pointer (some ⟨nx, 0, none⟩), [(nx, some (.cells (cellList x) e 0 false))], nx + 1⟩
  | .build z ps => (fillL z ps).map fun c => ⟨.agg c.toArray, [], nx⟩
  | .buildSlice e sz len z ps => (fillL z ps).map fun c => ⟨.slice (some ⟨nx, 0, none⟩) len len, [(nx, some (.cells c e sz false))], nx + 1⟩
  | .load n a =>
    match a with
    | .pointer (some ⟨id, o, none⟩) =>
      match n with
      | none => match g id with | some (.cells c _ _ _) => (c[o]?).map fun v => ⟨v, [], nx⟩ | _ => none
      | some n => (cellsAt g id o n).map fun l => ⟨.agg l.toArray, [], nx⟩
    | _ => none
  | .store n a x =>
    match a with
    | .pointer (some ⟨id, o, none⟩) =>
      match g id with
      | some (.cells c t sz false) =>
        if (cellList x).length = n ∧ (cellList x).all isCell = true ∧ o + n ≤ c.length then some ⟨undefV, [(id, some (.cells (storeL c o (cellList x)) t sz false))], nx⟩ else none
      | _ => none
    | _ => none
  | .nilCheck x => match x with | .pointer (some a) => some ⟨.pointer (some a), [], nx⟩ | .func (.func f) a b => some ⟨.func (.func f) a b, [], nx⟩ | .iface t v => some ⟨.iface t v, [], nx⟩ | _ => none
  | .bin op x y => (binV op x y).map fun v => ⟨v, [], nx⟩
  | .eq neg k x y => (eqV k x y).map fun b => ⟨.bool (b != neg), [], nx⟩
  | .un op x => (unV op x).map fun v => ⟨v, [], nx⟩
  | .conv k x =>
    match k, x with
    | .int k, .int _ n => some ⟨.int k (k.wrap n), [], nx⟩
    | .same, .string s => some ⟨.string s, [], nx⟩
    | .toBytes e, .string s => some ⟨.slice (some ⟨nx, 0, none⟩) s.size s.size, [(nx, some (.cells (s.data.toList.map fun b => .int .u8 b.toNat) e 1 false))], nx + 1⟩
    | .sameB, .slice (some ⟨id, o, none⟩) len cap => match g id with | some (.cells _ _ z false) => if cap = 0 ∨ z ≠ 1 then none else some ⟨.slice (some ⟨id, o, none⟩) len cap, [], nx⟩ | _ => none
    | .toString, .slice none _ _ => some ⟨.string .empty, [], nx⟩
    | .toString, .slice (some ⟨id, o, none⟩) len _ => (cellsAt g id o len).bind fun l => (bytesOf l .empty).map fun s => ⟨.string s, [], nx⟩
    | _, _ => none
  | .mkIface t x => some ⟨.iface t x, [], nx⟩
  | .mkFunc fn a b => some ⟨.func fn a.toArray b.toArray, [], nx⟩
  | .mkMap _ => some ⟨.map (some nx), [(nx, some (.map [] 0))], nx + 1⟩
  | .mkSlice e sz bytes z l c =>
    match l, c with
    | .int .i64 l, .int .i64 c =>
      if 0 ≤ l ∧ l ≤ c ∧ tooBig c.toNat bytes = false ∧ z.length = sz then
        some ⟨.slice (some ⟨nx, 0, none⟩) l.toNat c.toNat, [(nx, some (.cells (List.replicate c.toNat z).flatten e sz false))], nx + 1⟩ else none
    | _, _ => none
  | .slice k x lo hi mx =>
    match k, x with
    | .string, .string s => if mx.isSome then none else (boundsV s.size s.size lo hi none).map fun b => ⟨.string (s.extract b.1 b.2.1), [], nx⟩
    | .slice sz, .slice a len cap =>
      (boundsV len cap lo hi mx).bind fun b =>
        match a with
        | none => some ⟨.slice none (b.2.1 - b.1) (b.2.2 - b.1), [], nx⟩
        | some ad =>
          match g ad.block with
          | some (.cells _ _ z ro) => if ad.spot = none ∧ (ro = true ∨ z = sz ∨ z = sz + 4294967296) ∧ b.2.1 ≤ b.2.2 then some ⟨.slice (some ⟨ad.block, ad.off + b.1 * sz, none⟩) (b.2.1 - b.1) (b.2.2 - b.1), [], nx⟩ else none
          | _ => none
    | _, _ => none
  | .fieldAddr off x => match x with | .pointer (some ⟨id, o, none⟩) => some ⟨.pointer (some ⟨id, o + off, none⟩), [], nx⟩ | _ => none
  | .field off n x =>
    match x with
    | .agg cs =>
      match n with
      | none => (cs.toList[off]?).map fun v => ⟨v, [], nx⟩
      | some n => some ⟨.agg ((cs.toList.drop off).take n).toArray, [], nx⟩
    | _ => none
  | .indexAddr sz x i =>
    match x, i with
    | .slice (some ⟨id, o, none⟩) len _, .int _ i => if 0 ≤ i ∧ i < (len : Int) then some ⟨.pointer (some ⟨id, o + i.toNat * sz, none⟩), [], nx⟩ else none
    | _, _ => none
  | .index x i =>
    match x, i with
    | .string s, .int _ i => if 0 ≤ i then (s.data.toList[i.toNat]?).map fun b => ⟨.int .u8 b.toNat, [], nx⟩ else none
    | _, _ => none
  | .lookup kk z ok x k =>
    if keyOk kk k then (entriesOf g x).bind fun es => (findL k es 0).map fun r => ⟨lookV z ok r, [], nx⟩
    else none
  | .mapUpdate kk m k v =>
    match m with
    | .map (some r) =>
      match g r with
      | some (.map es clock) =>
        if keyOk kk k then (findL k es 0).map fun f =>
          match f with
          | some (i, _) => ⟨undefV, [(r, some (.map (es.modify i fun e => { e with key := k, val := v }) clock))], nx⟩
          | none => ⟨undefV, [(r, some (.map (es ++ [{ key := k, val := v, born := clock }]) (clock + 1)))], nx⟩
        else none
      | _ => none
    | _ => none
  | .mapEntry kk z m k =>
    match m with
    | .map (some r) =>
      match g r with
      | some (.map es clock) =>
        if keyOk kk k then (findL k es 0).map fun f =>
          match f with
          | some (i, v) => ⟨.tuple #[v, .int .i64 (((es[i]?).map (·.born)).getD 0)], [(r, some (.map (es.modify i fun e => { e with key := k }) clock))], nx⟩
          | none => ⟨.tuple #[z, .int .i64 clock], [(r, some (.map (es ++ [{ key := k, val := z, born := clock }]) (clock + 1)))], nx⟩
        else none
      | _ => none
    | _ => none
  | .entryStore m s v =>
    match m, s with
    | .map (some r), .int .i64 b =>
      match g r with
      | some (.map es clock) => (es.findIdx? fun e => (e.born : Int) == b).map fun i => ⟨undefV, [(r, some (.map (es.modify i fun e => { e with val := v }) clock))], nx⟩
      | _ => none
    | _, _ => none
  | .extract x i => match x with | .tuple vs => (vs.toList[i]?).map fun v => ⟨v, [], nx⟩ | _ => none
  | .len k x =>
    match k, x with
    | .string, .string s => some ⟨.int .i64 s.size, [], nx⟩
    | .slice, .slice _ n _ => some ⟨.int .i64 n, [], nx⟩
    | .map, .map none => some ⟨.int .i64 0, [], nx⟩
    | .map, .map (some r) => match g r with | some (.map es _) => some ⟨.int .i64 es.length, [], nx⟩ | _ => none
    | _, _ => none
  | .cap x =>
    match x with
    | .slice none _ c => some ⟨.int .i64 c, [], nx⟩
    | .slice (some ⟨id, _, none⟩) _ c =>
      match g id with
      | some (.cells _ _ z ro) => if ro = true ∨ 4294967296 ≤ z then some ⟨.int .i64 c, [], nx⟩ else none
      | _ => none
    | _ => none
  | .append e sz bytes x y =>
    match x with
    | .slice a sl sc =>
      (lenV y).bind fun n => (firstL g sz n y).bind fun new =>
        if new.all isCell = false ∨ new.length ≠ n * sz then none else
        if sl + n ≤ sc then
          match a with
          | none => some ⟨.slice none (sl + n) sc, [], nx⟩
          | some ⟨id, o, none⟩ =>
            match g id with
            | some (.cells c t z false) => if o + (sl + n) * sz ≤ c.length then some ⟨.slice a (sl + n) sc, [(id, some (.cells (storeL c (o + sl * sz) new) t z false))], nx⟩ else none
            | _ => none
          | _ => none
        else if tooBig (sl + n) bytes then none else
        match a with
        | none => if sl = 0 then some ⟨.slice (some ⟨nx, 0, none⟩) n n, [(nx, some (.cells new e sz false))], nx + 1⟩ else none
        | some ⟨id, o, none⟩ =>
          match g id with
          | some (.cells c t z ro) =>
            if o + sl * sz ≤ c.length ∧ (ro = true ∨ z = sz) ∧ t = e then
              some ⟨.slice (some ⟨nx, 0, none⟩) (sl + n) (sl + n), (nx, some (.cells ((c.drop o).take (sl * sz) ++ new) e sz false)) :: (if ro then [] else [(id, none)]), nx + 1⟩
            else none
          | _ => none
        | _ => none
    | _ => none
  | .appendMake e sz bytes z x n =>
    match x, n with
    | .slice none 0 0, .int .i64 n =>
      if 0 < n ∧ tooBig n.toNat bytes = false ∧ z.length = sz then
        some ⟨.slice (some ⟨nx, 0, none⟩) n.toNat n.toNat, [(nx, some (.cells (List.replicate n.toNat z).flatten e sz false))], nx + 1⟩ else none
    | .slice (some ⟨id, o, none⟩) sl sc, .int .i64 n =>
      match g id with
      | some (.cells c t _ true) =>
        if 0 < n ∧ tooBig (sl + n.toNat) bytes = false ∧ z.length = sz ∧ 0 < sz ∧ t = e ∧ o + sl * sz ≤ c.length ∧ sc < sl + n.toNat then
          some ⟨.slice (some ⟨nx, 0, none⟩) (sl + n.toNat) (sl + n.toNat), [(nx, some (.cells ((c.drop o).take (sl * sz) ++ (List.replicate n.toNat z).flatten) e sz false))], nx + 1⟩ else none
      | _ => none
    | _, _ => none
  | .copy sz x y =>
    match x with
    | .slice a dl _ =>
      (lenV y).bind fun n => (firstL g sz (min n dl) y).bind fun new =>
        if new.all isCell = false ∨ new.length ≠ (min n dl) * sz then none else
        match a with
        | none => some ⟨.int .i64 ((min n dl : Nat) : Int), [], nx⟩
        | some ⟨id, o, none⟩ =>
          match g id with
          | some (.cells c t z false) => if o + (min n dl) * sz ≤ c.length then some ⟨.int .i64 ((min n dl : Nat) : Int), [(id, some (.cells (storeL c o new) t z false))], nx⟩ else none
          | _ => none
        | _ => none
    | _ => none
  | .clear sz z x =>
    match x with
    | .slice none _ _ => some ⟨.tuple #[], [], nx⟩
    | .slice (some ⟨id, o, none⟩) len _ =>
      match g id with
      | none => none
      | some ob =>
      if len = 0 then some ⟨.tuple #[], [], nx⟩ else
      match ob with
      | .cells c t z' false => if o + len * sz ≤ c.length ∧ z.length = sz then some ⟨.tuple #[], [(id, some (.cells (storeL c o (List.replicate len z).flatten) t z' false))], nx⟩ else none
      | _ => none
    | _ => none
  | .delete kk m k =>
    match m with
    | .map none => if keyOk kk k then some ⟨.tuple #[], [], nx⟩ else none
    | .map (some r) =>
      match g r with
      | some (.map es clock) =>
        if keyOk kk k then (findL k es 0).map fun f =>
          match f with
          | some (i, _) => ⟨.tuple #[], [(r, some (.map (es.eraseIdx i) clock))], nx⟩
          | none => ⟨.tuple #[], [(r, some (.map es clock))], nx⟩
        else none
      | _ => none
    | _ => none
  | .minmax b xs => match xs with | x :: r => (minmaxV b x r).map fun v => ⟨v, [], nx⟩ | [] => none
  | .call _ _ => none

end Go.Abs
