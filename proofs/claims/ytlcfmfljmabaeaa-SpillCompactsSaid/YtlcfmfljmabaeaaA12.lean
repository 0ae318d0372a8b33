/-
  From the model's operations to the abstract ones, and that these are sound.
-/
import Derived.Test.YtlcfmfljmabaeaaA11
set_option linter.unusedVariables false
set_option linter.unusedSimpArgs false
namespace Go.Abs
open Go

def okConst : Operand → Bool
  | .const c => primV c
  | .global _ => false
  | _ => true

def zeroL (P : Program) (t : TypeId) : Option (List Value) :=
  match P.info? t with
  | some i => i.zero.map fun z => cellList z
  | none => none

def keyKind (P : Program) (t : TypeId) : Option KeyK :=
  match P.underlying t with
  | some (.int _) => some .int
  | some .string => some .string
  | some .bool => some .bool
  | _ => none

def placesOf (P : Program) : List Field → Option (List (Nat × Nat))
  | [] => some []
  | f :: fs => (P.info? f.type).bind fun i => (placesOf P fs).map fun r => (f.offset, i.size) :: r

def partsOf (pl : List (Nat × Nat)) : List (Nat × Operand) → Option (List (Nat × Nat × Operand))
  | [] => some []
  | (i, x) :: r => (pl[i]?).bind fun p => (partsOf pl r).map fun q => (p.1, p.2, x) :: q

def compEq (P : Program) (neg : Bool) (t : TypeId) (x y : Operand) : Option (AOp Operand) :=
  match P.underlying t with
  | some (.int _) => some (.bin (if neg then .neq else .eql) x y)
  | some .string => some (.bin (if neg then .neq else .eql) x y)
  | some .bool => some (.eq neg .scalar x y)
  | some (.pointer _) => some (.eq neg .pointer x y)
  | some (.slice _) => some (.eq neg .slice x y)
  | some (.map _ _) => some (.eq neg .map x y)
  | some (.func _ _ _) => some (.eq neg .func x y)
  | some (.interface _) => match y with | .const .nilIface => some (.eq neg .iface x y) | _ => none
  | some (.struct _) => if P.eqGuardType P.depth t then none else (flatK P 10000 t).map fun ks => .eq neg (.plain ks) x y
  | _ => none

def compConv (P : Program) (src dst : TypeId) (x : Operand) : Option (AOp Operand) :=
  match P.underlying src, P.underlying dst with
  | some (.int _), some (.int k) => some (.conv (.int k) x)
  | some .string, some .string => some (.conv .same x)
  | some .string, some (.slice e) => match P.underlying e with | some (.int .u8) => some (.conv (.toBytes e) x) | _ => none
  | some (.slice e), some .string => match P.underlying e with | some (.int .u8) => some (.conv .toString x) | _ => none
  | some (.slice e), some (.slice _) => if src = dst then match P.underlying e with | some (.int .u8) => some (.conv .sameB x) | _ => none else none
  | _, _ => none

def compBuiltin (P : Program) (b : Builtin) (ts : Array TypeId) (args : List Operand) : Option (AOp Operand) :=
  match b, args with
  | .len, [x] => match (ts[0]?).bind P.underlying with | some .string => some (.len .string x) | some (.slice _) => some (.len .slice x) | some (.map _ _) => some (.len .map x) | _ => none
  | .cap, [x] => match (ts[0]?).bind P.underlying with | some (.slice _) => some (.cap x) | _ => none
  | .append, [x, y] =>
    match (ts[0]?).bind P.underlying with
    | some (.slice e) =>
      match P.info? e with
      | some i =>
        match i.zero with
        | some z =>
          if z.cells.size = i.size ∧ zeroOk (cellList z) = true ∧ i.size < 4294967296 then
            match ts[1]? with
            | none => some (.append e i.size i.bytes x y)
            | some u =>
              match P.underlying u with
              | some .string => some (.append e i.size i.bytes x y)
              | some (.slice _) => some (.append e i.size i.bytes x y)
              | some (.int _) => if zeroOk (cellList z) then some (.appendMake e i.size i.bytes (cellList z) x y) else none
              | _ => none
          else none
        | none => none
      | none => none
    | _ => none
  | .copy, [x, y] => match (ts[0]?).bind P.underlying with | some (.slice e) => (P.info? e).map fun i => .copy i.size x y | _ => none
  | .delete, [m, k] => match (ts[0]?).bind P.underlying with | some (.map kt _) => (keyKind P kt).map fun kk => .delete kk m k | _ => none
  | .clear, [x] =>
    match (ts[0]?).bind P.underlying with
    | some (.slice e) =>
      match P.info? e with
      | some i => (i.zero).bind fun z => if zeroOk (cellList z) then some (.clear i.size (cellList z) x) else none
      | none => none
    | _ => none
  | .max, xs => some (.minmax true xs)
  | .min, xs => some (.minmax false xs)
  | _, _ => none

def compOp (P : Program) : Op → Option (AOp Operand)
  | .move x | .assign x => some (.mov x)
  | .pick c a b => some (.pick c a b)
  | .alloc e => (zeroL P e).bind fun z => if zeroOk z then some (.alloc e z) else none
  | .box e x => some (.box e x)
  | .build t ps =>
    match P.underlying t with
    | some (.struct fs) => (placesOf P fs.toList).bind fun pl => (zeroL P t).bind fun z => if zeroOk z then (partsOf pl ps.toList).map fun q => .build z q else none
    | _ => none
  | .buildSlice t len ps =>
    match P.underlying t with
    | some (.slice e) =>
      match P.info? e with
      | some i =>
        match i.zero with
        | some z =>
          if z.cells.size = i.size ∧ i.size ≠ 0 ∧ len * i.size ≤ 2 ^ 24 ∧ zeroOk (cellList z) then
            some (.buildSlice e i.size len (List.replicate len (cellList z)).flatten (ps.toList.map fun p => (p.1 * i.size, i.size, p.2))) else none
        | none => none
      | none => none
    | _ => none
  | .load t a => (shapeT P t).map fun k => .load k a
  | .store t a x => (P.info? t).map fun i => .store i.size a x
  | .nilCheck x => some (.nilCheck x)
  | .binOp op t x y _ =>
    match op with
    | .eql => compEq P false t x y
    | .neq => compEq P true t x y
    | _ => some (.bin op x y)
  | .unOp op _ x => some (.un op x)
  | .convert src dst x => compConv P src dst x
  | .makeInterface t x => match P.underlying t with | some (.interface _) => none | some _ => some (.mkIface t x) | none => none
  | .makeFunc fn a c => some (.mkFunc fn a.toList c.toList)
  | .makeMap _ none => some (.mkMap none)
  | .makeSlice t l c =>
    match P.underlying t with
    | some (.slice e) =>
      match P.info? e with
      | some i => (i.zero).bind fun z => if zeroOk (cellList z) then some (.mkSlice e i.size i.bytes (cellList z) l c) else none
      | none => none
    | _ => none
  | .slice t x lo hi mx =>
    match P.underlying t with
    | some .string => some (.slice .string x lo hi mx)
    | some (.slice e) => (P.info? e).map fun i => .slice (.slice i.size) x lo hi mx
    | _ => none
  | .fieldAddr t x j =>
    match P.underlying t with
    | some (.struct fs) => (fs[j]?).bind fun f => (P.info? f.type).bind fun i => if i.size ≠ 0 then some (.fieldAddr f.offset x) else none
    | _ => none
  | .field t x j =>
    match P.underlying t with
    | some (.struct fs) => (fs[j]?).bind fun f => (shapeT P f.type).map fun k => .field f.offset k x
    | _ => none
  | .indexAddr t x i =>
    match P.underlying t with
    | some (.slice e) => (P.info? e).map fun j => .indexAddr j.size x i
    | _ => none
  | .index t x i =>
    match P.underlying t with
    | some .string => some (.index x i)
    | _ => none
  | .lookup t x k ok =>
    match P.underlying t with
    | some (.map kt et) => (keyKind P kt).bind fun kk =>
      match P.info? et with
      | some i => (i.zero).bind fun z => if primV z || zeroAgg z then some (.lookup kk z ok x k) else none
      | none => none
    | _ => none
  | .mapUpdate t m k v | .insert t m k v =>
    match P.underlying t with
    | some (.map kt _) => (keyKind P kt).map fun kk => .mapUpdate kk m k v
    | _ => none
  | .mapEntry t m k =>
    match P.underlying t with
    | some (.map kt et) => (keyKind P kt).bind fun kk =>
      match P.info? et with
      | some i => (i.zero).bind fun z => if primV z || zeroAgg z then some (.mapEntry kk z m k) else none
      | none => none
    | _ => none
  | .entryStore _ m s v => some (.entryStore m s v)
  | .panic _ => some (.cap (.const (.bool false)))
  | .extract x i => some (.extract x i)
  | .call c =>
    match c.callee with
    | .builtin b => compBuiltin P b c.argTypes c.args.toList
    | .value f => some (.call f c.args.toList)
    | _ => none
  | _ => none
where
  zeroAgg : Value → Bool
    | .agg cs => zeroOk cs.toList
    | _ => false

section
variable {P : Program} {β : Map} {h : HF} {w : World} {n : Nat} {res : Res}

def ExOK (P : Program) (β : Map) (h : HF) (w : World) (n : Nat) (res : Res) (r : Sem Next) : Prop :=
  ∃ nx w' β' v', r.run P w = .ok nx w' ∧ (nx = .value v' ∨ (nx = .skip ∧ v' = undef)) ∧ VRel β' res.val v' ∧ Sim β' (updF h res.upd) w' ∧ Step β h w β' (updF h res.upd) w' n res.next

theorem OpOK.v {s : Sem Value} (ho : OpOK P β h w n res id s) : ExOK P β h w n res (do Pure.pure (.value (← s))) := by
  obtain ⟨x, w', β', hr, hv, h1, h2⟩ := ho
  exact ⟨.value x, w', β', x, by simp [hr], .inl rfl, hv, h1, h2⟩

theorem OpOK.u {s : Sem Unit} (ho : OpOK P β h w n res (fun _ => undef) s) : ExOK P β h w n res (do s; Pure.pure .skip) := by
  obtain ⟨x, w', β', hr, hv, h1, h2⟩ := ho
  exact ⟨.skip, w', β', undef, by simp [hr], .inr ⟨rfl, rfl⟩, hv, h1, h2⟩

theorem ExOK.pureV {v v' : Value} {r : Sem Next} (hs : Sim β h w) (hr : r.run P w = .ok (.value v') w) (hv : VRel β v v') : ExOK P β h w n ⟨v, [], n⟩ r :=
  ⟨.value v', w, β, v', hr, .inl rfl, hv, hs, Step.refl β h w n⟩

theorem mapList_rel {e : Env} {a : Act} (hr : EnvRel β e a) : ∀ {xs : List Operand} {vs : List Value}, (∀ x ∈ xs, okConst x = true) → mapList e.rd xs = some vs → LRel β vs (xs.map a.eval) := by
  intro xs
  induction xs with
  | nil => intro vs _ hv; simp only [mapList, Option.some.injEq] at hv; subst hv; exact .nil
  | cons x xs ih =>
    intro vs hok hv
    simp only [mapList] at hv
    cases h1 : e.rd x with
    | none => simp [h1] at hv
    | some v =>
      cases h2 : mapList e.rd xs with
      | none => simp [h1, h2] at hv
      | some r =>
        simp only [h1, h2, Option.bind_some, Option.map_some, Option.some.injEq] at hv
        subst hv
        refine .cons (hr.rd (fun c hc => ?_) h1) (ih (fun y hy => hok y (List.mem_cons_of_mem _ hy)) h2)
        have := hok x (List.mem_cons_self ..)
        rw [hc] at this; exact this

theorem mapOpt_rel {e : Env} {a : Act} (hr : EnvRel β e a) {x : Option Operand} {v : Option Value} (hok : ∀ y, x = some y → okConst y = true) (hv : mapOpt e.rd x = some v) : OptRel β v (x.map a.eval) := by
  cases x with
  | none => simp only [mapOpt, Option.some.injEq] at hv; subst hv; exact .none
  | some x =>
    simp only [mapOpt] at hv
    cases h1 : e.rd x with
    | none => simp [h1] at hv
    | some u =>
      simp only [h1, Option.map_some, Option.some.injEq] at hv
      subst hv
      refine .some (hr.rd (fun c hc => ?_) h1)
      have := hok x rfl
      rw [hc] at this; exact this

theorem keyKind_spec {t : TypeId} {kk : KeyK} (h : keyKind P t = some kk) : ∃ d, P.underlying t = some d ∧ keyD kk d = true := by
  unfold keyKind at h
  split at h <;> first | (cases h; rename_i hd; exact ⟨_, hd, rfl⟩) | cases h

theorem zeroL_spec {t : TypeId} {z : List Value} (h : zeroL P t = some z) : ∃ i zv, P.info? t = some i ∧ i.zero = some zv ∧ z = cellList zv := by
  unfold zeroL at h
  split at h
  · rename_i i hi
    cases hz : i.zero with
    | none => simp [hz] at h
    | some zv => simp only [hz, Option.map_some, Option.some.injEq] at h; exact ⟨i, zv, hi, hz, h.symm⟩
  · cases h

theorem VRel.pointer_shape {a : Option Addr} {v : Value} (hv : VRel β (.pointer a) v) : ∃ a', v = .pointer a' ∧ a'.isNone = a.isNone := by
  cases a with
  | none => exact ⟨none, hv.nilPtr_inv, rfl⟩
  | some a =>
    cases hv with
    | prim _ h => simp [primV] at h
    | ptr h => exact ⟨_, rfl, rfl⟩
theorem VRel.some_shape {a : Addr} {v : Value} (hv : VRel β (.pointer (some a)) v) : ∃ a', v = .pointer (some a') := by
  obtain ⟨a', rfl, h⟩ := hv.pointer_shape
  cases a' with
  | none => simp at h
  | some b => exact ⟨b, rfl⟩
theorem VRel.iface_inv {t : TypeId} {u v : Value} (hv : VRel β (.iface t u) v) : ∃ u', v = .iface t u' ∧ VRel β u u' := by
  cases hv with
  | prim _ h => simp [primV] at h
  | iface h => exact ⟨_, rfl, h⟩
theorem VRel.slice_shape {a : Option Addr} {l c : Nat} {v : Value} (hv : VRel β (.slice a l c) v) : ∃ a' l' c', v = .slice a' l' c' ∧ a'.isNone = a.isNone := by
  cases a with
  | none => exact ⟨none, l, c, hv.nilSlice_inv, rfl⟩
  | some a =>
    rcases hv.slice_inv with ⟨r, c', _, _, e, _⟩ | ⟨r, b, _, _, e1, e2, e⟩
    · exact ⟨_, _, _, e, rfl⟩
    · exact ⟨_, _, _, e, rfl⟩
theorem VRel.map_shape {a : Option Nat} {v : Value} (hv : VRel β (.map a) v) : ∃ a', v = .map a' ∧ a'.isNone = a.isNone := by
  cases a with
  | none => exact ⟨none, hv.nilMap_inv, rfl⟩
  | some a => obtain ⟨r, _, e⟩ := hv.map_inv; exact ⟨_, e, rfl⟩

def genV : Value → Bool
  | .int _ _ | .float _ _ | .complex _ _ _ | .string _ => false
  | _ => true

theorem binOp_eq_run {neg : Bool} {t : TypeId} {x y : Operand} {a b : Value} {r : Bool} (h1 : genV a = true) (hg : (eqGuard (if neg then .neq else .eql) t x y a b).run P w = .ok () w) (hr : (Op.equal t a b).run P w = .ok r w) :
    (do eqGuard (if neg then .neq else .eql) t x y a b; binOp (if neg then .neq else .eql) t a b : Sem Value).run P w = .ok (.bool (r != neg)) w := by
  simp only [Sem.run_bind, hg, Result.andThen_ok]
  have e1 : binOp .eql t a b = (do Pure.pure (.bool (← Op.equal t a b)) : Sem Value) := by cases a <;> simp [genV] at h1 <;> rfl
  have e2 : binOp .neq t a b = (do Pure.pure (.bool (!(← Op.equal t a b))) : Sem Value) := by cases a <;> simp [genV] at h1 <;> rfl
  cases neg
  · simp [e1, hr]
  · simp [e2, hr]

def eqD : EqK → TypeDesc → Bool
  | .scalar, .bool => true
  | .pointer, .pointer _ => true
  | .slice, .slice _ => true
  | .map, .map _ _ => true
  | .func, .func _ _ _ => true
  | .iface, .interface _ => true
  | _, _ => false

theorem eqV_run {neg : Bool} {t : TypeId} {d : TypeDesc} {x y : Operand} {k : EqK} {a b a' b' : Value} {r : Bool} (hd : P.underlying t = some d) (hk : eqD k d = true) (ha : VRel β a a') (hb : VRel β b b')
    (hy : k = .iface → ∃ c, y = .const c) (he : eqV k a b = some r) :
    (do eqGuard (if neg then .neq else .eql) t x y a' b'; binOp (if neg then .neq else .eql) t a' b' : Sem Value).run P w = .ok (.bool (r != neg)) w := by
  cases k <;> cases d <;> simp only [eqD, Bool.false_eq_true] at hk <;> cases a <;> cases b <;> simp only [eqV, reduceCtorEq, Option.some.injEq] at he
  · -- bools
    subst he
    rw [ha.bool_inv, hb.bool_inv]
    exact binOp_eq_run rfl (by cases neg <;> simp [eqGuard]) (run_equal_bool w t _ _ hd)
  · -- pointers
    rename_i p q
    obtain ⟨p', rfl, hp⟩ := ha.pointer_shape
    obtain ⟨q', rfl, hq⟩ := hb.pointer_shape
    refine binOp_eq_run rfl (by cases neg <;> simp [eqGuard]) ?_
    cases p <;> cases q <;> cases p' <;> cases q' <;> simp at hp hq he <;> subst he <;> (show (Op.equalIn (9999 + 1) _ _ _).run P w = _; rw [Op.equalIn]; simp only [Sem.run_bind, run_und hd, Result.andThen_ok]; rfl)
  · -- slices
    rename_i p _ _ q _ _
    obtain ⟨p', _, _, rfl, hp⟩ := ha.slice_shape
    obtain ⟨q', _, _, rfl, hq⟩ := hb.slice_shape
    refine binOp_eq_run rfl (by cases neg <;> simp [eqGuard]) ?_
    cases p <;> cases q <;> cases p' <;> cases q' <;> simp at hp hq he <;> subst he <;> (show (Op.equalIn (9999 + 1) _ _ _).run P w = _; rw [Op.equalIn]; simp only [Sem.run_bind, run_und hd, Result.andThen_ok]; rfl)
  · -- maps
    rename_i p q
    obtain ⟨p', rfl, hp⟩ := ha.map_shape
    obtain ⟨q', rfl, hq⟩ := hb.map_shape
    refine binOp_eq_run rfl (by cases neg <;> simp [eqGuard]) ?_
    cases p <;> cases q <;> cases p' <;> cases q' <;> simp at hp hq he <;> subst he <;> (show (Op.equalIn (9999 + 1) _ _ _).run P w = _; rw [Op.equalIn]; simp only [Sem.run_bind, run_und hd, Result.andThen_ok]; rfl)
  · subst he
    obtain ⟨_, _, rfl, _⟩ := ha.func_inv
    cases hb
    refine binOp_eq_run rfl (by cases neg <;> simp [eqGuard]) ?_
    show (Op.equalIn (9999 + 1) _ _ _).run P w = _
    rw [Op.equalIn]; simp only [Sem.run_bind, run_und hd, Result.andThen_ok]; rfl
  · subst he
    obtain ⟨_, _, rfl, _⟩ := hb.func_inv
    cases ha
    refine binOp_eq_run rfl (by cases neg <;> simp [eqGuard]) ?_
    show (Op.equalIn (9999 + 1) _ _ _).run P w = _
    rw [Op.equalIn]; simp only [Sem.run_bind, run_und hd, Result.andThen_ok]; rfl
  · subst he
    cases ha; cases hb
    refine binOp_eq_run rfl (by cases neg <;> simp [eqGuard]) ?_
    show (Op.equalIn (9999 + 1) _ _ _).run P w = _
    rw [Op.equalIn]; simp only [Sem.run_bind, run_und hd, Result.andThen_ok]; rfl
  · subst he
    cases hb
    cases ha with
    | prim _ h => simp [primV] at h
    | iface h =>
    refine binOp_eq_run rfl (by cases neg <;> simp [eqGuard]) ?_
    show (Op.equalIn (9999 + 1) _ _ _).run P w = _
    rw [Op.equalIn]; simp only [Sem.run_bind, run_und hd, Result.andThen_ok]; rfl
  · subst he
    cases ha
    cases hb with
    | prim _ h => simp [primV] at h
    | iface h =>
    refine binOp_eq_run rfl (by cases neg <;> simp [eqGuard]) ?_
    show (Op.equalIn (9999 + 1) _ _ _).run P w = _
    rw [Op.equalIn]; simp only [Sem.run_bind, run_und hd, Result.andThen_ok]; rfl
  · subst he
    cases ha; cases hb
    obtain ⟨c, rfl⟩ := hy rfl
    refine binOp_eq_run rfl (by cases neg <;> simp [eqGuard]) ?_
    show (Op.equalIn (9999 + 1) _ _ _).run P w = _
    rw [Op.equalIn]; simp only [Sem.run_bind, run_und hd, Result.andThen_ok]; rfl

theorem cellsEqK_rel {ks : List KeyK} : ∀ {xs ys xs' ys' : List Value} {b : Bool}, LRel β xs xs' → LRel β ys ys' → cellsEqK ks xs ys = some b → xs' = xs ∧ ys' = ys := by
  induction ks with
  | nil =>
    intro xs ys xs' ys' b hx hy h
    cases hx <;> cases hy <;> simp_all [cellsEqK]
  | cons k ks ih =>
    intro xs ys xs' ys' b hx hy h
    cases hx with
    | nil => simp [cellsEqK] at h
    | cons hx tx =>
      cases hy with
      | nil => simp [cellsEqK] at h
      | cons hy ty =>
        rename_i x x' xs xs' y y' ys ys'
        simp only [cellsEqK] at h
        cases hc : cellEqK k x y with
        | none => simp [hc] at h
        | some c =>
          cases hr : cellsEqK ks xs ys with
          | none => simp [hc, hr] at h
          | some r =>
            obtain ⟨rfl, rfl⟩ := ih tx ty hr
            unfold cellEqK at hc
            split at hc
            · rename_i hok
              simp only [Bool.and_eq_true] at hok
              rw [(keyOk_inv hok.1 hx).1, (keyOk_inv hok.2 hy).1]
              exact ⟨rfl, rfl⟩
            · cases hc

theorem eqPlain_run {neg : Bool} {t : TypeId} {x y : Operand} {ks : List KeyK} {a b a' b' : Value} {r : Bool} (hg : P.eqGuardType P.depth t = false) (hk : flatK P 10000 t = some ks) (hstr : ∃ fs, P.underlying t = some (.struct fs)) (ha : VRel β a a') (hb : VRel β b b')
    (he : eqV (.plain ks) a b = some r) :
    (do eqGuard (if neg then .neq else .eql) t x y a' b'; binOp (if neg then .neq else .eql) t a' b' : Sem Value).run P w = .ok (.bool (r != neg)) w := by
  cases a <;> cases b <;> simp only [eqV, reduceCtorEq] at he
  obtain ⟨a2, rfl, hA⟩ := ha.agg_inv
  obtain ⟨b2, rfl, hB⟩ := hb.agg_inv
  obtain ⟨e1, e2⟩ := cellsEqK_rel hA hB he
  rw [← e1, ← e2] at he
  obtain ⟨dd, hdd, hcase | ⟨hna, _⟩⟩ := flatK_run (w := w) 10000 t ks hk
  · refine binOp_eq_run rfl (run_eqGuard_agg w _ t x y a2 b2 hg) ?_
    exact hcase.2 a2 b2 r he
  · obtain ⟨fs, hfs⟩ := hstr
    rw [hfs] at hdd
    cases hdd
    simp [isAggD] at hna

end
end Go.Abs
