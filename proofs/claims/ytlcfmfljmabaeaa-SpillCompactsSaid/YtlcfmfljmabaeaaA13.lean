/-
  Every operation is sound.
-/
import Derived.Test.YtlcfmfljmabaeaaA12
set_option linter.unusedVariables false
set_option linter.unusedSimpArgs false
namespace Go.Abs
open Go

section
variable {P : Program} {β : Map} {h : HF} {w : World} {n : Nat} {res : Res}

theorem OpOK.v' {s : Sem Value} {r : Sem Next} (ho : OpOK P β h w n res id s) (hr : ∀ x w', s.run P w = .ok x w' → r.run P w = .ok (.value x) w') : ExOK P β h w n res r := by
  obtain ⟨x, w', β', hx, hv, h1, h2⟩ := ho
  exact ⟨.value x, w', β', x, hr x w' hx, .inl rfl, hv, h1, h2⟩

theorem OpOK.u' {s : Sem Unit} {r : Sem Next} (ho : OpOK P β h w n res (fun _ => undef) s) (hr : ∀ w', s.run P w = .ok () w' → r.run P w = .ok .skip w') : ExOK P β h w n res r := by
  obtain ⟨x, w', β', hx, hv, h1, h2⟩ := ho
  exact ⟨.skip, w', β', undef, hr w' hx, .inr ⟨rfl, rfl⟩, hv, h1, h2⟩

theorem parts_rel {e : Env} {a : Act} (hr : EnvRel β e a) {pl : List (Nat × Nat)} {place : Nat → Option (Nat × Nat)} (hpl : ∀ i, place i = pl[i]?) : ∀ {ps : List (Nat × Operand)} {q : List (Nat × Nat × Operand)} {vs : List (Nat × Nat × Value)},
    (∀ p ∈ ps, okConst p.2 = true) → partsOf pl ps = some q → mapParts e.rd q = some vs →
    All2 (fun (p : Nat × Nat × Value) (q : Nat × Value) => place q.1 = some (p.1, p.2.1) ∧ VRel β p.2.2 q.2) vs (ps.map fun p => (p.1, a.eval p.2)) := by
  intro ps
  induction ps with
  | nil => intro q vs _ hq hv; simp only [partsOf, Option.some.injEq] at hq; subst hq; simp only [mapParts, Option.some.injEq] at hv; subst hv; exact .nil
  | cons p ps ih =>
    intro q vs hok hq hv
    obtain ⟨i, x⟩ := p
    simp only [partsOf] at hq
    cases h1 : pl[i]? with
    | none => simp [h1] at hq
    | some os =>
      cases h2 : partsOf pl ps with
      | none => simp [h1, h2] at hq
      | some q' =>
        simp only [h1, h2, Option.bind_some, Option.map_some, Option.some.injEq] at hq
        subst hq
        simp only [mapParts] at hv
        cases h3 : e.rd x with
        | none => simp [h3] at hv
        | some v =>
          cases h4 : mapParts e.rd q' with
          | none => simp [h3, h4] at hv
          | some vs' =>
            simp only [h3, h4, Option.bind_some, Option.map_some, Option.some.injEq] at hv
            subst hv
            refine .cons ⟨by rw [hpl, h1], hr.rd (fun c hc => ?_) h3⟩ (ih (fun y hy => hok y (List.mem_cons_of_mem _ hy)) h2 h4)
            have := hok (i, x) (List.mem_cons_self ..)
            subst hc; exact this

theorem places_run : ∀ {fs : List Field} {pl : List (Nat × Nat)}, placesOf P fs = some pl → (fs.mapM fun f => (do Pure.pure (f.offset, ← sizeOf f.type) : Sem (Nat × Nat))).run P w = .ok pl w := by
  intro fs
  induction fs with
  | nil => intro pl hp; simp only [placesOf, Option.some.injEq] at hp; subst hp; simp
  | cons f fs ih =>
    intro pl hp
    simp only [placesOf] at hp
    cases hi : P.info? f.type with
    | none => simp [hi] at hp
    | some i =>
      cases h2 : placesOf P fs with
      | none => simp [hi, h2] at hp
      | some r =>
        simp only [hi, h2, Option.bind_some, Option.map_some, Option.some.injEq] at hp
        subst hp
        have := ih h2
        simp only [List.mapM_cons, Sem.run_bind, run_size hi, Result.andThen_ok, Sem.run_pure, this]

theorem build_sim {t : TypeId} {fs : Array Field} {i : TypeInfo} {z : Value} {pl : List (Nat × Nat)} {vs : List (Nat × Nat × Value)} {ps' : Array (Nat × Value)} (ht : P.underlying t = some (.struct fs)) (hp : placesOf P fs.toList = some pl)
    (hi : P.info? t = some i) (hzv : i.zero = some z) (hzo : zeroOk (cellList z) = true) (hps : All2 (fun (p : Nat × Nat × Value) (q : Nat × Value) => pl[q.1]? = some (p.1, p.2.1) ∧ VRel β p.2.2 q.2) vs ps'.toList)
    (hs : Sim β h w) (he : evP h n (.build (cellList z) vs) = some res) : OpOK P β h w n res id (Instr.build t ps') := by
  simp only [evP] at he
  cases hf : fillL (cellList z) vs with
  | none => simp [hf] at he
  | some c =>
    simp only [hf, Option.map_some, Option.some.injEq] at he
    subst he
    obtain ⟨C, h1, h2⟩ := fill_sim (place := fun i => pl[i]?) (L' := z.cells) (LRel.zero hzo) hps hf
    have hm := places_run (P := P) (w := w) hp
    refine OpOK.pure (x := .agg C) hs ?_ (by have := LRel.agg h2; simpa using this)
    have hm' : (fs.mapM fun f => (do Pure.pure (f.offset, ← sizeOf f.type) : Sem (Nat × Nat))).run P w = .ok pl.toArray w := by
      rw [← Array.toArray_toList (xs := fs), List.mapM_toArray]
      simp only [Sem.run_map, hm, Result.andThen_ok]
    unfold Instr.build
    simp only [Sem.run_bind, run_zero hi hzv, Result.andThen_ok, run_und ht, hm']
    simp [h1]

theorem buildSlice_sim {t e : TypeId} {i : TypeInfo} {z : Value} {len : Nat} {vs : List (Nat × Nat × Value)} {ps' : Array (Nat × Value)} (ht : P.underlying t = some (.slice e))
    (hi : P.info? e = some i) (hzv : i.zero = some z) (hzo : zeroOk (cellList z) = true) (hzs : z.cells.size = i.size) (h0 : i.size ≠ 0) (hlen : len * i.size ≤ 2 ^ 24)
    (hps : All2 (fun (p : Nat × Nat × Value) (q : Nat × Value) => some (q.1 * i.size, i.size) = some (p.1, p.2.1) ∧ VRel β p.2.2 q.2) vs ps'.toList)
    (hs : Sim β h w) (hfr : Fresh β n res.next) (he : evP h n (.buildSlice e i.size len (List.replicate len (cellList z)).flatten vs) = some res) : OpOK P β h w n res id (Instr.buildSlice t len ps') := by
  simp only [evP] at he
  cases hf : fillL (List.replicate len (cellList z)).flatten vs with
  | none => simp [hf] at he
  | some c =>
    simp only [hf, Option.map_some, Option.some.injEq] at he
    subst he
    have hz1 : ((Array.range (len * i.size)).map fun j => z.cells[j % z.cells.size]!).toList = (List.replicate len (cellList z)).flatten := by
      rw [← hzs, zeros_list]; rfl
    obtain ⟨C, h1, h2⟩ := fill_sim (place := fun j => some (j * i.size, i.size)) (L' := (Array.range (len * i.size)).map fun j => z.cells[j % z.cells.size]!) (by rw [hz1]; exact zeros_rel hzo) hps hf
    have hn : β n = none := hfr n (Nat.le_refl _) (Nat.lt_succ_self _)
    obtain ⟨β', e1, e2, e3⟩ := newRow_ok (e := e) (sz := i.size) h2 hs hn
    have hv := VRel.slice (o := 0) (len := len) (cap := len) (cap' := len) e1 (.inl rfl)
    rw [Array.toArray_toList] at e2 e3
    refine ⟨.slice (some ⟨w.heap.size, 0, none⟩) len len, w.alloc (.cells C e), β', ?_, by simpa using hv, e2, e3⟩
    have hbig : ¬ (len * i.size > 16777216) := by omega
    unfold Instr.buildSlice
    simp only [Sem.run_bind, run_und ht, Result.andThen_ok, run_size hi]
    by_cases hl0 : len * i.size = 0
    · have hlz : len = 0 := by
        rcases Nat.mul_eq_zero.1 hl0 with h | h
        · exact h
        · exact absurd h h0
      subst hlz
      have hr0 : Array.range 0 = #[] := Array.eq_empty_of_size_eq_zero (by simp)
      have h1' : Instr.fill (fun j => some (j * i.size, i.size)) #[] ps'.toList = some C := by
        rw [← h1]; simp [hr0]
      simp [h1', newRow, hr0]
    · simp [hbig, hl0, run_zero hi hzv, h1, newRow]

theorem zero_rel {z : Value} (hz : (primV z || compOp.zeroAgg z) = true) : VRel β z z := by
  cases hp : primV z with
  | true => exact .prim z hp
  | false =>
    rw [hp, Bool.false_or] at hz
    cases z <;> simp [compOp.zeroAgg] at hz
    have := LRel.agg (LRel.zero (β := β) hz)
    simpa using this

theorem guard_plain {op : BinOp} {x y : Operand} {t : TypeId} {a b v : Value} (hb : binV op a b = some v) : (eqGuard op t x y a b).run P w = .ok () w := by
  unfold binV at hb
  split at hb
  · cases op <;> simp [eqGuard]
  · cases op <;> simp [eqGuard]
  · cases hb

theorem bin_ok {op : BinOp} {t yt : TypeId} {x y : Operand} {a : Act} {dst : Option Tmp} {type : TypeId} {pos : String} {after : Array Edge} {guard : Option (Nat × Bool)} {v u : Value} (r1 : VRel β v (a.eval x)) (r2 : VRel β u (a.eval y)) (hs : Sim β h w) (he : evP h n (.bin op v u) = some res) :
    ExOK P β h w n res (execOp a.eval ⟨dst, .binOp op t x y yt, type, pos, after, guard⟩) := by
  simp only [evP, Option.map_eq_some_iff] at he
  obtain ⟨q, hq, rfl⟩ := he
  obtain ⟨e1, e2, hqq⟩ := binV_inv hq r1 r2
  refine ExOK.pureV hs ?_ hqq
  simp only [execOp, e1, e2, Sem.run_bind, guard_plain hq, binV_run hq, Result.andThen_ok, Sem.run_pure]

theorem eq_ok {neg : Bool} {t yt : TypeId} {d : TypeDesc} {k : EqK} {x y : Operand} {a : Act} {dst : Option Tmp} {type : TypeId} {pos : String} {after : Array Edge} {guard : Option (Nat × Bool)} {v u : Value} (hd : P.underlying t = some d) (hk : eqD k d = true) (hy : k = .iface → ∃ c, y = .const c) (r1 : VRel β v (a.eval x)) (r2 : VRel β u (a.eval y)) (hs : Sim β h w) (he : evP h n (.eq neg k v u) = some res) :
    ExOK P β h w n res (execOp a.eval ⟨dst, .binOp (if neg then .neq else .eql) t x y yt, type, pos, after, guard⟩) := by
  simp only [evP, Option.map_eq_some_iff] at he
  obtain ⟨q, hq, rfl⟩ := he
  refine ExOK.pureV (v' := .bool (q != neg)) hs ?_ .bool'
  have := eqV_run (w := w) (neg := neg) (x := x) hd hk r1 r2 hy hq
  simp only [execOp, Sem.run_bind]
  rw [Sem.run_bind] at this
  rw [this]; rfl

theorem eqp_ok {neg : Bool} {t yt : TypeId} {ks : List KeyK} {x y : Operand} {a : Act} {dst : Option Tmp} {type : TypeId} {pos : String} {after : Array Edge} {guard : Option (Nat × Bool)} {v u : Value} (hg : P.eqGuardType P.depth t = false) (hk : flatK P 10000 t = some ks) (hstr : ∃ fs, P.underlying t = some (.struct fs)) (r1 : VRel β v (a.eval x)) (r2 : VRel β u (a.eval y)) (hs : Sim β h w) (he : evP h n (.eq neg (.plain ks) v u) = some res) :
    ExOK P β h w n res (execOp a.eval ⟨dst, .binOp (if neg then .neq else .eql) t x y yt, type, pos, after, guard⟩) := by
  simp only [evP, Option.map_eq_some_iff] at he
  obtain ⟨q, hq, rfl⟩ := he
  refine ExOK.pureV (v' := .bool (q != neg)) hs ?_ .bool'
  have := eqPlain_run (w := w) (neg := neg) (x := x) (y := y) hg hk hstr r1 r2 hq
  simp only [execOp, Sem.run_bind]
  rw [Sem.run_bind] at this
  rw [this]; rfl

theorem compEq_case {neg : Bool} {t yt : TypeId} {x y : Operand} {a : Act} {e : Env} {aop : AOp Operand} {av : AOp Value} {dst : Option Tmp} {type : TypeId} {pos : String} {after : Array Edge} {guard : Option (Nat × Bool)} (hc : compEq P neg t x y = some aop) (hx : okConst x = true) (hy : okConst y = true) (hr : EnvRel β e a) (hv : aop.vals e.rd = some av) (hs : Sim β h w) (he : evP h n av = some res) :
    ExOK P β h w n res (execOp a.eval ⟨dst, .binOp (if neg then .neq else .eql) t x y yt, type, pos, after, guard⟩) := by
  have rd : ∀ {x : Operand} {v : Value}, okConst x = true → e.rd x = some v → VRel β v (a.eval x) := by
    intro x v hx hv
    refine hr.rd (fun c hc => ?_) hv
    subst hc; exact hx
  unfold compEq at hc
  split at hc
  all_goals (try (simp only [reduceCtorEq] at hc; done))
  iterate 2
    · simp only [Option.some.injEq] at hc; subst hc
      simp only [AOp.vals, Option.bind_eq_some_iff, Option.map_eq_some_iff] at hv
      obtain ⟨v, h1, u, h2, rfl⟩ := hv
      exact bin_ok (rd hx h1) (rd hy h2) hs he
  iterate 5
    · rename_i hd
      simp only [Option.some.injEq] at hc; subst hc
      simp only [AOp.vals, Option.bind_eq_some_iff, Option.map_eq_some_iff] at hv
      obtain ⟨v, h1, u, h2, rfl⟩ := hv
      exact eq_ok hd rfl (fun hq => by cases hq) (rd hx h1) (rd hy h2) hs he
  · rename_i hd
    split at hc
    case h_2 => cases hc
    simp only [Option.some.injEq] at hc; subst hc
    simp only [AOp.vals, Option.bind_eq_some_iff, Option.map_eq_some_iff] at hv
    obtain ⟨v, h1, u, h2, rfl⟩ := hv
    exact eq_ok hd rfl (fun _ => ⟨_, rfl⟩) (rd hx h1) (rd hy h2) hs he
  · rename_i fs hd
    split at hc
    · cases hc
    rename_i hg
    simp only [Bool.not_eq_true] at hg
    simp only [Option.map_eq_some_iff] at hc
    obtain ⟨ks, hks, rfl⟩ := hc
    simp only [AOp.vals, Option.bind_eq_some_iff, Option.map_eq_some_iff] at hv
    obtain ⟨v, h1, u, h2, rfl⟩ := hv
    exact eqp_ok hg hks ⟨fs, hd⟩ (rd hx h1) (rd hy h2) hs he

theorem binOp_case {op : BinOp} {t yt : TypeId} {x y : Operand} {a : Act} {e : Env} {aop : AOp Operand} {av : AOp Value} {dst : Option Tmp} {type : TypeId} {pos : String} {after : Array Edge} {guard : Option (Nat × Bool)}
    (hc : (match op with | .eql => compEq P false t x y | .neq => compEq P true t x y | _ => some (.bin op x y)) = some aop) (hok : ∀ z ∈ (Op.binOp op t x y yt).operands, okConst z = true) (hr : EnvRel β e a) (hv : aop.vals e.rd = some av) (hs : Sim β h w) (he : evP h n av = some res) :
    ExOK P β h w n res (execOp a.eval ⟨dst, .binOp op t x y yt, type, pos, after, guard⟩) := by
  have hx := hok x (by simp [Op.operands])
  have hy := hok y (by simp [Op.operands])
  have rd : ∀ {x : Operand} {v : Value}, okConst x = true → e.rd x = some v → VRel β v (a.eval x) := by
    intro x v hx hv
    refine hr.rd (fun c hc => ?_) hv
    subst hc; exact hx
  have hgen : aop = .bin op x y → ExOK P β h w n res (execOp a.eval ⟨dst, .binOp op t x y yt, type, pos, after, guard⟩) := by
    intro hq
    subst hq
    simp only [AOp.vals, Option.bind_eq_some_iff, Option.map_eq_some_iff] at hv
    obtain ⟨v, h1, u, h2, rfl⟩ := hv
    exact bin_ok (rd hx h1) (rd hy h2) hs he
  cases op
  case eql => exact compEq_case (neg := false) hc hx hy hr hv hs he
  case neq => exact compEq_case (neg := true) hc hx hy hr hv hs he
  all_goals (simp only [Option.some.injEq] at hc; exact hgen hc.symm)

theorem call_builtin {c : Call} {b : Builtin} {a : Act} {dst : Option Tmp} {type : TypeId} {pos : String} {after : Array Edge} {guard : Option (Nat × Bool)} (hb : c.callee = .builtin b) :
    execOp a.eval ⟨dst, .call c, type, pos, after, guard⟩ = builtin b c.argTypes type (c.args.map fun | .const _ => true | _ => false) (c.args.map a.eval) := by
  simp only [execOp, resolve, hb]
  rfl

theorem call_case {c : Call} {a : Act} {e : Env} {aop : AOp Operand} {av : AOp Value} {dst : Option Tmp} {type : TypeId} {pos : String} {after : Array Edge} {guard : Option (Nat × Bool)}
    (hc : (match c.callee with | .builtin b => compBuiltin P b c.argTypes c.args.toList | .value f => some (.call f c.args.toList) | _ => none) = some aop) (hok : ∀ z ∈ (Op.call c).operands, okConst z = true) (hr : EnvRel β e a) (hv : aop.vals e.rd = some av)
    (hnc : ∀ f as, av ≠ .call f as) (hs : Sim β h w) (he : evP h n av = some res) (hf : Fresh β n res.next) :
    ExOK P β h w n res (execOp a.eval ⟨dst, .call c, type, pos, after, guard⟩) := by
  have rd : ∀ {x : Operand} {v : Value}, okConst x = true → e.rd x = some v → VRel β v (a.eval x) := by
    intro x v hx hv
    refine hr.rd (fun c hc => ?_) hv
    subst hc; exact hx
  split at hc
  · rename_i b hb
    rw [call_builtin hb]
    have hargs : ∀ z ∈ c.args.toList, okConst z = true := fun z hz => hok z (by rw [Op.operands, Call.operands, Array.mem_append]; exact .inr (by simpa using hz))
    have harr : c.args.map a.eval = (c.args.toList.map a.eval).toArray := by rw [← Array.toList_map, Array.toArray_toList]
    rw [harr]
    generalize c.args.toList = args at hc hargs
    generalize (c.args.map fun | .const _ => true | _ => false) = cs
    generalize c.argTypes = ts at hc
    unfold compBuiltin at hc
    split at hc
    · -- len
      rename_i x
      have hx := hargs x (by simp)
      split at hc
      case h_4 => cases hc
      all_goals
        rename_i hd
        simp only [Option.bind_eq_some_iff] at hd
        obtain ⟨t, ht0, ht⟩ := hd
        simp only [Option.some.injEq] at hc; subst hc
        simp only [AOp.vals, Option.map_eq_some_iff] at hv
        obtain ⟨v, h1, rfl⟩ := hv
        exact (len_sim (ty := type) ht0 ht rfl (rd hx h1) hs he).v' (fun x w' hx => by simp [builtin, hx])
    · -- cap
      rename_i x
      have hx := hargs x (by simp)
      split at hc
      case h_2 => cases hc
      rename_i el hd
      simp only [Option.bind_eq_some_iff] at hd
      obtain ⟨t, ht0, ht⟩ := hd
      simp only [Option.some.injEq] at hc; subst hc
      simp only [AOp.vals, Option.map_eq_some_iff] at hv
      obtain ⟨v, h1, rfl⟩ := hv
      exact (cap_sim (ty := type) ht0 ht (rd hx h1) hs he).v' (fun x w' hx => by simp [builtin, hx])
    · -- append
      rename_i x y
      have hx := hargs x (by simp)
      have hy := hargs y (by simp)
      split at hc
      case h_2 => cases hc
      rename_i el hd
      simp only [Option.bind_eq_some_iff] at hd
      obtain ⟨t, ht0, ht⟩ := hd
      split at hc
      case h_2 => cases hc
      rename_i i hi
      split at hc
      case h_2 => cases hc
      rename_i z hz
      split at hc
      case isFalse => cases hc
      rename_i hzs
      have happ : SrcT P ts → aop = .append el i.size i.bytes x y → ExOK P β h w n res (builtin .append ts type cs (([x, y] : List Operand).map a.eval).toArray) := by
        intro hsrc hq
        subst hq
        simp only [AOp.vals, Option.bind_eq_some_iff, Option.map_eq_some_iff] at hv
        obtain ⟨v, h1, u, h2, rfl⟩ := hv
        exact (append_sim (ty := type) ht0 ht hi hz hzs.1 hzs.2.1 hzs.2.2 hsrc (rd hx h1) (rd hy h2) hs hf he).v' (fun x w' hx => by simp [builtin, hx])
      split at hc
      · rename_i hu
        simp only [Option.some.injEq] at hc
        exact happ (.inl hu) hc.symm
      · rename_i u hu
        split at hc
        · rename_i hud
          simp only [Option.some.injEq] at hc
          exact happ (.inr ⟨u, hu, .inl hud⟩) hc.symm
        · rename_i e' hud
          simp only [Option.some.injEq] at hc
          exact happ (.inr ⟨u, hu, .inr ⟨e', hud⟩⟩) hc.symm
        · rename_i kk hud
          split at hc
          case isFalse => cases hc
          rename_i hzo
          simp only [Option.some.injEq] at hc; subst hc
          simp only [AOp.vals, Option.bind_eq_some_iff, Option.map_eq_some_iff] at hv
          obtain ⟨v, h1, u, h2, rfl⟩ := hv
          exact (appendMake_sim (ty := type) ht0 hu ht hud hi hz hzo hzs.2.2 (rd hx h1) (rd hy h2) hs hf he).v' (fun x w' hx => by simp [builtin, hx])
        · cases hc
    · -- copy
      rename_i x y
      have hx := hargs x (by simp)
      have hy := hargs y (by simp)
      split at hc
      case h_2 => cases hc
      rename_i el hd
      simp only [Option.bind_eq_some_iff] at hd
      obtain ⟨t, ht0, ht⟩ := hd
      simp only [Option.map_eq_some_iff] at hc
      obtain ⟨i, hi, rfl⟩ := hc
      simp only [AOp.vals, Option.bind_eq_some_iff, Option.map_eq_some_iff] at hv
      obtain ⟨v, h1, u, h2, rfl⟩ := hv
      exact (copy_sim (ty := type) ht0 ht hi (rd hx h1) (rd hy h2) hs he).v' (fun x w' hx => by simp [builtin, hx])
    · -- delete
      rename_i x y
      have hx := hargs x (by simp)
      have hy := hargs y (by simp)
      split at hc
      case h_2 => cases hc
      rename_i kt et hd
      simp only [Option.bind_eq_some_iff] at hd
      obtain ⟨t, ht0, ht⟩ := hd
      simp only [Option.map_eq_some_iff] at hc
      obtain ⟨kk, hkk, rfl⟩ := hc
      obtain ⟨d, hdd, hkd⟩ := keyKind_spec hkk
      simp only [AOp.vals, Option.bind_eq_some_iff, Option.map_eq_some_iff] at hv
      obtain ⟨v, h1, u, h2, rfl⟩ := hv
      exact (delete_sim (ty := type) ht0 ht hdd hkd (rd hx h1) (rd hy h2) hs he).v' (fun x w' hx => by simp [builtin, hx])
    · -- clear
      rename_i x
      have hx := hargs x (by simp)
      split at hc
      case h_2 => cases hc
      rename_i el hd
      simp only [Option.bind_eq_some_iff] at hd
      obtain ⟨t, ht0, ht⟩ := hd
      split at hc
      case h_2 => cases hc
      rename_i i hi
      simp only [Option.bind_eq_some_iff] at hc
      obtain ⟨z, hz, hc⟩ := hc
      split at hc
      case isFalse => cases hc
      rename_i hzo
      simp only [Option.some.injEq] at hc; subst hc
      simp only [AOp.vals, Option.map_eq_some_iff] at hv
      obtain ⟨v, h1, rfl⟩ := hv
      exact (clear_sim (ty := type) ht0 ht hi hz hzo (rd hx h1) hs he).v' (fun x w' hx => by simp [builtin, hx])
    · simp only [Option.some.injEq] at hc; subst hc
      simp only [AOp.vals, Option.map_eq_some_iff] at hv
      obtain ⟨v, h1, rfl⟩ := hv
      have r1 := mapList_rel hr hargs h1
      exact (minmax_sim (ts := ts) (ty := type) r1 hs he).v' (fun x w' hx => by simp only [if_true] at hx; simp [builtin, hx])
    · simp only [Option.some.injEq] at hc; subst hc
      simp only [AOp.vals, Option.map_eq_some_iff] at hv
      obtain ⟨v, h1, rfl⟩ := hv
      have r1 := mapList_rel hr hargs h1
      exact (minmax_sim (ts := ts) (ty := type) r1 hs he).v' (fun x w' hx => by simp only [Bool.false_eq_true, if_false] at hx; simp [builtin, hx])
    · cases hc
  · simp only [Option.some.injEq] at hc; subst hc
    simp only [AOp.vals, Option.bind_eq_some_iff, Option.map_eq_some_iff] at hv
    obtain ⟨f, _, as, _, rfl⟩ := hv
    exact absurd rfl (hnc f as)
  · cases hc

theorem op_sim {o : Oper} {aop : AOp Operand} {e : Env} {a : Act} {av : AOp Value} (hc : compOp P o.op = some aop) (hok : ∀ x ∈ o.op.operands, okConst x = true) (hr : EnvRel β e a) (hv : aop.vals e.rd = some av)
    (hnc : ∀ f as, av ≠ .call f as) (hs : Sim β h w) (he : evP h n av = some res) (hf : Fresh β n res.next) : ExOK P β h w n res (execOp a.eval o) := by
  have rd : ∀ {x : Operand} {v : Value}, okConst x = true → e.rd x = some v → VRel β v (a.eval x) := by
    intro x v hx hv
    refine hr.rd (fun c hc => ?_) hv
    subst hc; exact hx
  obtain ⟨dst, op, type, pos, after, guard⟩ := o
  simp only at hc hok ⊢
  cases op <;> simp only [compOp, Option.some.injEq, reduceCtorEq] at hc
  case move x =>
    subst hc
    simp only [AOp.vals, Option.map_eq_some_iff] at hv
    obtain ⟨v, h1, rfl⟩ := hv
    have r1 := rd (hok _ (by simp [Op.operands])) h1
    simp only [evP, Option.some.injEq] at he; subst he
    exact ExOK.pureV hs (by simp [execOp]) r1
  case assign x =>
    subst hc
    simp only [AOp.vals, Option.map_eq_some_iff] at hv
    obtain ⟨v, h1, rfl⟩ := hv
    have r1 := rd (hok _ (by simp [Op.operands])) h1
    simp only [evP, Option.some.injEq] at he; subst he
    exact ExOK.pureV hs (by simp [execOp]) r1
  case pick c x y =>
    subst hc
    simp only [AOp.vals, Option.bind_eq_some_iff, Option.map_eq_some_iff] at hv
    obtain ⟨v, h1, u, h2, q, h3, rfl⟩ := hv
    have r1 := rd (hok _ (by simp [Op.operands])) h1
    have r2 := rd (hok _ (by simp [Op.operands])) h2
    have r3 := rd (hok _ (by simp [Op.operands])) h3
    simp only [evP] at he
    split at he
    case h_2 => cases he
    rename_i t
    cases he
    refine ExOK.pureV (v' := if t then a.eval x else a.eval y) hs ?_ (by cases t <;> assumption)
    simp [execOp, r1.bool_inv, asBool]
  case alloc t =>
    simp only [Option.bind_eq_some_iff] at hc
    obtain ⟨z, hz, hc⟩ := hc
    split at hc
    case isFalse => cases hc
    rename_i hzo
    cases hc
    obtain ⟨i, zv, hi, hzv, rfl⟩ := zeroL_spec hz
    simp only [AOp.vals, Option.some.injEq] at hv; subst hv
    have hn : res.next = n + 1 := by simp only [evP, Option.some.injEq] at he; subst he; rfl
    rw [hn] at hf
    exact (alloc_sim hi hzv hzo hs hf he).v' (fun x w' hx => by simp [execOp, hx])
  case box t x =>
    subst hc
    simp only [AOp.vals, Option.map_eq_some_iff] at hv
    obtain ⟨v, h1, rfl⟩ := hv
    have r1 := rd (hok _ (by simp [Op.operands])) h1
    have hn : res.next = n + 1 := by simp only [evP, Option.some.injEq] at he; subst he; rfl
    rw [hn] at hf
    exact (box_sim r1 hs hf he).v' (fun x w' hx => by simp [execOp, hx])
  case build t ps =>
    split at hc
    case h_2 => cases hc
    rename_i fs ht
    simp only [Option.bind_eq_some_iff] at hc
    obtain ⟨pl, hpl, z, hz, hc⟩ := hc
    split at hc
    case isFalse => cases hc
    rename_i hzo
    simp only [Option.map_eq_some_iff] at hc
    obtain ⟨q, hq, rfl⟩ := hc
    obtain ⟨i, zv, hi, hzv, rfl⟩ := zeroL_spec hz
    simp only [AOp.vals, Option.map_eq_some_iff] at hv
    obtain ⟨vs, h1, rfl⟩ := hv
    have hp := parts_rel hr (place := fun i => pl[i]?) (fun _ => rfl) (fun p hp => hok p.2 (by simp only [Op.operands, List.mem_toArray, List.mem_map]; exact ⟨p, hp, rfl⟩)) hq h1
    refine (build_sim (ps' := ps.map fun p => (p.1, a.eval p.2)) ht hpl hi hzv hzo (by simpa using hp) hs he).v' (fun x w' hx => ?_)
    simp only [execOp, Sem.run_bind]
    rw [hx]; rfl
  case buildSlice t len ps =>
    split at hc
    case h_2 => cases hc
    rename_i el ht
    split at hc
    case h_2 => cases hc
    rename_i i hi
    split at hc
    case h_2 => cases hc
    rename_i z hz
    split at hc
    case isFalse => cases hc
    rename_i hcond
    obtain ⟨hzs, h0, hlen, hzo⟩ := hcond
    cases hc
    simp only [AOp.vals, Option.map_eq_some_iff] at hv
    obtain ⟨vs, h1, rfl⟩ := hv
    have hp : All2 (fun (p : Nat × Nat × Value) (q : Nat × Value) => some (q.1 * i.size, i.size) = some (p.1, p.2.1) ∧ VRel β p.2.2 q.2) vs (ps.toList.map fun p => (p.1, a.eval p.2)) := by
      have hok' : ∀ p ∈ ps.toList, okConst p.2 = true := fun p hp => hok p.2 (by simp only [Op.operands, List.mem_toArray, List.mem_map]; exact ⟨p, hp, rfl⟩)
      clear hok he hf hnc
      generalize ps.toList = l at *
      induction l generalizing vs with
      | nil => simp only [List.map_nil, mapParts, Option.some.injEq] at h1; subst h1; exact .nil
      | cons p l ih =>
        simp only [List.map_cons, mapParts, Option.bind_eq_some_iff, Option.map_eq_some_iff] at h1
        obtain ⟨v, hv1, vs', hv2, rfl⟩ := h1
        exact .cons ⟨rfl, rd (hok' p (List.mem_cons_self ..)) hv1⟩ (ih vs' hv2 (fun q hq => hok' q (List.mem_cons_of_mem _ hq)))
    refine (buildSlice_sim (ps' := ps.map fun p => (p.1, a.eval p.2)) ht hi hz hzo hzs h0 hlen (by simpa using hp) hs hf he).v' (fun x w' hx => ?_)
    simp only [execOp, Sem.run_bind]
    rw [hx]; rfl
  case load t x =>
    simp only [Option.map_eq_some_iff] at hc
    obtain ⟨k, hk, rfl⟩ := hc
    simp only [AOp.vals, Option.map_eq_some_iff] at hv
    obtain ⟨v, h1, rfl⟩ := hv
    have r1 := rd (hok _ (by simp [Op.operands])) h1
    exact (load_sim hk r1 hs he).v' (fun x w' hx => by simp [execOp, hx])
  case store t x y =>
    simp only [Option.map_eq_some_iff] at hc
    obtain ⟨i, hi, rfl⟩ := hc
    simp only [AOp.vals, Option.bind_eq_some_iff, Option.map_eq_some_iff] at hv
    obtain ⟨v, h1, u, h2, rfl⟩ := hv
    have r1 := rd (hok _ (by simp [Op.operands])) h1
    have r2 := rd (hok _ (by simp [Op.operands])) h2
    exact (store_sim hi r1 r2 hs he).u' (fun w' hx => by simp [execOp, hx])
  case nilCheck x =>
    subst hc
    simp only [AOp.vals, Option.map_eq_some_iff] at hv
    obtain ⟨v, h1, rfl⟩ := hv
    have r1 := rd (hok _ (by simp [Op.operands])) h1
    simp only [evP] at he
    split at he
    · cases he
      refine ExOK.pureV hs ?_ r1
      obtain ⟨a2, hq⟩ := r1.some_shape
      simp [execOp, hq]
    · cases he
      refine ExOK.pureV hs ?_ r1
      obtain ⟨a2, c2, hq, _⟩ := r1.func_inv
      simp [execOp, hq]
    · cases he
      refine ExOK.pureV hs ?_ r1
      obtain ⟨u2, hq, _⟩ := r1.iface_inv
      simp [execOp, hq]
    · cases he
  case unOp op t x =>
    subst hc
    simp only [AOp.vals, Option.map_eq_some_iff] at hv
    obtain ⟨v, h1, rfl⟩ := hv
    have r1 := rd (hok _ (by simp [Op.operands])) h1
    simp only [evP, Option.map_eq_some_iff] at he
    obtain ⟨q, hq, rfl⟩ := he
    obtain ⟨e1, hvv⟩ := unV_inv hq r1
    refine ExOK.pureV hs ?_ hvv
    simp [execOp, e1, unV_run hq]
  case makeInterface t x =>
    split at hc
    · cases hc
    · rename_i d hd hni
      cases hc
      simp only [AOp.vals, Option.map_eq_some_iff] at hv
      obtain ⟨v, h1, rfl⟩ := hv
      have r1 := rd (hok _ (by simp [Op.operands])) h1
      simp only [evP, Option.some.injEq] at he; subst he
      refine ExOK.pureV hs ?_ (.iface r1)
      have : (Instr.makeInterface t (a.eval x)).run P w = .ok (.iface t (a.eval x)) w := by
        simp only [Instr.makeInterface, Sem.run_bind, run_und hni, Result.andThen_ok]
        cases d <;> first | rfl | (rename_i q; exact absurd hni (hd q))
      simp [execOp, this]
    · cases hc
  case makeFunc fn x y =>
    subst hc
    simp only [AOp.vals, Option.bind_eq_some_iff, Option.map_eq_some_iff] at hv
    obtain ⟨v, h1, u, h2, rfl⟩ := hv
    have r1 := mapList_rel hr (fun z hz => hok z (by simp only [Op.operands, Array.mem_append]; exact .inl (by simpa using hz))) h1
    have r2 := mapList_rel hr (fun z hz => hok z (by simp only [Op.operands, Array.mem_append]; exact .inr (by simpa using hz))) h2
    simp only [evP, Option.some.injEq] at he; subst he
    have q1 := lrel_iff.1 r1
    have q2 := lrel_iff.1 r2
    refine ExOK.pureV (v' := .func fn (x.map a.eval) (y.map a.eval)) hs ?_ (.func (by simpa using q1.1) (by simpa using q2.1) (by simpa using q1.2) (by simpa using q2.2))
    simp [execOp, Instr.makeFunc]
  case makeMap t r =>
    cases r with
    | some _ => simp at hc
    | none =>
      simp only [Option.some.injEq] at hc; subst hc
      simp only [AOp.vals, mapOpt, Option.map_some, Option.some.injEq] at hv; subst hv
      simp only [evP, Option.some.injEq] at he; subst he
      have hn : β n = none := hf n (Nat.le_refl _) (Nat.lt_succ_self _)
      obtain ⟨h1, h2⟩ := alloc_step (r := ⟨w.heap.size, 0, 0, 0, 0⟩) (o := .map [] 0) (ob := .map #[] 0) (w' := w.alloc (.map #[] 0)) hs hn rfl rfl rfl rfl rfl ⟨rfl, .nil⟩
      refine ⟨.value (.map (some w.heap.size)), _, _, _, ?_, .inl rfl, VRel.map (r := ⟨w.heap.size, 0, 0, 0, 0⟩) (by simp [ext]), h1, h2⟩
      simp [execOp, Instr.makeMap]
  case makeSlice t x y =>
    split at hc
    case h_2 => cases hc
    rename_i el ht
    split at hc
    case h_2 => cases hc
    rename_i i hi
    simp only [Option.bind_eq_some_iff] at hc
    obtain ⟨z, hz, hc⟩ := hc
    split at hc
    case isFalse => cases hc
    rename_i hzo
    cases hc
    simp only [AOp.vals, Option.bind_eq_some_iff, Option.map_eq_some_iff] at hv
    obtain ⟨v, h1, u, h2, rfl⟩ := hv
    have r1 := rd (hok _ (by simp [Op.operands])) h1
    have r2 := rd (hok _ (by simp [Op.operands])) h2
    exact (mkSlice_sim ht hi hz hzo r1 r2 hs hf he).v' (fun x w' hx => by simp [execOp, hx])
  case slice t x lo hi mx =>
    have hopt : ∀ (y : Option Operand), (∀ z, y = some z → z ∈ (Op.slice t x lo hi mx).operands) → ∀ v, mapOpt e.rd y = some v → OptRel β v (y.map a.eval) :=
      fun y hy v hv => mapOpt_rel hr (fun z hz => hok z (hy z hz)) hv
    split at hc
    · rename_i ht
      cases hc
      simp only [AOp.vals, Option.bind_eq_some_iff, Option.map_eq_some_iff] at hv
      obtain ⟨v, h1, v2, h2, v3, h3, v4, h4, rfl⟩ := hv
      have r1 := rd (hok _ (by simp [Op.operands])) h1
      have r2 := hopt lo (fun z hz => by subst hz; simp [Op.operands]) _ h2
      have r3 := hopt hi (fun z hz => by subst hz; simp [Op.operands]) _ h3
      have r4 := hopt mx (fun z hz => by subst hz; simp [Op.operands]) _ h4
      exact (slice_string_sim ht r1 r2 r3 r4 hs he).v' (fun x w' hx => by simp [execOp, hx])
    · rename_i el ht
      simp only [Option.map_eq_some_iff] at hc
      obtain ⟨i, hif, rfl⟩ := hc
      simp only [AOp.vals, Option.bind_eq_some_iff, Option.map_eq_some_iff] at hv
      obtain ⟨v, h1, v2, h2, v3, h3, v4, h4, rfl⟩ := hv
      have r1 := rd (hok _ (by simp [Op.operands])) h1
      have r2 := hopt lo (fun z hz => by subst hz; simp [Op.operands]) _ h2
      have r3 := hopt hi (fun z hz => by subst hz; simp [Op.operands]) _ h3
      have r4 := hopt mx (fun z hz => by subst hz; simp [Op.operands]) _ h4
      exact (slice_slice_sim ht hif r1 r2 r3 r4 hs he).v' (fun x w' hx => by simp [execOp, hx])
    · cases hc
  case fieldAddr t x j =>
    split at hc
    case h_2 => cases hc
    rename_i fs ht
    simp only [Option.bind_eq_some_iff] at hc
    obtain ⟨f, hfj, i, hi, hc⟩ := hc
    split at hc
    case isFalse => cases hc
    rename_i h0
    cases hc
    simp only [AOp.vals, Option.map_eq_some_iff] at hv
    obtain ⟨v, h1, rfl⟩ := hv
    have r1 := rd (hok _ (by simp [Op.operands])) h1
    exact (fieldAddr_sim ht hfj hi h0 r1 hs he).v' (fun x w' hx => by simp [execOp, hx])
  case field t x j =>
    split at hc
    case h_2 => cases hc
    rename_i fs ht
    simp only [Option.bind_eq_some_iff, Option.map_eq_some_iff] at hc
    obtain ⟨f, hfj, k, hk, rfl⟩ := hc
    simp only [AOp.vals, Option.map_eq_some_iff] at hv
    obtain ⟨v, h1, rfl⟩ := hv
    have r1 := rd (hok _ (by simp [Op.operands])) h1
    exact (field_sim ht hfj hk r1 hs he).v' (fun x w' hx => by simp [execOp, hx])
  case indexAddr t x y =>
    split at hc
    case h_2 => cases hc
    rename_i el ht
    simp only [Option.map_eq_some_iff] at hc
    obtain ⟨i, hi, rfl⟩ := hc
    simp only [AOp.vals, Option.bind_eq_some_iff, Option.map_eq_some_iff] at hv
    obtain ⟨v, h1, u, h2, rfl⟩ := hv
    have r1 := rd (hok _ (by simp [Op.operands])) h1
    have r2 := rd (hok _ (by simp [Op.operands])) h2
    exact (indexAddr_sim ht hi r1 r2 hs he).v' (fun x w' hx => by simp [execOp, hx])
  case index t x y =>
    split at hc
    case h_2 => cases hc
    rename_i ht
    cases hc
    simp only [AOp.vals, Option.bind_eq_some_iff, Option.map_eq_some_iff] at hv
    obtain ⟨v, h1, u, h2, rfl⟩ := hv
    have r1 := rd (hok _ (by simp [Op.operands])) h1
    have r2 := rd (hok _ (by simp [Op.operands])) h2
    exact (index_sim ht r1 r2 hs he).v' (fun x w' hx => by simp [execOp, hx])
  case lookup t x k ok =>
    split at hc
    case h_2 => cases hc
    rename_i kt et ht
    simp only [Option.bind_eq_some_iff] at hc
    obtain ⟨kk, hkk, hc⟩ := hc
    split at hc
    case h_2 => cases hc
    rename_i i hi
    simp only [Option.bind_eq_some_iff] at hc
    obtain ⟨z, hz, hc⟩ := hc
    split at hc
    case isFalse => cases hc
    rename_i hzp
    cases hc
    obtain ⟨d, hd, hkd⟩ := keyKind_spec hkk
    simp only [AOp.vals, Option.bind_eq_some_iff, Option.map_eq_some_iff] at hv
    obtain ⟨v, h1, u, h2, rfl⟩ := hv
    have r1 := rd (hok _ (by simp [Op.operands])) h1
    have r2 := rd (hok _ (by simp [Op.operands])) h2
    exact (lookup_sim ht hd hkd hi hz (zero_rel hzp) r1 r2 hs he).v' (fun x w' hx => by simp [execOp, hx])
  case mapUpdate t m k v =>
    split at hc
    case h_2 => cases hc
    rename_i kt et ht
    simp only [Option.map_eq_some_iff] at hc
    obtain ⟨kk, hkk, rfl⟩ := hc
    obtain ⟨d, hd, hkd⟩ := keyKind_spec hkk
    simp only [AOp.vals, Option.bind_eq_some_iff, Option.map_eq_some_iff] at hv
    obtain ⟨v, h1, u, h2, q, h3, rfl⟩ := hv
    have r1 := rd (hok _ (by simp [Op.operands])) h1
    have r2 := rd (hok _ (by simp [Op.operands])) h2
    have r3 := rd (hok _ (by simp [Op.operands])) h3
    exact (mapUpdate_sim ht hd hkd r1 r2 r3 hs he).u' (fun w' hx => by simp [execOp, hx])
  case insert t m k v =>
    split at hc
    case h_2 => cases hc
    rename_i kt et ht
    simp only [Option.map_eq_some_iff] at hc
    obtain ⟨kk, hkk, rfl⟩ := hc
    obtain ⟨d, hd, hkd⟩ := keyKind_spec hkk
    simp only [AOp.vals, Option.bind_eq_some_iff, Option.map_eq_some_iff] at hv
    obtain ⟨v, h1, u, h2, q, h3, rfl⟩ := hv
    have r1 := rd (hok _ (by simp [Op.operands])) h1
    have r2 := rd (hok _ (by simp [Op.operands])) h2
    have r3 := rd (hok _ (by simp [Op.operands])) h3
    exact (mapUpdate_sim ht hd hkd r1 r2 r3 hs he).u' (fun w' hx => by simp [execOp, hx])
  case mapEntry t m k =>
    split at hc
    case h_2 => cases hc
    rename_i kt et ht
    simp only [Option.bind_eq_some_iff] at hc
    obtain ⟨kk, hkk, hc⟩ := hc
    split at hc
    case h_2 => cases hc
    rename_i i hi
    simp only [Option.bind_eq_some_iff] at hc
    obtain ⟨z, hz, hc⟩ := hc
    split at hc
    case isFalse => cases hc
    rename_i hzp
    cases hc
    obtain ⟨d, hd, hkd⟩ := keyKind_spec hkk
    simp only [AOp.vals, Option.bind_eq_some_iff, Option.map_eq_some_iff] at hv
    obtain ⟨v, h1, u, h2, rfl⟩ := hv
    have r1 := rd (hok _ (by simp [Op.operands])) h1
    have r2 := rd (hok _ (by simp [Op.operands])) h2
    exact (mapEntry_sim ht hd hkd hi hz (zero_rel hzp) r1 r2 hs he).v' (fun x w' hx => by simp [execOp, hx])
  case entryStore t m s v =>
    subst hc
    simp only [AOp.vals, Option.bind_eq_some_iff, Option.map_eq_some_iff] at hv
    obtain ⟨v, h1, u, h2, q, h3, rfl⟩ := hv
    have r1 := rd (hok _ (by simp [Op.operands])) h1
    have r2 := rd (hok _ (by simp [Op.operands])) h2
    have r3 := rd (hok _ (by simp [Op.operands])) h3
    exact (entryStore_sim (t := t) r1 r2 r3 hs he).u' (fun w' hx => by simp [execOp, hx])
  case panic x =>
    subst hc
    simp only [AOp.vals, Env.rd, Option.map_some, Option.some.injEq] at hv
    subst hv
    simp [evP] at he
  case extract x i =>
    subst hc
    simp only [AOp.vals, Option.map_eq_some_iff] at hv
    obtain ⟨v, h1, rfl⟩ := hv
    have r1 := rd (hok _ (by simp [Op.operands])) h1
    simp only [evP] at he
    split at he
    case h_2 => cases he
    simp only [Option.map_eq_some_iff] at he
    obtain ⟨q, hq, rfl⟩ := he
    obtain ⟨vs', hq2, hl⟩ := r1.tuple_inv
    obtain ⟨q', hq', hrr⟩ := hl.get hq
    refine ExOK.pureV hs ?_ hrr
    have : vs'[i]? = some q' := by simpa using hq'
    simp [execOp, hq2, Instr.extract, this]
  case convert src dst x =>
    unfold compConv at hc
    split at hc
    · rename_i k1 k2 h1 h2
      cases hc
      simp only [AOp.vals, Option.map_eq_some_iff] at hv
      obtain ⟨v, g1, rfl⟩ := hv
      have r1 := rd (hok _ (by simp [Op.operands])) g1
      exact (conv_int_sim h1 h2 r1 hs he).v' (fun x w' hx => by simp [execOp, hx])
    · rename_i h1 h2
      cases hc
      simp only [AOp.vals, Option.map_eq_some_iff] at hv
      obtain ⟨v, g1, rfl⟩ := hv
      have r1 := rd (hok _ (by simp [Op.operands])) g1
      exact (conv_same_sim h1 h2 r1 hs he).v' (fun x w' hx => by simp [execOp, hx])
    · rename_i el h1 h2
      split at hc
      case h_2 => cases hc
      rename_i hu
      cases hc
      simp only [AOp.vals, Option.map_eq_some_iff] at hv
      obtain ⟨v, g1, rfl⟩ := hv
      have r1 := rd (hok _ (by simp [Op.operands])) g1
      exact (conv_toBytes_sim h1 h2 hu r1 hs hf he).v' (fun x w' hx => by simp [execOp, hx])
    · rename_i el h1 h2
      split at hc
      case h_2 => cases hc
      rename_i hu
      cases hc
      simp only [AOp.vals, Option.map_eq_some_iff] at hv
      obtain ⟨v, g1, rfl⟩ := hv
      have r1 := rd (hok _ (by simp [Op.operands])) g1
      exact (conv_toString_sim h1 hu h2 r1 hs he).v' (fun x w' hx => by simp [execOp, hx])
    · rename_i el el2 h1 h2
      split at hc
      case isFalse => cases hc
      rename_i hsd
      split at hc
      case h_2 => cases hc
      rename_i hu
      cases hc
      simp only [AOp.vals, Option.map_eq_some_iff] at hv
      obtain ⟨v, g1, rfl⟩ := hv
      have r1 := rd (hok _ (by simp [Op.operands])) g1
      exact (conv_sameB_sim h1 hu r1 hs he).v' (fun x w' hx => by simp [execOp, ← hsd, hx])
    · cases hc
  case binOp op t x y yt =>
    exact binOp_case hc hok hr hv hs he
  case call c =>
    exact call_case hc hok hr hv hnc hs he hf

end
end Go.Abs
