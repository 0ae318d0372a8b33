/-
  Regions that are carried out in the order of the text.
-/
import Derived.Test.YtoiedaegnhifpaaDoorA13
import Derived.Tactics
set_option linter.unusedVariables false
set_option linter.unusedSimpArgs false
namespace Go.Abs
open Go

def Callable (P : Program) (f : FuncId) : Prop := ∃ fn, P.funcs[f]? = some fn ∧ fn.body.isNone = false ∧ (fn.name == "runtime.NumGoroutine") = false

def ExtOK (P : Program) (f : FuncId) (args : List Value) (s : St) (v : Value) (s' : St) : Prop :=
  s.next ≤ s'.next ∧ ∀ (β : Map) (w : World) (args' : List Value), Sim β s.heap.get w → Fresh β s.next s'.next → LRel β args args' →
    ∃ v' w' β', (callFunc f args'.toArray).run P w = .ok (.value v') w' ∧ VRel β' v v' ∧ Sim β' s'.heap.get w' ∧ Step β s.heap.get w β' s'.heap.get w' s.next s'.next

def WFs (s : St) : Prop := ∀ id, s.next ≤ id → s.heap.get id = none

def GoodCalls (P : Program) (cs : CallSem) : Prop := ∀ f args s v s', WFs s → cs f args s = some (v, s') → (Callable P f ∧ CallOK P f args s v s') ∨ ExtOK P f args s v s'

def Does (P : Program) (o : Oper) (a : Act) (β : Map) (h : HF) (w : World) (n : Nat) (v : Value) (h' : HF) (n' : Nat) : Prop :=
  ∀ (K : Act → World → Prop) (Q : Exit → Act → World → Prop), (∀ v' w' β', VRel β' v v' → Sim β' h' w' → Step β h w β' h' w' n n' → K (a.put o.dst v') w') → o.wp P a w K Q

theorem ExOK.does {P : Program} {β : Map} {h : HF} {w : World} {n : Nat} {res : Res} {o : Oper} {a : Act} (hx : ExOK P β h w n res (execOp a.eval o)) : Does P o a β h w n res.val (updF h res.upd) res.next := by
  obtain ⟨nx, w', β', v', hr, hq, hv, h1, h2⟩ := hx
  intro K Q hK
  unfold Oper.wp
  rw [hr]
  rcases hq with rfl | ⟨rfl, rfl⟩
  · exact hK v' w' β' hv h1 h2
  · exact hK undef w' β' hv h1 h2

theorem run_callFunc {P : Program} {f : FuncId} {args : Array Value} {w : World} (hf : Callable P f) : (callFunc f args).run P w = .ok (.enter f args) w := by
  obtain ⟨fn, h1, h2, h3⟩ := hf
  simp only [callFunc, Sem.run_bind, run_program, Result.andThen_ok, h1, h3, h2, Bool.false_eq_true, if_false, Sem.run_pure]

theorem call_does {P : Program} {cs : CallSem} (hg : GoodCalls P cs) {β : Map} {s s' : St} {w : World} {a : Act} {c : Call} {fo : Operand} {dst : Option Tmp} {type : TypeId} {pos : String} {after : Array Edge} {guard : Option (Nat × Bool)}
    {f : FuncId} {first cap args : List Value} {v : Value} (hfo : c.callee = .value fo) {vf : Value} {as : List Value} (hvf : VRel β vf (a.eval fo)) (has : LRel β as (c.args.toList.map a.eval)) {fargs : List Value} (hcal : callee vf as = some (f, fargs))
    (hev : cs f fargs s = some (v, s')) (hs : Sim β s.heap.get w) (hwfs : WFs s) (hf : Fresh β s.next s'.next) :
    Does P ⟨dst, .call c, type, pos, after, guard⟩ a β s.heap.get w s.next v s'.heap.get s'.next := by
  unfold callee at hcal
  split at hcal
  case h_2 => cases hcal
  rename_i args0 f0 a0 c0
  simp only [Option.some.injEq, Prod.mk.injEq] at hcal
  obtain ⟨rfl, rfl⟩ := hcal
  obtain ⟨a', c', hq, ha', hc'⟩ := hvf.func_inv
  have hexec : execOp a.eval ⟨dst, .call c, type, pos, after, guard⟩ = callFunc f0 (a' ++ c.args.map a.eval ++ c') := by
    simp only [execOp, resolve, hfo, hq, Deferred.ofValue]
    rfl
  have harr : a' ++ c.args.map a.eval ++ c' = (a'.toList ++ c.args.toList.map a.eval ++ c'.toList).toArray := by
    rw [← Array.toList_inj]; simp
  have hargs : LRel β (a0.toList ++ as ++ c0.toList) (a'.toList ++ c.args.toList.map a.eval ++ c'.toList) := (ha'.append has).append hc'
  intro K Q hK
  unfold Oper.wp
  rw [hexec, harr]
  rcases hg _ _ _ _ _ hwfs hev with ⟨hcl, _, hok⟩ | ⟨_, hok⟩
  · rw [run_callFunc hcl, Oper.upon_enter]
    refine (hok β w _ hs hf hargs).mono ?_
    rintro e w' ⟨v', β', rfl, hv, h1, h2⟩
    exact hK v' w' β' hv h1 h2
  · obtain ⟨v', w', β', hr, hv, h1, h2⟩ := hok β w _ hs hf hargs
    rw [hr]
    exact hK v' w' β' hv h1 h2

def AOp.ops {α : Type} : AOp α → List α
  | .mov x | .box _ x | .load _ x | .nilCheck x | .un _ x | .conv _ x | .mkIface _ x | .fieldAddr _ x | .field _ _ x | .extract x _ | .len _ x | .cap x | .clear _ _ x | .rangeStr x | .nextStr x => [x]
  | .pick c a b => [c, a, b]
  | .alloc _ _ => []
  | .build _ ps | .buildSlice _ _ _ _ ps => ps.map (·.2.2)
  | .store _ a x | .bin _ a x | .eq _ _ a x | .mkSlice _ _ _ _ a x | .indexAddr _ a x | .index a x | .lookup _ _ _ a x | .mapEntry _ _ a x | .append _ _ _ a x | .appendMake _ _ _ _ a x | .copy _ a x | .delete _ a x => [a, x]
  | .mkFunc _ a b => a ++ b
  | .mkMap h => h.toList
  | .slice _ x l h m => x :: (l.toList ++ h.toList ++ m.toList)
  | .mapUpdate _ a b c | .entryStore a b c => [a, b, c]
  | .minmax _ xs => xs
  | .call f as => f :: as

def compOper (P : Program) (N : Nat) (ops : Array Oper) (o : Oper) : Option AOper :=
  (compOp P o.op).bind fun op =>
    if o.op.operands.all okConst && op.ops.all okConst && (match o.dst with | some d => decide (d < N) | none => true) then
      match o.guard with
      | none => some ⟨o.dst, op, none⟩
      | some (j, want) => ((ops[j]?).bind (·.dst)).map fun t => ⟨o.dst, op, some (t, want)⟩
    else none

theorem compOper_spec {P : Program} {N : Nat} {ops : Array Oper} {o : Oper} {ao : AOper} (h : compOper P N ops o = some ao) :
    compOp P o.op = some ao.op ∧ (∀ x ∈ o.op.operands, okConst x = true) ∧ ao.dst = o.dst ∧ (∀ d, o.dst = some d → d < N) ∧ (∀ x ∈ ao.op.ops, okConst x = true) ∧
      ((o.guard = none ∧ ao.guard = none) ∨ ∃ j want t, o.guard = some (j, want) ∧ ((ops[j]?).bind (·.dst)) = some t ∧ ao.guard = some (t, want)) := by
  unfold compOper at h
  simp only [Option.bind_eq_some_iff] at h
  obtain ⟨op, h1, h⟩ := h
  rw [Option.ite_none_right_eq_some] at h
  obtain ⟨hc, h⟩ := h
  simp only [Bool.and_eq_true, Array.all_eq_true_iff_forall_mem] at hc
  obtain ⟨⟨hc1, hc3⟩, hc2⟩ := hc
  have hc3 : ∀ x ∈ op.ops, okConst x = true := List.all_eq_true.1 hc3
  have hd : ∀ d, o.dst = some d → d < N := by
    intro d hd
    rw [hd] at hc2
    simpa using hc2
  split at h
  · rename_i hgd
    cases h
    exact ⟨h1, hc1, rfl, hd, hc3, .inl ⟨hgd, rfl⟩⟩
  · rename_i j want hgd
    simp only [Option.map_eq_some_iff] at h
    obtain ⟨t, ht, rfl⟩ := h
    exact ⟨h1, hc1, rfl, hd, hc3, .inr ⟨j, want, t, hgd, ht, rfl⟩⟩

theorem wanted_eq {P : Program} {N : Nat} {ops : Array Oper} {o : Oper} {ao : AOper} (hc : compOper P N ops o = some ao) {β : Map} {e : Env} {a : Act} (hr : EnvRel β e a) {b : Bool} (hw : wantedA ao e = some b) :
    Region.wanted o (yielded ops a.tmps) = b := by
  obtain ⟨_, _, _, _, _, hg⟩ := compOper_spec hc
  unfold wantedA at hw
  rcases hg with ⟨g1, g2⟩ | ⟨j, want, t, g1, g2, g3⟩
  · rw [g2] at hw
    simp only [Option.some.injEq] at hw
    subst hw
    simp [Region.wanted, g1]
  · rw [g3] at hw
    simp only at hw
    cases ht : e.get t with
    | none => simp [ht] at hw
    | some v =>
      obtain ⟨hlt, hv⟩ := hr.rel t v ht
      have hget : a.tmps[t]? = some (a.tmps.getD t undef) := by simp [Array.getD, hlt]
      rw [ht] at hw
      simp only [Region.wanted, g1, yielded, g2, Option.bind_some, hget]
      split at hw
      · rename_i b' hb'
        cases hb'
        rw [hv.bool_inv]
        simp only [Option.some.injEq] at hw
        subst hw
        cases b' <;> cases want <;> rfl
      · rename_i vs hb'
        cases hb'
        simp only [Option.some.injEq] at hw
        subst hw
        obtain ⟨a', hq, _⟩ := hv.tuple_inv
        rw [hq]
        rfl
      · cases hw

theorem oper_does {P : Program} {N : Nat} {cs : CallSem} (hg : GoodCalls P cs) {ops : Array Oper} {o : Oper} {ao : AOper} (hc : compOper P N ops o = some ao) {β : Map} {e : Env} {a : Act} {s s' : St} {v : Value} {w : World} (hr : EnvRel β e a)
    (hs : Sim β s.heap.get w) (hwfs : WFs s) (hev : evOper cs ao.op e s = some (v, s')) (hf : Fresh β s.next s'.next) : Does P o a β s.heap.get w s.next v s'.heap.get s'.next := by
  obtain ⟨h1, h2, h3, h4, h5, hgd⟩ := compOper_spec hc
  clear hgd h3 h4 h5
  unfold evOper at hev
  simp only [Option.bind_eq_some_iff] at hev
  obtain ⟨av, hav, hev⟩ := hev
  split at hev
  · rename_i f args
    simp only [Option.bind_eq_some_iff] at hev
    obtain ⟨p, hp, hev⟩ := hev
    obtain ⟨fid, fargs⟩ := p
    -- the operation is a call of a value
    obtain ⟨dst, op, type, pos, after, guard⟩ := o
    simp only at h1 h2
    have hcall : ∃ c fo, op = .call c ∧ c.callee = .value fo ∧ ao.op = .call fo c.args.toList := by
      cases hop : ao.op <;> rw [hop] at hav <;> simp only [AOp.vals, Option.bind_eq_some_iff, Option.map_eq_some_iff, reduceCtorEq, and_false, exists_false, Option.some.injEq] at hav
      rename_i fo as
      rw [hop] at h1
      cases op <;> simp only [compOp, reduceCtorEq, Option.some.injEq] at h1
      case call c =>
        refine ⟨c, fo, rfl, ?_⟩
        split at h1
        · rename_i b hb
          exfalso
          unfold compBuiltin at h1
          repeat' (split at h1)
          all_goals (first | (simp only [Option.some.injEq, reduceCtorEq] at h1; done) | (simp only [Option.map_eq_some_iff, reduceCtorEq, and_false, exists_false] at h1; done) | (simp only [Option.bind_eq_some_iff, Option.ite_none_right_eq_some, Option.some.injEq, reduceCtorEq, and_false, exists_false] at h1; done) | (cases h1; done))
        · rename_i fo' hfo'
          simp only [Option.some.injEq, AOp.call.injEq] at h1
          obtain ⟨rfl, rfl⟩ := h1
          exact ⟨hfo', rfl⟩
        · cases h1
      case makeMap t r => cases r <;> simp at h1
      case next x b => cases b <;> simp at h1
      all_goals
        exfalso
        try unfold compEq at h1
        try unfold compConv at h1
        repeat' (split at h1)
        all_goals (try unfold compEq at h1)
        all_goals (repeat' (split at h1))
        all_goals (first
          | (simp only [Option.some.injEq, reduceCtorEq] at h1; done)
          | (simp only [Option.bind_eq_some_iff, Option.map_eq_some_iff, Option.ite_none_right_eq_some, reduceCtorEq, and_false, exists_false, Option.some.injEq] at h1; done)
          | (cases h1; done))
    obtain ⟨c, fo, rfl, hfo, hao⟩ := hcall
    rw [hao] at hav
    simp only [AOp.vals, Option.bind_eq_some_iff, Option.map_eq_some_iff] at hav
    obtain ⟨vf, hvf, as, has, hq⟩ := hav
    cases hq
    have hokc : okConst fo = true := h2 fo (by simp [Op.operands, Call.operands, hfo])
    have hoka : ∀ x ∈ c.args.toList, okConst x = true := fun x hx => h2 x (by rw [Op.operands, Call.operands, Array.mem_append]; exact .inr (by simpa using hx))
    exact call_does (first := []) (cap := []) (args := []) hg hfo (hr.rd (fun k hk => by subst hk; exact hokc) hvf) (mapList_rel hr hoka has) hp hev hs hwfs hf
  · rename_i hnc
    simp only [Option.map_eq_some_iff, Prod.mk.injEq] at hev
    obtain ⟨res, hres, rfl, rfl⟩ := hev
    have := (op_sim h1 h2 hr hav (fun f as hq => hnc f as hq) hs hres hf).does
    simp only [get_applyUpd]
    exact this

theorem evP_next {h : HF} {n : Nat} {av : AOp Value} {res : Res} (he : evP h n av = some res) : n ≤ res.next := by
  cases av <;> simp only [evP] at he
  all_goals (repeat' (split at he))
  all_goals (try simp only [Option.some.injEq, reduceCtorEq, Option.map_eq_some_iff, Option.bind_eq_some_iff] at he)
  all_goals (first
    | (subst he; simp; done)
    | (obtain ⟨_, _, rfl⟩ := he; simp; done)
    | (obtain ⟨_, _, rfl⟩ := he; split <;> simp; done)
    | (obtain ⟨_, _, _, _, rfl⟩ := he; simp; done)
    | skip)
  all_goals (obtain ⟨_, _, he⟩ := he)
  all_goals (try (obtain ⟨_, _, he⟩ := he))
  all_goals (repeat' (split at he))
  all_goals (first
    | (exact he.elim)
    | (cases he; done)
    | (cases he; simp; done))

def After (β : Map) (h : HF) (w : World) (n : Nat) (N : Nat) (e' : Env) (h' : HF) (n' : Nat) (K : Act → World → Prop) : Prop :=
  ∀ a' w' β', EnvRel β' e' a' → a'.tmps.size = N → Sim β' h' w' → Step β h w β' h' w' n n' → K a' w'

end Go.Abs


/-
  What an operation reads and writes.
-/
set_option linter.unusedVariables false
set_option linter.unusedSimpArgs false
namespace Go.Abs
open Go

theorem evP_local {g g' : HF} {n : Nat} {av : AOp Value} (h : ∀ id, id ∈ (footOf av).1 ∨ id ∈ (footOf av).2 → g' id = g id) : evP g' n av = evP g n av := by
  cases av with
  | load k a =>
    cases a <;> try rfl
    rename_i a
    cases a with
    | none => rfl
    | some a =>
      obtain ⟨id, o, sp⟩ := a
      have := h id (by simp [footOf])
      cases sp <;> cases k <;> simp only [evP, cellsAt, this]
  | store k a x =>
    cases a <;> try rfl
    rename_i a
    cases a with
    | none => rfl
    | some a =>
      obtain ⟨id, o, sp⟩ := a
      have := h id (by simp [footOf])
      cases sp <;> simp only [evP, this]
  | conv k x =>
    cases k <;> cases x <;> try rfl
    all_goals
      rename_i a l c
      cases a with
      | none => rfl
      | some a =>
        obtain ⟨id, o, sp⟩ := a
        have := h id (by simp [footOf])
        cases sp <;> simp only [evP, cellsAt, this]
  | clear sz z x =>
    cases x <;> try rfl
    rename_i a l c
    cases a with
    | none => rfl
    | some a =>
      obtain ⟨id, o, sp⟩ := a
      have := h id (by simp [footOf])
      cases sp <;> simp only [evP, this]
  | slice k x lo hi mx =>
    cases k <;> cases x <;> try rfl
    rename_i a l c
    cases a with
    | none => rfl
    | some a =>
      have := h a.block (by simp [footOf])
      simp only [evP, this]
  | lookup kk z ok x k =>
    cases x <;> try rfl
    rename_i r
    cases r with
    | none => rfl
    | some r =>
      have := h r (by simp [footOf])
      simp only [evP, entriesOf, this]
  | mapUpdate kk m k v =>
    cases m <;> try rfl
    rename_i r
    cases r with
    | none => rfl
    | some r =>
      have := h r (by simp [footOf])
      simp only [evP, this]
  | mapEntry kk z m k =>
    cases m <;> try rfl
    rename_i r
    cases r with
    | none => rfl
    | some r =>
      have := h r (by simp [footOf])
      simp only [evP, this]
  | entryStore m k v =>
    cases m <;> try rfl
    rename_i r
    cases r with
    | none => rfl
    | some r =>
      have := h r (by simp [footOf])
      cases k <;> try rfl
      rename_i kk b
      cases kk <;> simp only [evP, this]
  | delete kk m k =>
    cases m <;> try rfl
    rename_i r
    cases r with
    | none => rfl
    | some r =>
      have := h r (by simp [footOf])
      simp only [evP, this]
  | nextStr x =>
    cases x <;> try rfl
    rename_i r
    cases r with
    | none => rfl
    | some r =>
      obtain ⟨id, o, z⟩ := r
      have := h id (by simp [footOf])
      cases o with
      | succ _ => rfl
      | zero =>
        cases z with
        | some _ => rfl
        | none => simp only [evP, this]
  | len k x =>
    cases k <;> cases x <;> try rfl
    rename_i r
    cases r with
    | none => rfl
    | some r =>
      have := h r (by simp [footOf])
      simp only [evP, this]
  | append e sz b x y =>
    have hy : ∀ m, firstL g' sz m y = firstL g sz m y := by
      intro m
      cases y <;> try rfl
      rename_i a l c
      cases a with
      | none => rfl
      | some a =>
        obtain ⟨id, o, sp⟩ := a
        have := h id (by simp [footOf])
        cases sp <;> simp only [firstL, cellsAt, this]
    cases x <;> try rfl
    rename_i a l c
    cases a with
    | none => simp only [evP, hy]
    | some a =>
      obtain ⟨id, o, sp⟩ := a
      have := h id (by simp [footOf])
      cases sp <;> simp only [evP, hy, this]
  | copy sz x y =>
    have hy : ∀ m, firstL g' sz m y = firstL g sz m y := by
      intro m
      cases y <;> try rfl
      rename_i a l c
      cases a with
      | none => rfl
      | some a =>
        obtain ⟨id, o, sp⟩ := a
        have := h id (by simp [footOf])
        cases sp <;> simp only [firstL, cellsAt, this]
    cases x <;> try rfl
    rename_i a l c
    cases a with
    | none => simp only [evP, hy]
    | some a =>
      obtain ⟨id, o, sp⟩ := a
      have := h id (by simp [footOf])
      cases sp <;> simp only [evP, hy, this]
  | cap x =>
    cases x <;> try rfl
    rename_i a l c
    cases a with
    | none => rfl
    | some a =>
      obtain ⟨id, o, sp⟩ := a
      have := h id (by simp [footOf])
      cases sp <;> simp only [evP, this]
  | appendMake e sz b z x k =>
    cases x <;> try rfl
    rename_i a l c
    cases a with
    | none => cases l <;> cases c <;> (cases k <;> first | rfl | (rename_i kk m; cases kk <;> rfl))
    | some a =>
      obtain ⟨id, o, sp⟩ := a
      have := h id (by simp [footOf])
      cases k <;> first | (cases sp <;> rfl) | (rename_i kk m; cases kk <;> first | (cases sp <;> rfl) | (cases sp <;> first | rfl | simp only [evP, this]))
  | _ => rfl

theorem evP_upd {g : HF} {n : Nat} {av : AOp Value} {res : Res} (he : evP g n av = some res) : ∀ p ∈ res.upd, (p.1 ∈ (footOf av).2 ∧ g p.1 ≠ none) ∨ (n ≤ p.1 ∧ p.1 < res.next) := by
  cases av with
  | store k a x =>
    simp only [evP] at he
    split at he
    case h_2 => cases he
    split at he
    case h_2 => cases he
    rename_i id o _ c t sz ho
    split at he
    case isFalse => cases he
    cases he
    intro p hp
    simp only [List.mem_singleton] at hp
    subst hp
    exact .inl ⟨by simp [footOf], by rw [ho]; simp⟩
  | mapUpdate kk m k v =>
    simp only [evP] at he
    split at he
    case h_2 => cases he
    split at he
    case h_2 => cases he
    rename_i r _ es clock ho
    split at he
    case isFalse => cases he
    simp only [Option.map_eq_some_iff] at he
    obtain ⟨f, _, rfl⟩ := he
    intro p hp
    cases f <;>
    · simp only [List.mem_singleton] at hp
      subst hp
      exact .inl ⟨by simp [footOf], by rw [ho]; simp⟩
  | mapEntry kk z m k =>
    simp only [evP] at he
    split at he
    case h_2 => cases he
    split at he
    case h_2 => cases he
    rename_i r _ es clock ho
    split at he
    case isFalse => cases he
    simp only [Option.map_eq_some_iff] at he
    obtain ⟨f, _, rfl⟩ := he
    intro p hp
    cases f <;>
    · simp only [List.mem_singleton] at hp
      subst hp
      exact .inl ⟨by simp [footOf], by rw [ho]; simp⟩
  | entryStore m k v =>
    simp only [evP] at he
    split at he
    case h_2 => cases he
    split at he
    case h_2 => cases he
    rename_i r b _ es clock ho
    simp only [Option.map_eq_some_iff] at he
    obtain ⟨f, _, rfl⟩ := he
    intro p hp
    simp only [List.mem_singleton] at hp
    subst hp
    exact .inl ⟨by simp [footOf], by rw [ho]; simp⟩
  | nextStr x =>
    simp only [evP] at he
    split at he
    case h_2 => cases he
    split at he
    case h_2 => cases he
    rename_i id _ sx pos ho
    split at he
    · cases he
      intro p hp
      simp only [List.mem_singleton] at hp
      subst hp
      exact .inl ⟨by simp [footOf], by rw [ho]; simp⟩
    · cases he; intro p hp; simp at hp
  | delete kk m k =>
    simp only [evP] at he
    split at he
    · split at he
      · cases he; intro p hp; simp at hp
      · cases he
    · split at he
      case h_2 => cases he
      rename_i r _ es clock ho
      split at he
      case isFalse => cases he
      simp only [Option.map_eq_some_iff] at he
      obtain ⟨f, _, rfl⟩ := he
      intro p hp
      cases f <;>
      · simp only [List.mem_singleton] at hp
        subst hp
        exact .inl ⟨by simp [footOf], by rw [ho]; simp⟩
    · cases he
  | append e sz b x y =>
    simp only [evP] at he
    split at he
    case h_2 => cases he
    rename_i a sl sc
    simp only [Option.bind_eq_some_iff] at he
    obtain ⟨m, _, new, _, he⟩ := he
    split at he
    · cases he
    split at he
    · split at he
      · cases he; intro p hp; simp at hp
      · split at he
        case h_2 => cases he
        rename_i id o _ c t z ho
        split at he
        case isFalse => cases he
        cases he
        intro p hp
        simp only [List.mem_singleton] at hp
        subst hp
        exact .inl ⟨by simp [footOf], by rw [ho]; simp⟩
      · cases he
    · split at he
      · cases he
      split at he
      · split at he
        case isFalse => cases he
        cases he
        intro p hp
        simp only [List.mem_singleton] at hp
        subst hp
        exact .inr ⟨Nat.le_refl _, Nat.lt_succ_self _⟩
      · split at he
        case h_2 => cases he
        rename_i id o _ c t z ro ho
        split at he
        case isFalse => cases he
        cases he
        intro p hp
        simp only [List.mem_cons] at hp
        rcases hp with rfl | hp
        · exact .inr ⟨Nat.le_refl _, Nat.lt_succ_self _⟩
        · cases ro with
          | true => simp at hp
          | false =>
            simp only [Bool.false_eq_true, if_false, List.mem_singleton] at hp
            subst hp
            exact .inl ⟨by simp [footOf], by rw [ho]; simp⟩
      · cases he
  | clear sz z x =>
    simp only [evP] at he
    split at he
    · cases he; intro p hp; simp at hp
    · split at he
      · cases he
      rename_i id o _ _ _ ob ho
      split at he
      · cases he; intro p hp; simp at hp
      · split at he
        case h_2 => cases he
        split at he
        case isFalse => cases he
        cases he
        intro p hp
        simp only [List.mem_singleton] at hp
        subst hp
        exact .inl ⟨by simp [footOf], by rw [ho]; simp⟩
    · cases he
  | copy sz x y =>
    simp only [evP] at he
    split at he
    case h_2 => cases he
    simp only [Option.bind_eq_some_iff] at he
    obtain ⟨m, _, new, _, he⟩ := he
    split at he
    · cases he
    split at he
    · cases he; intro p hp; simp at hp
    · split at he
      case h_2 => cases he
      rename_i id o _ c t z ho
      split at he
      case isFalse => cases he
      cases he
      intro p hp
      simp only [List.mem_singleton] at hp
      subst hp
      exact .inl ⟨by simp [footOf], by rw [ho]; simp⟩
    · cases he
  | _ =>
    simp only [evP] at he
    repeat' (split at he)
    all_goals (try simp only [Option.some.injEq, reduceCtorEq, Option.map_eq_some_iff, Option.bind_eq_some_iff] at he)
    all_goals (first
      | (subst he; intro p hp; simp at hp; done)
      | (subst he; intro p hp; simp only [List.mem_singleton] at hp; subst hp; exact .inr ⟨Nat.le_refl _, Nat.lt_succ_self _⟩)
      | (obtain ⟨_, _, rfl⟩ := he; intro p hp; simp at hp; done)
      | (obtain ⟨_, _, rfl⟩ := he; intro p hp; simp only [List.mem_singleton] at hp; subst hp; exact .inr ⟨Nat.le_refl _, Nat.lt_succ_self _⟩)
      | (obtain ⟨_, _, _, _, rfl⟩ := he; intro p hp; simp at hp; done)
      | (obtain ⟨_, _, he⟩ := he; split at he <;> cases he; intro p hp; simp at hp; done)
      | (obtain ⟨_, _, he⟩ := he; exact he.elim)
      | trace_state)

theorem mapParts_congr {α β : Type} {f g : α → Option β} : ∀ {ps : List (Nat × Nat × α)}, (∀ x ∈ ps.map (·.2.2), f x = g x) → mapParts f ps = mapParts g ps := by
  intro ps
  induction ps with
  | nil => intro _; rfl
  | cons p ps ih =>
    intro h
    obtain ⟨i, n, x⟩ := p
    simp only [mapParts, h x (by simp), ih (fun y hy => h y (by simp only [List.map_cons, List.mem_cons]; exact .inr hy))]

theorem mapList_congr {α β : Type} {f g : α → Option β} : ∀ {xs : List α}, (∀ x ∈ xs, f x = g x) → mapList f xs = mapList g xs := by
  intro xs
  induction xs with
  | nil => intro _; rfl
  | cons x xs ih =>
    intro h
    simp only [mapList, h x (by simp), ih (fun y hy => h y (List.mem_cons_of_mem _ hy))]

theorem mapOpt_congr {α β : Type} {f g : α → Option β} {x : Option α} (h : ∀ y, x = some y → f y = g y) : mapOpt f x = mapOpt g x := by
  cases x with
  | none => rfl
  | some x => simp only [mapOpt, h x rfl]

theorem vals_congr {α β : Type} {f g : α → Option β} {op : AOp α} (h : ∀ x ∈ op.ops, f x = g x) : op.vals f = op.vals g := by
  cases op <;> simp only [AOp.ops, List.mem_cons, List.not_mem_nil, or_false, forall_eq_or_imp, forall_eq] at h <;> simp only [AOp.vals]
  case build => rw [mapParts_congr h]
  case buildSlice => rw [mapParts_congr h]
  case mkFunc => rw [mapList_congr fun x hx => h x (List.mem_append.2 (.inl hx)), mapList_congr fun x hx => h x (List.mem_append.2 (.inr hx))]
  case mkMap => rw [mapOpt_congr fun y hy => h y (by rw [hy]; simp)]
  case slice =>
    rw [h.1, mapOpt_congr fun y hy => h.2 y (by rw [hy]; simp), mapOpt_congr fun y hy => h.2 y (by rw [hy]; simp), mapOpt_congr fun y hy => h.2 y (by rw [hy]; simp)]
  case minmax => rw [mapList_congr h]
  case call => rw [h.1, mapList_congr h.2]
  all_goals (first | rfl | (rw [h]; done) | (rw [h.1, h.2]; done) | (rw [h.1, h.2.1, h.2.2]; done))

def Knows (β : Map) : Value → Prop
  | .pointer (some a) => β a.block ≠ none
  | .slice (some a) _ _ => β a.block ≠ none
  | .map (some r) => β r ≠ none
  | _ => True

theorem VRel.knows {β : Map} {v v' : Value} (h : VRel β v v') : Knows β v := by
  cases h with
  | prim v h => unfold Knows; split <;> simp_all [primV]
  | ptr h => simp [Knows, h]
  | slice h _ => simp [Knows, h]
  | empty h => simp [Knows, h]
  | map h => simp [Knows, h]
  | _ => trivial

theorem foot_known {β : Map} {av : AOp Value} (h : ∀ v ∈ av.ops, Knows β v) : ∀ id, id ∈ (footOf av).1 ∨ id ∈ (footOf av).2 → β id ≠ none := by
  intro id hid
  unfold footOf at hid
  split at hid <;> simp only [List.mem_singleton, List.not_mem_nil, or_false, false_or] at hid
  all_goals (try (subst hid; exact h _ (List.Mem.head _)))
  all_goals (first
    | (rcases hid with hid | hid
       · split at hid
         · simp only [List.mem_singleton] at hid; subst hid; exact h _ (List.Mem.tail _ (List.Mem.head _))
         · simp at hid
       · split at hid
         · simp only [List.mem_singleton] at hid; subst hid; exact h _ (List.Mem.head _)
         · simp at hid)
    | (split at hid
       · simp only [List.mem_singleton] at hid; subst hid; exact h _ (List.Mem.head _)
       · simp at hid))

theorem mapList_mem {α β : Type} {f : α → Option β} : ∀ {xs : List α} {vs : List β}, mapList f xs = some vs → ∀ v ∈ vs, ∃ x ∈ xs, f x = some v := by
  intro xs
  induction xs with
  | nil => intro vs h v hv; simp only [mapList, Option.some.injEq] at h; subst h; simp at hv
  | cons x xs ih =>
    intro vs h v hv
    simp only [mapList, Option.bind_eq_some_iff, Option.map_eq_some_iff] at h
    obtain ⟨u, hu, r, hr, rfl⟩ := h
    rcases List.mem_cons.1 hv with rfl | hv
    · exact ⟨x, List.mem_cons_self .., hu⟩
    · obtain ⟨y, hy, e⟩ := ih hr v hv
      exact ⟨y, List.mem_cons_of_mem _ hy, e⟩

theorem mapParts_mem {α β : Type} {f : α → Option β} : ∀ {xs : List (Nat × Nat × α)} {vs : List (Nat × Nat × β)}, mapParts f xs = some vs → ∀ v ∈ vs.map (·.2.2), ∃ x ∈ xs.map (·.2.2), f x = some v := by
  intro xs
  induction xs with
  | nil => intro vs h v hv; simp only [mapParts, Option.some.injEq] at h; subst h; simp at hv
  | cons p xs ih =>
    intro vs h v hv
    obtain ⟨i, n, x⟩ := p
    simp only [mapParts, Option.bind_eq_some_iff, Option.map_eq_some_iff] at h
    obtain ⟨u, hu, r, hr, rfl⟩ := h
    simp only [List.map_cons, List.mem_cons] at hv ⊢
    rcases hv with rfl | hv
    · exact ⟨x, .inl rfl, hu⟩
    · obtain ⟨y, hy, e⟩ := ih hr v hv
      exact ⟨y, .inr hy, e⟩

theorem mapOpt_mem {α β : Type} {f : α → Option β} {x : Option α} {v : Option β} (h : mapOpt f x = some v) : ∀ u ∈ v.toList, ∃ y ∈ x.toList, f y = some u := by
  intro u hu
  cases x with
  | none => simp only [mapOpt, Option.some.injEq] at h; subst h; simp at hu
  | some x =>
    simp only [mapOpt, Option.map_eq_some_iff] at h
    obtain ⟨w, hw, rfl⟩ := h
    simp at hu
    subst hu
    exact ⟨x, by simp, hw⟩

theorem vals_mem {α β : Type} {f : α → Option β} {op : AOp α} {av : AOp β} (h : op.vals f = some av) : ∀ v ∈ av.ops, ∃ x ∈ op.ops, f x = some v := by
  cases op <;> simp only [AOp.vals, Option.bind_eq_some_iff, Option.map_eq_some_iff, Option.some.injEq] at h
  case build z ps => obtain ⟨q, hq, rfl⟩ := h; exact mapParts_mem hq
  case buildSlice e s l z ps => obtain ⟨q, hq, rfl⟩ := h; exact mapParts_mem hq
  case mkFunc fn a b =>
    obtain ⟨p, hp, q, hq, rfl⟩ := h
    intro v hv
    rcases List.mem_append.1 hv with hv | hv
    · obtain ⟨x, hx, e⟩ := mapList_mem hp v hv; exact ⟨x, List.mem_append.2 (.inl hx), e⟩
    · obtain ⟨x, hx, e⟩ := mapList_mem hq v hv; exact ⟨x, List.mem_append.2 (.inr hx), e⟩
  case mkMap r => obtain ⟨q, hq, rfl⟩ := h; exact mapOpt_mem hq
  case slice k x lo hi mx =>
    obtain ⟨p, hp, q1, h1, q2, h2, q3, h3, rfl⟩ := h
    intro v hv
    rcases List.mem_cons.1 hv with rfl | hv
    · exact ⟨x, List.mem_cons_self .., hp⟩
    · rcases List.mem_append.1 hv with hv | hv
      · rcases List.mem_append.1 hv with hv | hv
        · obtain ⟨y, hy, e⟩ := mapOpt_mem h1 v hv; exact ⟨y, List.mem_cons_of_mem _ (List.mem_append.2 (.inl (List.mem_append.2 (.inl hy)))), e⟩
        · obtain ⟨y, hy, e⟩ := mapOpt_mem h2 v hv; exact ⟨y, List.mem_cons_of_mem _ (List.mem_append.2 (.inl (List.mem_append.2 (.inr hy)))), e⟩
      · obtain ⟨y, hy, e⟩ := mapOpt_mem h3 v hv; exact ⟨y, List.mem_cons_of_mem _ (List.mem_append.2 (.inr hy)), e⟩
  case minmax b xs => obtain ⟨q, hq, rfl⟩ := h; exact mapList_mem hq
  case call g as =>
    obtain ⟨p, hp, q, hq, rfl⟩ := h
    intro v hv
    rcases List.mem_cons.1 hv with rfl | hv
    · exact ⟨g, List.mem_cons_self .., hp⟩
    · obtain ⟨x, hx, e⟩ := mapList_mem hq v hv; exact ⟨x, List.mem_cons_of_mem _ hx, e⟩
  case alloc e z => subst h; intro v hv; simp [AOp.ops] at hv
  all_goals (first
    | (obtain ⟨p, hp, rfl⟩ := h
       intro v hv
       simp only [AOp.ops, List.mem_cons, List.not_mem_nil, or_false] at hv
       subst hv
       exact ⟨_, List.mem_cons_self .., hp⟩)
    | (obtain ⟨p, hp, q, hq, rfl⟩ := h
       intro v hv
       simp only [AOp.ops, List.mem_cons, List.not_mem_nil, or_false] at hv
       rcases hv with rfl | rfl
       · exact ⟨_, List.mem_cons_self .., hp⟩
       · exact ⟨_, List.mem_cons_of_mem _ (List.mem_cons_self ..), hq⟩)
    | (obtain ⟨p, hp, q, hq, r, hr, rfl⟩ := h
       intro v hv
       simp only [AOp.ops, List.mem_cons, List.not_mem_nil, or_false] at hv
       rcases hv with rfl | rfl | rfl
       · exact ⟨_, List.mem_cons_self .., hp⟩
       · exact ⟨_, List.mem_cons_of_mem _ (List.mem_cons_self ..), hq⟩
       · exact ⟨_, List.mem_cons_of_mem _ (List.mem_cons_of_mem _ (List.mem_cons_self ..)), hr⟩))

end Go.Abs


/-
  Regions that draw their order: what is known of the order of the text holds in every order.
-/
set_option linter.unusedVariables false
set_option linter.unusedSimpArgs false
namespace Go.Abs
open Go

/-! ### Traces -/
section trace
variable {L V : Type} {n : Nat} {ord : Nat → Nat → Prop} {val : Nat → L → V}

def Inv (n : Nat) (val : Nat → L → V) (S : Nat → Bool) (g : L → V) : Prop := ∀ l, ∃ m, m ≤ n ∧ g l = val m l ∧ ∀ i, i < n → val (i + 1) l ≠ val i l → (i < m ↔ S i = true)

theorem same_between {l : L} : ∀ {m k : Nat}, m ≤ k → (∀ i, m ≤ i → i < k → val (i + 1) l = val i l) → val k l = val m l := by
  intro m k
  induction k with
  | zero => intro h _; have : m = 0 := by omega
            subst this; rfl
  | succ k ih =>
    intro h hc
    by_cases e : m = k + 1
    · subst e; rfl
    · rw [hc k (by omega) (by omega)]
      exact ih (by omega) (fun i h1 h2 => hc i h1 (by omega))

theorem Inv.at {S : Nat → Bool} {g : L → V} (hi : Inv n val S g) {j : Nat} (hj : j ≤ n) {l : L} (h : ∀ i, i < n → val (i + 1) l ≠ val i l → (i < j ↔ S i = true)) : g l = val j l := by
  obtain ⟨m, hm, hg, hc⟩ := hi l
  rw [hg]
  rcases Nat.le_total m j with hmj | hmj
  · refine (same_between hmj fun i h1 h2 => ?_).symm
    refine Classical.byContradiction fun hne => ?_
    have a := (h i (by omega) hne).1 h2
    have b := (hc i (by omega) hne).2 a
    omega
  · refine same_between hmj fun i h1 h2 => ?_
    refine Classical.byContradiction fun hne => ?_
    have a := (hc i (by omega) hne).1 h2
    have b := (h i (by omega) hne).2 a
    omega

theorem Inv.step {S S' : Nat → Bool} {g g' : L → V} (hi : Inv n val S g) {j : Nat} (hj : j < n) (hS : S j = false) (hS' : ∀ i, S' i = (S i || decide (i = j)))
    (hlt : ∀ i k, ord i k → i < k) (hready : ∀ i, ord i j → S i = true) (hdown : ∀ i k, ord i k → S k = true → S i = true) (W : L → Prop)
    (hin : ∀ l, W l → g' l = val (j + 1) l ∧ ∀ i, i < n → val (i + 1) l ≠ val i l → i = j ∨ ord i j ∨ ord j i)
    (hout : ∀ l, ¬ W l → g' l = g l ∧ val (j + 1) l = val j l) : Inv n val S' g' := by
  intro l
  by_cases hw : W l
  · obtain ⟨h1, h2⟩ := hin l hw
    refine ⟨j + 1, by omega, h1, fun i hin' hne => ?_⟩
    rw [hS']
    rcases h2 i hin' hne with rfl | h | h
    · simp
    · have := hlt i j h
      simp [hready i h]; omega
    · have h3 := hlt j i h
      have h4 : S i = false := by
        cases hq : S i with
        | false => rfl
        | true => rw [hdown j i h hq] at hS; cases hS
      simp [h4]; omega
  · obtain ⟨h1, h2⟩ := hout l hw
    obtain ⟨m, hm, hg, hc⟩ := hi l
    refine ⟨m, hm, h1.trans hg, fun i hin' hne => ?_⟩
    rw [hS']
    have hij : i ≠ j := fun e => by subst e; exact hne h2
    simp [hij, hc i hin' hne]

theorem Inv.all {S : Nat → Bool} {g : L → V} (hi : Inv n val S g) (hS : ∀ i, i < n → S i = true) (l : L) : g l = val n l :=
  hi.at (Nat.le_refl n) fun i h _ => ⟨fun _ => hS i h, fun _ => h⟩

theorem Inv.start {S : Nat → Bool} (hS : ∀ i, S i = false) : Inv n val S (val 0) := fun l => ⟨0, by omega, rfl, fun i _ _ => by simp [hS]⟩
end trace

/-! ### The run in the order of the text -/
def StepAt (cs : CallSem) (ao : AOper) (e : Env) (s : St) (v : Value) (e1 : Env) (s1 : St) (f : Foot) : Prop :=
  e1 = setE e ao.dst v ∧ ((wantedA ao e = some true ∧ ∃ av, ao.op.vals e.rd = some av ∧ evOper cs ao.op e s = some (v, s1) ∧ f = ⟨(footOf av).1, (footOf av).2, s, s1⟩) ∨
    (wantedA ao e = some false ∧ v = undefV ∧ s1 = s ∧ f = ⟨[], [], s, s⟩))

theorem run_steps {cs : CallSem} : ∀ {al : List AOper} {e e' : Env} {s s' : St} {fs : List Foot}, evOpsD cs al e s = some (fs, e', s') →
    ∃ (E : Nat → Env) (S : Nat → St) (V : Nat → Value), E 0 = e ∧ S 0 = s ∧ E al.length = e' ∧ S al.length = s' ∧ fs.length = al.length ∧
      ∀ i ao, al[i]? = some ao → ∃ f, fs[i]? = some f ∧ StepAt cs ao (E i) (S i) (V i) (E (i + 1)) (S (i + 1)) f := by
  intro al
  induction al with
  | nil =>
    intro e e' s s' fs h
    simp only [evOpsD, Option.some.injEq, Prod.mk.injEq] at h
    obtain ⟨rfl, rfl, rfl⟩ := h
    exact ⟨fun _ => e, fun _ => s, fun _ => undefV, rfl, rfl, rfl, rfl, rfl, fun i ao h => by simp at h⟩
  | cons ao al ih =>
    intro e e' s s' fs h
    simp only [evOpsD, Option.bind_eq_some_iff] at h
    obtain ⟨b, hb, h⟩ := h
    have fin : ∀ (v : Value) (s1 : St) (f : Foot) (q : List Foot × Env × St), StepAt cs ao e s v (setE e ao.dst v) s1 f → evOpsD cs al (setE e ao.dst v) s1 = some q → (f :: q.1, q.2) = (fs, e', s') →
        ∃ (E : Nat → Env) (S : Nat → St) (V : Nat → Value), E 0 = e ∧ S 0 = s ∧ E (ao :: al).length = e' ∧ S (ao :: al).length = s' ∧ fs.length = (ao :: al).length ∧
      ∀ i ao', (ao :: al)[i]? = some ao' → ∃ f, fs[i]? = some f ∧ StepAt cs ao' (E i) (S i) (V i) (E (i + 1)) (S (i + 1)) f := by
      intro v s1 f q hst hq he
      obtain ⟨fs1, e1, s2⟩ := q
      simp only [Prod.mk.injEq] at he
      obtain ⟨rfl, rfl, rfl⟩ := he
      obtain ⟨E, S, V, h1, h2, h3, h4, h5, h6⟩ := ih hq
      refine ⟨fun i => match i with | 0 => e | i + 1 => E i, fun i => match i with | 0 => s | i + 1 => S i, fun i => match i with | 0 => v | i + 1 => V i, rfl, rfl, h3, h4, by simp [h5], fun i ao' hi => ?_⟩
      cases i with
      | zero =>
        simp only [List.getElem?_cons_zero, Option.some.injEq] at hi
        subst hi
        refine ⟨f, rfl, ?_⟩
        simp only [Nat.zero_add]
        rw [h1, h2]; exact hst
      | succ i =>
        simp only [List.getElem?_cons_succ] at hi ⊢
        exact h6 i ao' hi
    cases b with
    | false =>
      simp only [Bool.false_eq_true, if_false, Option.map_eq_some_iff] at h
      obtain ⟨q, hq, he⟩ := h
      exact fin undefV s _ q ⟨rfl, .inr ⟨hb, rfl, rfl, rfl⟩⟩ hq he
    | true =>
      simp only [if_true, Option.bind_eq_some_iff, Option.map_eq_some_iff] at h
      obtain ⟨av, hav, p, hp, q, hq, he⟩ := h
      exact fin p.1 p.2 _ q ⟨rfl, .inl ⟨hb, av, hav, hp, rfl⟩⟩ hq he

/-! ### What may come before what -/
def mask (o : Oper) (acc : List Nat) : Nat := o.after.toList.foldl (fun s e => if Region.binds .any e then s ||| 2 ^ e.on ||| acc.getD e.on 0 else s) 0

def masks : List Oper → List Nat → List Nat
  | [], acc => acc
  | o :: r, acc => masks r (acc ++ [mask o acc])

inductive OK where
  | pure | act | writer | call
  deriving DecidableEq

def kindOf {α : Type} : AOp α → OK
  | .load _ _ | .lookup _ _ _ _ _ | .alloc _ _ | .box _ _ | .buildSlice _ _ _ _ _ | .mkMap _ | .mkSlice _ _ _ _ _ _ | .appendMake _ _ _ _ _ _ | .rangeStr _ => .act
  | .slice (.slice _) _ _ _ _ => .act
  | .conv .toString _ => .act
  | .cap _ => .act
  | .conv .sameB _ => .act
  | .conv (.toBytes _) _ => .act
  | .len .map _ => .act
  | .store _ _ _ | .mapUpdate _ _ _ _ | .mapEntry _ _ _ _ | .entryStore _ _ _ | .append _ _ _ _ _ | .copy _ _ _ | .delete _ _ _ | .clear _ _ _ | .nextStr _ => .writer
  | .call _ _ => .call
  | _ => .pure

def tmpsOf (xs : List Operand) : List Nat := xs.filterMap fun | .tmp t => some t | _ => none

def looks (o : AOper) : List Nat := tmpsOf o.op.ops ++ (match o.guard with | some (t, _) => [t] | none => [])

def apartA (x y : AOper) : Bool :=
  match x.dst with
  | some d => !(looks y).contains d && y.dst != some d
  | none => true

def freeOk (d : Draw) (i j : Nat) (x y : AOper) : Bool :=
  apartA x y && (match kindOf x.op, kindOf y.op with
    | .writer, .call => false
    | .writer, .pure => true
    | .writer, _ => d.pairs.contains (i, j)
    | .call, .pure => true
    | .call, .act => d.quiet.contains i || d.apart.contains (i, j)
    | .call, _ => d.quiet.contains i
    | _, _ => true)

def drawOk (ops : List Oper) (al : List AOper) (d : Draw) : Bool :=
  let m := masks ops []
  (ops.zipIdx.all fun p => p.1.after.toList.all fun e => !Region.binds .any e || decide (e.on < p.2)) &&
  (al.zipIdx.all fun q => al.zipIdx.all fun p => decide (q.2 ≤ p.2) || (m.getD q.2 0).testBit p.2 || (freeOk d p.2 q.2 p.1 q.1 && freeOk d q.2 p.2 q.1 p.1))

theorem kindOf_vals {α β : Type} {f : α → Option β} {op : AOp α} {av : AOp β} (h : op.vals f = some av) : kindOf av = kindOf op := by
  cases op <;> simp only [AOp.vals, Option.bind_eq_some_iff, Option.map_eq_some_iff, Option.some.injEq] at h
  case slice k x lo hi mx => obtain ⟨_, _, _, _, _, _, _, _, rfl⟩ := h; cases k <;> rfl
  case conv k x => obtain ⟨_, _, rfl⟩ := h; cases k <;> rfl
  case len k x => obtain ⟨_, _, rfl⟩ := h; cases k <;> rfl
  all_goals (first
    | (subst h; rfl)
    | (obtain ⟨_, _, rfl⟩ := h; rfl)
    | (obtain ⟨_, _, _, _, rfl⟩ := h; rfl)
    | (obtain ⟨_, _, _, _, _, _, rfl⟩ := h; rfl))

theorem wr_kind {av : AOp Value} {id : Nat} (h : id ∈ (footOf av).2) : kindOf av = .writer := by
  unfold footOf at h
  split at h <;> simp only [List.mem_singleton, List.not_mem_nil] at h <;> rfl

theorem rd_kind {av : AOp Value} {id : Nat} (h : id ∈ (footOf av).1 ∨ id ∈ (footOf av).2) : kindOf av ≠ .pure ∧ kindOf av ≠ .call := by
  unfold footOf at h
  split at h <;> simp only [List.mem_singleton, List.not_mem_nil, or_self, or_false, false_or] at h
  all_goals exact ⟨by simp [kindOf], by simp [kindOf]⟩

theorem pure_kind {g : HF} {nx : Nat} {av : AOp Value} {res : Res} (he : evP g nx av = some res) (hk : kindOf av = .pure) : res.upd = [] ∧ res.next = nx := by
  cases av <;> simp only [kindOf, reduceCtorEq] at hk <;> simp only [evP] at he
  all_goals (repeat' (split at he))
  all_goals (try simp only [Option.some.injEq, reduceCtorEq, Option.map_eq_some_iff, Option.bind_eq_some_iff] at he)
  all_goals (first
    | (subst he; exact ⟨rfl, rfl⟩)
    | (obtain ⟨_, _, rfl⟩ := he; exact ⟨rfl, rfl⟩)
    | (simp [kindOf] at hk; done)
    | (exact he.elim)
    | skip)

theorem firstL_none {g : HF} {sz m : Nat} {id o l c : Nat} {sp : Option Nat} (h : g id = none) : firstL g sz m (.slice (some ⟨id, o, sp⟩) l c) = none := by
  cases sp with
  | none => simp only [firstL, cellsAt, h]; split <;> rfl
  | some _ => rfl

theorem rd_live {g : HF} {nx : Nat} {av : AOp Value} {res : Res} (he : evP g nx av = some res) {id : Nat} (h : id ∈ (footOf av).1 ∨ id ∈ (footOf av).2) (hnone : g id = none) : False := by
  unfold footOf at h
  split at h <;> simp only [List.mem_singleton, List.not_mem_nil, or_self, or_false, false_or] at h
  · rename_i k a; subst h
    obtain ⟨b, o, sp⟩ := a
    cases sp <;> cases k <;> simp [evP, cellsAt, hnone] at he
  · rename_i k a x; subst h
    obtain ⟨b, o, sp⟩ := a
    cases sp <;> simp [evP, hnone] at he
  · rename_i a l c; subst h
    obtain ⟨b, o, sp⟩ := a
    cases sp <;> simp [evP, cellsAt, hnone] at he
  · rename_i sz a l c lo hi mx; subst h
    simp [evP, hnone] at he
  · rename_i kk z ok r k; subst h
    simp [evP, entriesOf, hnone] at he
  · rename_i kk r k v; subst h
    simp [evP, hnone] at he
  · rename_i kk z r k; subst h
    simp [evP, hnone] at he
  · rename_i r k v; subst h
    cases k <;> simp [evP] at he
    rename_i kk b
    cases kk <;> simp [evP, hnone] at he
  · rename_i r; subst h
    simp [evP, hnone] at he
  · rename_i e sz b x y
    rcases h with h | h
    · split at h
      · rename_i a l c
        simp only [List.mem_singleton] at h; subst h
        obtain ⟨b, o, sp⟩ := a
        cases x <;> simp [evP, firstL_none (g := g) hnone] at he
      · simp at h
    · split at h
      · rename_i a l c
        simp only [List.mem_singleton] at h; subst h
        obtain ⟨b, o, sp⟩ := a
        cases sp <;> simp [evP, hnone] at he
      · simp at h
  · rename_i sz x y
    rcases h with h | h
    · split at h
      · rename_i a l c
        simp only [List.mem_singleton] at h; subst h
        obtain ⟨b, o, sp⟩ := a
        cases x <;> simp [evP, firstL_none (g := g) hnone] at he
      · simp at h
    · split at h
      · rename_i a l c
        simp only [List.mem_singleton] at h; subst h
        obtain ⟨b, o, sp⟩ := a
        cases sp <;> simp [evP, hnone] at he
      · simp at h
  · rename_i kk r k; subst h
    simp [evP, hnone] at he
  · rename_i a; subst h
    obtain ⟨b, o, sp⟩ := a
    cases o <;> cases sp <;> simp [evP, hnone] at he
  · rename_i sz z x
    split at h
    · rename_i a l c
      simp only [List.mem_singleton] at h; subst h
      obtain ⟨b, o, sp⟩ := a
      cases sp <;> simp [evP, hnone] at he
    · simp at h
  · rename_i a l c; subst h
    obtain ⟨b, o, sp⟩ := a
    cases sp <;> simp [evP, hnone] at he
  · rename_i a l c n; subst h
    obtain ⟨b, o, sp⟩ := a
    cases sp <;> cases n
    all_goals (try rename_i k y; cases k)
    all_goals simp [evP, hnone] at he
  · rename_i x
    split at h
    · rename_i a l c
      simp only [List.mem_singleton] at h; subst h
      obtain ⟨b, o, sp⟩ := a
      cases sp <;> simp [evP, hnone] at he
    · simp at h

end Go.Abs


/-
  A region that draws its order.
-/
set_option linter.unusedVariables false
set_option linter.unusedSimpArgs false
namespace Go.Abs
open Go

/-! ### the masks -/
theorem mask_bit {o : Oper} {acc : List Nat} {i : Nat} (h : (mask o acc).testBit i = true) : ∃ e ∈ o.after, Region.binds .any e = true ∧ (e.on = i ∨ (acc.getD e.on 0).testBit i = true) := by
  have key : ∀ (l : List Edge) (s : Nat), (l.foldl (fun s e => if Region.binds .any e then s ||| 2 ^ e.on ||| acc.getD e.on 0 else s) s).testBit i = true →
      s.testBit i = true ∨ ∃ e ∈ l, Region.binds .any e = true ∧ (e.on = i ∨ (acc.getD e.on 0).testBit i = true) := by
    intro l
    induction l with
    | nil => intro s h; exact .inl h
    | cons e l ih =>
      intro s h
      simp only [List.foldl_cons] at h
      rcases ih _ h with h1 | ⟨e', he', h2⟩
      · by_cases hb : Region.binds .any e = true
        · rw [if_pos hb, Nat.testBit_or, Nat.testBit_or, Bool.or_eq_true, Bool.or_eq_true] at h1
          rcases h1 with (h1 | h1) | h1
          · exact .inl h1
          · refine .inr ⟨e, List.mem_cons_self .., hb, .inl ?_⟩
            rw [Nat.testBit_two_pow] at h1
            exact of_decide_eq_true h1
          · exact .inr ⟨e, List.mem_cons_self .., hb, .inr h1⟩
        · rw [if_neg hb] at h1; exact .inl h1
      · exact .inr ⟨e', List.mem_cons_of_mem _ he', h2⟩
  rcases key _ _ h with h1 | ⟨e, he, h2⟩
  · simp at h1
  · exact ⟨e, by simpa using he, h2⟩

theorem masks_prefix : ∀ (l : List Oper) (acc : List Nat) (k : Nat), k < acc.length → (masks l acc)[k]? = acc[k]? := by
  intro l
  induction l with
  | nil => intro acc k _; rfl
  | cons o l ih =>
    intro acc k hk
    simp only [masks]
    rw [ih _ _ (by simp; omega), List.getElem?_append_left hk]

theorem masks_at : ∀ (l : List Oper) (acc : List Nat) (k : Nat) (o : Oper), l[k]? = some o → ∃ acc', (masks l acc)[acc.length + k]? = some (mask o acc') ∧ acc'.length = acc.length + k ∧ ∀ i, i < acc'.length → (masks l acc)[i]? = acc'[i]? := by
  intro l
  induction l with
  | nil => intro acc k o h; simp at h
  | cons o' l ih =>
    intro acc k o h
    cases k with
    | zero =>
      simp only [List.getElem?_cons_zero, Option.some.injEq] at h
      subst h
      refine ⟨acc, ?_, by simp, fun i hi => ?_⟩
      · simp only [masks, Nat.add_zero]
        rw [masks_prefix _ _ _ (by simp)]
        simp
      · simp only [masks]
        rw [masks_prefix _ _ _ (by simp; omega), List.getElem?_append_left hi]
    | succ k =>
      simp only [List.getElem?_cons_succ] at h
      obtain ⟨acc', h1, h2, h3⟩ := ih (acc ++ [mask o' acc]) k o h
      simp only [List.length_append, List.length_cons, List.length_nil] at h1 h2
      refine ⟨acc', ?_, by omega, fun i hi => ?_⟩
      · simp only [masks]; rw [show acc.length + (k + 1) = acc.length + (0 + 1) + k by omega]; exact h1
      · simp only [masks]; exact h3 i hi

def Closed (l : List Oper) (listed : Nat → Bool) : Prop := ∀ j o, l[j]? = some o → listed j = true → ∀ e ∈ o.after, Region.binds .any e = true → listed e.on = true

def Ord (l : List Oper) (i j : Nat) : Prop := i < j ∧ ((masks l []).getD j 0).testBit i = true

theorem anc_listed {l : List Oper} {listed : Nat → Bool} (hb : ∀ j o, l[j]? = some o → ∀ e ∈ o.after, Region.binds .any e = true → e.on < j) (hc : Closed l listed) :
    ∀ (j : Nat) (o : Oper), l[j]? = some o → (∀ e ∈ o.after, Region.binds .any e = true → listed e.on = true) → ∀ i, ((masks l []).getD j 0).testBit i = true → listed i = true := by
  intro j
  induction j using Nat.strongRecOn with
  | _ j ih =>
    intro o ho hd i hi
    obtain ⟨acc', h1, h2, h3⟩ := masks_at l [] j o ho
    simp only [List.length_nil, Nat.zero_add] at h1 h2
    rw [List.getD_eq_getElem?_getD, h1, Option.getD_some] at hi
    obtain ⟨e, he, hbi, hcase⟩ := mask_bit hi
    have hl := hd e he hbi
    have hlt := hb j o ho e he hbi
    rcases hcase with rfl | hbit
    · exact hl
    · have hq : acc'.getD e.on 0 = (masks l []).getD e.on 0 := by
        rw [List.getD_eq_getElem?_getD, List.getD_eq_getElem?_getD, h3 e.on (by omega)]
      rw [hq] at hbit
      cases hoe : l[e.on]? with
      | none =>
        have := List.getElem?_eq_none_iff.1 hoe
        have := (List.getElem?_eq_some_iff.1 ho).1
        omega
      | some oe => exact ih e.on hlt oe hoe (hc e.on oe hoe hl) i hbit

/-! ### steps without a count of names -/
structure StepC (β : Map) (h : HF) (w : World) (β' : Map) (h' : HF) (w' : World) : Prop where
  le : Map.le β β'
  frame : ∀ k, k < w.heap.size → ¬ Owned β h k → w'.heap[k]? = w.heap[k]?
  size : w.heap.size ≤ w'.heap.size
  img : ∀ k, Owned β' h' k → k < w.heap.size → Owned β h k
  ro : ∀ id r o, β' id = some r → h' id = some o → o.isRo = true → β id = some r ∧ h id = some o
  os : w'.os = w.os
  tape : w'.tape = w.tape
  output : w'.output = w.output

theorem Step.core {β β' : Map} {h h' : HF} {w w' : World} {n n' : Nat} (s : Step β h w β' h' w' n n') : StepC β h w β' h' w' :=
  ⟨s.le, s.frame, s.size, s.img, s.ro, s.os, s.tape, s.output⟩

theorem StepC.trans {β β' β'' : Map} {h h' h'' : HF} {w w' w'' : World} (a : StepC β h w β' h' w') (b : StepC β' h' w' β'' h'' w'') : StepC β h w β'' h'' w'' where
  le := Map.le_trans a.le b.le
  frame := fun k hk ho => by
    rw [b.frame k (Nat.lt_of_lt_of_le hk a.size) (fun q => ho (a.img k q hk)), a.frame k hk ho]
  size := Nat.le_trans a.size b.size
  img := fun k q hk => a.img k (b.img k q (Nat.lt_of_lt_of_le hk a.size)) hk
  ro := fun id r o e f g => let ⟨e1, f1⟩ := b.ro id r o e f g; a.ro id r o e1 f1 g
  os := b.os.trans a.os
  tape := b.tape.trans a.tape
  output := b.output.trans a.output

structure EnvF (β : Map) (e : Nat → Option Value) (a : Act) : Prop where
  rel : ∀ t v, e t = some v → t < a.tmps.size ∧ VRel β v (a.tmps.getD t undef)
  defers : a.defers = []

theorem restrict_get (live : List Nat) (e : Env) (t : Nat) : (restrict live e).get t = if t ∈ live then e.get t else none := by
  induction live with
  | nil => simp [restrict, Env.get]
  | cons u live ih =>
    unfold restrict at ih ⊢
    rw [List.filterMap_cons]
    cases hu : e.get u with
    | none =>
      simp only [Option.map_none]
      rw [ih]
      by_cases h : t = u
      · subst h; simp [hu]
      · simp [h]
    | some v =>
      simp only [Option.map_some, Env.get, ih]
      by_cases h : t = u
      · subst h; simp [hu]
      · simp [h]

theorem widen {β β' : Map} {h h' g g' : HF} {w w' : World} (hs : Sim β g w) (hs' : Sim β' h' w') (st : StepC β h w β' h' w')
    (hin : ∀ id r o, β id = some r → h id = some o → g id = some o)
    (hnew : ∀ id r o, β' id = some r → g' id = some o → h' id = some o ∨ (β id = some r ∧ g id = some o ∧ h id = none)) :
    Sim β' g' w' ∧ StepC β g w β' g' w' := by
  -- a block that h does not know is nobody's in h
  have hno : ∀ id r o, β id = some r → g id = some o → h id = none → ¬ Owned β h r.blk := by
    rintro id r o e f hn ⟨id2, r2, o2, e2, f2, g2, hq⟩
    have f2' := hin id2 r2 o2 e2 f2
    rcases hs.inj id2 id r2 r o2 o e2 e f2' f hq with rfl | ⟨hro, _⟩
    · rw [hn] at f2; cases f2
    · rw [g2] at hro; cases hro
  have hkeep : ∀ id r o, β id = some r → g id = some o → h id = none → w'.heap[r.blk]? = w.heap[r.blk]? := fun id r o e f hn =>
    st.frame r.blk (hs.lt e f) (hno id r o e f hn)
  refine ⟨⟨fun id r o e f => ?_, fun i1 i2 r1 r2 o1 o2 e1 e2 f1 f2 hq => ?_, hs'.tot⟩, st.le, fun k hk ho => ?_, st.size, fun k hk hlt => ?_, fun id r o e f hr => ?_, st.os, st.tape, st.output⟩
  · rcases hnew id r o e f with hh | ⟨eb, fg, hn⟩
    · exact hs'.obj id r o e hh
    · rw [hkeep id r o eb fg hn]
      exact (hs.obj id r o eb fg).mono st.le
  · have mixed : ∀ i1 i2 r1 r2 o1 o2, β' i1 = some r1 → h' i1 = some o1 → β i2 = some r2 → g i2 = some o2 → h i2 = none → r1.blk = r2.blk → i1 = i2 ∨ (o1.isRo = true ∧ o2.isRo = true) := by
      intro i1 i2 r1 r2 o1 o2 e1 f1 e2 f2 hn hq
      cases hro : o1.isRo with
      | false =>
        exfalso
        have := st.img r2.blk ⟨i1, r1, o1, e1, f1, hro, hq⟩ (hs.lt e2 f2)
        exact hno i2 r2 o2 e2 f2 hn this
      | true =>
        obtain ⟨eb, fh⟩ := st.ro i1 r1 o1 e1 f1 hro
        have fg := hin i1 r1 o1 eb fh
        rcases hs.inj i1 i2 r1 r2 o1 o2 eb e2 fg f2 hq with h | ⟨_, h⟩
        · exact .inl h
        · exact .inr ⟨rfl, h⟩
    rcases hnew i1 r1 o1 e1 f1 with h1 | ⟨b1, g1, n1⟩ <;> rcases hnew i2 r2 o2 e2 f2 with h2 | ⟨b2, g2, n2⟩
    · exact hs'.inj i1 i2 r1 r2 o1 o2 e1 e2 h1 h2 hq
    · exact mixed i1 i2 r1 r2 o1 o2 e1 h1 b2 g2 n2 hq
    · rcases mixed i2 i1 r2 r1 o2 o1 e2 h2 b1 g1 n1 hq.symm with h | ⟨h, h'⟩
      · exact .inl h.symm
      · exact .inr ⟨h', h⟩
    · exact hs.inj i1 i2 r1 r2 o1 o2 b1 b2 g1 g2 hq
  · refine st.frame k hk fun ⟨id, r, o, e, f, hr, hq⟩ => ho ⟨id, r, o, e, hin id r o e f, hr, hq⟩
  · obtain ⟨id, r, o, e, f, hr, hq⟩ := hk
    rcases hnew id r o e f with hh | ⟨eb, fg, hn⟩
    · obtain ⟨id2, r2, o2, e2, f2, g2, hq2⟩ := st.img k ⟨id, r, o, e, hh, hr, hq⟩ hlt
      exact ⟨id2, r2, o2, e2, hin id2 r2 o2 e2 f2, g2, hq2⟩
    · exact ⟨id, r, o, eb, fg, hr, hq⟩
  · rcases hnew id r o e f with hh | ⟨eb, fg, hn⟩
    · obtain ⟨eb, fh⟩ := st.ro id r o e hh hr
      exact ⟨eb, hin id r o eb fh⟩
    · exact ⟨eb, fg⟩

end Go.Abs
