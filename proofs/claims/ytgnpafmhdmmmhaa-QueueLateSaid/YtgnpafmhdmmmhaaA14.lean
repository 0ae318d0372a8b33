/-
  Regions that are carried out in the order of the text.
-/
import Derived.Test.YtgnpafmhdmmmhaaA13
import Derived.Tactics
set_option linter.unusedVariables false
set_option linter.unusedSimpArgs false
namespace Go.Abs
open Go

def Callable (P : Program) (f : FuncId) : Prop := ∃ fn, P.funcs[f]? = some fn ∧ fn.body.isNone = false ∧ (fn.name == "runtime.NumGoroutine") = false

/-- A function without a text: its row. -/
def ExtOK (P : Program) (f : FuncId) (args : List Value) (s : St) (v : Value) (s' : St) : Prop :=
  s.next ≤ s'.next ∧ ∀ (β : Map) (w : World) (args' : List Value), Sim β s.heap.get w → Fresh β s.next s'.next → LRel β args args' →
    ∃ v' w' β', (callFunc f args'.toArray).run P w = .ok (.value v') w' ∧ VRel β' v v' ∧ Sim β' s'.heap.get w' ∧ Step β s.heap.get w β' s'.heap.get w' s.next s'.next

/-- Nothing stands above the mark. -/
def WFs (s : St) : Prop := ∀ id, s.next ≤ id → s.heap.get id = none

def GoodCalls (P : Program) (cs : CallSem) : Prop := ∀ f args s v s', WFs s → cs f args s = some (v, s') → (Callable P f ∧ CallOK P f args s v s') ∨ ExtOK P f args s v s'

/-- What an operation of a region leaves, whatever stands behind it. -/
def Does (P : Program) (o : Oper) (a : Act) (β : Map) (h : HF) (w : World) (n : Nat) (v : Value) (h' : HF) (n' : Nat) : Prop :=
  ∀ (K : Act → World → Prop) (Q : Exit → Act → World → Prop), (∀ v' w' β', VRel β' v v' → Sim β' h' w' → Step β h w β' h' w' n n' → K (a.put o.dst v') w') → o.wp P a w K Q

theorem ExOK.does {P : Program} {β : Map} {h : HF} {w : World} {n : Nat} {res : Res} {o : Oper} {a : Act} (hx : ExOK P β h w n res (execOp a.eval o)) : Does P o a β h w n res.val (updF h res.upd) res.next := by
  obtain ⟨nx, w', β', v', hr, hq, hv, h1, h2⟩ := hx
  intro K Q hK
  unfold Oper.wp
  rw [hr]
  rcases hq with rfl | ⟨rfl, rfl⟩
  · exact hK v' w' β' hv h1 h2
  · exact hK undef w' β' hv h1 h2

theorem run_callFunc {P : Program} {f : FuncId} {args : Array Value} {w : World} (hf : Callable P f) : (callFunc f args).run P w = .ok (.enter f args) w := by
  obtain ⟨fn, h1, h2, h3⟩ := hf
  simp only [callFunc, Sem.run_bind, run_program, Result.andThen_ok, h1, h3, h2, Bool.false_eq_true, if_false, Sem.run_pure]

theorem call_does {P : Program} {cs : CallSem} (hg : GoodCalls P cs) {β : Map} {s s' : St} {w : World} {a : Act} {c : Call} {fo : Operand} {dst : Option Tmp} {type : TypeId} {pos : String} {after : Array Edge} {guard : Option (Nat × Bool)}
    {f : FuncId} {first cap args : List Value} {v : Value} (hfo : c.callee = .value fo) {vf : Value} {as : List Value} (hvf : VRel β vf (a.eval fo)) (has : LRel β as (c.args.toList.map a.eval)) {fargs : List Value} (hcal : callee vf as = some (f, fargs))
    (hev : cs f fargs s = some (v, s')) (hs : Sim β s.heap.get w) (hwfs : WFs s) (hf : Fresh β s.next s'.next) :
    Does P ⟨dst, .call c, type, pos, after, guard⟩ a β s.heap.get w s.next v s'.heap.get s'.next := by
  unfold callee at hcal
  split at hcal
  case h_2 => cases hcal
  rename_i args0 f0 a0 c0
  simp only [Option.some.injEq, Prod.mk.injEq] at hcal
  obtain ⟨rfl, rfl⟩ := hcal
  obtain ⟨a', c', hq, ha', hc'⟩ := hvf.func_inv
  have hexec : execOp a.eval ⟨dst, .call c, type, pos, after, guard⟩ = callFunc f0 (a' ++ c.args.map a.eval ++ c') := by
    simp only [execOp, resolve, hfo, hq, Deferred.ofValue]
    rfl
  have harr : a' ++ c.args.map a.eval ++ c' = (a'.toList ++ c.args.toList.map a.eval ++ c'.toList).toArray := by
    rw [← Array.toList_inj]; simp
  have hargs : LRel β (a0.toList ++ as ++ c0.toList) (a'.toList ++ c.args.toList.map a.eval ++ c'.toList) := (ha'.append has).append hc'
  intro K Q hK
  unfold Oper.wp
  rw [hexec, harr]
  rcases hg _ _ _ _ _ hwfs hev with ⟨hcl, _, hok⟩ | ⟨_, hok⟩
  · rw [run_callFunc hcl, Oper.upon_enter]
    refine (hok β w _ hs hf hargs).mono ?_
    rintro e w' ⟨v', β', rfl, hv, h1, h2⟩
    exact hK v' w' β' hv h1 h2
  · obtain ⟨v', w', β', hr, hv, h1, h2⟩ := hok β w _ hs hf hargs
    rw [hr]
    exact hK v' w' β' hv h1 h2

/-- The operands of an operation. -/
def AOp.ops {α : Type} : AOp α → List α
  | .mov x | .box _ x | .load _ x | .nilCheck x | .un _ x | .conv _ x | .mkIface _ x | .fieldAddr _ x | .field _ _ x | .extract x _ | .len _ x | .cap x | .clear _ _ x => [x]
  | .pick c a b => [c, a, b]
  | .alloc _ _ => []
  | .build _ ps | .buildSlice _ _ _ _ ps => ps.map (·.2.2)
  | .store _ a x | .bin _ a x | .eq _ _ a x | .mkSlice _ _ _ _ a x | .indexAddr _ a x | .index a x | .lookup _ _ _ a x | .mapEntry _ _ a x | .append _ _ _ a x | .appendMake _ _ _ _ a x | .copy _ a x | .delete _ a x => [a, x]
  | .mkFunc _ a b => a ++ b
  | .mkMap h => h.toList
  | .slice _ x l h m => x :: (l.toList ++ h.toList ++ m.toList)
  | .mapUpdate _ a b c | .entryStore a b c => [a, b, c]
  | .minmax _ xs => xs
  | .call f as => f :: as

/-- The operation, from the model's text. -/
def compOper (P : Program) (N : Nat) (ops : Array Oper) (o : Oper) : Option AOper :=
  (compOp P o.op).bind fun op =>
    if o.op.operands.all okConst && op.ops.all okConst && (match o.dst with | some d => decide (d < N) | none => true) then
      match o.guard with
      | none => some ⟨o.dst, op, none⟩
      | some (j, want) => ((ops[j]?).bind (·.dst)).map fun t => ⟨o.dst, op, some (t, want)⟩
    else none

theorem compOper_spec {P : Program} {N : Nat} {ops : Array Oper} {o : Oper} {ao : AOper} (h : compOper P N ops o = some ao) :
    compOp P o.op = some ao.op ∧ (∀ x ∈ o.op.operands, okConst x = true) ∧ ao.dst = o.dst ∧ (∀ d, o.dst = some d → d < N) ∧ (∀ x ∈ ao.op.ops, okConst x = true) ∧
      ((o.guard = none ∧ ao.guard = none) ∨ ∃ j want t, o.guard = some (j, want) ∧ ((ops[j]?).bind (·.dst)) = some t ∧ ao.guard = some (t, want)) := by
  unfold compOper at h
  simp only [Option.bind_eq_some_iff] at h
  obtain ⟨op, h1, h⟩ := h
  rw [Option.ite_none_right_eq_some] at h
  obtain ⟨hc, h⟩ := h
  simp only [Bool.and_eq_true, Array.all_eq_true_iff_forall_mem] at hc
  obtain ⟨⟨hc1, hc3⟩, hc2⟩ := hc
  have hc3 : ∀ x ∈ op.ops, okConst x = true := List.all_eq_true.1 hc3
  have hd : ∀ d, o.dst = some d → d < N := by
    intro d hd
    rw [hd] at hc2
    simpa using hc2
  split at h
  · rename_i hgd
    cases h
    exact ⟨h1, hc1, rfl, hd, hc3, .inl ⟨hgd, rfl⟩⟩
  · rename_i j want hgd
    simp only [Option.map_eq_some_iff] at h
    obtain ⟨t, ht, rfl⟩ := h
    exact ⟨h1, hc1, rfl, hd, hc3, .inr ⟨j, want, t, hgd, ht, rfl⟩⟩

theorem wanted_eq {P : Program} {N : Nat} {ops : Array Oper} {o : Oper} {ao : AOper} (hc : compOper P N ops o = some ao) {β : Map} {e : Env} {a : Act} (hr : EnvRel β e a) {b : Bool} (hw : wantedA ao e = some b) :
    Region.wanted o (yielded ops a.tmps) = b := by
  obtain ⟨_, _, _, _, _, hg⟩ := compOper_spec hc
  unfold wantedA at hw
  rcases hg with ⟨g1, g2⟩ | ⟨j, want, t, g1, g2, g3⟩
  · rw [g2] at hw
    simp only [Option.some.injEq] at hw
    subst hw
    simp [Region.wanted, g1]
  · rw [g3] at hw
    simp only at hw
    cases ht : e.get t with
    | none => simp [ht] at hw
    | some v =>
      obtain ⟨hlt, hv⟩ := hr.rel t v ht
      have hget : a.tmps[t]? = some (a.tmps.getD t undef) := by simp [Array.getD, hlt]
      rw [ht] at hw
      simp only [Region.wanted, g1, yielded, g2, Option.bind_some, hget]
      split at hw
      · rename_i b' hb'
        cases hb'
        rw [hv.bool_inv]
        simp only [Option.some.injEq] at hw
        subst hw
        cases b' <;> cases want <;> rfl
      · rename_i vs hb'
        cases hb'
        simp only [Option.some.injEq] at hw
        subst hw
        obtain ⟨a', hq, _⟩ := hv.tuple_inv
        rw [hq]
        rfl
      · cases hw

theorem oper_does {P : Program} {N : Nat} {cs : CallSem} (hg : GoodCalls P cs) {ops : Array Oper} {o : Oper} {ao : AOper} (hc : compOper P N ops o = some ao) {β : Map} {e : Env} {a : Act} {s s' : St} {v : Value} {w : World} (hr : EnvRel β e a)
    (hs : Sim β s.heap.get w) (hwfs : WFs s) (hev : evOper cs ao.op e s = some (v, s')) (hf : Fresh β s.next s'.next) : Does P o a β s.heap.get w s.next v s'.heap.get s'.next := by
  obtain ⟨h1, h2, h3, h4, h5, hgd⟩ := compOper_spec hc
  clear hgd h3 h4 h5
  unfold evOper at hev
  simp only [Option.bind_eq_some_iff] at hev
  obtain ⟨av, hav, hev⟩ := hev
  split at hev
  · rename_i f args
    simp only [Option.bind_eq_some_iff] at hev
    obtain ⟨p, hp, hev⟩ := hev
    obtain ⟨fid, fargs⟩ := p
    -- the operation is a call of a value
    obtain ⟨dst, op, type, pos, after, guard⟩ := o
    simp only at h1 h2
    have hcall : ∃ c fo, op = .call c ∧ c.callee = .value fo ∧ ao.op = .call fo c.args.toList := by
      cases hop : ao.op <;> rw [hop] at hav <;> simp only [AOp.vals, Option.bind_eq_some_iff, Option.map_eq_some_iff, reduceCtorEq, and_false, exists_false, Option.some.injEq] at hav
      rename_i fo as
      rw [hop] at h1
      cases op <;> simp only [compOp, reduceCtorEq, Option.some.injEq] at h1
      case call c =>
        refine ⟨c, fo, rfl, ?_⟩
        split at h1
        · rename_i b hb
          exfalso
          unfold compBuiltin at h1
          repeat' (split at h1)
          all_goals (first | (simp only [Option.some.injEq, reduceCtorEq] at h1; done) | (simp only [Option.map_eq_some_iff, reduceCtorEq, and_false, exists_false] at h1; done) | (simp only [Option.bind_eq_some_iff, Option.ite_none_right_eq_some, Option.some.injEq, reduceCtorEq, and_false, exists_false] at h1; done) | (cases h1; done))
        · rename_i fo' hfo'
          simp only [Option.some.injEq, AOp.call.injEq] at h1
          obtain ⟨rfl, rfl⟩ := h1
          exact ⟨hfo', rfl⟩
        · cases h1
      case makeMap t r => cases r <;> simp at h1
      all_goals
        exfalso
        try unfold compEq at h1
        try unfold compConv at h1
        repeat' (split at h1)
        all_goals (try unfold compEq at h1)
        all_goals (repeat' (split at h1))
        all_goals (first
          | (simp only [Option.some.injEq, reduceCtorEq] at h1; done)
          | (simp only [Option.bind_eq_some_iff, Option.map_eq_some_iff, Option.ite_none_right_eq_some, reduceCtorEq, and_false, exists_false, Option.some.injEq] at h1; done)
          | (cases h1; done))
    obtain ⟨c, fo, rfl, hfo, hao⟩ := hcall
    rw [hao] at hav
    simp only [AOp.vals, Option.bind_eq_some_iff, Option.map_eq_some_iff] at hav
    obtain ⟨vf, hvf, as, has, hq⟩ := hav
    cases hq
    have hokc : okConst fo = true := h2 fo (by simp [Op.operands, Call.operands, hfo])
    have hoka : ∀ x ∈ c.args.toList, okConst x = true := fun x hx => h2 x (by rw [Op.operands, Call.operands, Array.mem_append]; exact .inr (by simpa using hx))
    exact call_does (first := []) (cap := []) (args := []) hg hfo (hr.rd (fun k hk => by subst hk; exact hokc) hvf) (mapList_rel hr hoka has) hp hev hs hwfs hf
  · rename_i hnc
    simp only [Option.map_eq_some_iff, Prod.mk.injEq] at hev
    obtain ⟨res, hres, rfl, rfl⟩ := hev
    have := (op_sim h1 h2 hr hav (fun f as hq => hnc f as hq) hs hres hf).does
    simp only [get_applyUpd]
    exact this


theorem evP_next {h : HF} {n : Nat} {av : AOp Value} {res : Res} (he : evP h n av = some res) : n ≤ res.next := by
  cases av <;> simp only [evP] at he
  all_goals (repeat' (split at he))
  all_goals (try simp only [Option.some.injEq, reduceCtorEq, Option.map_eq_some_iff, Option.bind_eq_some_iff] at he)
  all_goals (first
    | (subst he; simp; done)
    | (obtain ⟨_, _, rfl⟩ := he; simp; done)
    | (obtain ⟨_, _, rfl⟩ := he; split <;> simp; done)
    | (obtain ⟨_, _, _, _, rfl⟩ := he; simp; done)
    | skip)
  all_goals (obtain ⟨_, _, he⟩ := he)
  all_goals (try (obtain ⟨_, _, he⟩ := he))
  all_goals (repeat' (split at he))
  all_goals (first
    | (exact he.elim)
    | (cases he; done)
    | (cases he; simp; done))

/-- Whatever stands behind: K holds of every frame and world that go with the abstract ones. -/
def After (β : Map) (h : HF) (w : World) (n : Nat) (N : Nat) (e' : Env) (h' : HF) (n' : Nat) (K : Act → World → Prop) : Prop :=
  ∀ a' w' β', EnvRel β' e' a' → a'.tmps.size = N → Sim β' h' w' → Step β h w β' h' w' n n' → K a' w'

end Go.Abs
