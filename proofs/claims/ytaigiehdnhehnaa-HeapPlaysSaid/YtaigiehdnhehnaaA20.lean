/-
  Functions and calls: the evaluator is sound.
-/
import Derived.Test.YtaigiehdnhehnaaA19
set_option linter.unusedVariables false
set_option linter.unusedSimpArgs false
namespace Go.Abs
open Go

def resOne (tmps : Array Value) : ResultVar → Sem Value
  | .tmp t => pure (tmps.getD t undef)
  | .cell a t => do loadVar t (← asAddr (tmps.getD a undef))

theorem results_eq (F : Func) (tmps : Array Value) : results F tmps = (do
    let vs ← F.results.mapM (resOne tmps)
    pure (if h : vs.size = 1 then vs[0] else .tuple vs)) := rfl

/-- A variable's value is read off its cells. -/
theorem load_var {P : Program} {β : Map} {s : St} {w : World} {t : TypeId} {k : Option Nat} {a a' v : Value} (hk : shapeT P t = some k) (ha : VRel β a a') (hs : Sim β s.heap.get w) (he : loadA s k a = some v) :
    ∃ v', (do loadVar t (← asAddr a') : Sem Value).run P w = .ok v' w ∧ VRel β v v' := by
  obtain ⟨i, d, hi, hd, rfl⟩ := shapeT_spec hk
  unfold loadA at he
  simp only [evP] at he
  split at he
  case h_2 => cases he
  rename_i id o
  obtain ⟨r, hb, rfl⟩ := ha.ptr_inv
  split at he
  · rename_i hag
    split at he
    case h_2 => cases he
    rename_i c t' sz ro ho
    cases hv : c[o]? with
    | none => simp [hv] at he
    | some u =>
      rw [hv] at he
      simp only [Option.map_some, Option.some.injEq] at he
      subst he
      obtain ⟨v', hc, hvr⟩ := cell_read hs hb ho hv
      have hd' : isAggD d = false := by revert hag; cases isAggD d <;> simp
      refine ⟨v', ?_, hvr⟩
      simp [asAddr, loadVar, run_agg hd, hd', hc]
  · rename_i m hag
    have hd' : isAggD d = true ∧ m = i.size := by revert hag; cases isAggD d <;> simp [eq_comm]
    obtain ⟨hd', rfl⟩ := hd'
    cases hl : cellsAt s.heap.get id o i.size with
    | none => simp [hl] at he
    | some l =>
      rw [hl] at he
      simp only [Option.map_some, Option.some.injEq] at he
      subst he
      obtain ⟨l', hlr, hlen, hc⟩ := cells_read hs hb hl
      have hrun := run_loadCells_list (P := P) w ⟨r.blk, r.base + o, none⟩ l' hc
      rw [← hlr.length, hlen] at hrun
      refine ⟨_, ?_, hlr.agg⟩
      simp [asAddr, loadVar, run_agg hd, hd', run_size hi, hrun]

theorem run_results {P : Program} {β : Map} {e : Env} {s : St} {w : World} {a : Act} (hr : EnvRel β e a) (hs : Sim β s.heap.get w) : ∀ {rs : List ResultVar} {ks : List ResK} {vs : List Value}, mapList (resKind P) rs = some ks → mapList (resV e s) ks = some vs →
    ∃ us, LRel β vs us ∧ (rs.mapM (resOne a.tmps)).run P w = .ok us w := by
  intro rs
  induction rs with
  | nil => intro ks vs h hv; simp only [mapList, Option.some.injEq] at h; subst h; simp only [mapList, Option.some.injEq] at hv; subst hv; exact ⟨[], .nil, by simp⟩
  | cons r rs ih =>
    intro ks vs h hv
    simp only [mapList, Option.bind_eq_some_iff, Option.map_eq_some_iff] at h
    obtain ⟨k, hk, ks', hks, rfl⟩ := h
    simp only [mapList, Option.bind_eq_some_iff, Option.map_eq_some_iff] at hv
    obtain ⟨v, hv, vs', hvs, rfl⟩ := hv
    obtain ⟨us, hl, hrun⟩ := ih hks hvs
    cases r with
    | cell c t =>
      simp only [resKind, Option.map_eq_some_iff] at hk
      obtain ⟨n, hn, rfl⟩ := hk
      simp only [resV, Option.bind_eq_some_iff] at hv
      obtain ⟨x, hx, hv⟩ := hv
      obtain ⟨v', h1, h2⟩ := load_var hn (hr.rel c x hx).2 hs hv
      exact ⟨v' :: us, .cons h2 hl, by simp only [List.mapM_cons, Sem.run_bind, resOne, hrun, h1, Sem.run_pure, Result.andThen_ok] at h1 ⊢⟩
    | tmp t =>
      simp only [resKind, Option.some.injEq] at hk
      subst hk
      simp only [resV] at hv
      exact ⟨a.tmps.getD t undef :: us, .cons (hr.rel t v hv).2 hl, by simp only [List.mapM_cons, Sem.run_bind, hrun, resOne, Sem.run_pure, Result.andThen_ok]⟩

theorem results_run {P : Program} {β : Map} {e : Env} {s : St} {w : World} {F : Func} {a : Act} {ks : List ResK} {vs : List Value} (hr : EnvRel β e a) (hs : Sim β s.heap.get w) (h : compRes P F.results = some ks) (hv : mapList (resV e s) ks = some vs) :
    ∃ v', (results F a.tmps).run P w = .ok v' w ∧ VRel β (tupleV vs) v' := by
  unfold compRes at h
  obtain ⟨us, hl, h2⟩ := run_results (P := P) (w := w) hr hs h hv
  rw [results_eq, Array.mapM_eq_mapM_toList]
  simp only [map_eq_pure_bind, bind_assoc, pure_bind]
  simp only [Sem.run_bind, h2, Result.andThen_ok, Sem.run_pure]
  have ht := hl.tuple
  have hln := hl.length
  match vs, us, hl, ht, hln with
  | [u], [u'], hl, _, _ =>
    cases hl with
    | cons h t => exact ⟨u', rfl, h⟩
  | [], us, hl, ht, hln =>
    simp only [List.length_nil] at hln
    exact ⟨_, by rw [dif_neg (by simp; omega)], ht⟩
  | _ :: _ :: _, us, hl, ht, hln =>
    simp only [List.length_cons] at hln
    exact ⟨_, by rw [dif_neg (by simp; omega)], ht⟩

theorem fun_sound {P : Program} {cs : CallSem} (hg : GoodCalls P cs) (hwf : GoodWF cs) (hm : P.follows .mixedOrders = true) {n : Nat} {f : FuncId} {fn : AFun} (hok : FunOK P f fn) {args : List Value} {s s' : St} {v : Value} (hws : WFs s)
    (he : evFun cs n fn args s = some (v, s')) : Callable P f ∧ CallOK P f args s v s' := by
  obtain ⟨F, c, hF, hb, hname, hres, hN, hc⟩ := hok.ok
  refine ⟨⟨F, hF, by simp [hb], hname⟩, ?_⟩
  unfold evFun at he
  split at he
  case isFalse => cases he
  rename_i hlen
  simp only [Option.bind_eq_some_iff] at he
  obtain ⟨⟨x, e1, s1⟩, hq, he⟩ := he
  have hx : (x = .normal ∨ x = .ret) ∧ ∃ vs, mapList (resV e1 s1) fn.res = some vs ∧ v = tupleV vs ∧ s1 = s' := by
    cases x with
    | exit id => simp at he
    | normal => simp only [Option.map_eq_some_iff, Prod.mk.injEq] at he; obtain ⟨vs, h1, h2, h3⟩ := he; exact ⟨.inl rfl, vs, h1, h2.symm, h3⟩
    | ret => simp only [Option.map_eq_some_iff, Prod.mk.injEq] at he; obtain ⟨vs, h1, h2, h3⟩ := he; exact ⟨.inr rfl, vs, h1, h2.symm, h3⟩
  obtain ⟨hx, vs, hvs, rfl, rfl⟩ := hx
  refine ⟨evCode_next hg hwf hc hws hq, fun β w args' hs hf hargs => ?_⟩
  have hal := hargs.length
  have hsz : (args'.toArray ++ Array.replicate (F.ntmps - args'.toArray.size) undef).size = F.ntmps := by
    simp only [Array.size_append, Array.size_replicate, List.size_toArray]; omega
  refine calls_of_wp hF hb (code_sound hg hwf hm hc (Q := bodyPost P F _) (a := { tmps := args'.toArray ++ Array.replicate (F.ntmps - args'.toArray.size) undef, defers := [] }) ⟨fun t u hu => ?_, rfl⟩ hsz hs hf hws hq ?_)
  · obtain ⟨_, u', h1, h2⟩ := params_get hargs hu
    simp only [Nat.sub_zero] at h1
    have hlt := (List.getElem?_eq_some_iff.1 h1).1
    refine ⟨by rw [hsz]; omega, ?_⟩
    have : (args'.toArray ++ Array.replicate (F.ntmps - args'.toArray.size) undef).getD t undef = u' := by
      rw [Array.getD_eq_getD_getElem?, Array.getElem?_append_left (by simpa using hlt)]
      simp [h1]
    rw [this]; exact h2
  · intro a1 w1 β1 hr1 hN1 hs1 hst
    obtain ⟨v1, hrun, hvr⟩ := results_run (P := P) (w := w1) hr1 hs1 hres hvs
    have hpost : bodyPost P F (fun e w' => ∃ v' β', e = .returned v' ∧ VRel β' (tupleV vs) v' ∧ Sim β' s1.heap.get w' ∧ Step β s.heap.get w β' s1.heap.get w' s.next s1.next) .normal a1 w1 :=
      ⟨hr1.defers, v1, hrun, v1, β1, rfl, hvr, hs1, hst⟩
    rcases hx with rfl | rfl
    · exact hpost
    · exact hpost

theorem fun_wf {P : Program} {cs : CallSem} (hwf : GoodWF cs) {n : Nat} {fn : AFun} {args : List Value} {s s' : St} {v : Value} (hws : WFs s) (he : evFun cs n fn args s = some (v, s')) : WFs s' := by
  unfold evFun at he
  split at he
  case isFalse => cases he
  simp only [Option.bind_eq_some_iff] at he
  obtain ⟨⟨x, e1, s1⟩, hq, he⟩ := he
  have := evCode_wf (P := P) hwf hq hws
  cases x with
  | exit id => simp at he
  | normal => simp only [Option.map_eq_some_iff, Prod.mk.injEq] at he; obtain ⟨vs, h1, h2, rfl⟩ := he; exact this
  | ret => simp only [Option.map_eq_some_iff, Prod.mk.injEq] at he; obtain ⟨vs, h1, h2, rfl⟩ := he; exact this

theorem FunOK.of {P : Program} {f : FuncId} {F : Func} {fn : AFun} (hF : P.funcs[f]? = some F) (ls : List (List Nat)) (ds : List Draw) (hname : (F.name == "runtime.NumGoroutine") = false) (hres : compRes P F.results = some fn.res)
    (hn : fn.np ≤ F.ntmps) (hc : (F.body.bind fun c => (compCode P F.ntmps c ls ds).map fun q => q.1) = some fn.body) : FunOK P f fn := by
  simp only [Option.bind_eq_some_iff, Option.map_eq_some_iff] at hc
  obtain ⟨c, hb, q, hq, hqe⟩ := hc
  exact ⟨F, c, hF, hb, hname, hres, hn, hqe ▸ compCode_comp hq⟩

structure TableOK (P : Program) (tbl : FuncId → Option AFun) (ov : CallSem) : Prop where
  mixed : P.follows .mixedOrders = true
  funs : ∀ f fn, tbl f = some fn → FunOK P f fn
  good : GoodCalls P ov
  wf : GoodWF ov

theorem call_good {P : Program} {tbl : FuncId → Option AFun} {ov : CallSem} (h : TableOK P tbl ov) : ∀ k, GoodCalls P (call tbl ov k) ∧ GoodWF (call tbl ov k) := by
  intro k
  induction k with
  | zero => exact ⟨fun f args s v s' _ hq => by simp [call] at hq, fun f args s v s' hq _ => by simp [call] at hq⟩
  | succ k ih =>
    refine ⟨fun f args s v s' hws hq => ?_, fun f args s v s' hq hws => ?_⟩
    · simp only [call] at hq
      split at hq
      · rename_i fn hfn
        exact .inl (fun_sound ih.1 ih.2 h.mixed (h.funs f fn hfn) hws hq)
      · exact h.good f args s v s' hws hq
    · simp only [call] at hq
      split at hq
      · exact fun_wf (P := P) ih.2 hws hq
      · exact h.wf f args s v s' hq hws

end Go.Abs
