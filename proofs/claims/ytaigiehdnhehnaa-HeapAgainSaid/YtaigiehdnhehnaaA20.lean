/-
  Functions and calls: the evaluator is sound.
-/
import Derived.Test.YtaigiehdnhehnaaA19
set_option linter.unusedVariables false
set_option linter.unusedSimpArgs false
namespace Go.Abs
open Go

def resOne (tmps : Array Value) : ResultVar → Sem Value
  | .tmp t => pure (tmps.getD t undef)
  | .cell a t => do loadVar t (← asAddr (tmps.getD a undef))

theorem results_eq (F : Func) (tmps : Array Value) : results F tmps = (do
    let vs ← F.results.mapM (resOne tmps)
    pure (if h : vs.size = 1 then vs[0] else .tuple vs)) := rfl

theorem run_results {P : Program} {w : World} {tmps : Array Value} : ∀ {rs : List ResultVar} {ks : List ResK}, mapList resKind rs = some ks →
    ∃ ts : List Nat, ks = ts.map .tmp ∧ (rs.mapM (resOne tmps)).run P w = .ok (ts.map fun t => tmps.getD t undef) w := by
  intro rs
  induction rs with
  | nil => intro ks h; simp only [mapList, Option.some.injEq] at h; subst h; exact ⟨[], rfl, by simp⟩
  | cons r rs ih =>
    intro ks h
    simp only [mapList, Option.bind_eq_some_iff, Option.map_eq_some_iff] at h
    obtain ⟨k, hk, ks', hks, rfl⟩ := h
    obtain ⟨ts, rfl, hr⟩ := ih hks
    cases r with
    | cell a t => simp [resKind] at hk
    | tmp t =>
      simp only [resKind, Option.some.injEq] at hk
      subst hk
      exact ⟨t :: ts, rfl, by simp only [List.mapM_cons, Sem.run_bind, hr, resOne, Sem.run_pure, Result.andThen_ok, List.map_cons]⟩

theorem results_run {P : Program} {w : World} {F : Func} {tmps : Array Value} {ks : List ResK} (h : compRes F.results = some ks) :
    ∃ ts : List Nat, ks = ts.map .tmp ∧ ∃ v, (results F tmps).run P w = .ok v w ∧ ((∃ t, ts = [t] ∧ v = tmps.getD t undef) ∨ (ts.length ≠ 1 ∧ v = .tuple (ts.map fun t => tmps.getD t undef).toArray)) := by
  unfold compRes at h
  obtain ⟨ts, h1, h2⟩ := run_results (P := P) (w := w) (tmps := tmps) h
  refine ⟨ts, h1, ?_⟩
  rw [results_eq, Array.mapM_eq_mapM_toList]
  simp only [map_eq_pure_bind, bind_assoc, pure_bind]
  simp only [Sem.run_bind, h2, Result.andThen_ok, Sem.run_pure]
  by_cases hl : ts.length = 1
  · obtain ⟨t, rfl⟩ : ∃ t, ts = [t] := List.length_eq_one_iff.1 hl
    exact ⟨tmps.getD t undef, rfl, .inl ⟨t, rfl, rfl⟩⟩
  · refine ⟨_, rfl, .inr ⟨hl, ?_⟩⟩
    rw [dif_neg (by simpa using hl)]

theorem resV_rel {β : Map} {e : Env} {s : St} {a : Act} (hr : EnvRel β e a) : ∀ {ts : List Nat} {vs : List Value}, mapList (resV e s) (ts.map .tmp) = some vs → LRel β vs (ts.map fun t => a.tmps.getD t undef) ∧ vs.length = ts.length := by
  intro ts
  induction ts with
  | nil => intro vs h; simp only [List.map_nil, mapList, Option.some.injEq] at h; subst h; exact ⟨.nil, rfl⟩
  | cons t ts ih =>
    intro vs h
    simp only [List.map_cons, mapList, Option.bind_eq_some_iff, Option.map_eq_some_iff] at h
    obtain ⟨v, hv, vs', hvs, rfl⟩ := h
    obtain ⟨h1, h2⟩ := ih hvs
    exact ⟨.cons (hr.rel t v hv).2 h1, by simp [h2]⟩

theorem fun_sound {P : Program} {cs : CallSem} (hg : GoodCalls P cs) (hwf : GoodWF cs) (hm : P.follows .mixedOrders = true) {n : Nat} {f : FuncId} {fn : AFun} (hok : FunOK P f fn) {args : List Value} {s s' : St} {v : Value} (hws : WFs s)
    (he : evFun cs n fn args s = some (v, s')) : Callable P f ∧ CallOK P f args s v s' := by
  obtain ⟨F, c, hF, hb, hname, hres, hN, hc⟩ := hok.ok
  refine ⟨⟨F, hF, by simp [hb], hname⟩, ?_⟩
  unfold evFun at he
  split at he
  case isFalse => cases he
  rename_i hlen
  simp only [Option.bind_eq_some_iff] at he
  obtain ⟨⟨x, e1, s1⟩, hq, he⟩ := he
  have hx : (x = .normal ∨ x = .ret) ∧ ∃ vs, mapList (resV e1 s1) fn.res = some vs ∧ v = tupleV vs ∧ s1 = s' := by
    cases x with
    | exit id => simp at he
    | normal => simp only [Option.map_eq_some_iff, Prod.mk.injEq] at he; obtain ⟨vs, h1, h2, h3⟩ := he; exact ⟨.inl rfl, vs, h1, h2.symm, h3⟩
    | ret => simp only [Option.map_eq_some_iff, Prod.mk.injEq] at he; obtain ⟨vs, h1, h2, h3⟩ := he; exact ⟨.inr rfl, vs, h1, h2.symm, h3⟩
  obtain ⟨hx, vs, hvs, rfl, rfl⟩ := hx
  refine ⟨evCode_next hg hwf hc hws hq, fun β w args' hs hf hargs => ?_⟩
  have hal := hargs.length
  have hsz : (args'.toArray ++ Array.replicate (F.ntmps - args'.toArray.size) undef).size = F.ntmps := by
    simp only [Array.size_append, Array.size_replicate, List.size_toArray]; omega
  refine calls_of_wp hF hb (code_sound hg hwf hm hc (Q := bodyPost P F _) (a := { tmps := args'.toArray ++ Array.replicate (F.ntmps - args'.toArray.size) undef, defers := [] }) ⟨fun t u hu => ?_, rfl⟩ hsz hs hf hws hq ?_)
  · obtain ⟨_, u', h1, h2⟩ := params_get hargs hu
    simp only [Nat.sub_zero] at h1
    have hlt := (List.getElem?_eq_some_iff.1 h1).1
    refine ⟨by rw [hsz]; omega, ?_⟩
    have : (args'.toArray ++ Array.replicate (F.ntmps - args'.toArray.size) undef).getD t undef = u' := by
      rw [Array.getD_eq_getD_getElem?, Array.getElem?_append_left (by simpa using hlt)]
      simp [h1]
    rw [this]; exact h2
  · intro a1 w1 β1 hr1 hN1 hs1 hst
    obtain ⟨ts, hts, v1, hrun, hv1⟩ := results_run (P := P) (w := w1) (tmps := a1.tmps) hres
    rw [hts] at hvs
    obtain ⟨hl, hlen2⟩ := resV_rel hr1 hvs
    have hvr : VRel β1 (tupleV vs) v1 := by
      rcases hv1 with ⟨t, rfl, rfl⟩ | ⟨hne, rfl⟩
      · cases hl with
        | cons h t => cases t; exact h
      · have ht := hl.tuple
        match vs, hlen2, ht with
        | [], _, ht => exact ht
        | [u], hlen2, _ => exact absurd hlen2.symm hne
        | _ :: _ :: _, _, ht => exact ht
    have hpost : bodyPost P F (fun e w' => ∃ v' β', e = .returned v' ∧ VRel β' (tupleV vs) v' ∧ Sim β' s1.heap.get w' ∧ Step β s.heap.get w β' s1.heap.get w' s.next s1.next) .normal a1 w1 :=
      ⟨hr1.defers, v1, hrun, v1, β1, rfl, hvr, hs1, hst⟩
    rcases hx with rfl | rfl
    · exact hpost
    · exact hpost

theorem fun_wf {P : Program} {cs : CallSem} (hwf : GoodWF cs) {n : Nat} {fn : AFun} {args : List Value} {s s' : St} {v : Value} (hws : WFs s) (he : evFun cs n fn args s = some (v, s')) : WFs s' := by
  unfold evFun at he
  split at he
  case isFalse => cases he
  simp only [Option.bind_eq_some_iff] at he
  obtain ⟨⟨x, e1, s1⟩, hq, he⟩ := he
  have := evCode_wf (P := P) hwf hq hws
  cases x with
  | exit id => simp at he
  | normal => simp only [Option.map_eq_some_iff, Prod.mk.injEq] at he; obtain ⟨vs, h1, h2, rfl⟩ := he; exact this
  | ret => simp only [Option.map_eq_some_iff, Prod.mk.injEq] at he; obtain ⟨vs, h1, h2, rfl⟩ := he; exact this

theorem FunOK.of {P : Program} {f : FuncId} {F : Func} {fn : AFun} (hF : P.funcs[f]? = some F) (ls : List (List Nat)) (ds : List Draw) (hname : (F.name == "runtime.NumGoroutine") = false) (hres : compRes F.results = some fn.res)
    (hn : fn.np ≤ F.ntmps) (hc : (F.body.bind fun c => (compCode P F.ntmps c ls ds).map fun q => q.1) = some fn.body) : FunOK P f fn := by
  simp only [Option.bind_eq_some_iff, Option.map_eq_some_iff] at hc
  obtain ⟨c, hb, q, hq, hqe⟩ := hc
  exact ⟨F, c, hF, hb, hname, hres, hn, hqe ▸ compCode_comp hq⟩

structure TableOK (P : Program) (tbl : FuncId → Option AFun) (ov : CallSem) : Prop where
  mixed : P.follows .mixedOrders = true
  funs : ∀ f fn, tbl f = some fn → FunOK P f fn
  good : GoodCalls P ov
  wf : GoodWF ov

theorem call_good {P : Program} {tbl : FuncId → Option AFun} {ov : CallSem} (h : TableOK P tbl ov) : ∀ k, GoodCalls P (call tbl ov k) ∧ GoodWF (call tbl ov k) := by
  intro k
  induction k with
  | zero => exact ⟨fun f args s v s' _ hq => by simp [call] at hq, fun f args s v s' hq _ => by simp [call] at hq⟩
  | succ k ih =>
    refine ⟨fun f args s v s' hws hq => ?_, fun f args s v s' hq hws => ?_⟩
    · simp only [call] at hq
      split at hq
      · rename_i fn hfn
        exact .inl (fun_sound ih.1 ih.2 h.mixed (h.funs f fn hfn) hws hq)
      · exact h.good f args s v s' hws hq
    · simp only [call] at hq
      split at hq
      · exact fun_wf (P := P) ih.2 hws hq
      · exact h.wf f args s v s' hq hws

end Go.Abs
