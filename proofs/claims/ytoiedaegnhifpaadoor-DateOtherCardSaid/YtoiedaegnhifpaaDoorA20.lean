/-
  Functions and calls: the evaluator is sound.
-/
import Derived.Test.YtoiedaegnhifpaaDoorA19
set_option linter.unusedVariables false
set_option linter.unusedSimpArgs false
namespace Go.Abs
open Go

def resOne (tmps : Array Value) : ResultVar → Sem Value
  | .tmp t => pure (tmps.getD t undef)
  | .cell a t => do loadVar t (← asAddr (tmps.getD a undef))

theorem results_eq (F : Func) (tmps : Array Value) : results F tmps = (do
    let vs ← F.results.mapM (resOne tmps)
    pure (if h : vs.size = 1 then vs[0] else .tuple vs)) := rfl

theorem load_var {P : Program} {β : Map} {s : St} {w : World} {t : TypeId} {k : Option Nat} {a a' v : Value} (hk : shapeT P t = some k) (ha : VRel β a a') (hs : Sim β s.heap.get w) (he : loadA s k a = some v) :
    ∃ v', (do loadVar t (← asAddr a') : Sem Value).run P w = .ok v' w ∧ VRel β v v' := by
  obtain ⟨i, d, hi, hd, rfl⟩ := shapeT_spec hk
  unfold loadA at he
  simp only [evP] at he
  split at he
  case h_2 => cases he
  rename_i id o
  obtain ⟨r, hb, rfl⟩ := ha.ptr_inv
  split at he
  · rename_i hag
    split at he
    case h_2 => cases he
    rename_i c t' sz ro ho
    cases hv : c[o]? with
    | none => simp [hv] at he
    | some u =>
      rw [hv] at he
      simp only [Option.map_some, Option.some.injEq] at he
      subst he
      obtain ⟨v', hc, hvr⟩ := cell_read hs hb ho hv
      have hd' : isAggD d = false := by revert hag; cases isAggD d <;> simp
      refine ⟨v', ?_, hvr⟩
      simp [asAddr, loadVar, run_agg hd, hd', hc]
  · rename_i m hag
    have hd' : isAggD d = true ∧ m = i.size := by revert hag; cases isAggD d <;> simp [eq_comm]
    obtain ⟨hd', rfl⟩ := hd'
    cases hl : cellsAt s.heap.get id o i.size with
    | none => simp [hl] at he
    | some l =>
      rw [hl] at he
      simp only [Option.map_some, Option.some.injEq] at he
      subst he
      obtain ⟨l', hlr, hlen, hc⟩ := cells_read hs hb hl
      have hrun := run_loadCells_list (P := P) w ⟨r.blk, r.base + o, none⟩ l' hc
      rw [← hlr.length, hlen] at hrun
      refine ⟨_, ?_, hlr.agg⟩
      simp [asAddr, loadVar, run_agg hd, hd', run_size hi, hrun]

theorem run_results {P : Program} {β : Map} {e : Env} {s : St} {w : World} {a : Act} (hr : EnvRel β e a) (hs : Sim β s.heap.get w) : ∀ {rs : List ResultVar} {ks : List ResK} {vs : List Value}, mapList (resKind P) rs = some ks → mapList (resV e s) ks = some vs →
    ∃ us, LRel β vs us ∧ (rs.mapM (resOne a.tmps)).run P w = .ok us w := by
  intro rs
  induction rs with
  | nil => intro ks vs h hv; simp only [mapList, Option.some.injEq] at h; subst h; simp only [mapList, Option.some.injEq] at hv; subst hv; exact ⟨[], .nil, by simp⟩
  | cons r rs ih =>
    intro ks vs h hv
    simp only [mapList, Option.bind_eq_some_iff, Option.map_eq_some_iff] at h
    obtain ⟨k, hk, ks', hks, rfl⟩ := h
    simp only [mapList, Option.bind_eq_some_iff, Option.map_eq_some_iff] at hv
    obtain ⟨v, hv, vs', hvs, rfl⟩ := hv
    obtain ⟨us, hl, hrun⟩ := ih hks hvs
    cases r with
    | cell c t =>
      simp only [resKind, Option.map_eq_some_iff] at hk
      obtain ⟨n, hn, rfl⟩ := hk
      simp only [resV, Option.bind_eq_some_iff] at hv
      obtain ⟨x, hx, hv⟩ := hv
      obtain ⟨v', h1, h2⟩ := load_var hn (hr.rel c x hx).2 hs hv
      exact ⟨v' :: us, .cons h2 hl, by simp only [List.mapM_cons, Sem.run_bind, resOne, hrun, h1, Sem.run_pure, Result.andThen_ok] at h1 ⊢⟩
    | tmp t =>
      simp only [resKind, Option.some.injEq] at hk
      subst hk
      simp only [resV] at hv
      exact ⟨a.tmps.getD t undef :: us, .cons (hr.rel t v hv).2 hl, by simp only [List.mapM_cons, Sem.run_bind, hrun, resOne, Sem.run_pure, Result.andThen_ok]⟩

theorem results_run {P : Program} {β : Map} {e : Env} {s : St} {w : World} {F : Func} {a : Act} {ks : List ResK} {vs : List Value} (hr : EnvRel β e a) (hs : Sim β s.heap.get w) (h : compRes P F.results = some ks) (hv : mapList (resV e s) ks = some vs) :
    ∃ v', (results F a.tmps).run P w = .ok v' w ∧ VRel β (tupleV vs) v' := by
  unfold compRes at h
  obtain ⟨us, hl, h2⟩ := run_results (P := P) (w := w) hr hs h hv
  rw [results_eq, Array.mapM_eq_mapM_toList]
  simp only [map_eq_pure_bind, bind_assoc, pure_bind]
  simp only [Sem.run_bind, h2, Result.andThen_ok, Sem.run_pure]
  have ht := hl.tuple
  have hln := hl.length
  match vs, us, hl, ht, hln with
  | [u], [u'], hl, _, _ =>
    cases hl with
    | cons h t => exact ⟨u', rfl, h⟩
  | [], us, hl, ht, hln =>
    simp only [List.length_nil] at hln
    exact ⟨_, by rw [dif_neg (by simp; omega)], ht⟩
  | _ :: _ :: _, us, hl, ht, hln =>
    simp only [List.length_cons] at hln
    exact ⟨_, by rw [dif_neg (by simp; omega)], ht⟩

theorem fun_sound {P : Program} {cs : CallSem} (hg : GoodCalls P cs) (hwf : GoodWF cs) (hm : P.follows .mixedOrders = true) {n : Nat} {f : FuncId} {fn : AFun} (hok : FunOK P f fn) {args : List Value} {s s' : St} {v : Value} (hws : WFs s)
    (he : evFun cs n fn args s = some (v, s')) : Callable P f ∧ CallOK P f args s v s' := by
  obtain ⟨F, c, hF, hb, hname, hres, hN, hc⟩ := hok.ok
  refine ⟨⟨F, hF, by simp [hb], hname⟩, ?_⟩
  unfold evFun at he
  split at he
  case isFalse => cases he
  rename_i hlen
  simp only [Option.bind_eq_some_iff] at he
  obtain ⟨⟨x, e1, s1⟩, hq, he⟩ := he
  have hx : (x = .normal ∨ x = .ret) ∧ ∃ vs, mapList (resV e1 s1) fn.res = some vs ∧ v = tupleV vs ∧ s1 = s' := by
    cases x with
    | exit id => simp at he
    | normal => simp only [Option.map_eq_some_iff, Prod.mk.injEq] at he; obtain ⟨vs, h1, h2, h3⟩ := he; exact ⟨.inl rfl, vs, h1, h2.symm, h3⟩
    | ret => simp only [Option.map_eq_some_iff, Prod.mk.injEq] at he; obtain ⟨vs, h1, h2, h3⟩ := he; exact ⟨.inr rfl, vs, h1, h2.symm, h3⟩
  obtain ⟨hx, vs, hvs, rfl, rfl⟩ := hx
  refine ⟨evCode_next hg hwf hc hws hq, fun β w args' hs hf hargs => ?_⟩
  have hal := hargs.length
  have hsz : (args'.toArray ++ Array.replicate (F.ntmps - args'.toArray.size) undef).size = F.ntmps := by
    simp only [Array.size_append, Array.size_replicate, List.size_toArray]; omega
  refine calls_of_wp hF hb (code_sound hg hwf hm hc (Q := bodyPost P F _) (a := { tmps := args'.toArray ++ Array.replicate (F.ntmps - args'.toArray.size) undef, defers := [] }) ⟨fun t u hu => ?_, rfl⟩ hsz hs hf hws hq ?_)
  · obtain ⟨_, u', h1, h2⟩ := params_get hargs hu
    simp only [Nat.sub_zero] at h1
    have hlt := (List.getElem?_eq_some_iff.1 h1).1
    refine ⟨by rw [hsz]; omega, ?_⟩
    have : (args'.toArray ++ Array.replicate (F.ntmps - args'.toArray.size) undef).getD t undef = u' := by
      rw [Array.getD_eq_getD_getElem?, Array.getElem?_append_left (by simpa using hlt)]
      simp [h1]
    rw [this]; exact h2
  · intro a1 w1 β1 hr1 hN1 hs1 hst
    obtain ⟨v1, hrun, hvr⟩ := results_run (P := P) (w := w1) hr1 hs1 hres hvs
    have hpost : bodyPost P F (fun e w' => ∃ v' β', e = .returned v' ∧ VRel β' (tupleV vs) v' ∧ Sim β' s1.heap.get w' ∧ Step β s.heap.get w β' s1.heap.get w' s.next s1.next) .normal a1 w1 :=
      ⟨hr1.defers, v1, hrun, v1, β1, rfl, hvr, hs1, hst⟩
    rcases hx with rfl | rfl
    · exact hpost
    · exact hpost

theorem fun_wf {P : Program} {cs : CallSem} (hwf : GoodWF cs) {n : Nat} {fn : AFun} {args : List Value} {s s' : St} {v : Value} (hws : WFs s) (he : evFun cs n fn args s = some (v, s')) : WFs s' := by
  unfold evFun at he
  split at he
  case isFalse => cases he
  simp only [Option.bind_eq_some_iff] at he
  obtain ⟨⟨x, e1, s1⟩, hq, he⟩ := he
  have := evCode_wf (P := P) hwf hq hws
  cases x with
  | exit id => simp at he
  | normal => simp only [Option.map_eq_some_iff, Prod.mk.injEq] at he; obtain ⟨vs, h1, h2, rfl⟩ := he; exact this
  | ret => simp only [Option.map_eq_some_iff, Prod.mk.injEq] at he; obtain ⟨vs, h1, h2, rfl⟩ := he; exact this

theorem FunOK.of {P : Program} {f : FuncId} {F : Func} {fn : AFun} (hF : P.funcs[f]? = some F) (ls : List (List Nat)) (ds : List Draw) (hname : (F.name == "runtime.NumGoroutine") = false) (hres : compRes P F.results = some fn.res)
    (hn : fn.np ≤ F.ntmps) (hc : (F.body.bind fun c => (compCode P F.ntmps c ls ds).map fun q => q.1) = some fn.body) : FunOK P f fn := by
  simp only [Option.bind_eq_some_iff, Option.map_eq_some_iff] at hc
  obtain ⟨c, hb, q, hq, hqe⟩ := hc
  exact ⟨F, c, hF, hb, hname, hres, hn, hqe ▸ compCode_comp hq⟩

structure TableOK (P : Program) (tbl : FuncId → Option AFun) (ov : CallSem) : Prop where
  mixed : P.follows .mixedOrders = true
  funs : ∀ f fn, tbl f = some fn → FunOK P f fn
  good : GoodCalls P ov
  wf : GoodWF ov

theorem atom_prim {v : Value} (h : atomV v = true) : primV v = true := by cases v <;> first | exact h | (rename_i x; cases x <;> exact h) | (rename_i x _ _; cases x <;> exact h)

theorem flat_rel : ∀ {n : Nat} {v v' : Value} {β : Map}, flatV n v = true → VRel β v v' → v' = v := by
  intro n
  induction n with
  | zero =>
    intro v v' β h hr
    have hp := atom_prim h
    cases hr <;> first | rfl | (simp [primV] at hp)
  | succ n ih =>
    intro v v' β h hr
    cases v with
    | tuple a =>
      obtain ⟨a', rfl, ha⟩ := hr.tuple_inv
      have : LRel β a.toList a'.toList := ha
      have key : ∀ {l l' : List Value}, LRel β l l' → l.all (flatV n) = true → l' = l := by
        intro l l' hl
        induction hl with
        | nil => intro _; rfl
        | cons h1 _ ih2 =>
          intro h
          simp only [List.all_cons, Bool.and_eq_true] at h
          rw [ih h.1 h1, ih2 h.2]
      have h2 := key this (by simpa [flatV] using h)
      rw [← Array.toList_inj.1 h2]
    | agg a =>
      obtain ⟨a', rfl, ha⟩ := hr.agg_inv
      have : LRel β a.toList a'.toList := ha
      have key : ∀ {l l' : List Value}, LRel β l l' → l.all (flatV n) = true → l' = l := by
        intro l l' hl
        induction hl with
        | nil => intro _; rfl
        | cons h1 _ ih2 =>
          intro h
          simp only [List.all_cons, Bool.and_eq_true] at h
          rw [ih h.1 h1, ih2 h.2]
      have h2 := key this (by simpa [flatV] using h)
      rw [← Array.toList_inj.1 h2]
    | _ =>
      have hp := atom_prim (v := _) (by simpa only [flatV] using h)
      cases hr <;> first | rfl | (simp [primV] at hp)

theorem flat_self : ∀ {n : Nat} {v : Value} (β : Map), flatV n v = true → VRel β v v := by
  intro n
  induction n with
  | zero => intro v β h; exact .prim v (atom_prim h)
  | succ n ih =>
    intro v β h
    have key : ∀ {l : List Value}, l.all (flatV n) = true → LRel β l l := by
      intro l
      induction l with
      | nil => intro _; exact .nil
      | cons x l ih2 =>
        intro h
        simp only [List.all_cons, Bool.and_eq_true] at h
        exact .cons (ih β h.1) (ih2 h.2)
    cases v with
    | tuple a => exact (lrel_arr.1 (key (by simpa [flatV] using h))) |> fun q => .tuple q.1 q.2
    | agg a => exact (lrel_arr.1 (key (by simpa [flatV] using h))) |> fun q => .agg q.1 q.2
    | _ => exact .prim _ (atom_prim (by simpa only [flatV] using h))

theorem VRel.back {β β' : Map} (hle : Map.le β β') {c y : Value} (h : VRel β c y) : ∀ {y' : Value}, VRel β' c y' → VRel β c y' := by
  induction h with
  | prim v hp => intro y' h'; cases h' <;> first | exact .prim _ hp | (simp [primV] at hp)
  | ptr h =>
    intro y' h'
    obtain ⟨r', hr', rfl⟩ := h'.ptr_inv
    have := hle _ _ h; rw [hr'] at this; cases this
    exact .ptr h
  | slice h hc =>
    intro y' h'
    cases h' with
    | prim _ hp => simp [primV] at hp
    | slice h2 hc2 => have := hle _ _ h; rw [h2] at this; cases this; exact .slice h hc2
    | empty h2 => exact .empty h
  | empty h =>
    intro y' h'
    cases h' with
    | prim _ hp => simp [primV] at hp
    | slice h2 hc2 => have := hle _ _ h; rw [h2] at this; cases this; exact .slice h hc2
    | empty h2 => exact .empty h
  | map h =>
    intro y' h'
    obtain ⟨r', hr', rfl⟩ := h'.map_inv
    have := hle _ _ h; rw [hr'] at this; cases this
    exact .map h
  | func h1 h2 _ _ ih3 ih4 =>
    intro y' h'
    obtain ⟨a', c', rfl, ha, hc⟩ := h'.func_inv
    obtain ⟨ha1, ha2⟩ := lrel_arr.1 ha
    obtain ⟨hc1, hc2⟩ := lrel_arr.1 hc
    exact .func ha1 hc1 (fun i hi hi' => ih3 i hi (h1 ▸ hi) (ha2 i hi hi')) (fun i hi hi' => ih4 i hi (h2 ▸ hi) (hc2 i hi hi'))
  | iface _ ih =>
    intro y' h'
    obtain ⟨u', rfl, hu⟩ := h'.iface_inv
    exact .iface (ih hu)
  | agg h1 _ ih =>
    intro y' h'
    obtain ⟨a', rfl, ha⟩ := h'.agg_inv
    obtain ⟨ha1, ha2⟩ := lrel_arr.1 ha
    exact .agg ha1 fun i hi hi' => ih i hi (h1 ▸ hi) (ha2 i hi hi')
  | tuple h1 _ ih =>
    intro y' h'
    obtain ⟨a', rfl, ha⟩ := h'.tuple_inv
    obtain ⟨ha1, ha2⟩ := lrel_arr.1 ha
    exact .tuple ha1 fun i hi hi' => ih i hi (h1 ▸ hi) (ha2 i hi hi')

theorem entries_back {β β' : Map} (hle : Map.le β β') : ∀ {es : List MapEntry} {l l' : List MapEntry}, All2 (ERel β) es l → All2 (ERel β') es l' → All2 (ERel β) es l' := by
  intro es
  induction es with
  | nil => intro l l' _ h'; cases h'; exact .nil
  | cons e es ih =>
    intro l l' h h'
    cases h with
    | cons h1 ht =>
      cases h' with
      | cons h2 ht' => exact .cons ⟨h2.1, h2.2.1, h1.2.2.1.back hle h2.2.2.1, h2.2.2.2⟩ (ih ht ht')

theorem sim_back {β β' : Map} {s s' : St} {w w' : World} (hs : Sim β s.heap.get w) (hws : WFs s) (hk : KeptAll s s') (hs' : Sim β' s'.heap.get w') (hle : Map.le β β') : Sim β s.heap.get w' where
  obj := by
    intro id r o hb ho
    have hid : id < s.next := Nat.lt_of_not_le fun h => by rw [hws id h] at ho; cases ho
    have h1 := hs'.obj id r o (hle id r hb) (by rw [hk id hid]; exact ho)
    have h0 := hs.obj id r _ hb ho
    cases hq : w'.heap[r.blk]? with
    | none => rw [hq] at h1; exact absurd rfl h1.ne_none
    | some q =>
      cases hq0 : w.heap[r.blk]? with
      | none => rw [hq0] at h0; exact absurd rfl h0.ne_none
      | some q0 =>
        rw [hq] at h1
        rw [hq0] at h0
        cases o with
        | cells c t sz ro =>
          cases q <;> try exact h1.elim
          cases q0 <;> try exact h0.elim
          obtain ⟨a1, a2, a3, a4, a5, a6, a7⟩ := h1
          obtain ⟨b1, b2, b3, b4, b5, b6, b7⟩ := h0
          exact ⟨a1, a2, a3, a4, a5, fun i hi => let ⟨y, hy, hv⟩ := a6 i hi; let ⟨y0, hy0, hv0⟩ := b6 i hi; ⟨y, hy, hv0.back hle hv⟩, a7⟩
        | map es clock =>
          cases q <;> try exact h1.elim
          cases q0 <;> try exact h0.elim
          exact ⟨h1.1, entries_back hle h0.2 h1.2⟩
        | iter s p =>
          cases q <;> try exact h1.elim
          exact h1
        | glob b k => exact h1
  inj := hs.inj
  tot := hs.tot

theorem gc_ok {P : Program} {f : FuncId} {args : List Value} {s : St} {r : Value × St} (g : Nat) (hws : WFs s) (h : CallOK P f args s r.1 r.2) : CallOK P f args s (gcR g s r).1 (gcR g s r).2 := by
  obtain ⟨hnx, h⟩ := h
  rcases gcR_cases g s r with hq | ⟨hfl, hk, hq⟩
  · rw [hq]; exact ⟨hnx, h⟩
  rw [hq]
  refine ⟨hnx, fun β w args' hs hfr hargs => (h β w args' hs hfr hargs).mono ?_⟩
  rintro e w' ⟨v', β', rfl, hv, hs', hst⟩
  refine ⟨v', β, rfl, ?_, sim_back (s := s) hs hws hk hs' hst.le, ⟨Map.le_refl _, hnx, fun id r h1 h2 => (by rw [h1] at h2; cases h2), hst.frame, hst.size, fun k hk _ => hk, fun id r o h1 h2 _ => ⟨h1, h2⟩, hst.os, hst.tape, hst.output⟩⟩
  rw [flat_rel hfl hv]; exact flat_self _ hfl

theorem gc_wf {s : St} {r : Value × St} (g : Nat) (hn : s.next ≤ r.2.next) (hws : WFs s) (h : WFs r.2) : WFs (gcR g s r).2 := by
  rcases gcR_cases g s r with hq | ⟨_, _, hq⟩
  · rw [hq]; exact h
  · rw [hq]; exact fun id hid => hws id (Nat.le_trans hn hid)

theorem call_tbl {tbl : FuncId → Option AFun} {ov : CallSem} {k : Nat} {f : FuncId} {fn : AFun} (hf : tbl f = some fn) {args : List Value} {s s' : St} {v : Value} (h : call tbl ov (k + 1) f args s = some (v, s')) :
    ∃ r, evFun (call tbl ov k) k fn args s = some r ∧ gcR fn.gc s r = (v, s') := by
  simp only [call, hf, Option.map_eq_some_iff] at h
  exact h

theorem call_good {P : Program} {tbl : FuncId → Option AFun} {ov : CallSem} (h : TableOK P tbl ov) : ∀ k, GoodCalls P (call tbl ov k) ∧ GoodWF (call tbl ov k) := by
  intro k
  induction k with
  | zero => exact ⟨fun f args s v s' _ hq => by simp [call] at hq, fun f args s v s' hq _ => by simp [call] at hq⟩
  | succ k ih =>
    refine ⟨fun f args s v s' hws hq => ?_, fun f args s v s' hq hws => ?_⟩
    · cases hfn : tbl f with
      | some fn =>
        obtain ⟨r, he, hr⟩ := call_tbl hfn hq
        obtain ⟨h1, h2⟩ := fun_sound ih.1 ih.2 h.mixed (h.funs f fn hfn) hws he
        have := gc_ok fn.gc hws h2
        rw [hr] at this
        exact .inl ⟨h1, this⟩
      | none =>
        simp only [call, hfn] at hq
        exact h.good f args s v s' hws hq
    · cases hfn : tbl f with
      | some fn =>
        obtain ⟨r, he, hr⟩ := call_tbl hfn hq
        obtain ⟨h1, h2⟩ := fun_sound ih.1 ih.2 h.mixed (h.funs f fn hfn) hws he
        have := gc_wf fn.gc h2.1 hws (fun_wf (P := P) ih.2 hws he)
        rw [hr] at this
        exact this
      | none =>
        simp only [call, hfn] at hq
        exact h.wf f args s v s' hq hws

theorem call_ok {P : Program} {tbl : FuncId → Option AFun} {ov : CallSem} (h : TableOK P tbl ov) {k : Nat} {f : FuncId} {fn : AFun} (hf : tbl f = some fn) {args : List Value} {s s' : St} {v : Value} (hws : WFs s) (he : call tbl ov (k + 1) f args s = some (v, s')) :
    Callable P f ∧ CallOK P f args s v s' := by
  obtain ⟨r, he, hr⟩ := call_tbl hf he
  obtain ⟨h1, h2⟩ := fun_sound (call_good h k).1 (call_good h k).2 h.mixed (h.funs f fn hf) hws he
  have := gc_ok fn.gc hws h2
  rw [hr] at this
  exact ⟨h1, this⟩

end Go.Abs
