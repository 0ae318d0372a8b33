/-
  Code: the compiler, and that the evaluator is sound.
-/
import Derived.Test.YtoiedaegnhifpaaDoorA18
import Derived.LoopN
import Derived.Calls
set_option linter.unusedVariables false
set_option linter.unusedSimpArgs false
namespace Go.Abs
open Go

def compCode (P : Program) (N : Nat) : Code → List (List Nat) → List Draw → Option (ACode × List (List Nat) × List Draw)
  | .skip, ls, ds => some (.skip, ls, ds)
  | .region _ ops draw, ls, ds =>
    (mapList (compOper P N ops) ops.toList).bind fun al =>
      if draw then
        if drawOk ops.toList al ⟨[], [], []⟩ then some (.region al none, ls, ds)
        else match ds with
          | [] => none
          | d :: ds => if drawOk ops.toList al d then some (.region al (some d), ls, ds) else none
      else some (.region al none, ls, ds)
  | .seq a b, ls, ds => (compCode P N a ls ds).bind fun p => (compCode P N b p.2.1 p.2.2).map fun q => (.seq p.1 q.1, q.2.1, q.2.2)
  | .cond c a b, ls, ds =>
    if okConst c then (compCode P N a ls ds).bind fun p => (compCode P N b p.2.1 p.2.2).map fun q => (.cond c p.1 q.1, q.2.1, q.2.2)
    else none
  | .block id body, ls, ds => (compCode P N body ls ds).map fun p => (.block id p.1, p.2.1, p.2.2)
  | .loop body, ls, ds =>
    match ls with
    | [] => none
    | live :: ls => (compCode P N body ls ds).map fun p => (.loop live p.1, p.2.1, p.2.2)
  | .exit id, ls, ds => some (.exit id, ls, ds)
  | .ret, ls, ds => some (.ret, ls, ds)
  | _, _, _ => none

theorem mapList_map {α β : Type} {f : α → Option β} : ∀ {l : List α} {l' : List β}, mapList f l = some l' → l.map f = l'.map some := by
  intro l
  induction l with
  | nil => intro l' h; simp only [mapList, Option.some.injEq] at h; subst h; rfl
  | cons x r ih =>
    intro l' h
    simp only [mapList, Option.bind_eq_some_iff, Option.map_eq_some_iff] at h
    obtain ⟨y, hy, r', hr, rfl⟩ := h
    simp only [List.map_cons, hy, ih hr]

def AExit.out : AExit → Exit
  | .normal => .normal
  | .exit id => .exit id
  | .ret => .ret

theorem evDraw_evOps {cs : CallSem} {al : List AOper} {d : Draw} {e : Env} {s : St} {q : Env × St} (h : evDraw cs al d e s = some q) : evOps cs al e s = some q := by
  have key : ∀ (al : List AOper) (e : Env) (s : St) (fs : List Foot) (q : Env × St), evOpsD cs al e s = some (fs, q) → evOps cs al e s = some q := by
    intro al
    induction al with
    | nil => intro e s fs q h; simp only [evOpsD, Option.some.injEq, Prod.mk.injEq] at h; simp only [evOps, ← h.2]
    | cons o al ih =>
      intro e s fs q h
      simp only [evOpsD, Option.bind_eq_some_iff] at h
      obtain ⟨b, hb, h⟩ := h
      simp only [evOps, hb, Option.bind_some]
      cases b with
      | true =>
        simp only [if_true, Option.bind_eq_some_iff, Option.map_eq_some_iff] at h ⊢
        obtain ⟨av, hav, p, hp, q', hq', hf⟩ := h
        simp only [Prod.mk.injEq] at hf
        exact ⟨p, hp, by rw [← hf.2]; exact ih _ _ q'.1 q'.2 hq'⟩
      | false =>
        simp only [Bool.false_eq_true, if_false, Option.map_eq_some_iff] at h ⊢
        obtain ⟨q', hq', hf⟩ := h
        simp only [Prod.mk.injEq] at hf
        rw [← hf.2]; exact ih _ _ q'.1 q'.2 hq'
  obtain ⟨fs, hq, _, _⟩ := evDraw_spec h
  exact key _ _ _ fs _ hq

theorem evOps_evDraw {cs : CallSem} {al : List AOper} {e : Env} {s : St} {q : Env × St} (h : evOps cs al e s = some q) : evDraw cs al ⟨[], [], []⟩ e s = some q := by
  have key : ∀ (al : List AOper) (e : Env) (s : St) (q : Env × St), evOps cs al e s = some q → ∃ fs, evOpsD cs al e s = some (fs, q) := by
    intro al
    induction al with
    | nil => intro e s q h; simp only [evOps, Option.some.injEq] at h; subst h; exact ⟨[], rfl⟩
    | cons o al ih =>
      intro e s q h
      simp only [evOps, Option.bind_eq_some_iff] at h
      obtain ⟨b, hb, h⟩ := h
      simp only [evOpsD, hb, Option.bind_some]
      cases b with
      | true =>
        simp only [if_true, Option.bind_eq_some_iff] at h ⊢
        obtain ⟨p, hp, h⟩ := h
        obtain ⟨fs, hfs⟩ := ih _ _ _ h
        have hev := hp
        unfold evOper at hp
        simp only [Option.bind_eq_some_iff] at hp
        obtain ⟨av, hav, _⟩ := hp
        exact ⟨_, av, hav, p, hev, by rw [hfs]; rfl⟩
      | false =>
        simp only [Bool.false_eq_true, if_false] at h ⊢
        obtain ⟨fs, hfs⟩ := ih _ _ _ h
        exact ⟨_, by rw [hfs]; rfl⟩
  obtain ⟨fs, hfs⟩ := key _ _ _ _ h
  exact evDraw_mk hfs (by simp) (by simp)

theorem evOps_wf {P : Program} {cs : CallSem} (hwf : GoodWF cs) : ∀ {al : List AOper} {e : Env} {s : St} {q : Env × St}, evOps cs al e s = some q → WFs s → WFs q.2 := by
  intro al
  induction al with
  | nil => intro e s q h hs; simp only [evOps, Option.some.injEq] at h; subst h; exact hs
  | cons o al ih =>
    intro e s q h hs
    simp only [evOps, Option.bind_eq_some_iff] at h
    obtain ⟨b, hb, h⟩ := h
    cases b with
    | true =>
      simp only [if_true, Option.bind_eq_some_iff] at h
      obtain ⟨p, hp, h⟩ := h
      have hev := hp
      unfold evOper at hp
      simp only [Option.bind_eq_some_iff] at hp
      obtain ⟨av, hav, _⟩ := hp
      exact ih h (wf_step (P := P) hwf hav hev hs)
    | false =>
      simp only [Bool.false_eq_true, if_false] at h
      exact ih h hs

theorem evOps_next {P : Program} {N : Nat} {cs : CallSem} (hg : GoodCalls P cs) (hwf : GoodWF cs) {ops : Array Oper} : ∀ {l : List Oper} {al : List AOper}, l.map (compOper P N ops) = al.map some → ∀ {e e' : Env} {s s' : St}, WFs s → evOps cs al e s = some (e', s') → s.next ≤ s'.next := by
  intro l
  induction l with
  | nil =>
    intro al h e e' s s' hws he
    cases al with
    | nil => simp only [evOps, Option.some.injEq, Prod.mk.injEq] at he; rw [he.2]; exact Nat.le_refl _
    | cons _ _ => simp at h
  | cons o l ih =>
    intro al h e e' s s' hws he
    cases al with
    | nil => simp at h
    | cons ao al =>
      simp only [List.map_cons, List.cons.injEq] at h
      obtain ⟨hc, ht⟩ := h
      simp only [evOps, Option.bind_eq_some_iff] at he
      obtain ⟨b, hb, he⟩ := he
      cases b with
      | false => simp only [Bool.false_eq_true, if_false] at he; exact ih ht hws he
      | true =>
        simp only [if_true, Option.bind_eq_some_iff] at he
        obtain ⟨p, hp, he⟩ := he
        have hev := hp
        unfold evOper at hp
        simp only [Option.bind_eq_some_iff] at hp
        obtain ⟨av, hav, hp⟩ := hp
        refine Nat.le_trans ?_ (ih ht (wf_step (P := P) hwf hav hev hws) he)
        split at hp
        · simp only [Option.bind_eq_some_iff] at hp
          obtain ⟨q, _, hq⟩ := hp
          rcases hg _ _ _ _ _ hws hq with ⟨_, h, _⟩ | ⟨h, _⟩ <;> exact h
        · simp only [Option.map_eq_some_iff] at hp
          obtain ⟨res, hres, rfl⟩ := hp
          exact evP_next hres

theorem seq_region {P : Program} {N : Nat} {cs : CallSem} (hg : GoodCalls P cs) (hwf : GoodWF cs) {ops : Array Oper} {Q : Exit → Act → World → Prop} : ∀ {l : List Oper} {al : List AOper}, l.map (compOper P N ops) = al.map some →
    ∀ {β : Map} {e e' : Env} {a : Act} {s s' : St} {w : World}, EnvRel β e a → a.tmps.size = N → Sim β s.heap.get w → WFs s → Fresh β s.next s'.next → evOps cs al e s = some (e', s') →
    After β s.heap.get w s.next N e' s'.heap.get s'.next (Q .normal) → wpList P ops Q l a w := by
  intro l
  induction l with
  | nil =>
    intro al h β e e' a s s' w hr hN hs hws hf he hK
    cases al with
    | cons _ _ => simp at h
    | nil =>
      simp only [evOps, Option.some.injEq, Prod.mk.injEq] at he
      obtain ⟨rfl, rfl⟩ := he
      exact hK a w β hr hN hs (Step.refl _ _ _ _)
  | cons o l ih =>
    intro al h β e e' a s s' w hr hN hs hws hf he hK
    cases al with
    | nil => simp at h
    | cons ao al =>
      simp only [List.map_cons, List.cons.injEq] at h
      obtain ⟨hc, ht⟩ := h
      have hcs := compOper_spec hc
      simp only [evOps, Option.bind_eq_some_iff] at he
      obtain ⟨b, hb, he⟩ := he
      have hw := wanted_eq hc hr hb
      unfold wpList
      rw [hw]
      cases b with
      | false =>
        simp only [Bool.false_eq_true, if_false] at he ⊢
        refine ih ht (hr.put (v := undefV) (v' := undef) (d := o.dst) (fun t ht => ?_) (undefV_rel β)) ?_ hs hws hf ?_ hK
        · rw [hN]; exact hcs.2.2.2.1 t ht
        · cases o.dst <;> simp [Act.put, hN]
        · rw [← hcs.2.2.1]; exact he
      | true =>
        simp only [if_true, Option.bind_eq_some_iff] at he ⊢
        obtain ⟨p, hp, he⟩ := he
        obtain ⟨v, s1⟩ := p
        have hws1 : WFs s1 := by
          have hev := hp
          unfold evOper at hp
          simp only [Option.bind_eq_some_iff] at hp
          obtain ⟨av, hav, _⟩ := hp
          exact wf_step (P := P) hwf hav hev hws
        have hn2 := evOps_next hg hwf ht hws1 he
        refine .inl (oper_does hg hc hr hs hws hp (hf.left hn2) _ _ ?_)
        intro v' w1 β1 hv hs1 hst
        refine ih (e' := e') (s' := s') ht ((hr.mono hst.le).put (d := o.dst) (fun t ht => ?_) hv) ?_ hs1 hws1 (hf.step hst) ?_ ?_
        · rw [hN]; exact hcs.2.2.2.1 t ht
        · cases o.dst <;> simp [Act.put, hN]
        · rw [← hcs.2.2.1]; exact he
        · intro a' w' β' h1 h2 h3 h4
          exact hK a' w' β' h1 h2 h3 (hst.trans h4)

theorem iter_next {f : Env → St → Option (AExit × Env × St)} {live : List Nat} (hf : ∀ e s q, WFs s → f e s = some q → s.next ≤ q.2.2.next) (hfw : ∀ e s q, f e s = some q → WFs s → WFs q.2.2) : ∀ {k : Nat} {e : Env} {s : St} {q}, WFs s → iter f live k e s = some q → s.next ≤ q.2.2.next := by
  intro k
  induction k with
  | zero => intro e s q hs h; simp [iter] at h
  | succ k ih =>
    intro e s q hs h
    simp only [iter, Option.bind_eq_some_iff] at h
    obtain ⟨p, hp, h⟩ := h
    have h1 := hf _ _ _ hs hp
    have hw1 := hfw _ _ _ hp hs
    obtain ⟨x, e1, s1⟩ := p
    cases x with
    | normal => exact Nat.le_trans h1 (ih hw1 h)
    | exit id => simp only [Option.some.injEq] at h; subst h; exact h1
    | ret => simp only [Option.some.injEq] at h; subst h; exact h1

theorem iter_wf {f : Env → St → Option (AExit × Env × St)} {live : List Nat} (hf : ∀ e s q, f e s = some q → WFs s → WFs q.2.2) : ∀ {k : Nat} {e : Env} {s : St} {q}, iter f live k e s = some q → WFs s → WFs q.2.2 := by
  intro k
  induction k with
  | zero => intro e s q h; simp [iter] at h
  | succ k ih =>
    intro e s q h hs
    simp only [iter, Option.bind_eq_some_iff] at h
    obtain ⟨p, hp, h⟩ := h
    have h1 := hf _ _ _ hp hs
    obtain ⟨x, e1, s1⟩ := p
    cases x with
    | normal => exact ih h h1
    | exit id => simp only [Option.some.injEq] at h; subst h; exact h1
    | ret => simp only [Option.some.injEq] at h; subst h; exact h1

theorem evCode_wf {P : Program} {cs : CallSem} (hwf : GoodWF cs) {n : Nat} : ∀ {c : ACode} {e : Env} {s : St} {q}, evCode cs n c e s = some q → WFs s → WFs q.2.2 := by
  intro c
  induction c with
  | skip => intro e s q h hs; simp only [evCode, Option.some.injEq] at h; subst h; exact hs
  | region ops d =>
    intro e s q h hs
    cases d with
    | none =>
      simp only [evCode, Option.map_eq_some_iff] at h
      obtain ⟨p, hp, rfl⟩ := h
      exact evOps_wf (P := P) hwf hp hs
    | some d =>
      simp only [evCode, Option.map_eq_some_iff] at h
      obtain ⟨p, hp, rfl⟩ := h
      exact evOps_wf (P := P) hwf (evDraw_evOps hp) hs
  | seq a b iha ihb =>
    intro e s q h hs
    simp only [evCode, Option.bind_eq_some_iff] at h
    obtain ⟨p, hp, h⟩ := h
    have h1 := iha hp hs
    obtain ⟨x, e1, s1⟩ := p
    cases x with
    | normal => exact ihb h h1
    | exit id => simp only [Option.some.injEq] at h; subst h; exact h1
    | ret => simp only [Option.some.injEq] at h; subst h; exact h1
  | cond c a b iha ihb =>
    intro e s q h hs
    simp only [evCode] at h
    split at h
    · split at h
      · exact iha h hs
      · exact ihb h hs
    · cases h
  | block id body ih =>
    intro e s q h hs
    simp only [evCode, Option.map_eq_some_iff] at h
    obtain ⟨p, hp, rfl⟩ := h
    have h1 := ih hp hs
    exact h1
  | loop live body ih =>
    intro e s q h hs
    simp only [evCode] at h
    exact iter_wf (fun e s q h hs => ih h hs) h hs
  | exit id => intro e s q h hs; simp only [evCode, Option.some.injEq] at h; subst h; exact hs
  | ret => intro e s q h hs; simp only [evCode, Option.some.injEq] at h; subst h; exact hs

inductive Comp (P : Program) (N : Nat) : Code → ACode → Prop where
  | skip : Comp P N .skip .skip
  | region {id : Nat} {l : List Oper} {al : List AOper} (h : l.map (compOper P N l.toArray) = al.map some) : Comp P N (.region id l.toArray false) (.region al none)
  | draw0 {id : Nat} {l : List Oper} {al : List AOper} (h : l.map (compOper P N l.toArray) = al.map some) (hd : drawOk l al ⟨[], [], []⟩ = true) : Comp P N (.region id l.toArray true) (.region al none)
  | draw {id : Nat} {l : List Oper} {al : List AOper} {d : Draw} (h : l.map (compOper P N l.toArray) = al.map some) (hd : drawOk l al d = true) : Comp P N (.region id l.toArray true) (.region al (some d))
  | seq {a b : Code} {a' b' : ACode} (ha : Comp P N a a') (hb : Comp P N b b') : Comp P N (.seq a b) (.seq a' b')
  | cond {c : Operand} {a b : Code} {a' b' : ACode} (hc : okConst c = true) (ha : Comp P N a a') (hb : Comp P N b b') : Comp P N (.cond c a b) (.cond c a' b')
  | block {id : Nat} {a : Code} {a' : ACode} (ha : Comp P N a a') : Comp P N (.block id a) (.block id a')
  | loop {a : Code} {a' : ACode} {live : List Nat} (ha : Comp P N a a') : Comp P N (.loop a) (.loop live a')
  | exit {id : Nat} : Comp P N (.exit id) (.exit id)
  | ret : Comp P N .ret .ret

theorem compCode_comp {P : Program} {N : Nat} : ∀ {c : Code} {ls ds} {q}, compCode P N c ls ds = some q → Comp P N c q.1 := by
  intro c
  induction c with
  | skip => intro ls ds q h; simp only [compCode, Option.some.injEq] at h; subst h; exact .skip
  | region id ops dr =>
    intro ls ds q h
    obtain ⟨l⟩ := ops
    simp only [compCode, Option.bind_eq_some_iff] at h
    obtain ⟨al, hal, h⟩ := h
    have hm := mapList_map hal
    cases dr with
    | false =>
      simp only [Bool.false_eq_true, if_false, Option.some.injEq] at h
      subst h
      exact .region hm
    | true =>
      simp only [if_true] at h
      split at h
      · rename_i hd
        simp only [Option.some.injEq] at h
        subst h
        exact .draw0 hm hd
      · split at h
        · cases h
        · split at h
          · rename_i hd
            simp only [Option.some.injEq] at h
            subst h
            exact .draw hm hd
          · cases h
  | seq a b iha ihb =>
    intro ls ds q h
    simp only [compCode, Option.bind_eq_some_iff, Option.map_eq_some_iff] at h
    obtain ⟨p, hp, r, hr, rfl⟩ := h
    exact .seq (iha hp) (ihb hr)
  | cond c a b iha ihb =>
    intro ls ds q h
    simp only [compCode] at h
    split at h
    · rename_i hc
      simp only [Option.bind_eq_some_iff, Option.map_eq_some_iff] at h
      obtain ⟨p, hp, r, hr, rfl⟩ := h
      exact .cond hc (iha hp) (ihb hr)
    · cases h
  | block id body ih =>
    intro ls ds q h
    simp only [compCode, Option.map_eq_some_iff] at h
    obtain ⟨p, hp, rfl⟩ := h
    exact .block (ih hp)
  | loop body ih =>
    intro ls ds q h
    simp only [compCode] at h
    split at h
    · cases h
    · simp only [Option.map_eq_some_iff] at h
      obtain ⟨p, hp, rfl⟩ := h
      exact .loop (ih hp)
  | exit id => intro ls ds q h; simp only [compCode, Option.some.injEq] at h; subst h; exact .exit
  | ret => intro ls ds q h; simp only [compCode, Option.some.injEq] at h; subst h; exact .ret
  | _ => intro ls ds q h; simp only [compCode] at h; cases h

theorem evCode_next {P : Program} {N : Nat} {cs : CallSem} (hg : GoodCalls P cs) (hwf : GoodWF cs) {n : Nat} {c : Code} {ac : ACode} (hc : Comp P N c ac) : ∀ {e : Env} {s : St} {q}, WFs s → evCode cs n ac e s = some q → s.next ≤ q.2.2.next := by
  induction hc with
  | skip => intro e s q hs h; simp only [evCode, Option.some.injEq] at h; subst h; exact Nat.le_refl _
  | region hm =>
    intro e s q hs h
    simp only [evCode, Option.map_eq_some_iff] at h
    obtain ⟨p, hp, rfl⟩ := h
    exact evOps_next hg hwf hm hs (e' := p.1) (s' := p.2) hp
  | draw0 hm _ =>
    intro e s q hs h
    simp only [evCode, Option.map_eq_some_iff] at h
    obtain ⟨p, hp, rfl⟩ := h
    exact evOps_next hg hwf hm hs (e' := p.1) (s' := p.2) hp
  | draw hm _ =>
    intro e s q hs h
    simp only [evCode, Option.map_eq_some_iff] at h
    obtain ⟨p, hp, rfl⟩ := h
    exact evOps_next hg hwf hm hs (e' := p.1) (s' := p.2) (evDraw_evOps hp)
  | seq _ _ iha ihb =>
    intro e s q hs h
    simp only [evCode, Option.bind_eq_some_iff] at h
    obtain ⟨p, hp, h⟩ := h
    have h1 := iha hs hp
    obtain ⟨x, e1, s1⟩ := p
    cases x with
    | normal => exact Nat.le_trans h1 (ihb (evCode_wf (P := P) hwf hp hs) h)
    | exit id => simp only [Option.some.injEq] at h; subst h; exact h1
    | ret => simp only [Option.some.injEq] at h; subst h; exact h1
  | cond _ _ _ iha ihb =>
    intro e s q hs h
    simp only [evCode] at h
    split at h
    · split at h
      · exact iha hs h
      · exact ihb hs h
    · cases h
  | block _ ih =>
    intro e s q hs h
    simp only [evCode, Option.map_eq_some_iff] at h
    obtain ⟨p, hp, rfl⟩ := h
    have h1 := ih hs hp
    exact h1
  | loop _ ih =>
    intro e s q hs h
    simp only [evCode] at h
    exact iter_next (fun e s q hs h => ih hs h) (fun e s q h hs => evCode_wf (P := P) hwf h hs) hs h
  | exit => intro e s q hs h; simp only [evCode, Option.some.injEq] at h; subst h; exact Nat.le_refl _
  | ret => intro e s q hs h; simp only [evCode, Option.some.injEq] at h; subst h; exact Nat.le_refl _

theorem After.mono {β : Map} {h : HF} {w : World} {n N : Nat} {e' : Env} {h' : HF} {n' : Nat} {K K' : Act → World → Prop} (ha : After β h w n N e' h' n' K) (hk : ∀ a w, K a w → K' a w) : After β h w n N e' h' n' K' :=
  fun a' w' β' h1 h2 h3 h4 => hk _ _ (ha a' w' β' h1 h2 h3 h4)

theorem After.step {β β' : Map} {h h1 : HF} {w w1 : World} {n n1 N : Nat} {e' : Env} {h' : HF} {n' : Nat} {K : Act → World → Prop} (ha : After β h w n N e' h' n' K) (hs : Step β h w β' h1 w1 n n1) : After β' h1 w1 n1 N e' h' n' K :=
  fun a' w' β'' q1 q2 q3 q4 => ha a' w' β'' q1 q2 q3 (hs.trans q4)

theorem EnvRel.restrict {β : Map} {e : Env} {a : Act} (h : EnvRel β e a) (live : List Nat) : EnvRel β (restrict live e) a := by
  refine ⟨fun t v hv => h.rel t v ?_, h.defers⟩
  by_cases hm : t ∈ live
  · rw [← hv, restrict_get, if_pos hm]
  · rw [restrict_get, if_neg hm] at hv; cases hv

theorem code_sound {P : Program} {N : Nat} {cs : CallSem} (hg : GoodCalls P cs) (hwf : GoodWF cs) (hm : P.follows .mixedOrders = true) {n : Nat} {c : Code} {ac : ACode} (hc : Comp P N c ac) :
    ∀ {Q : Exit → Act → World → Prop} {β : Map} {e e' : Env} {a : Act} {s s' : St} {w : World} {x : AExit}, EnvRel β e a → a.tmps.size = N → Sim β s.heap.get w → Fresh β s.next s'.next → WFs s → evCode cs n ac e s = some (x, e', s') →
      After β s.heap.get w s.next N e' s'.heap.get s'.next (Q x.out) → c.wp P Q a w := by
  induction hc with
  | skip =>
    intro Q β e e' a s s' w x hr hN hs hf hw he hK
    simp only [evCode, Option.some.injEq, Prod.mk.injEq] at he
    obtain ⟨rfl, rfl, rfl⟩ := he
    exact wp_skip (hK a w β hr hN hs (Step.refl _ _ _ _))
  | region hl =>
    intro Q β e e' a s s' w x hr hN hs hf hw he hK
    simp only [evCode, Option.map_eq_some_iff, Prod.mk.injEq] at he
    obtain ⟨p, hp, rfl, rfl, rfl⟩ := he
    exact wp_region_lit (seq_region hg hwf hl hr hN hs hw hf hp hK)
  | draw0 hl hd =>
    intro Q β e e' a s s' w x hr hN hs hf hw he hK
    simp only [evCode, Option.map_eq_some_iff, Prod.mk.injEq] at he
    obtain ⟨p, hp, rfl, rfl, rfl⟩ := he
    exact draw_region hg hwf hm hl hd hr hN hs hf hw (evOps_evDraw hp) hK
  | draw hl hd =>
    intro Q β e e' a s s' w x hr hN hs hf hw he hK
    simp only [evCode, Option.map_eq_some_iff, Prod.mk.injEq] at he
    obtain ⟨p, hp, rfl, rfl, rfl⟩ := he
    exact draw_region hg hwf hm hl hd hr hN hs hf hw hp hK
  | seq ha hb iha ihb =>
    intro Q β e e' a s s' w x hr hN hs hf hw he hK
    simp only [evCode, Option.bind_eq_some_iff] at he
    obtain ⟨⟨y, e1, s1⟩, hp, he⟩ := he
    have n1 := evCode_next hg hwf ha hw hp
    refine wp_seq ?_
    cases y with
    | normal =>
      have n2 := evCode_next hg hwf hb (evCode_wf (P := P) hwf hp hw) he
      refine iha hr hN hs (hf.left n2) hw hp ?_
      intro a1 w1 β1 hr1 hN1 hs1 hst
      exact ihb hr1 hN1 hs1 (hf.step hst) (evCode_wf (P := P) hwf hp hw) he (hK.step hst)
    | exit id =>
      simp only [Option.some.injEq, Prod.mk.injEq] at he
      obtain ⟨rfl, rfl, rfl⟩ := he
      exact iha hr hN hs hf hw hp hK
    | ret =>
      simp only [Option.some.injEq, Prod.mk.injEq] at he
      obtain ⟨rfl, rfl, rfl⟩ := he
      exact iha hr hN hs hf hw hp hK
  | cond hcc ha hb iha ihb =>
    intro Q β e e' a s s' w x hr hN hs hf hw he hK
    simp only [evCode] at he
    split at he
    · rename_i t hrd
      have hv := hr.rd (fun c hc => by subst hc; exact hcc) hrd
      have hb' := hv.bool_inv
      refine wp_cond hb' ?_
      cases t with
      | true => exact iha hr hN hs hf hw he hK
      | false => exact ihb hr hN hs hf hw he hK
    · cases he
  | block ha ih =>
    intro Q β e e' a s s' w x hr hN hs hf hw he hK
    rename_i id _ _
    simp only [evCode, Option.map_eq_some_iff, Prod.mk.injEq] at he
    obtain ⟨⟨y, e1, s1⟩, hp, hx, rfl, rfl⟩ := he
    refine wp_block (ih hr hN hs hf hw hp ?_)
    intro a1 w1 β1 hr1 hN1 hs1 hst
    have h := hK a1 w1 β1 hr1 hN1 hs1 hst
    simp only at hx
    cases y with
    | normal => rw [if_neg (by simp)] at hx; subst hx; exact h
    | exit id' =>
      by_cases hid : id' = id
      · subst hid; rw [if_pos rfl] at hx; subst hx
        show (if _ then _ else _)
        rw [if_pos rfl]; exact h
      · rw [if_neg (by simpa using hid)] at hx; subst hx
        show (if _ then _ else _)
        rw [if_neg hid]; exact h
    | ret => rw [if_neg (by simp)] at hx; subst hx; exact h
  | @loop c0 a0 live ha ih =>
    intro Q β e e' a s s' w x hr hN hs hf hw he hK
    simp only [evCode] at he
    refine wp_loop_rounds n ?_
    have key : ∀ k : Nat, ∀ {β : Map} {e e' : Env} {a : Act} {s s' : St} {w : World} {x : AExit}, EnvRel β e a → a.tmps.size = N → Sim β s.heap.get w → Fresh β s.next s'.next → WFs s → iter (evCode cs n a0) live k e s = some (x, e', s') →
      After β s.heap.get w s.next N e' s'.heap.get s'.next (Q x.out) → Code.rounds P c0 Q k a w := by
      intro k
      induction k with
      | zero => intro β e e' a s s' w x hr hN hs hf hw he hK; simp [iter] at he
      | succ k ihk =>
        intro β e e' a s s' w x hr hN hs hf hw he hK
        simp only [iter, Option.bind_eq_some_iff] at he
        obtain ⟨⟨y, e1, s1⟩, hp, he⟩ := he
        rw [rounds_succ]
        cases y with
        | normal =>
          have n2 := iter_next (fun e s q hs h => evCode_next hg hwf ha hs h) (fun e s q h hs => evCode_wf (P := P) hwf h hs) (evCode_wf (P := P) hwf hp hw) he
          refine ih (hr.restrict live) hN hs (hf.left n2) hw hp ?_
          intro a1 w1 β1 hr1 hN1 hs1 hst
          exact ihk hr1 hN1 hs1 (hf.step hst) (evCode_wf (P := P) hwf hp hw) he (hK.step hst)
        | exit id =>
          simp only [Option.some.injEq, Prod.mk.injEq] at he
          obtain ⟨rfl, rfl, rfl⟩ := he
          exact ih (hr.restrict live) hN hs hf hw hp hK
        | ret =>
          simp only [Option.some.injEq, Prod.mk.injEq] at he
          obtain ⟨rfl, rfl, rfl⟩ := he
          exact ih (hr.restrict live) hN hs hf hw hp hK
    exact key n hr hN hs hf hw he hK
  | exit =>
    intro Q β e e' a s s' w x hr hN hs hf hw he hK
    simp only [evCode, Option.some.injEq, Prod.mk.injEq] at he
    obtain ⟨rfl, rfl, rfl⟩ := he
    exact wp_exit (hK a w β hr hN hs (Step.refl _ _ _ _))
  | ret =>
    intro Q β e e' a s s' w x hr hN hs hf hw he hK
    simp only [evCode, Option.some.injEq, Prod.mk.injEq] at he
    obtain ⟨rfl, rfl, rfl⟩ := he
    exact wp_ret (hK a w β hr hN hs (Step.refl _ _ _ _))

/-! ### Functions -/

def resKind (P : Program) : ResultVar → Option ResK
  | .tmp t => some (.tmp t)
  | .cell a t => (shapeT P t).map (.cell a)

def compRes (P : Program) (r : Array ResultVar) : Option (List ResK) := mapList (resKind P) r.toList

structure FunOK (P : Program) (f : FuncId) (fn : AFun) : Prop where
  ok : ∃ (F : Func) (c : Code), P.funcs[f]? = some F ∧ F.body = some c ∧ (F.name == "runtime.NumGoroutine") = false ∧ compRes P F.results = some fn.res ∧ fn.np ≤ F.ntmps ∧ Comp P F.ntmps c fn.body

theorem params_get {β : Map} : ∀ {k : Nat} {vs vs' : List Value} {t : Nat} {v : Value}, LRel β vs vs' → (params k vs).get t = some v → k ≤ t ∧ ∃ v', vs'[t - k]? = some v' ∧ VRel β v v' := by
  intro k vs
  induction vs generalizing k with
  | nil => intro vs' t v h hg; simp [params, Env.get] at hg
  | cons x vs ih =>
    intro vs' t v h hg
    cases h with
    | cons hx h =>
      rename_i y ys
      simp only [params, Env.get] at hg
      split at hg
      · rename_i he
        cases hg
        have : t = k := by simpa using he
        subst this
        exact ⟨Nat.le_refl _, y, by simp, hx⟩
      · obtain ⟨h1, v', h2, h3⟩ := ih h hg
        refine ⟨by omega, v', ?_, h3⟩
        have : t - k = (t - (k + 1)) + 1 := by omega
        rw [this, List.getElem?_cons_succ]; exact h2

end Go.Abs
