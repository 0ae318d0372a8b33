/-
  What has to hold ahead of a text, so that the evaluator comes to an end where Q holds.
-/
import Derived.Test.YtoiedaegnhifpaaDoorA20
set_option linter.unusedVariables false
set_option linter.unusedSimpArgs false
namespace Go.Abs
open Go

def Ev {α : Type} (F : Nat → Option α) (Q : α → Prop) : Prop := ∃ r, Q r ∧ ∃ K, ∀ k, K ≤ k → F k = some r

theorem Ev.mono {α : Type} {F : Nat → Option α} {Q R : α → Prop} (h : Ev F Q) (hr : ∀ r, Q r → R r) : Ev F R :=
  let ⟨r, q, K, hK⟩ := h; ⟨r, hr r q, K, hK⟩

theorem Ev.of_eq {α : Type} {F : Nat → Option α} {Q : α → Prop} {r : α} (h : ∀ k, F k = some r) (hq : Q r) : Ev F Q := ⟨r, hq, 0, fun k _ => h k⟩

theorem Ev.bind {α γ : Type} {F : Nat → Option α} {G : Nat → α → Option γ} {Q : γ → Prop} (h : Ev F fun a => Ev (fun k => G k a) Q) : Ev (fun k => (F k).bind (G k)) Q := by
  obtain ⟨a, ⟨r, hq, K2, h2⟩, K1, h1⟩ := h
  exact ⟨r, hq, max K1 K2, fun k hk => by
    show (F k).bind (G k) = some r
    rw [h1 k (by omega), Option.bind_some]; exact h2 k (by omega)⟩

theorem Ev.map {α γ : Type} {F : Nat → Option α} {g : α → γ} {Q : γ → Prop} (h : Ev F fun a => Q (g a)) : Ev (fun k => (F k).map g) Q := by
  obtain ⟨a, hq, K, h1⟩ := h
  exact ⟨g a, hq, K, fun k hk => by show (F k).map g = _; rw [h1 k hk, Option.map_some]⟩

def WCall (cs : Nat → CallSem) (f : FuncId) (args : List Value) (s : St) (Q : Value → St → Prop) : Prop := Ev (fun k => cs k f args s) fun r => Q r.1 r.2

theorem WCall.mono {cs : Nat → CallSem} {f : FuncId} {args : List Value} {s : St} {Q R : Value → St → Prop} (h : WCall cs f args s Q) (hr : ∀ v s', Q v s' → R v s') : WCall cs f args s R :=
  Ev.mono h fun r => hr r.1 r.2

def WP (g : Option Res) (h : Heap) (Q : Value → St → Prop) : Prop :=
  match g with
  | none => False
  | some res => Q res.val ⟨applyUpd h res.upd, res.next⟩

def WVals (cs : Nat → CallSem) (s : St) (Q : Value → St → Prop) : AOp Value → Prop
  | .call f args =>
    match callee f args with
    | none => False
    | some p => WCall cs p.1 p.2 s Q
  | a => WP (evP s.heap.get s.next a) s.heap Q

def WOp (cs : Nat → CallSem) (op : AOp Operand) (e : Env) (s : St) (Q : Value → St → Prop) : Prop :=
  match op.vals e.rd with
  | none => False
  | some a => WVals cs s Q a

def WOps (cs : Nat → CallSem) : List AOper → Env → St → (Env → St → Prop) → Prop
  | [], e, s, Q => Q e s
  | o :: r, e, s, Q =>
    match wantedA o e with
    | none => False
    | some true => WOp cs o.op e s fun v s' => WOps cs r (setE e o.dst v) s' Q
    | some false => WOps cs r (setE e o.dst undefV) s Q

def WDraw (cs : Nat → CallSem) : List AOper → List Foot → Env → St → (List Foot → Env → St → Prop) → Prop
  | [], fs, e, s, Q => Q fs e s
  | o :: r, fs, e, s, Q =>
    match wantedA o e with
    | none => False
    | some true =>
      match o.op.vals e.rd with
      | none => False
      | some a => WVals cs s (fun v s' => WDraw cs r (fs ++ [⟨(footOf a).1, (footOf a).2, s, s'⟩]) (setE e o.dst v) s' Q) a
    | some false => WDraw cs r (fs ++ [⟨[], [], s, s⟩]) (setE e o.dst undefV) s Q

def drawn (d : Draw) (fs : List Foot) : Prop := d.pairs.all (pairOk fs) = true ∧ (∀ i ∈ d.quiet, quietAt fs i) ∧ ∀ p ∈ d.apart, apartAt fs p

def next (Q : AExit → Env → St → Prop) (N : Env → St → Prop) : AExit → Env → St → Prop
  | .normal, e, s => N e s
  | x, e, s => Q x e s

def inBlock (id : Nat) (Q : AExit → Env → St → Prop) : AExit → Env → St → Prop
  | .exit id', e, s => if id' = id then Q .normal e s else Q (.exit id') e s
  | x, e, s => Q x e s

def WCode (cs : Nat → CallSem) : ACode → Env → St → (AExit → Env → St → Prop) → Prop
  | .skip, e, s, Q => Q .normal e s
  | .region ops none, e, s, Q => WOps cs ops e s (Q .normal)
  | .region ops (some d), e, s, Q => WDraw cs ops [] e s fun fs e s => drawn d fs ∧ Q .normal e s
  | .seq a b, e, s, Q => WCode cs a e s (next Q fun e s => WCode cs b e s Q)
  | .cond c a b, e, s, Q =>
    match e.rd c with
    | some (.bool t) => (t = true → WCode cs a e s Q) ∧ (t = false → WCode cs b e s Q)
    | _ => False
  | .block id body, e, s, Q => WCode cs body e s (inBlock id Q)
  | .loop live body, e, s, Q =>
    ∃ (I : Nat → Env → St → Prop) (n : Nat), I n e s ∧ ∀ m e s, I m e s → WCode cs body (restrict live e) s (next Q fun e s => ∃ m', m' < m ∧ I m' e s)
  | .exit id, e, s, Q => Q (.exit id) e s
  | .ret, e, s, Q => Q .ret e s

theorem WVals.ev {cs : Nat → CallSem} {s : St} {Q : Value → St → Prop} {a : AOp Value} (h : WVals cs s Q a) :
    Ev (fun k => match a with
      | .call f args => (callee f args).bind fun p => cs k p.1 p.2 s
      | a => (evP s.heap.get s.next a).map fun r => (r.val, (⟨applyUpd s.heap r.upd, r.next⟩ : St))) fun r => Q r.1 r.2 := by
  unfold WVals at h
  split at h
  · split at h
    · exact h.elim
    · rename_i f args p hp
      obtain ⟨r, hq, K, hK⟩ := h
      exact ⟨r, hq, K, fun k hk => by simp only [hp, Option.bind_some]; exact hK k hk⟩
  · rename_i hnc
    unfold WP at h
    split at h
    · exact h.elim
    · rename_i res hres
      refine ⟨(res.val, ⟨applyUpd s.heap res.upd, res.next⟩), h, 0, fun k _ => ?_⟩
      cases a
      case call f args => exact (hnc f args rfl).elim
      all_goals (simp only [hres, Option.map_some])

theorem WOp.ev {cs : Nat → CallSem} {op : AOp Operand} {e : Env} {s : St} {Q : Value → St → Prop} (h : WOp cs op e s Q) : Ev (fun k => evOper (cs k) op e s) fun r => Q r.1 r.2 := by
  unfold WOp at h
  split at h
  · exact h.elim
  · rename_i a ha
    obtain ⟨r, hq, K, hK⟩ := WVals.ev h
    refine ⟨r, hq, K, fun k hk => ?_⟩
    show evOper (cs k) op e s = some r
    unfold evOper
    rw [ha, Option.bind_some]
    exact hK k hk

theorem WOps.ev {cs : Nat → CallSem} : ∀ {ops : List AOper} {e : Env} {s : St} {Q : Env → St → Prop}, WOps cs ops e s Q → Ev (fun k => evOps (cs k) ops e s) fun r => Q r.1 r.2 := by
  intro ops
  induction ops with
  | nil => intro e s Q h; exact Ev.of_eq (r := (e, s)) (fun k => rfl) h
  | cons o r ih =>
    intro e s Q h
    unfold WOps at h
    split at h
    · exact h.elim
    · rename_i hw
      have := Ev.bind (G := fun k p => evOps (cs k) r (setE e o.dst p.1) p.2) ((WOp.ev h).mono fun p hp => ih hp)
      obtain ⟨x, hq, K, hK⟩ := this
      exact ⟨x, hq, K, fun k hk => by simp only [evOps, hw, Option.bind_some, if_true]; exact hK k hk⟩
    · rename_i hw
      obtain ⟨x, hq, K, hK⟩ := ih h
      exact ⟨x, hq, K, fun k hk => by simp only [evOps, hw, Option.bind_some, Bool.false_eq_true, if_false]; exact hK k hk⟩

theorem WDraw.ev {cs : Nat → CallSem} : ∀ {ops : List AOper} {fs : List Foot} {e : Env} {s : St} {Q : List Foot → Env → St → Prop}, WDraw cs ops fs e s Q → Ev (fun k => evOpsD (cs k) ops e s) fun r => Q (fs ++ r.1) r.2.1 r.2.2 := by
  intro ops
  induction ops with
  | nil => intro fs e s Q h; exact Ev.of_eq (r := ([], e, s)) (fun k => rfl) (by rw [List.append_nil]; exact h)
  | cons o r ih =>
    intro fs e s Q h
    unfold WDraw at h
    split at h
    · exact h.elim
    · rename_i hw
      split at h
      · exact h.elim
      · rename_i a ha
        obtain ⟨p, ⟨q, hq, K2, h2⟩, K1, h1⟩ := (WVals.ev h).mono fun p hp => ih hp
        refine ⟨(⟨(footOf a).1, (footOf a).2, s, p.2⟩ :: q.1, q.2), by simpa using hq, max K1 K2, fun k hk => ?_⟩
        simp only [evOpsD, hw, Option.bind_some, if_true, ha]
        have : evOper (cs k) o.op e s = some p := by unfold evOper; rw [ha, Option.bind_some]; exact h1 k (by omega)
        have h2' : evOpsD (cs k) r (setE e o.dst p.1) p.2 = some q := h2 k (by omega)
        rw [this, Option.bind_some, h2', Option.map_some]
    · rename_i hw
      obtain ⟨q, hq, K, hK⟩ := ih h
      exact ⟨(⟨[], [], s, s⟩ :: q.1, q.2), by simpa using hq, K, fun k hk => by simp only [evOpsD, hw, Option.bind_some, Bool.false_eq_true, if_false, hK k hk, Option.map_some]⟩

theorem WCode.ev {cs : Nat → CallSem} : ∀ {c : ACode} {e : Env} {s : St} {Q : AExit → Env → St → Prop}, WCode cs c e s Q → Ev (fun k => evCode (cs k) k c e s) fun r => Q r.1 r.2.1 r.2.2 := by
  intro c
  induction c with
  | skip => intro e s Q h; exact Ev.of_eq (r := (.normal, e, s)) (fun k => rfl) h
  | region ops d =>
    intro e s Q h
    cases d with
    | none => exact Ev.map (WOps.ev h)
    | some d =>
      obtain ⟨q, ⟨⟨hp, hq⟩, h2⟩, K, hK⟩ := WDraw.ev h
      refine ⟨(.normal, q.2), h2, K, fun k hk => ?_⟩
      simp only [List.nil_append] at hp hq
      have h3 : evOpsD (cs k) ops e s = some (q.1, q.2) := hK k hk
      simp only [evCode, evDraw_mk h3 hp hq, Option.map_some]
  | seq a b iha ihb =>
    intro e s Q h
    have h1 := iha h
    obtain ⟨⟨x, e1, s1⟩, hq, K1, hK1⟩ := h1
    cases x with
    | normal =>
      obtain ⟨r, hr, K2, hK2⟩ := ihb (show WCode cs b e1 s1 Q from hq)
      exact ⟨r, hr, max K1 K2, fun k hk => by simp only [evCode, hK1 k (by omega), Option.bind_some]; exact hK2 k (by omega)⟩
    | exit id => exact ⟨(.exit id, e1, s1), hq, K1, fun k hk => by simp only [evCode, hK1 k hk, Option.bind_some]⟩
    | ret => exact ⟨(.ret, e1, s1), hq, K1, fun k hk => by simp only [evCode, hK1 k hk, Option.bind_some]⟩
  | cond c a b iha ihb =>
    intro e s Q h
    simp only [WCode] at h
    split at h
    · rename_i t ht
      cases t with
      | true =>
        obtain ⟨r, hr, K, hK⟩ := iha (h.1 rfl)
        exact ⟨r, hr, K, fun k hk => by simp only [evCode, ht, if_true]; exact hK k hk⟩
      | false =>
        obtain ⟨r, hr, K, hK⟩ := ihb (h.2 rfl)
        exact ⟨r, hr, K, fun k hk => by simp only [evCode, ht, Bool.false_eq_true, if_false]; exact hK k hk⟩
    · exact h.elim
  | block id body ih =>
    intro e s Q h
    obtain ⟨⟨x, e1, s1⟩, hq, K, hK⟩ := ih h
    refine ⟨(if x = .exit id then .normal else x, e1, s1), ?_, K, fun k hk => by simp only [evCode, hK k hk, Option.map_some]⟩
    cases x with
    | normal => exact hq
    | ret => exact hq
    | exit id' =>
      simp only [inBlock] at hq
      by_cases hid : id' = id
      · rw [if_pos hid] at hq; subst hid; simpa using hq
      · rw [if_neg hid] at hq
        have : ¬ (AExit.exit id' = AExit.exit id) := by simpa using hid
        simp only [if_neg this]; exact hq
  | loop live body ih =>
    intro e s Q h
    obtain ⟨I, n, h0, hr⟩ := h
    have key : ∀ (n : Nat) (e : Env) (s : St), I n e s → ∃ r, Q r.1 r.2.1 r.2.2 ∧ ∃ K, ∀ k j, K ≤ k → K ≤ j → iter (evCode (cs k) k body) live j e s = some r := by
      intro n
      induction n using Nat.strongRecOn with
      | _ n ihn =>
        intro e s hI
        obtain ⟨⟨x, e1, s1⟩, hq, K, hK⟩ := ih (hr n e s hI)
        cases x with
        | normal =>
          obtain ⟨m, hm, hI'⟩ := (show ∃ m', m' < n ∧ I m' e1 s1 from hq)
          obtain ⟨r, hq', K2, hK2⟩ := ihn m hm e1 s1 hI'
          refine ⟨r, hq', max K K2 + 1, fun k j hk hj => ?_⟩
          obtain ⟨j, rfl⟩ : ∃ j', j = j' + 1 := ⟨j - 1, by omega⟩
          simp only [iter, hK k (by omega), Option.bind_some]
          exact hK2 k j (by omega) (by omega)
        | exit id =>
          refine ⟨(.exit id, e1, s1), hq, K + 1, fun k j hk hj => ?_⟩
          obtain ⟨j, rfl⟩ : ∃ j', j = j' + 1 := ⟨j - 1, by omega⟩
          simp only [iter, hK k (by omega), Option.bind_some]
        | ret =>
          refine ⟨(.ret, e1, s1), hq, K + 1, fun k j hk hj => ?_⟩
          obtain ⟨j, rfl⟩ : ∃ j', j = j' + 1 := ⟨j - 1, by omega⟩
          simp only [iter, hK k (by omega), Option.bind_some]
    obtain ⟨r, hq, K, hK⟩ := key n e s h0
    exact ⟨r, hq, K, fun k hk => hK k k hk hk⟩
  | exit id => intro e s Q h; exact Ev.of_eq (r := (.exit id, e, s)) (fun k => rfl) h
  | ret => intro e s Q h; exact Ev.of_eq (r := (.ret, e, s)) (fun k => rfl) h

def ends (res : List ResK) (Q : Value → St → Prop) : AExit → Env → St → Prop
  | .exit _, _, _ => False
  | _, e, s =>
    match mapList (resV e s) res with
    | none => False
    | some vs => Q (tupleV vs) s

theorem WCall.of' {tbl : FuncId → Option AFun} {ov : CallSem} {f : FuncId} {fn : AFun} (hf : tbl f = some fn) {args : List Value} {s : St} {Q : Value → St → Prop} (hn : args.length = fn.np)
    (h : WCode (fun k => call tbl ov k) fn.body (params 0 args) s (ends fn.res Q)) : Ev (fun k => call tbl ov k f args s) fun r => ∃ q, gcR fn.gc s q = r ∧ Q q.1 q.2 := by
  obtain ⟨⟨x, e1, s1⟩, hq, K, hK⟩ := WCode.ev h
  have hx : (x = .normal ∨ x = .ret) ∧ ∃ vs, mapList (resV e1 s1) fn.res = some vs ∧ Q (tupleV vs) s1 := by
    cases x with
    | exit id => exact hq.elim
    | normal =>
      simp only [ends] at hq
      split at hq
      · exact hq.elim
      · rename_i vs hvs; exact ⟨.inl rfl, vs, hvs, hq⟩
    | ret =>
      simp only [ends] at hq
      split at hq
      · exact hq.elim
      · rename_i vs hvs; exact ⟨.inr rfl, vs, hvs, hq⟩
  obtain ⟨hx, vs, hvs, hQ⟩ := hx
  refine ⟨gcR fn.gc s (tupleV vs, s1), ⟨_, rfl, hQ⟩, K + 1, fun k hk => ?_⟩
  obtain ⟨k, rfl⟩ : ∃ k', k = k' + 1 := ⟨k - 1, by omega⟩
  simp only [call, hf, evFun, if_pos hn]
  have hK' : evCode (call tbl ov k) k fn.body (params 0 args) s = some (x, e1, s1) := hK k (by omega)
  rw [hK', Option.bind_some]
  rcases hx with rfl | rfl <;> simp only [hvs, Option.map_some]

theorem WCall.of {tbl : FuncId → Option AFun} {ov : CallSem} {f : FuncId} {fn : AFun} (hf : tbl f = some fn) {args : List Value} {s : St} {Q : Value → St → Prop} (hn : args.length = fn.np) (h : WCode (fun k => call tbl ov k) fn.body (params 0 args) s (ends fn.res Q)) (hg : fn.gc = 0 := by rfl) : WCall (fun k => call tbl ov k) f args s Q := by
  obtain ⟨r, ⟨q, hq, hQ⟩, K, hK⟩ := WCall.of' (ov := ov) hf hn h
  rw [hg, gcR_zero] at hq
  subst hq
  exact ⟨q, hQ, K, hK⟩

theorem WCall.pure {tbl : FuncId → Option AFun} {ov : CallSem} {f : FuncId} {fn : AFun} (hf : tbl f = some fn) {args : List Value} {s : St} {v : Value} (hn : args.length = fn.np) (hg : fn.gc ≠ 0) (hfl : flatV 2 v = true)
    (h : WCode (fun k => call tbl ov k) fn.body (params 0 args) s (ends fn.res fun u s' => u = v ∧ s.next ≤ s'.next ∧ KeptAll s s')) : WCall (fun k => call tbl ov k) f args s fun u s' => u = v ∧ s'.heap = s.heap ∧ s.next ≤ s'.next := by
  obtain ⟨r, ⟨q, hq, hQ1, hQ2, hQ3⟩, K, hK⟩ := WCall.of' (ov := ov) hf hn h
  rw [gcR_of hg (by rw [hQ1]; exact hfl) hQ3] at hq
  subst hq
  exact ⟨(q.1, ⟨s.heap, q.2.next⟩), ⟨hQ1, rfl, hQ2⟩, K, hK⟩

theorem WCall.ov {tbl : FuncId → Option AFun} {ov : CallSem} {f : FuncId} (hf : tbl f = none) {args : List Value} {s : St} {Q : Value → St → Prop} {r : Value × St} (h : ov f args s = some r) (hq : Q r.1 r.2) : WCall (fun k => call tbl ov k) f args s Q :=
  ⟨r, hq, 1, fun k hk => by
    obtain ⟨k, rfl⟩ : ∃ k', k = k' + 1 := ⟨k - 1, by omega⟩
    simp only [call, hf]; exact h⟩

theorem inBlock_mono {id : Nat} {Q R : AExit → Env → St → Prop} (h : ∀ x e s, Q x e s → R x e s) : ∀ x e s, inBlock id Q x e s → inBlock id R x e s := by
  intro x e s hx
  cases x with
  | normal => exact h _ _ _ hx
  | ret => exact h _ _ _ hx
  | exit id' =>
    simp only [inBlock] at hx ⊢
    split
    · rename_i hi; rw [if_pos hi] at hx; exact h _ _ _ hx
    · rename_i hi; rw [if_neg hi] at hx; exact h _ _ _ hx

theorem WVals.mono {cs : Nat → CallSem} {s : St} {Q R : Value → St → Prop} (hqr : ∀ v s, Q v s → R v s) {a : AOp Value} (h : WVals cs s Q a) : WVals cs s R a := by
  unfold WVals at h ⊢
  split at h
  · rename_i f args
    split at h
    · exact h.elim
    · rename_i p hp
      exact WCall.mono h hqr
  · rename_i hnc
    have : WP (evP s.heap.get s.next a) s.heap R := by
      unfold WP at h ⊢
      split at h
      · exact h.elim
      · exact hqr _ _ h
    cases a
    case call f args => exact (hnc f args rfl).elim
    all_goals exact this

theorem WOps.mono {cs : Nat → CallSem} : ∀ {ops : List AOper} {e : Env} {s : St} {Q R : Env → St → Prop}, (∀ e s, Q e s → R e s) → WOps cs ops e s Q → WOps cs ops e s R := by
  intro ops
  induction ops with
  | nil => intro e s Q R hqr h; exact hqr _ _ h
  | cons o r ih =>
    intro e s Q R hqr h
    unfold WOps at h ⊢
    split at h
    · exact h.elim
    · unfold WOp at h ⊢
      split at h
      · exact h.elim
      · exact WVals.mono (fun v s hv => ih hqr hv) h
    · exact ih hqr h

theorem WDraw.mono {cs : Nat → CallSem} : ∀ {ops : List AOper} {fs : List Foot} {e : Env} {s : St} {Q R : List Foot → Env → St → Prop}, (∀ fs e s, Q fs e s → R fs e s) → WDraw cs ops fs e s Q → WDraw cs ops fs e s R := by
  intro ops
  induction ops with
  | nil => intro fs e s Q R hqr h; exact hqr _ _ _ h
  | cons o r ih =>
    intro fs e s Q R hqr h
    unfold WDraw at h ⊢
    split at h
    · exact h.elim
    · split at h
      · exact h.elim
      · exact WVals.mono (fun v s hv => ih hqr hv) h
    · exact ih hqr h

theorem WCode.mono {cs : Nat → CallSem} : ∀ {c : ACode} {e : Env} {s : St} {Q R : AExit → Env → St → Prop}, (∀ x e s, Q x e s → R x e s) → WCode cs c e s Q → WCode cs c e s R := by
  intro c
  have hn : ∀ {Q R : AExit → Env → St → Prop} {N M : Env → St → Prop}, (∀ x e s, Q x e s → R x e s) → (∀ e s, N e s → M e s) → ∀ x e s, next Q N x e s → next R M x e s := by
    intro Q R N M h1 h2 x e s hx
    cases x with
    | normal => exact h2 _ _ hx
    | exit id => exact h1 _ _ _ hx
    | ret => exact h1 _ _ _ hx
  induction c with
  | skip => intro e s Q R hqr h; exact hqr _ _ _ h
  | region ops d =>
    intro e s Q R hqr h
    cases d with
    | none => exact WOps.mono (fun e s => hqr _ e s) h
    | some d => exact WDraw.mono (fun fs e s hx => ⟨hx.1, hqr _ _ _ hx.2⟩) h
  | seq a b iha ihb => intro e s Q R hqr h; exact iha (hn hqr fun e s hx => ihb hqr hx) h
  | cond c a b iha ihb =>
    intro e s Q R hqr h
    simp only [WCode] at h ⊢
    split at h
    · exact ⟨fun ht => iha hqr (h.1 ht), fun ht => ihb hqr (h.2 ht)⟩
    · exact h.elim
  | block id body ih => intro e s Q R hqr h; exact ih (inBlock_mono hqr) h
  | loop live body ih =>
    intro e s Q R hqr h
    obtain ⟨I, n, h0, hr⟩ := h
    exact ⟨I, n, h0, fun m e s hI => ih (hn hqr fun e s hx => hx) (hr m e s hI)⟩
  | exit id => intro e s Q R hqr h; exact hqr _ _ _ h
  | ret => intro e s Q R hqr h; exact hqr _ _ _ h

end Go.Abs
