/-
  Functions of plain values: a walk at the state of the known package variables gives a call whose answer is known.
-/
import Derived.Test.YtoiedaegnhifpaaDoorA52
set_option linter.unusedVariables false
set_option linter.unusedSimpArgs false
set_option maxRecDepth 100000
namespace Go.Abs
open Go Go.Abs.K Go.RowKit Go.ChangeShapes Go.WideShapes

def deepV : Nat → Value → Bool
  | 0, v => primV v
  | n + 1, .tuple a => a.toList.all (deepV n)
  | n + 1, .agg a => a.toList.all (deepV n)
  | _ + 1, v => primV v

theorem plain_inv {β : Map} : ∀ {n : Nat} {v v' : Value}, deepV n v = true → VRel β v v' → v' = v := by
  intro n
  induction n with
  | zero => intro v v' h hv; exact prim_inv h hv
  | succ n ih =>
    intro v v' h hv
    cases hv with
    | agg h1 h3 =>
      rename_i a a'
      simp only [deepV, List.all_eq_true] at h
      congr 1
      apply Array.ext h1.symm
      intro i hi1 hi2
      exact ih (h _ (Array.getElem_mem_toList hi2)) (h3 i hi2 hi1)
    | tuple h1 h3 =>
      rename_i a a'
      simp only [deepV, List.all_eq_true] at h
      congr 1
      apply Array.ext h1.symm
      intro i hi1 hi2
      exact ih (h _ (Array.getElem_mem_toList hi2)) (h3 i hi2 hi1)
    | prim => rfl
    | ptr => simp [deepV, primV] at h
    | slice => simp [deepV, primV] at h
    | empty => simp [deepV, primV] at h
    | map => simp [deepV, primV] at h
    | func => simp [deepV, primV] at h
    | iface => simp [deepV, primV] at h

theorem plain_rel {β : Map} : ∀ {n : Nat} {v : Value}, deepV n v = true → VRel β v v := by
  intro n
  induction n with
  | zero => intro v h; exact .prim v h
  | succ n ih =>
    intro v h
    cases v with
    | tuple a =>
      simp only [deepV, List.all_eq_true] at h
      exact .tuple rfl fun i hi _ => ih (h _ (Array.getElem_mem_toList hi))
    | agg a =>
      simp only [deepV, List.all_eq_true] at h
      exact .agg rfl fun i hi _ => ih (h _ (Array.getElem_mem_toList hi))
    | _ => exact .prim _ (by simpa [deepV] using h)

theorem plain_args {β : Map} {n : Nat} : ∀ {vs vs' : List Value}, LRel β vs vs' → vs.all (deepV n) = true → vs' = vs := by
  intro vs
  induction vs with
  | nil => intro vs' h _; cases h; rfl
  | cons v vs ih =>
    intro vs' h hp
    cases h with | cons h1 h2 => ?_
    simp only [List.all_cons, Bool.and_eq_true] at hp
    rw [plain_inv hp.1 h1, ih h2 hp.2]
theorem plain_argsRel {β : Map} {n : Nat} : ∀ {vs : List Value}, vs.all (deepV n) = true → LRel β vs vs := by
  intro vs
  induction vs with
  | nil => intro _; exact .nil
  | cons v vs ih =>
    intro hp
    simp only [List.all_cons, Bool.and_eq_true] at hp
    exact .cons (plain_rel hp.1) (ih hp.2)

def callS (f0 : FuncId) (gs : GNeed) (F : List Value → Option Value) : CallSem := fun f args s =>
  if f = f0 then if globsOK s gs && args.all (deepV 3) then (F args).map fun v => (v, s) else none else none

theorem callS_good {P : Program} {f0 : FuncId} {gs : GNeed} {F : List Value → Option Value} (can : Callable P f0) (hk : ∀ g ∈ gs, g.1 < kept0)
    (run : ∀ (args : List Value) (v : Value) (w : World), F args = some v → args.all (deepV 3) = true → GlobsIn w gs → deepV 3 v = true ∧ Calls P f0 args.toArray w fun e w' => e = .returned v ∧ Below w.heap.size w w') :
    GoodCalls P (callS f0 gs F) ∧ GoodWF (callS f0 gs F) := by
  constructor
  · intro f args s u s' hws hq
    unfold callS at hq
    split at hq
    case isFalse => cases hq
    rename_i hf
    subst hf
    split at hq
    case isFalse => cases hq
    rename_i hc
    simp only [Bool.and_eq_true] at hc
    simp only [Option.map_eq_some_iff, Prod.mk.injEq] at hq
    obtain ⟨v, hF, rfl, rfl⟩ := hq
    refine .inl ⟨can, Nat.le_refl _, fun β w args' hs hfr hargs => ?_⟩
    rw [plain_args hargs hc.2]
    obtain ⟨hp, hr⟩ := run args v w hF hc.2 (globs_in hs hc.1 hk)
    refine hr.mono ?_
    rintro e w' ⟨rfl, hbel⟩
    obtain ⟨h1, h2⟩ := below_step (n := s.next) hs hbel
    exact ⟨_, β, rfl, plain_rel hp, h1, h2⟩
  · intro f args s u s' hq hws
    unfold callS at hq
    split at hq
    case isFalse => cases hq
    split at hq
    case isFalse => cases hq
    simp only [Option.map_eq_some_iff, Prod.mk.injEq] at hq
    obtain ⟨v, hF, rfl, rfl⟩ := hq
    exact hws

theorem call_plain {P : Program} {tbl : FuncId → Option AFun} {ov : CallSem} (h : TableOK P tbl ov) {f : FuncId} {fn : AFun} (hf : tbl f = some fn) {gs : GNeed} (hn : (gs.map fun g => g.1).Nodup) (hk : ∀ g ∈ gs, g.1 < kept0) {args : List Value} (ha : args.all (deepV 3) = true) {v : Value} (hv : deepV 3 v = true)
    (hw : WCall (fun k => call tbl ov k) f args (stG gs) fun u _ => u = v) {w : World} (hg : GlobsIn w gs) : Calls P f args.toArray w fun e w' => e = .returned v ∧ Below w.heap.size w w' := by
  obtain ⟨l, hl⟩ : ∃ l : Args, l = gs.map fun g => (g.1, ⟨g.2.1, 0, 0, 0, 0⟩, .glob g.2.1 g.2.2) := ⟨_, rfl⟩
  have hh : (stG gs).heap = l.heap := by rw [hl]; simp [stG, Args.heap]
  have hs : stG gs = ⟨l.heap, 8⟩ := by rw [← hh]; rfl
  have hall : ∀ p ∈ l, p.1 < 8 ∧ (∀ β, ORel β p.2.1 p.2.2 w.heap[p.2.1.blk]?) ∧ p.2.2.isRo = true := by
    intro p hp
    rw [hl] at hp
    obtain ⟨g, hgm, rfl⟩ := List.mem_map.1 hp
    refine ⟨hk g hgm, fun β => ?_, rfl⟩
    obtain ⟨ob, h1, h2⟩ := hg g hgm
    simp only
    rw [h1]
    exact ⟨rfl, h2⟩
  rw [hs] at hw
  obtain ⟨⟨u, s'⟩, rfl, K, hK⟩ := hw
  have he : call tbl ov (K + 1) f args ⟨l.heap, 8⟩ = some (u, s') := hK (K + 1) (Nat.le_succ K)
  have hfr := Args.fresh (l := l) (n := 8) (Nat.le_refl _) (fun p hp => (hall p hp).1)
  obtain ⟨h1, h2, h3⟩ := call_ok h hf (Args.wf (l := l) (n := 8) fun p hp => (hall p hp).1) he
  refine (h3 l.map' w args (Args.sim fun p hp => ⟨(hall p hp).2.1 _, (hall p hp).2.2⟩) (fun id h1 _ => hfr id h1) (plain_argsRel ha)).mono ?_
  rintro e w' ⟨v', β', rfl, hv', hs', hst⟩
  refine ⟨by rw [plain_inv hv hv'], hst.os, hst.tape, hst.output, hst.size, fun k hk' => hst.frame k hk' ?_⟩
  rintro ⟨id, r, o, _, ho, hr, _⟩
  rw [Args.ro (l := l) (fun p hp => (hall p hp).2.2) id o ho] at hr; cases hr

theorem FunOK.callable {P : Program} {f : FuncId} {fn : AFun} (h : FunOK P f fn) : Callable P f := by
  obtain ⟨F, c, h1, h2, h3, _⟩ := h.ok
  exact ⟨F, h1, by rw [h2]; rfl, h3⟩

def tbl1 (f : FuncId) (fn : AFun) : FuncId → Option AFun := fun g => if g = f then some fn else none
theorem tbl1_ok {P : Program} (hm : P.follows .mixedOrders = true) {f : FuncId} {fn : AFun} (h : FunOK P f fn) {ov : CallSem} (ho : GoodCalls P ov ∧ GoodWF ov) : TableOK P (tbl1 f fn) ov where
  mixed := hm
  funs := by
    intro g fn' hq
    unfold tbl1 at hq
    split at hq
    · rename_i e
      cases hq; subst e; exact h
    · cases hq
  good := ho.1
  wf := ho.2
theorem tbl1_self {f : FuncId} {fn : AFun} : tbl1 f fn f = some fn := if_pos rfl

noncomputable abbrev solo (f : FuncId) (fn : AFun) (ov : CallSem) : Nat → CallSem := fun k => call (tbl1 f fn) ov k

theorem walk_good {P : Program} (hm : P.follows .mixedOrders = true) {f : FuncId} {fn : AFun} (hc : FunOK P f fn) {ov : CallSem} (ho : GoodCalls P ov ∧ GoodWF ov) {gs : GNeed} (hn : (gs.map fun g => g.1).Nodup) (hk : ∀ g ∈ gs, g.1 < kept0) {F : List Value → Option Value}
    (walk : ∀ args v, F args = some v → deepV 3 v = true ∧ WCall (solo f fn ov) f args (stG gs) fun u _ => u = v) :
    GoodCalls P (callS f gs F) ∧ GoodWF (callS f gs F) :=
  callS_good hc.callable hk fun args v w hF ha hg => by
    obtain ⟨h1, h2⟩ := walk args v hF
    exact ⟨h1, call_plain (tbl1_ok hm hc ho) tbl1_self hn hk ha h1 h2 hg⟩

def Has (ov : CallSem) (f : FuncId) (gs : GNeed) (F : List Value → Option Value) : Prop := ∀ args s v, F args = some v → args.all (deepV 3) = true → globsOK s gs = true → ov f args s = some (v, s)
theorem Has.here {f : FuncId} {gs : GNeed} {F : List Value → Option Value} {ov : CallSem} : Has (orSem (callS f gs F) ov) f gs F := by
  intro args s v h1 h2 h3
  unfold orSem callS
  simp only [if_true, h3, h2, Bool.and_self, h1, Option.map_some]
theorem Has.there {f f0 : FuncId} {gs gs' : GNeed} {F F' : List Value → Option Value} {ov : CallSem} (hne : f ≠ f0) (h : Has ov f gs F) : Has (orSem (callS f0 gs' F') ov) f gs F := by
  intro args s v h1 h2 h3
  have := h args s v h1 h2 h3
  unfold orSem callS
  rw [if_neg hne]
  exact this

theorem Has.call {ov : CallSem} {f : FuncId} {gs : GNeed} {F : List Value → Option Value} (h : Has ov f gs F) {f0 : FuncId} {fn : AFun} {cs : Nat → CallSem} (hcs : cs = solo f0 fn ov) (hne : f ≠ f0) {args : List Value} {s : St} {v : Value} (hF : F args = some v) (ha : args.all (deepV 3) = true) (hg : globsOK s gs = true) (K : Value → St → Prop) :
    WCall cs f args s K = K v s := by
  subst hcs
  exact WCall.eq (WCall.ov (by unfold tbl1; exact if_neg hne) (h args s v hF ha hg) ⟨rfl, rfl⟩) K

theorem Has.callT {ov : CallSem} {f : FuncId} {gs : GNeed} {F : List Value → Option Value} (h : Has ov f gs F) {tbl : FuncId → Option AFun} {cs : Nat → CallSem} (hcs : cs = fun k => Go.Abs.call tbl ov k) (hne : tbl f = none) {args : List Value} {s : St} {v : Value} (hF : F args = some v) (ha : args.all (deepV 3) = true) (hg : globsOK s gs = true) (K : Value → St → Prop) :
    WCall cs f args s K = K v s := by
  subst hcs
  exact WCall.eq (WCall.ov hne (h args s v hF ha hg) ⟨rfl, rfl⟩) K

theorem solo_of {f : FuncId} {fn : AFun} {ov : CallSem} {args : List Value} {s : St} {Q : Value → St → Prop} (hn : args.length = fn.np) (h : ∀ cs, cs = solo f fn ov → WCode cs fn.body (params 0 args) s (ends fn.res Q)) (hg : fn.gc = 0 := by rfl) : WCall (solo f fn ov) f args s Q :=
  WCall.of tbl1_self hn (h _ rfl) hg

theorem bv_rem {x c : Int} (h : 0 ≤ x) (hc : 0 < c) : binV .rem (.int .i64 x) (.int .i64 c) = some (.int .i64 (x % c)) := by
  have h3 : x.tmod c = x % c := Int.tmod_eq_emod_of_nonneg h
  simp [binV, h3]
  omega
theorem bv_quo {x c : Int} (h : 0 ≤ x) (hc : 0 < c) (h2 : x ≤ 9223372036854775807) : binV .quo (.int .i64 x) (.int .i64 c) = some (.int .i64 (x / c)) := by
  have h3 : x.tdiv c = x / c := Int.tdiv_eq_ediv_of_nonneg h
  have h4 : 0 ≤ x / c := Int.ediv_nonneg h (by omega)
  have h5 : x / c ≤ x := Int.ediv_le_self _ h
  have h6 : IntKind.i64.wrap (x / c) = x / c := by rw [IntKind.wrap_i64]; omega
  simp [binV, h3, h6]
  omega
theorem wrap64 {n : Int} (h1 : -9223372036854775808 ≤ n) (h2 : n ≤ 9223372036854775807) : IntKind.i64.wrap n = n := by
  rw [IntKind.wrap_i64]
  omega
end Go.Abs
