/-
  Walks with a literal environment: the rules as one set, tried ahead of a term's parts; the environment cut down; loops over the values that live.
-/
import Derived.Test.YtoiedaegnhifpaaDoorA35
import Derived.Test.YtoiedaegnhifpaaDoorA32
import Derived.Test.YtoiedaegnhifpaaDoorA28
import Derived.Attr
set_option linter.unusedVariables false
set_option linter.unusedSimpArgs false
namespace Go.Abs
open Go

/-! ### more bindings do no harm -/
def Env.le (e e' : Env) : Prop := ∀ t v, e.get t = some v → e'.get t = some v
theorem Env.le_refl (e : Env) : Env.le e e := fun _ _ h => h

theorem mapParts_mono {α β : Type} {f g : α → Option β} (h : ∀ x y, f x = some y → g x = some y) : ∀ {l : List (Nat × Nat × α)} {r}, mapParts f l = some r → mapParts g l = some r := by
  intro l
  induction l with
  | nil => intro r hr; exact hr
  | cons p l ih =>
    obtain ⟨i, n, x⟩ := p
    intro r hr
    simp only [mapParts, Option.bind_eq_some_iff, Option.map_eq_some_iff] at hr ⊢
    obtain ⟨y, hy, r', hr', rfl⟩ := hr
    exact ⟨y, h _ _ hy, r', ih hr', rfl⟩
theorem mapList_mono {α β : Type} {f g : α → Option β} (h : ∀ x y, f x = some y → g x = some y) : ∀ {l : List α} {r}, mapList f l = some r → mapList g l = some r := by
  intro l
  induction l with
  | nil => intro r hr; exact hr
  | cons x l ih =>
    intro r hr
    simp only [mapList, Option.bind_eq_some_iff, Option.map_eq_some_iff] at hr ⊢
    obtain ⟨y, hy, r', hr', rfl⟩ := hr
    exact ⟨y, h _ _ hy, r', ih hr', rfl⟩
theorem mapOpt_mono {α β : Type} {f g : α → Option β} (h : ∀ x y, f x = some y → g x = some y) {l : Option α} {r} (hr : mapOpt f l = some r) : mapOpt g l = some r := by
  cases l with
  | none => exact hr
  | some x =>
    simp only [mapOpt, Option.map_eq_some_iff] at hr ⊢
    obtain ⟨y, hy, rfl⟩ := hr
    exact ⟨y, h _ _ hy, rfl⟩

theorem vals_mono {α β : Type} {f g : α → Option β} (h : ∀ x y, f x = some y → g x = some y) {op : AOp α} {a : AOp β} (hv : op.vals f = some a) : op.vals g = some a := by
  cases op <;> simp only [AOp.vals, Option.bind_eq_some_iff, Option.map_eq_some_iff] at hv ⊢
  all_goals (first
    | exact hv
    | (obtain ⟨x, hx, hq⟩ := hv; first | exact ⟨x, h _ _ hx, hq⟩ | exact ⟨x, mapParts_mono h hx, hq⟩ | exact ⟨x, mapList_mono h hx, hq⟩ | exact ⟨x, mapOpt_mono h hx, hq⟩)
    | (obtain ⟨x, hx, y, hy, hq⟩ := hv; first | exact ⟨x, h _ _ hx, y, h _ _ hy, hq⟩ | exact ⟨x, h _ _ hx, y, mapList_mono h hy, hq⟩ | exact ⟨x, mapList_mono h hx, y, mapList_mono h hy, hq⟩)
    | (obtain ⟨x, hx, y, hy, z, hz, hq⟩ := hv; exact ⟨x, h _ _ hx, y, h _ _ hy, z, h _ _ hz, hq⟩)
    | (obtain ⟨x, hx, y, hy, z, hz, u, hu, hq⟩ := hv; exact ⟨x, h _ _ hx, y, mapOpt_mono h hy, z, mapOpt_mono h hz, u, mapOpt_mono h hu, hq⟩))

theorem rd_mono {e e' : Env} (h : Env.le e e') : ∀ x y, e.rd x = some y → e'.rd x = some y := by
  intro x y hx
  cases x with
  | tmp t => exact h t y hx
  | const v => exact hx
  | global g => exact hx
  | func f => exact hx

theorem wanted_mono {e e' : Env} (h : Env.le e e') {o : AOper} {b : Bool} (hw : wantedA o e = some b) : wantedA o e' = some b := by
  unfold wantedA at hw ⊢
  cases hg : o.guard with
  | none => rw [hg] at hw; exact hw
  | some p =>
    rw [hg] at hw
    obtain ⟨t, w⟩ := p
    simp only at hw ⊢
    cases ht : e.get t with
    | none => rw [ht] at hw; cases hw
    | some v => rw [ht] at hw; rw [h t v ht]; exact hw

theorem setE_mono {e e' : Env} (h : Env.le e e') (d : Option Nat) (v : Value) : Env.le (setE e d v) (setE e' d v) := by
  cases d with
  | none => exact h
  | some d =>
    intro t u hu
    simp only [setE, Env.get] at hu ⊢
    split
    · rename_i ht; rw [if_pos ht] at hu; exact hu
    · rename_i ht; rw [if_neg ht] at hu; exact h t u hu

theorem restrict_getL (live : List Nat) (e : Env) (t : Nat) : Env.get (restrict live e) t = if t ∈ live then e.get t else none := restrict_get ..

theorem restrict_mono {e e' : Env} (h : Env.le e e') (live : List Nat) : Env.le (restrict live e) (restrict live e') := by
  intro t v hv
  rw [restrict_getL] at hv ⊢
  split
  · rename_i ht; rw [if_pos ht] at hv; exact h t v hv
  · rename_i ht; rw [if_neg ht] at hv; cases hv

theorem WOps.env {cs : Nat → CallSem} : ∀ {ops : List AOper} {e e' : Env} {s : St} {Q R : Env → St → Prop}, (∀ e e' s, Env.le e e' → Q e s → R e' s) → Env.le e e' → WOps cs ops e s Q → WOps cs ops e' s R := by
  intro ops
  induction ops with
  | nil => intro e e' s Q R hqr hle h; exact hqr _ _ _ hle h
  | cons o r ih =>
    intro e e' s Q R hqr hle h
    unfold WOps at h ⊢
    split at h
    · exact h.elim
    · rename_i hw
      rw [wanted_mono hle hw]
      unfold WOp at h ⊢
      split at h
      · exact h.elim
      · rename_i a ha
        simp only [vals_mono (rd_mono hle) ha]
        exact WVals.mono (fun v s hv => ih hqr (setE_mono hle _ _) hv) h
    · rename_i hw
      rw [wanted_mono hle hw]
      exact ih hqr (setE_mono hle _ _) h

theorem WDraw.env {cs : Nat → CallSem} : ∀ {ops : List AOper} {fs : List Foot} {e e' : Env} {s : St} {Q R : List Foot → Env → St → Prop}, (∀ fs e e' s, Env.le e e' → Q fs e s → R fs e' s) → Env.le e e' → WDraw cs ops fs e s Q → WDraw cs ops fs e' s R := by
  intro ops
  induction ops with
  | nil => intro fs e e' s Q R hqr hle h; exact hqr _ _ _ _ hle h
  | cons o r ih =>
    intro fs e e' s Q R hqr hle h
    unfold WDraw at h ⊢
    split at h
    · exact h.elim
    · rename_i hw
      rw [wanted_mono hle hw]
      simp only
      split at h
      · exact h.elim
      · rename_i a ha
        simp only [vals_mono (rd_mono hle) ha]
        exact WVals.mono (fun v s hv => ih hqr (setE_mono hle _ _) hv) h
    · rename_i hw
      rw [wanted_mono hle hw]
      exact ih hqr (setE_mono hle _ _) h

theorem WCode.env {cs : Nat → CallSem} : ∀ {c : ACode} {e e' : Env} {s : St} {Q R : AExit → Env → St → Prop}, (∀ x e e' s, Env.le e e' → Q x e s → R x e' s) → Env.le e e' → WCode cs c e s Q → WCode cs c e' s R := by
  intro c
  have hn : ∀ {Q R : AExit → Env → St → Prop} {N M : Env → St → Prop}, (∀ x e e' s, Env.le e e' → Q x e s → R x e' s) → (∀ e e' s, Env.le e e' → N e s → M e' s) → ∀ x e e' s, Env.le e e' → next Q N x e s → next R M x e' s := by
    intro Q R N M h1 h2 x e e' s hle hx
    cases x with
    | normal => exact h2 _ _ _ hle hx
    | exit id => exact h1 _ _ _ _ hle hx
    | ret => exact h1 _ _ _ _ hle hx
  induction c with
  | skip => intro e e' s Q R hqr hle h; exact hqr _ _ _ _ hle h
  | region ops d =>
    intro e e' s Q R hqr hle h
    cases d with
    | none => exact WOps.env (fun e e' s => hqr _ e e' s) hle h
    | some d => exact WDraw.env (fun fs e e' s hle hx => ⟨hx.1, hqr _ _ _ _ hle hx.2⟩) hle h
  | seq a b iha ihb => intro e e' s Q R hqr hle h; exact iha (hn hqr fun e e' s hle hx => ihb hqr hle hx) hle h
  | cond c a b iha ihb =>
    intro e e' s Q R hqr hle h
    simp only [WCode] at h ⊢
    split at h
    · rename_i t ht
      rw [rd_mono hle _ _ ht]
      exact ⟨fun ht => iha hqr hle (h.1 ht), fun ht => ihb hqr hle (h.2 ht)⟩
    · exact h.elim
  | block id body ih =>
    intro e e' s Q R hqr hle h
    refine ih (Q := inBlock id Q) (fun x e e' s hle hx => ?_) hle h
    cases x with
    | normal => exact hqr _ _ _ _ hle hx
    | ret => exact hqr _ _ _ _ hle hx
    | exit id' =>
      simp only [inBlock] at hx ⊢
      split
      · rename_i hi; rw [if_pos hi] at hx; exact hqr _ _ _ _ hle hx
      · rename_i hi; rw [if_neg hi] at hx; exact hqr _ _ _ _ hle hx
  | loop live body ih =>
    intro e e' s Q R hqr hle h
    obtain ⟨I, n, h0, hr⟩ := h
    refine ⟨fun m e s => ∃ e0, Env.le e0 e ∧ I m e0 s, n, ⟨e, hle, h0⟩, ?_⟩
    rintro m e1 s1 ⟨e0, hle0, hI⟩
    exact ih (hn hqr fun e e' s hle ⟨m', hm, hx⟩ => ⟨m', hm, e, hle, hx⟩) (restrict_mono hle0 _) (hr m e0 s1 hI)
  | exit id => intro e e' s Q R hqr hle h; exact hqr _ _ _ _ hle h
  | ret => intro e e' s Q R hqr hle h; exact hqr _ _ _ _ hle h

def Up (Q : AExit → Env → St → Prop) : Prop := ∀ x e e' s, Env.le e e' → Q x e s → Q x e' s
def UpN (N : Env → St → Prop) : Prop := ∀ e e' s, Env.le e e' → N e s → N e' s
theorem Up.next {Q : AExit → Env → St → Prop} {N : Env → St → Prop} (h : Up Q) (k : UpN N) : Up (next Q N) := by
  intro x e e' s hle hx
  cases x with
  | normal => exact k _ _ _ hle hx
  | exit id => exact h _ _ _ _ hle hx
  | ret => exact h _ _ _ _ hle hx
theorem UpN.sq {cs : Nat → CallSem} {b : ACode} {Q : AExit → Env → St → Prop} (h : Up Q) : UpN (sq cs b Q) := fun e e' s hle hx => WCode.env h hle hx
theorem Up.inBlock {id : Nat} {Q : AExit → Env → St → Prop} (h : Up Q) : Up (inBlock id Q) := by
  intro x e e' s hle hx
  cases x with
  | normal => exact h _ _ _ _ hle hx
  | ret => exact h _ _ _ _ hle hx
  | exit id' =>
    simp only [Abs.inBlock] at hx ⊢
    split
    · rename_i hi; rw [if_pos hi] at hx; exact h _ _ _ _ hle hx
    · rename_i hi; rw [if_neg hi] at hx; exact h _ _ _ _ hle hx
theorem Up.ends (res : List ResK) (Q : Value → St → Prop) : Up (ends res Q) := by
  have key : ∀ e e' s, Env.le e e' → bindP (mapList (resV e s) res) (endK Q s) → bindP (mapList (resV e' s) res) (endK Q s) := by
    intro e e' s hle hx
    cases hm : mapList (resV e s) res with
    | none => rw [hm] at hx; exact hx.elim
    | some vs =>
      rw [hm] at hx
      rw [mapList_mono (g := resV e' s) (fun x y hxy => ?_) hm]
      · exact hx
      · cases x with
        | tmp t => exact hle t y hxy
        | cell a n =>
          simp only [resV, Option.bind_eq_some_iff] at hxy ⊢
          obtain ⟨u, hu, hv⟩ := hxy
          exact ⟨u, hle _ _ hu, hv⟩
  intro x e e' s hle hx
  cases x with
  | normal => rw [ends_normal] at hx ⊢; exact key _ _ _ hle hx
  | ret => rw [ends_ret] at hx ⊢; exact key _ _ _ hle hx
  | exit id => exact hx.elim

def liveV (e : Env) (live : List Nat) : Option (List Value) := mapList e.get live
def loopN (live : List Nat) (I : Nat → List Value → St → Prop) (m : Nat) (e : Env) (s : St) : Prop := bindP (liveV e live) fun vs => ∃ m', m' < m ∧ I m' vs s
theorem UpN.loopN {live : List Nat} {I : Nat → List Value → St → Prop} {m : Nat} : UpN (loopN live I m) := by
  intro e e' s hle hx
  unfold Abs.loopN liveV at hx ⊢
  cases hm : mapList e.get live with
  | none => rw [hm] at hx; exact hx.elim
  | some vs => rw [hm] at hx; rw [mapList_mono (g := e'.get) hle hm]; exact hx

theorem restrict_zip : ∀ {live : List Nat} {e : Env} {vs : List Value}, liveV e live = some vs → restrict live e = live.zip vs := by
  intro live
  induction live with
  | nil => intro e vs h; simp only [liveV, mapList, Option.some.injEq] at h; subst h; rfl
  | cons t live ih =>
    intro e vs h
    simp only [liveV, mapList, Option.bind_eq_some_iff, Option.map_eq_some_iff] at h
    obtain ⟨v, hv, r, hr, rfl⟩ := h
    have := ih (vs := r) hr
    unfold restrict at this ⊢
    simp only [List.filterMap_cons, hv, Option.map_some, List.zip_cons_cons, this]

theorem wc_loopV {cs : Nat → CallSem} {live : List Nat} {body : ACode} {e : Env} {s : St} {Q : AExit → Env → St → Prop} (I : Nat → List Value → St → Prop) (n : Nat) (h0 : bindP (liveV e live) fun vs => I n vs s)
    (h : ∀ m vs s, I m vs s → vs.length = live.length → WCode cs body (live.zip vs) s (next Q (loopN live I m))) : WCode cs (.loop live body) e s Q := by
  refine ⟨fun m e s => bindP (liveV e live) fun vs => I m vs s, n, h0, ?_⟩
  intro m e1 s1 hI
  cases hv : liveV e1 live with
  | none => rw [hv] at hI; exact hI.elim
  | some vs =>
    rw [hv] at hI
    rw [restrict_zip hv]
    have hlen : vs.length = live.length := by
      have : ∀ {live : List Nat} {vs : List Value}, liveV e1 live = some vs → vs.length = live.length := by
        intro live
        induction live with
        | nil => intro vs h; simp only [liveV, mapList, Option.some.injEq] at h; subst h; rfl
        | cons t live ih =>
          intro vs h
          simp only [liveV, mapList, Option.bind_eq_some_iff, Option.map_eq_some_iff] at h
          obtain ⟨v, hv, r, hr, rfl⟩ := h
          simp only [List.length_cons, ih (vs := r) hr]
      exact this hv
    refine WCode.mono ?_ (h m vs s1 hI hlen)
    intro x e2 s2 hx
    cases x with
    | normal =>
      have hx : loopN live I m e2 s2 := hx
      unfold loopN at hx
      cases hv2 : liveV e2 live with
      | none => rw [hv2] at hx; exact hx.elim
      | some vs2 =>
        rw [hv2] at hx
        obtain ⟨m', hm, hI'⟩ := hx
        exact ⟨m', hm, by show bindP (liveV e2 live) _; rw [hv2]; exact hI'⟩
    | exit id => exact hx
    | ret => exact hx

theorem restrict_nil (e : Env) : restrict [] e = [] := rfl
def rcons (t : Nat) (v : Option Value) (r : Env) : Env := match v with | some v => (t, v) :: r | none => r
theorem rcons_some (t : Nat) (v : Value) (r : Env) : rcons t (some v) r = (t, v) :: r := rfl
theorem restrict_cons (t : Nat) (l : List Nat) (e : Env) : restrict (t :: l) e = rcons t (e.get t) (restrict l e) := by
  unfold restrict rcons
  rw [List.filterMap_cons]
  cases e.get t <;> rfl
theorem liveV_nil (e : Env) : liveV e [] = some [] := rfl
theorem liveV_cons (t : Nat) (l : List Nat) (e : Env) : liveV e (t :: l) = (e.get t).bind fun v => (liveV e l).map fun r => v :: r := rfl
theorem loopN_apply (live : List Nat) (I : Nat → List Value → St → Prop) (m : Nat) (e : Env) (s : St) : loopN live I m e s = bindP (liveV e live) fun vs => ∃ m', m' < m ∧ I m' vs s := rfl
theorem zip_cons (t : Nat) (l : List Nat) (v : Value) (vs : List Value) : (t :: l).zip (v :: vs) = (t, v) :: l.zip vs := rfl
theorem zip_nil (vs : List Value) : ([] : List Nat).zip vs = [] := by cases vs <;> rfl
theorem WCall.eq {cs : Nat → CallSem} {f : FuncId} {args : List Value} {s s' : St} {v : Value} (h : WCall cs f args s fun u s1 => u = v ∧ s1 = s') (K : Value → St → Prop) : WCall cs f args s K = K v s' := by
  apply propext
  constructor
  · intro hk
    obtain ⟨r, ⟨h1, h2⟩, N, hN⟩ := h
    obtain ⟨r', hk', N', hN'⟩ := hk
    have := hN (max N N') (by omega)
    rw [hN' (max N N') (by omega)] at this
    cases this
    rw [← h1, ← h2]; exact hk'
  · intro hk
    exact WCall.mono h fun u s1 ⟨a, b⟩ => by rw [a, b]; exact hk

attribute [go_sem ↓] wc_skip wc_region wc_draw wc_seq wc_cond wc_block wc_exit wc_ret next_normal next_exit next_ret inBlock_normal inBlock_ret inBlock_exit sq_apply nrm_apply drawnK_apply boolV_bool ccond_true ccond_false wo_nil wo_cons wo_guard wop bindP_some cont_some cont_none guardV_bool guardV_undef gcont_true gcont_false gcont_false' ret_apply aggK_apply putK_apply resK_apply boolK_apply ccont_apply wd_nil wd_cons dvals_apply dcont_some dcont_none rd_tmp rd_const rd_func get_cons wv_mov wv_pick wv_alloc wv_box wv_build wv_load wv_loadn wv_store wv_nilCheck wv_bin wv_eq wv_un wv_convInt wv_convSame wv_fieldAddr wv_field wv_fieldn wv_extract wv_lenSlice wv_lenString wv_mkMap wv_call callee_func wv_indexAddr wv_lookup wv_mapUpdate wv_mapEntry wv_entryStore wv_delete wv_append wv_slice wv_mkSlice wv_buildSlice wv_index wv_copy wv_lenMap wv_cap wv_appendMake wv_clear wv_toString wv_toBytes wv_sameB wv_mkIface wv_minmax wv_rangeStr wv_nextStr ends_normal ends_ret endK_apply resV_tmp loopN_apply restrict_nil restrict_cons rcons_some liveV_nil liveV_cons zip_cons zip_nil
attribute [go_sem] AOp.vals mapList mapOpt mapParts Option.bind_some Option.map_some if_true if_false Abs.cellAt Abs.rowAt Abs.storeAt Heap.get_put List.getElem?_cons_zero List.getElem?_cons_succ Nat.zero_add idx and_self Int.toNat_natCast cellsAt ne_eq not_true_eq_false not_false_eq_true cellList Value.cells List.length_cons List.length_nil List.all_cons List.all_nil isCell Bool.and_self storeL List.set_cons_zero List.set_cons_succ footOf true_and and_true Nat.le_refl List.nil_append List.cons_append List.length_set tupleV bin_add bin_sub bin_mul bin_lss bin_leq bin_gtr bin_geq bin_eql bin_neq un_not eqV Bool.not_true Bool.not_false BEq.rfl Bool.true_beq Bool.false_beq beq_true beq_false Nat.sub_self List.range'_zero decide_true decide_false List.not_mem_nil false_implies implies_true Bool.true_and Bool.and_true drawn pairOk disj quietAt Bool.bne_false Bool.bne_true Bool.false_eq_true applyUpd
attribute [go_sem_proc] reduceIte Nat.reduceEqDiff Nat.reduceAdd Nat.reduceMul Nat.reduceLT Nat.reduceLeDiff reduceCtorEq Int.reduceEq Int.reduceNeg Nat.reduceSub Int.reduceLT Int.reduceLE Int.reduceGT Int.reduceGE Int.reduceAdd Int.reduceSub Int.reduceToNat Int.reduceBNe Int.reduceBEq
attribute [go_sem] Nat.mul_one Nat.zero_mul

end Go.Abs

/-! short words for code -/
namespace Go.Abs.K
open Go Go.Abs
abbrev v (n : Nat) : Operand := .tmp n
abbrev i (n : Int) : Operand := .const (.int .i64 n)
abbrev tt : Operand := .const (.bool true)
abbrev ff : Operand := .const (.bool false)
abbrev o (d : Nat) (x : AOp Operand) : AOper := ⟨some d, x, none⟩
abbrev ot (g d : Nat) (x : AOp Operand) : AOper := ⟨some d, x, some (g, true)⟩
abbrev of (g d : Nat) (x : AOp Operand) : AOper := ⟨some d, x, some (g, false)⟩
abbrev on (x : AOp Operand) : AOper := ⟨none, x, none⟩
abbrev R (l : List AOper) : ACode := .region l none
abbrev D (l : List AOper) (d : Draw) : ACode := .region l (some d)
end Go.Abs.K
