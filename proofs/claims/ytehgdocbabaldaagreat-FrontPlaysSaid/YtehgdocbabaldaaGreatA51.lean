/-
  A law whose last step is a region that draws, with calls that turn nothing: reckoned by the kernel at values that are not known.
-/
import Derived.Test.YtehgdocbabaldaaGreatA49
import Derived.Test.YtehgdocbabaldaaGreatA48
set_option linter.unusedVariables false
namespace Go.Abs
open Go

/-! ### a guarded operation of a region that draws -/
def gdraw (cs : Nat → CallSem) (d : Option Nat) (op : AOp Operand) (r : List AOper) (fs : List Foot) (e : Env) (s : St) (Q : List Foot → Env → St → Prop) (w : Bool) : Prop :=
  if w = true then bindP (op.vals e.rd) (dvals cs d r fs e s Q) else WDraw cs r (fs ++ [⟨[], [], s, s⟩]) (setE e d undefV) s Q
theorem wd_guard (cs : Nat → CallSem) (d : Option Nat) (op : AOp Operand) (t : Nat) (want : Bool) (r : List AOper) (fs : List Foot) (e : Env) (s : St) (Q : List Foot → Env → St → Prop) :
    WDraw cs (⟨d, op, some (t, want)⟩ :: r) fs e s Q = bindP (guardV (e.get t) want) (gdraw cs d op r fs e s Q) := by
  conv => lhs; unfold WDraw
  simp only [wantedA, guardV]
  cases h : e.get t with
  | none => rfl
  | some x =>
    cases x <;> try rfl
    rename_i b
    cases hb : (b == want) with
    | true =>
      simp only [hb, gdraw, bindP, if_true]
      cases op.vals e.rd <;> rfl
    | false => simp only [hb, gdraw, bindP, Bool.false_eq_true, if_false]
theorem gdraw_true (cs : Nat → CallSem) (d : Option Nat) (op : AOp Operand) (r : List AOper) (fs : List Foot) (e : Env) (s : St) (Q : List Foot → Env → St → Prop) :
    gdraw cs d op r fs e s Q true = bindP (op.vals e.rd) (dvals cs d r fs e s Q) := rfl
theorem gdraw_false (cs : Nat → CallSem) (d : Nat) (op : AOp Operand) (r : List AOper) (fs : List Foot) (e : Env) (s : St) (Q : List Foot → Env → St → Prop) :
    gdraw cs (some d) op r fs e s Q false = WDraw cs r (fs ++ [⟨[], [], s, s⟩]) ((d, undefV) :: e) s Q := rfl
theorem gdraw_false' (cs : Nat → CallSem) (op : AOp Operand) (r : List AOper) (fs : List Foot) (e : Env) (s : St) (Q : List Foot → Env → St → Prop) :
    gdraw cs none op r fs e s Q false = WDraw cs r (fs ++ [⟨[], [], s, s⟩]) e s Q := rfl
attribute [go_sem ↓] wd_guard gdraw_true gdraw_false gdraw_false'

end Go.Abs


/-
  A map as a list of keys and values that hold no addresses.
-/
set_option linter.unusedVariables false
set_option linter.unusedSimpArgs false
set_option linter.unusedSectionVars false
namespace Go.Abs
open Go

section
variable {κ υ : Type} [DecidableEq κ]

def lookG : List (κ × υ) → κ → Option υ
  | [], _ => none
  | p :: F, k => if p.1 = k then some p.2 else lookG F k
def setG : List (κ × υ) → κ → υ → List (κ × υ)
  | [], _, _ => []
  | p :: F, k, v => if p.1 = k then (p.1, v) :: F else p :: setG F k v
def delG : List (κ × υ) → κ → List (κ × υ)
  | [], _ => []
  | p :: F, k => if p.1 = k then F else p :: delG F k
def putG (F : List (κ × υ)) (k : κ) (v : υ) : List (κ × υ) := if (lookG F k).isSome = true then setG F k v else F ++ [(k, v)]

theorem lookG_set {F : List (κ × υ)} {k j : κ} {v : υ} : lookG (setG F k v) j = if j = k then (lookG F k).map (fun _ => v) else lookG F j := by
  induction F with
  | nil => simp [setG, lookG]
  | cons p F ih =>
    simp only [setG, lookG]
    by_cases hp : p.1 = k
    · rw [if_pos hp]
      simp only [lookG]
      by_cases hj : j = k
      · subst hj; simp [hp]
      · have : ¬ p.1 = j := fun e => hj (e ▸ hp)
        simp [hj, this]
    · rw [if_neg hp]
      simp only [lookG, ih]
      by_cases hj : j = k
      · subst hj; simp [hp]
      · simp [hj]
theorem lookG_append {F G : List (κ × υ)} {j : κ} : lookG (F ++ G) j = (lookG F j).or (lookG G j) := by
  induction F with
  | nil => simp [lookG]
  | cons p F ih =>
    simp only [List.cons_append, lookG]
    split
    · rfl
    · exact ih
theorem lookG_put {F : List (κ × υ)} {k j : κ} {v : υ} : lookG (putG F k v) j = if j = k then some v else lookG F j := by
  unfold putG
  cases h : lookG F k with
  | none =>
    simp only [Option.isSome_none, Bool.false_eq_true, if_false, lookG_append]
    by_cases hj : j = k
    · subst hj; simp [h, lookG]
    · have : ¬ k = j := fun e => hj e.symm
      simp [hj, lookG, this]
  | some w => simp only [Option.isSome_some, if_true, lookG_set, h, Option.map_some]
theorem lookG_none {F : List (κ × υ)} {k : κ} : lookG F k = none ↔ ∀ p ∈ F, p.1 ≠ k := by
  induction F with
  | nil => simp [lookG]
  | cons p F ih =>
    simp only [lookG]
    split
    · rename_i h; simp [h]
    · rename_i h; rw [ih]; simp [h]
theorem lookG_del {F : List (κ × υ)} (hn : (F.map fun p => p.1).Nodup) {k j : κ} : lookG (delG F k) j = if j = k then none else lookG F j := by
  induction F with
  | nil => simp [delG, lookG]
  | cons p F ih =>
    simp only [List.map_cons, List.nodup_cons] at hn
    simp only [delG, lookG]
    by_cases hp : p.1 = k
    · rw [if_pos hp]
      by_cases hj : j = k
      · subst hj
        rw [if_pos rfl, lookG_none]
        exact fun q hq e => hn.1 (by rw [hp, ← e]; exact List.mem_map_of_mem hq)
      · have : ¬ p.1 = j := fun e => hj (e ▸ hp)
        rw [if_neg hj, if_neg this]
    · rw [if_neg hp]
      simp only [lookG, ih hn.2]
      by_cases hj : j = k
      · subst hj; simp [hp]
      · simp [hj]
theorem setG_keys (F : List (κ × υ)) (k : κ) (v : υ) : (setG F k v).map (fun p => p.1) = F.map fun p => p.1 := by
  induction F with
  | nil => rfl
  | cons p F ih =>
    simp only [setG]
    split
    · simp
    · simp [ih]
theorem putG_keys (F : List (κ × υ)) (k : κ) (v : υ) : (putG F k v).map (fun p => p.1) = if (lookG F k).isSome = true then F.map (fun p => p.1) else F.map (fun p => p.1) ++ [k] := by
  unfold putG
  split
  · exact setG_keys ..
  · simp
theorem delG_sub (F : List (κ × υ)) (k : κ) : (delG F k).Sublist F := by
  induction F with
  | nil => exact .slnil
  | cons p F ih =>
    simp only [delG]
    split
    · exact List.sublist_cons_self ..
    · exact ih.cons_cons p
theorem lookG_mem {F : List (κ × υ)} {k : κ} {v : υ} (h : lookG F k = some v) : (k, v) ∈ F := by
  induction F with
  | nil => cases h
  | cons p F ih =>
    simp only [lookG] at h
    split at h
    · rename_i hp; cases h; subst hp; exact List.mem_cons_self ..
    · exact List.mem_cons_of_mem _ (ih h)
theorem setG_mem {F : List (κ × υ)} {k : κ} {v : υ} {q : κ × υ} (h : q ∈ setG F k v) : q ∈ F ∨ q = (k, v) := by
  induction F with
  | nil => cases h
  | cons p F ih =>
    simp only [setG] at h
    split at h
    · rename_i hp
      rcases List.mem_cons.1 h with rfl | h
      · exact .inr (by rw [hp])
      · exact .inl (List.mem_cons_of_mem _ h)
    · rcases List.mem_cons.1 h with rfl | h
      · exact .inl (List.mem_cons_self ..)
      · exact (ih h).imp_left (List.mem_cons_of_mem _)
theorem putG_mem {F : List (κ × υ)} {k : κ} {v : υ} {q : κ × υ} (h : q ∈ putG F k v) : q ∈ F ∨ q = (k, v) := by
  unfold putG at h
  split at h
  · exact setG_mem h
  · simpa using h
theorem putG_nodup {F : List (κ × υ)} (hn : (F.map fun p => p.1).Nodup) (k : κ) (v : υ) : ((putG F k v).map fun p => p.1).Nodup := by
  rw [putG_keys]
  split
  · exact hn
  · rename_i h
    have h : lookG F k = none := by simpa using h
    rw [lookG_none] at h
    refine List.nodup_append.2 ⟨hn, by simp, fun a ha b hb => ?_⟩
    obtain ⟨p, hp, rfl⟩ := List.mem_map.1 ha
    rw [List.mem_singleton.1 hb]
    exact h p hp
theorem delG_nodup {F : List (κ × υ)} (hn : (F.map fun p => p.1).Nodup) (k : κ) : ((delG F k).map fun p => p.1).Nodup := ((delG_sub F k).map _).nodup hn

/-! ### as it lies -/
def GR (ek : κ → Value) (ev : υ → Value) (es : List MapEntry) (F : List (κ × υ)) : Prop := All2 (fun e q => e.key = ek q.1 ∧ e.val = ev q.2) es F

def KeyG (ek : κ → Value) : Prop := ∀ a b : κ, keyEq (ek a) (ek b) = some (decide (a = b))
theorem keyG_int : KeyG (fun n : Int => Value.int .i64 n) := fun a b => by
  by_cases h : a = b
  · subst h; simp [keyEq]
  · simp [keyEq, h]
theorem keyG_str : KeyG (fun n : ByteArray => Value.string n) := fun a b => by
  by_cases h : a = b
  · subst h; simp [keyEq, bytes_eq_iff]
  · simp only [keyEq, decide_eq_false h, Option.some.injEq]
    rw [Bool.eq_false_iff]
    exact fun e => h ((bytes_eq_iff ..).1 e)

variable {ek : κ → Value} {ev : υ → Value} {es : List MapEntry} {F : List (κ × υ)} {clock : Nat}

theorem hasKey_G (H : KeyG ek) {k : κ} {e : MapEntry} {p : κ × υ} (h : e.key = ek p.1) : hasKey (ek k) e = decide (p.1 = k) := by
  simp only [hasKey, h, H k p.1]
  by_cases hk : p.1 = k
  · subst hk; simp
  · have : ¬ k = p.1 := fun e => hk e.symm
    simp [hk, this]
theorem gr_get (H : KeyG ek) (h : GR ek ev es F) (k : κ) : mget es (ek k) = (lookG F k).map ev := by
  induction h with
  | nil => rfl
  | cons h _ ih =>
    simp only [mget, lookG, hasKey_G H h.1]
    split
    · rename_i hk
      rw [if_pos (of_decide_eq_true hk), h.2]; rfl
    · rename_i hk
      rw [if_neg (fun e => hk (decide_eq_true e))]
      exact ih
theorem gr_set (H : KeyG ek) (h : GR ek ev es F) (k : κ) (v : υ) : GR ek ev (mset es (ek k) (ev v)) (setG F k v) := by
  induction h with
  | nil => exact .nil
  | cons h ht ih =>
    simp only [mset, setG, hasKey_G H h.1]
    split
    · rename_i hk
      rw [if_pos (of_decide_eq_true hk)]
      exact .cons ⟨h.1, rfl⟩ ht
    · rename_i hk
      rw [if_neg (fun e => hk (decide_eq_true e))]
      exact .cons h ih
theorem gr_put (H : KeyG ek) (h : GR ek ev es F) (k : κ) (v : υ) : GR ek ev (mput es clock (ek k) (ev v)) (putG F k v) := by
  unfold mput putG
  rw [gr_get H h k]
  cases lookG F k with
  | none =>
    simp only [Option.map_none, Option.isSome_none, Bool.false_eq_true, if_false]
    exact All2.append' h (.cons ⟨rfl, rfl⟩ .nil)
  | some w =>
    simp only [Option.map_some, Option.isSome_some, if_true]
    exact gr_set H h k v
theorem gr_del (H : KeyG ek) (h : GR ek ev es F) (k : κ) : GR ek ev (mdel es (ek k)) (delG F k) := by
  induction h with
  | nil => exact .nil
  | cons h ht ih =>
    simp only [mdel, delG, hasKey_G H h.1]
    split
    · rename_i hk
      rw [if_pos (of_decide_eq_true hk)]
      exact ht
    · rename_i hk
      rw [if_neg (fun e => hk (decide_eq_true e))]
      exact .cons h ih
theorem gr_key (h : GR ek ev es F) : es.map (fun e => e.key) = F.map fun p => ek p.1 := by
  induction h with
  | nil => rfl
  | cons h _ ih => simp only [List.map_cons, h.1, ih]
theorem gr_nodup {K : Value → Prop} (h : GR ek ev es F) (hm : MOK K es clock) : (F.map fun p => p.1).Nodup := by
  have : (es.map fun e => e.key).Nodup := List.pairwise_map.2 hm.keys
  rw [gr_key h, show (fun p : κ × υ => ek p.1) = ek ∘ (fun p => p.1) from rfl, ← List.map_map] at this
  exact List.Pairwise.of_map ek (fun a b h e => h (by rw [e])) this
theorem mok_kind {K : Value → Prop} (hm : MOK K es clock) (h : GR ek ev es F) : es.length = F.length := h.len
end

section
variable {υ : Type} {ev : υ → Value} {es : List MapEntry} {clock : Nat}
theorem gr_keysZ {F : List (Int × υ)} (h : GR (fun n : Int => Value.int .i64 n) ev es F) (hm : MOK KInt es clock) (hr : ∀ p ∈ F, W64 p.1) (hl : F.length ≤ 1073741824) : keysZ es clock = some (F.map fun p => p.1) := by
  have e1 : keysInt es = some (F.map fun p => p.1) := by
    clear hm hl
    induction h with
    | nil => rfl
    | cons h _ ih =>
      have hb := hr _ (List.mem_cons_self ..)
      simp only [keysInt, h.1, keyInt]
      rw [if_pos (by simp only [Bool.and_eq_true, decide_eq_true_eq]; exact ⟨hb.1, by have := hb.2; omega⟩)]
      rw [Option.bind_some, ih fun p hp => hr p (List.mem_cons_of_mem _ hp)]
      rfl
  unfold keysZ
  rw [e1, Option.bind_some, if_pos]
  simp only [keysFit, Bool.and_eq_true, List.all_eq_true, decide_eq_true_eq]
  exact ⟨⟨⟨fun e he => hm.lt e he, nodup_freshN hm.born⟩, nodup_freshZ (gr_nodup h hm)⟩, by rw [h.len]; exact hl⟩
theorem eqS_eq {a b : List UInt8} (h : eqS a b = true) : a = b := by
  induction a generalizing b with
  | nil => cases b with | nil => rfl | cons y b => simp [eqS] at h
  | cons x a ih =>
    cases b with
    | nil => simp [eqS] at h
    | cons y b =>
      simp only [eqS, Bool.and_eq_true, Nat.beq_eq] at h
      rw [UInt8.toNat_inj.1 h.1, ih h.2]
theorem nodup_freshS {l : List (List UInt8)} (h : l.Nodup) : freshS l = true := by
  induction l with
  | nil => rfl
  | cons x l ih =>
    have h := List.nodup_cons.1 h
    simp only [freshS, Bool.and_eq_true, List.all_eq_true, Bool.not_eq_true', ih h.2, and_true]
    exact fun y hy => Bool.eq_false_iff.2 fun e => h.1 (eqS_eq e ▸ hy)
theorem gr_keysT {F : List (ByteArray × υ)} (h : GR (fun n : ByteArray => Value.string n) ev es F) {K : Value → Prop} (hm : MOK K es clock) (hr : ∀ p ∈ F, p.1.size ≤ 4611686018427387904) (hl : F.length ≤ 1073741824) : keysT es clock = some (F.map fun p => p.1.data.toList) := by
  have e1 : keysStr es = some (F.map fun p => p.1.data.toList) := by
    clear hm hl
    induction h with
    | nil => rfl
    | cons h _ ih =>
      have hb := hr _ (List.mem_cons_self ..)
      simp only [keysStr, h.1, keyStr]
      rw [if_pos (by rw [Nat.ble_eq]; exact hb)]
      rw [Option.bind_some, ih fun p hp => hr p (List.mem_cons_of_mem _ hp)]
      rfl
  unfold keysT
  rw [e1, Option.bind_some, if_pos]
  simp only [Bool.and_eq_true, List.all_eq_true, decide_eq_true_eq]
  refine ⟨⟨⟨fun e he => hm.lt e he, nodup_freshN hm.born⟩, nodup_freshS ?_⟩, by rw [h.len]; exact hl⟩
  have := gr_nodup h hm
  rw [show (fun p : ByteArray × υ => p.1.data.toList) = (fun b : ByteArray => b.data.toList) ∘ (fun p => p.1) from rfl, ← List.map_map]
  exact List.pairwise_map.2 (this.imp fun hne e => hne (by
    rename_i a b
    obtain ⟨⟨a⟩⟩ := a
    obtain ⟨⟨b⟩⟩ := b
    simp only at e
    rw [e]))
end
end Go.Abs
