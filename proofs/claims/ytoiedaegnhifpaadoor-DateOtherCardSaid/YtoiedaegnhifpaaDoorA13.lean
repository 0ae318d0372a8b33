/-
  The operations, value by value: maps, append, copy, make.
-/
import Derived.Test.YtoiedaegnhifpaaDoorA7
import Derived.Lib.AppendZerosOnto
import Derived.Laws.IdiomStrings
import Derived.Laws.StructEq
set_option linter.unusedVariables false
set_option linter.unusedSimpArgs false
namespace Go.Abs
open Go

section
variable {P : Program} {β : Map} {h : HF} {w : World} {n : Nat} {res : Res}

/-! ### maps -/
def keyD : KeyK → TypeDesc → Bool
  | .int, .int _ => true
  | .string, .string => true
  | .bool, .bool => true
  | _, _ => false

theorem checkKey_run {kk : KeyK} {t : TypeId} {d : TypeDesc} {k : Value} (hd : P.underlying t = some d) (hk : keyD kk d = true) (b : Bool) : (Instr.checkKey b 10000 t k).run P w = .ok () w := by
  unfold Instr.checkKey
  simp only [Sem.run_bind, run_und hd, Result.andThen]
  cases kk <;> cases d <;> simp [keyD] at hk <;> rfl

theorem sameNow_eq {kk : KeyK} {d : TypeDesc} {a b : Value} (hk : keyD kk d = true) (ho : keyOk kk a = true) {r : Bool} (h : keyEq a b = some r) : Instr.sameNow d a b = some r := by
  cases kk <;> cases d <;> simp [keyD] at hk <;> cases a <;> simp [keyOk] at ho <;> cases b <;> simp_all [keyEq, Instr.sameNow]

def FRel (β : Map) : Option (Nat × Value) → Option (Nat × Value) → Prop
  | none, none => True
  | some (i, v), some (j, v') => i = j ∧ VRel β v v'
  | _, _ => False

theorem findL_run {kk : KeyK} {d : TypeDesc} {k : Value} (hk : keyD kk d = true) (ho : keyOk kk k = true) {es es' : List MapEntry} (hes : All2 (ERel β) es es') : ∀ (i : Nat) (r : Option (Nat × Value)),
    findL k es i = some r → ∃ r', Instr.findNow d k es' i = some r' ∧ FRel β r r' := by
  induction hes with
  | nil => intro i r hr; simp only [findL, Option.some.injEq] at hr; subst hr; exact ⟨none, rfl, trivial⟩
  | cons he _ ih =>
    intro i r hr
    rename_i e e' _ _
    simp only [findL] at hr
    simp only [Instr.findNow]
    obtain ⟨h1, h2, h3, h4⟩ := he
    split at hr
    · rename_i hq
      rw [h1] at hq
      simp only [Option.some.injEq] at hr
      subst hr
      rw [sameNow_eq hk ho hq]
      exact ⟨_, rfl, rfl, h3⟩
    · rename_i hq
      rw [h1] at hq
      rw [sameNow_eq hk ho hq]
      exact ih _ _ hr
    · cases hr

theorem findKey_run {kk : KeyK} {t : TypeId} {d : TypeDesc} {k : Value} (hd : P.underlying t = some d) (hk : keyD kk d = true) (ho : keyOk kk k = true) {es es' : List MapEntry} (hes : All2 (ERel β) es es') {r : Option (Nat × Value)}
    (hr : findL k es 0 = some r) : ∃ r', (Instr.findKey t k es').run P w = .ok r' w ∧ FRel β r r' := by
  obtain ⟨r', h1, h2⟩ := findL_run hk ho hes 0 r hr
  exact ⟨r', by simp [Instr.findKey, run_und hd, h1], h2⟩

theorem keyOk_inv {kk : KeyK} {k k' : Value} (ho : keyOk kk k = true) (hv : VRel β k k') : k' = k ∧ plainV k = true := by
  cases kk <;> cases k <;> simp [keyOk] at ho <;> cases hv <;> exact ⟨rfl, rfl⟩

theorem getObj_map {r : Nat} {ES : Array MapEntry} {c : Nat} (hq : w.heap[r]? = some (.map ES c)) : (getObj r).run P w = .ok (.map ES c) w := by
  simp [getObj, Sem.run, hq]

theorem setObj_map {r : Nat} {ES : Array MapEntry} {c : Nat} {o : Obj} (hq : w.heap[r]? = some (.map ES c)) : (setObj r o).run P w = .ok () { w with heap := w.heap.setIfInBounds r o } := by
  simp [setObj, Sem.run, hq]

theorem setObj_but (r : Nat) (o : Obj) : But r w { w with heap := w.heap.setIfInBounds r o } :=
  ⟨fun k hk => by simp [Array.getElem?_setIfInBounds, Ne.symm hk], by simp, rfl, rfl, rfl, rfl⟩

theorem entries_inv {x x' : Value} {es : List MapEntry} (hx : VRel β x x') (hs : Sim β h w) (he : entriesOf h x = some es) :
    (x' = .map none ∧ es = []) ∨ ∃ r ES c, x' = .map (some r) ∧ w.heap[r]? = some (.map ES c) ∧ All2 (ERel β) es ES.toList := by
  unfold entriesOf at he
  split at he
  · cases he; exact .inl ⟨hx.nilMap_inv, rfl⟩
  · rename_i id
    split at he
    · rename_i es' c ho
      cases he
      obtain ⟨r, hb, rfl⟩ := hx.map_inv
      obtain ⟨ES, hq, hes⟩ := (hs.obj id r _ hb ho).map_inv
      exact .inr ⟨_, ES, c, rfl, hq, hes⟩
    · cases he
  · cases he

theorem lookup_sim {t kt et : TypeId} {d : TypeDesc} {i : TypeInfo} {z : Value} {kk : KeyK} {ok : Bool} {x x' k k' : Value} (ht : P.underlying t = some (.map kt et)) (hd : P.underlying kt = some d) (hk : keyD kk d = true)
    (hi : P.info? et = some i) (hz : i.zero = some z) (hzp : VRel β z z) (hx : VRel β x x') (hkv : VRel β k k') (hs : Sim β h w) (he : evP h n (.lookup kk z ok x k) = some res) : OpOK P β h w n res id (Instr.lookup t x' k' ok) := by
  simp only [evP] at he
  split at he
  case isFalse => cases he
  rename_i ho
  obtain ⟨rfl, _⟩ := keyOk_inv ho hkv
  cases hes : entriesOf h x with
  | none => simp [hes] at he
  | some es =>
    simp only [hes, Option.bind_some] at he
    cases hf : findL k' es 0 with
    | none => simp [hf] at he
    | some f =>
      simp only [hf, Option.map_some, Option.some.injEq] at he
      subst he
      have hval : ∀ f', FRel β f f' → VRel β (lookV z ok f) (lookV z ok f') := by
        intro f' hfr
        cases f with
        | none =>
          cases f' with
          | some _ => exact hfr.elim
          | none =>
            cases ok with
            | false => exact hzp
            | true => exact LRel.tuple (l := [z, .bool false]) (l' := [z, .bool false]) (.cons hzp (.cons .bool' .nil))
        | some p =>
          obtain ⟨j, v⟩ := p
          cases f' with
          | none => exact hfr.elim
          | some p' =>
            obtain ⟨j', v'⟩ := p'
            cases ok with
            | false => exact hfr.2
            | true => exact LRel.tuple (l := [v, .bool true]) (l' := [v', .bool true]) (.cons hfr.2 (.cons .bool' .nil))
      rcases entries_inv hx hs hes with ⟨rfl, rfl⟩ | ⟨r, ES, c, rfl, hq, hes'⟩
      · obtain ⟨f', hr, hfr⟩ := findKey_run (P := P) (w := w) hd hk ho .nil hf
        refine OpOK.pure (x := lookV z ok f') hs ?_ (hval f' hfr)
        cases f' with
        | none => cases ok <;> simp [Instr.lookup, run_und ht, checkKey_run hd hk, hr, run_zero hi hz, lookV]
        | some p => obtain ⟨j, v⟩ := p; cases ok <;> simp [Instr.lookup, run_und ht, checkKey_run hd hk, hr, lookV]
      · obtain ⟨f', hr, hfr⟩ := findKey_run (P := P) (w := w) hd hk ho hes' hf
        refine OpOK.pure (x := lookV z ok f') hs ?_ (hval f' hfr)
        cases f' with
        | none => cases ok <;> simp [Instr.lookup, run_und ht, checkKey_run hd hk, getObj_map hq, hr, run_zero hi hz, lookV]
        | some p => obtain ⟨j, v⟩ := p; cases ok <;> simp [Instr.lookup, run_und ht, checkKey_run hd hk, getObj_map hq, hr, lookV]

theorem all2_length {α γ : Type} {R : α → γ → Prop} {l : List α} {l' : List γ} (h : All2 R l l') : l.length = l'.length := by
  induction h with
  | nil => rfl
  | cons _ _ ih => simp [ih]

theorem all2_append {α γ : Type} {R : α → γ → Prop} {l k : List α} {l' k' : List γ} (h : All2 R l l') (g : All2 R k k') : All2 R (l ++ k) (l' ++ k') := by
  induction h with
  | nil => exact g
  | cons h _ ih => exact .cons h ih

theorem all2_modify {α γ : Type} {R : α → γ → Prop} {l : List α} {l' : List γ} (h : All2 R l l') {f : α → α} {f' : γ → γ} (hf : ∀ a b, R a b → R (f a) (f' b)) : ∀ i, All2 R (l.modify i f) (l'.modify i f') := by
  induction h with
  | nil => intro i; cases i <;> exact .nil
  | cons h t ih =>
    intro i
    cases i with
    | zero => exact .cons (hf _ _ h) t
    | succ i => exact .cons h (ih i)

theorem all2_erase {α γ : Type} {R : α → γ → Prop} {l : List α} {l' : List γ} (h : All2 R l l') : ∀ i, All2 R (l.eraseIdx i) (l'.eraseIdx i) := by
  induction h with
  | nil => intro i; cases i <;> exact .nil
  | cons h t ih =>
    intro i
    cases i with
    | zero => exact t
    | succ i => exact .cons h (ih i)

theorem all2_get {α γ : Type} {R : α → γ → Prop} {l : List α} {l' : List γ} (h : All2 R l l') : ∀ {i : Nat} {a : α}, l[i]? = some a → ∃ b, l'[i]? = some b ∧ R a b := by
  induction h with
  | nil => intro i a e; simp at e
  | cons h t ih =>
    intro i a e
    cases i with
    | zero => simp only [List.getElem?_cons_zero, Option.some.injEq] at e; subst e; exact ⟨_, rfl, h⟩
    | succ i => simp only [List.getElem?_cons_succ] at e ⊢; exact ih e

theorem map_write {id : Nat} {r : Rec} {es es2 : List MapEntry} {c c2 : Nat} {ES ES2 : Array MapEntry} (hs : Sim β h w) (hb : β id = some r) (ho : h id = some (.map es c)) (hq : w.heap[r.blk]? = some (.map ES c)) (hes : All2 (ERel β) es2 ES2.toList) :
    Sim β (fun j => if j = id then some (.map es2 c2) else h j) { w with heap := w.heap.setIfInBounds r.blk (.map ES2 c2) } ∧
    Step β h w β (fun j => if j = id then some (.map es2 c2) else h j) { w with heap := w.heap.setIfInBounds r.blk (.map ES2 c2) } n n := by
  have hbut := setObj_but (w := w) r.blk (.map ES2 c2)
  have hlt : r.blk < w.heap.size := hs.lt hb ho
  refine update_step hs hb ho rfl rfl hbut.heap hbut.size rfl rfl rfl ?_
  have : (w.heap.setIfInBounds r.blk (.map ES2 c2))[r.blk]? = some (.map ES2 c2) := by simp [hlt]
  rw [this]
  exact ⟨rfl, hes⟩

theorem keyEq_true {a b : Value} (h : keyEq a b = some true) : a = b := by
  unfold keyEq at h
  split at h
  · split at h
    · rename_i hk; simp only [Option.some.injEq, beq_iff_eq] at h; rw [hk, h]
    · cases h
  · simp only [Option.some.injEq, bytes_eq_iff] at h; rw [h]
  · simp only [Option.some.injEq, beq_iff_eq] at h; rw [h]
  · cases h

theorem findL_key {k : Value} {es : List MapEntry} : ∀ {i j : Nat} {v : Value}, findL k es i = some (some (j, v)) → ∃ e, i ≤ j ∧ es[j - i]? = some e ∧ e.key = k ∧ e.val = v := by
  induction es with
  | nil => intro i j v h; simp [findL] at h
  | cons e es ih =>
    intro i j v h
    simp only [findL] at h
    split at h
    · rename_i hq
      simp only [Option.some.injEq, Prod.mk.injEq] at h
      obtain ⟨rfl, rfl⟩ := h
      exact ⟨e, Nat.le_refl _, by simp, (keyEq_true hq).symm, rfl⟩
    · obtain ⟨e', h1, h2, h3, h4⟩ := ih h
      refine ⟨e', by omega, ?_, h3, h4⟩
      obtain ⟨d, rfl⟩ : ∃ d, j = i + 1 + d := ⟨j - (i + 1), by omega⟩
      rw [show i + 1 + d - i = d + 1 by omega]
      rw [show i + 1 + d - (i + 1) = d by omega] at h2
      simpa using h2
    · cases h

theorem sameBits_refl {v : Value} (h : plainV v = true) : Instr.sameBits 10000 v v = true := by
  cases v <;> simp [plainV] at h <;> simp [Instr.sameBits, bytes_eq_iff]

theorem keyStays_run {old new : Value} (he : old = new) (hp : plainV new = true) : (Instr.keyThatStays old new).run P w = .ok new w := by
  subst he
  simp [Instr.keyThatStays, sameBits_refl hp]

theorem mapUpdate_sim {t kt et : TypeId} {d : TypeDesc} {kk : KeyK} {m m' k k' v v' : Value} (ht : P.underlying t = some (.map kt et)) (hd : P.underlying kt = some d) (hk : keyD kk d = true)
    (hm : VRel β m m') (hkv : VRel β k k') (hv : VRel β v v') (hs : Sim β h w) (he : evP h n (.mapUpdate kk m k v) = some res) : OpOK P β h w n res (fun _ => undef) (Instr.mapUpdate t m' k' v') := by
  simp only [evP] at he
  split at he
  case h_2 => cases he
  rename_i id
  split at he
  case h_2 => cases he
  rename_i es clock ho
  split at he
  case isFalse => cases he
  rename_i hko
  obtain ⟨rfl, hpl⟩ := keyOk_inv hko hkv
  obtain ⟨r, hb, rfl⟩ := hm.map_inv
  obtain ⟨ES, hq, hes⟩ := (hs.obj id r _ hb ho).map_inv
  cases hf : findL k' es 0 with
  | none => simp [hf] at he
  | some f =>
    obtain ⟨f', hr, hfr⟩ := findKey_run (P := P) (w := w) hd hk hko hes hf
    simp only [hf, Option.map_some, Option.some.injEq] at he
    cases f with
    | none =>
      simp only at he
      subst he
      cases f' with
      | some _ => exact hfr.elim
      | none =>
        have hnew : All2 (ERel β) (es ++ [{ key := k', val := v, born := clock }]) (ES.push { key := k', val := v', born := clock }).toList := by
          rw [Array.toList_push]; exact all2_append hes (.cons ⟨rfl, hpl, hv, rfl⟩ .nil)
        obtain ⟨h1, h2⟩ := map_write (n := n) (c2 := clock + 1) hs hb ho hq hnew
        refine ⟨(), _, β, ?_, undefV_rel β, h1, h2⟩
        simp [Instr.mapUpdate, run_und ht, getObj_map hq, checkKey_run hd hk, hr, setObj_map hq]
    | some p =>
      obtain ⟨j, u⟩ := p
      simp only at he
      subst he
      cases f' with
      | none => exact hfr.elim
      | some p' =>
        obtain ⟨j', u'⟩ := p'
        obtain ⟨rfl, _⟩ := hfr
        obtain ⟨e, _, hej, hek, _⟩ := findL_key hf
        simp only [Nat.sub_zero] at hej
        obtain ⟨e', hej', hee⟩ := all2_get hes hej
        have hold : ((ES[j]?.map (·.key)).getD k') = k' := by
          have : ES[j]? = some e' := by simpa using hej'
          rw [this]; simp [← hee.1, hek]
        have hnew : All2 (ERel β) (es.modify j fun e => { e with key := k', val := v }) (ES.modify j fun e => { e with key := k', val := v' }).toList := by
          rw [Array.toList_modify]
          refine all2_modify hes ?_ j
          intro a b hab; exact ⟨rfl, hpl, hv, hab.2.2.2⟩
        obtain ⟨h1, h2⟩ := map_write (n := n) (c2 := clock) hs hb ho hq hnew
        refine ⟨(), _, β, ?_, undefV_rel β, h1, h2⟩
        simp only [Instr.mapUpdate, Sem.run_bind, run_und ht, Result.andThen, getObj_map hq, checkKey_run hd hk, hr, keyStays_run hold hpl, setObj_map hq]

theorem mapEntry_sim {t kt et : TypeId} {d : TypeDesc} {i : TypeInfo} {z : Value} {kk : KeyK} {m m' k k' : Value} (ht : P.underlying t = some (.map kt et)) (hd : P.underlying kt = some d) (hk : keyD kk d = true)
    (hi : P.info? et = some i) (hz : i.zero = some z) (hzp : VRel β z z) (hm : VRel β m m') (hkv : VRel β k k') (hs : Sim β h w) (he : evP h n (.mapEntry kk z m k) = some res) : OpOK P β h w n res id (Instr.mapEntry t m' k') := by
  simp only [evP] at he
  split at he
  case h_2 => cases he
  rename_i id
  split at he
  case h_2 => cases he
  rename_i es clock ho
  split at he
  case isFalse => cases he
  rename_i hko
  obtain ⟨rfl, hpl⟩ := keyOk_inv hko hkv
  obtain ⟨r, hb, rfl⟩ := hm.map_inv
  obtain ⟨ES, hq, hes⟩ := (hs.obj id r _ hb ho).map_inv
  cases hf : findL k' es 0 with
  | none => simp [hf] at he
  | some f =>
    obtain ⟨f', hr, hfr⟩ := findKey_run (P := P) (w := w) hd hk hko hes hf
    simp only [hf, Option.map_some, Option.some.injEq] at he
    cases f with
    | none =>
      simp only at he
      subst he
      cases f' with
      | some _ => exact hfr.elim
      | none =>
        have hnew : All2 (ERel β) (es ++ [{ key := k', val := z, born := clock }]) (ES.push { key := k', val := z, born := clock }).toList := by
          rw [Array.toList_push]; exact all2_append hes (.cons ⟨rfl, hpl, hzp, rfl⟩ .nil)
        obtain ⟨h1, h2⟩ := map_write (n := n) (c2 := clock + 1) hs hb ho hq hnew
        refine ⟨_, _, β, ?_, LRel.tuple (l := [z, .int .i64 clock]) (l' := [z, .int .i64 clock]) (.cons hzp (.cons .int' .nil)), h1, h2⟩
        simp [Instr.mapEntry, run_und ht, getObj_map hq, checkKey_run hd hk, hr, setObj_map hq, run_zero hi hz, goInt]
    | some p =>
      obtain ⟨j, u⟩ := p
      simp only at he
      subst he
      cases f' with
      | none => exact hfr.elim
      | some p' =>
        obtain ⟨j', u'⟩ := p'
        obtain ⟨rfl, hu⟩ := hfr
        obtain ⟨e, _, hej, hek, _⟩ := findL_key hf
        simp only [Nat.sub_zero] at hej
        obtain ⟨e', hej', hee⟩ := all2_get hes hej
        have hEj : ES[j]? = some e' := by simpa using hej'
        have hold : ((ES[j]?.map (·.key)).getD k') = k' := by
          rw [hEj]; simp [← hee.1, hek]
        have hnew : All2 (ERel β) (es.modify j fun e => { e with key := k' }) (ES.modify j fun e => { e with key := k' }).toList := by
          rw [Array.toList_modify]
          refine all2_modify hes ?_ j
          intro a b hab; exact ⟨rfl, hpl, hab.2.2.1, hab.2.2.2⟩
        obtain ⟨h1, h2⟩ := map_write (n := n) (c2 := clock) hs hb ho hq hnew
        refine ⟨.tuple #[u', .int .i64 ((ES[j]?.map (·.born)).getD 0 : Nat)], _, β, ?_, ?_, h1, h2⟩
        · have hek' : e'.key = k' := by rw [← hee.1]; exact hek
          simp [Instr.mapEntry, run_und ht, getObj_map hq, checkKey_run hd hk, hr, hEj, keyStays_run hek' hpl, setObj_map hq, goInt]
        · rw [hEj, hej]
          simp only [Option.map_some, Option.getD_some, hee.2.2.2]
          exact LRel.tuple (l := [u, .int .i64 e'.born]) (l' := [u', .int .i64 e'.born]) (.cons hu (.cons .int' .nil))

theorem findIdx_rel {es es' : List MapEntry} (hes : All2 (ERel β) es es') (b : Int) : es'.findIdx? (fun e => (e.born : Int) == b) = es.findIdx? (fun e => (e.born : Int) == b) := by
  induction hes with
  | nil => rfl
  | cons h _ ih => simp only [List.findIdx?_cons, h.2.2.2, ih]

theorem entryStore_sim {t : TypeId} {m m' k k' v v' : Value} (hm : VRel β m m') (hkv : VRel β k k') (hv : VRel β v v') (hs : Sim β h w) (he : evP h n (.entryStore m k v) = some res) :
    OpOK P β h w n res (fun _ => undef) (Instr.entryStore t m' k' v') := by
  simp only [evP] at he
  split at he
  case h_2 => cases he
  rename_i id b
  split at he
  case h_2 => cases he
  rename_i es clock ho
  obtain ⟨r, hb, rfl⟩ := hm.map_inv
  obtain ⟨ES, hq, hes⟩ := (hs.obj id r _ hb ho).map_inv
  rw [hkv.int_inv]
  cases hf : es.findIdx? (fun e => (e.born : Int) == b) with
  | none => simp [hf] at he
  | some j =>
    simp only [hf, Option.map_some, Option.some.injEq] at he
    subst he
    have hf' : ES.findIdx? (fun e => (e.born : Int) == b) = some j := by
      rw [← hf, ← findIdx_rel hes b]
      have := List.findIdx?_toArray (fun e : MapEntry => (e.born : Int) == b) ES.toList
      rwa [Array.toArray_toList] at this
    have hnew : All2 (ERel β) (es.modify j fun e => { e with val := v }) (ES.modify j fun e => { e with val := v' }).toList := by
      rw [Array.toList_modify]
      refine all2_modify hes ?_ j
      intro a b hab; exact ⟨hab.1, hab.2.1, hv, hab.2.2.2⟩
    obtain ⟨h1, h2⟩ := map_write (n := n) (c2 := clock) hs hb ho hq hnew
    refine ⟨(), _, β, ?_, undefV_rel β, h1, h2⟩
    simp [Instr.entryStore, getObj_map hq, asInt, asIntOf, hf', setObj_map hq]

end
end Go.Abs


/-
  The operations, value by value: what grows, and the small ones.
-/
set_option linter.unusedVariables false
set_option linter.unusedSimpArgs false
namespace Go.Abs
open Go

section
variable {P : Program} {β : Map} {h : HF} {w : World} {n : Nat} {res : Res}

theorem delete_sim {ts : Array TypeId} {ty t kt et : TypeId} {d : TypeDesc} {kk : KeyK} {m m' k k' : Value} (ht0 : ts[0]? = some t) (ht : P.underlying t = some (.map kt et)) (hd : P.underlying kt = some d) (hk : keyD kk d = true)
    (hm : VRel β m m') (hkv : VRel β k k') (hs : Sim β h w) (he : evP h n (.delete kk m k) = some res) : OpOK P β h w n res id (Builtin.delete_ ts ty #[m', k']) := by
  simp only [evP] at he
  split at he
  · split at he
    · rename_i hko
      cases he
      rw [hm.nilMap_inv]
      obtain ⟨rfl, hpl⟩ := keyOk_inv hko hkv
      refine OpOK.pure (x := .tuple #[]) hs ?_ (undefV_rel β)
      simp [Builtin.delete_, ht0, run_und ht, checkKey_run hd hk]
    · cases he
  · rename_i id
    split at he
    case h_2 => cases he
    rename_i es clock ho
    split at he
    case isFalse => cases he
    rename_i hko
    obtain ⟨rfl, hpl⟩ := keyOk_inv hko hkv
    obtain ⟨r, hb, rfl⟩ := hm.map_inv
    obtain ⟨ES, hq, hes⟩ := (hs.obj id r _ hb ho).map_inv
    cases hf : findL k' es 0 with
    | none => simp [hf] at he
    | some f =>
      obtain ⟨f', hr, hfr⟩ := findKey_run (P := P) (w := w) hd hk hko hes hf
      simp only [hf, Option.map_some, Option.some.injEq] at he
      cases f with
      | none =>
        simp only at he
        subst he
        cases f' with
        | some _ => exact hfr.elim
        | none =>
          obtain ⟨h1, h2⟩ := map_write (n := n) (c2 := clock) hs hb ho hq hes
          refine ⟨.tuple #[], _, β, ?_, undefV_rel β, h1, h2⟩
          simp [Builtin.delete_, ht0, run_und ht, getObj_map hq, checkKey_run hd hk, hr, setObj_map hq]
      | some p =>
        obtain ⟨j, u⟩ := p
        simp only at he
        subst he
        cases f' with
        | none => exact hfr.elim
        | some p' =>
          obtain ⟨j', u'⟩ := p'
          obtain ⟨rfl, _⟩ := hfr
          obtain ⟨e, _, hej, _, _⟩ := findL_key hf
          simp only [Nat.sub_zero] at hej
          obtain ⟨e', hej', _⟩ := all2_get hes hej
          have hlt : j < ES.size := by
            have := (List.getElem?_eq_some_iff.1 hej').1
            simpa using this
          have hnew : All2 (ERel β) (es.eraseIdx j) (ES.eraseIdxIfInBounds j).toList := by
            unfold Array.eraseIdxIfInBounds
            rw [dif_pos hlt, Array.toList_eraseIdx]
            exact all2_erase hes j
          obtain ⟨h1, h2⟩ := map_write (n := n) (c2 := clock) hs hb ho hq hnew
          refine ⟨.tuple #[], _, β, ?_, undefV_rel β, h1, h2⟩
          simp [Builtin.delete_, ht0, run_und ht, getObj_map hq, checkKey_run hd hk, hr, setObj_map hq]
  · cases he

def lenD : LenK → TypeDesc → Bool
  | .string, .string => true
  | .slice, .slice _ => true
  | .map, .map _ _ => true
  | _, _ => false

theorem len_sim {ts : Array TypeId} {ty t : TypeId} {d : TypeDesc} {k : LenK} {x x' : Value} (ht0 : ts[0]? = some t) (ht : P.underlying t = some d) (hd : lenD k d = true) (hx : VRel β x x') (hs : Sim β h w)
    (he : evP h n (.len k x) = some res) : OpOK P β h w n res id (Builtin.len_ ts ty #[x']) := by
  simp only [evP] at he
  split at he
  · cases he
    rw [hx.string_inv]
    cases d <;> simp [lenD] at hd
    refine OpOK.pure hs ?_ .int'
    simp [Builtin.len_, ht0, run_und ht, goInt]
  · rename_i a m c
    cases he
    cases d <;> simp [lenD] at hd
    have : ∃ a' c', x' = .slice a' m c' := by
      cases a with
      | none => exact ⟨none, c, hx.nilSlice_inv⟩
      | some a =>
        rcases hx.slice_inv with ⟨r, c', _, _, e, _⟩ | ⟨r, b, _, _, e1, e2, e⟩
        · exact ⟨_, _, e⟩
        · exact ⟨_, _, by rw [e, e1]⟩
    obtain ⟨a', c', rfl⟩ := this
    refine OpOK.pure hs ?_ .int'
    simp [Builtin.len_, ht0, run_und ht, goInt]
  · cases he
    cases d <;> simp [lenD] at hd
    rw [hx.nilMap_inv]
    refine OpOK.pure hs ?_ .int'
    simp [Builtin.len_, ht0, run_und ht, goInt]
  · rename_i id
    split at he
    case h_2 => cases he
    rename_i es clock ho
    cases he
    cases d <;> simp [lenD] at hd
    obtain ⟨r, hb, rfl⟩ := hx.map_inv
    obtain ⟨ES, hq, hes⟩ := (hs.obj id r _ hb ho).map_inv
    refine OpOK.pure hs ?_ .int'
    have : es.length = ES.size := by have := all2_length hes; simpa using this
    simp [Builtin.len_, ht0, run_und ht, goInt, getObj_map hq, this]
  · cases he

theorem cap_sim {ts : Array TypeId} {ty t e : TypeId} {x x' : Value} (ht0 : ts[0]? = some t) (ht : P.underlying t = some (.slice e)) (hx : VRel β x x') (hs : Sim β h w)
    (he : evP h n (.cap x) = some res) : OpOK P β h w n res id (Builtin.cap_ ts ty #[x']) := by
  simp only [evP] at he
  split at he
  · cases he
    rw [hx.nilSlice_inv]
    refine OpOK.pure hs ?_ .int'
    simp [Builtin.cap_, ht0, run_und ht, goInt]
  · rename_i id o len c
    split at he
    case h_2 => cases he
    rename_i cc ct z ro ho
    split at he
    case isFalse => cases he
    rename_i hc
    cases he
    rcases hx.slice_inv with ⟨r, c', _, hbb, rfl, hc'⟩ | ⟨r, bb, _, _, rfl, rfl, rfl⟩
    · simp only at hbb
      obtain ⟨C, fr, hq, hn, hro, hsl, _⟩ := (hs.obj id r _ hbb ho).cells_inv
      have hs0 : r.slack = 0 := by
        rcases hc with hc | hc
        · exact hro hc
        · rcases Nat.eq_zero_or_pos r.slack with h | h
          · exact h
          · have := (hsl (by omega)).2; omega
      have : c' = c := by
        rcases hc' with h | ⟨h, _⟩
        · exact h
        · omega
      subst this
      refine OpOK.pure hs ?_ .int'
      simp [Builtin.cap_, ht0, run_und ht, goInt]
    · refine OpOK.pure hs ?_ .int'
      simp [Builtin.cap_, ht0, run_und ht, goInt]
  · cases he

theorem minmaxV_run {b : Bool} {r : List Value} : ∀ {x v : Value}, minmaxV b x r = some v → (r.foldlM (if b then Builtin.max2 else Builtin.min2) x).run P w = .ok v w ∧ ∃ k a, v = .int k a := by
  induction r with
  | nil =>
    intro x v hv
    unfold minmaxV at hv
    split at hv
    · cases hv; exact ⟨rfl, _, _, rfl⟩
    · rename_i heq; exact absurd heq (by simp)
    · cases hv
  | cons y r ih =>
    intro x v hv
    unfold minmaxV at hv
    split at hv
    · rename_i h; simp at h
    · rename_i k x k' y' r' h
      simp only [List.cons.injEq] at h
      obtain ⟨rfl, rfl⟩ := h
      split at hv
      · rename_i hk
        subst hk
        obtain ⟨h1, h2⟩ := ih hv
        refine ⟨?_, h2⟩
        rw [List.foldlM_cons, Sem.run_bind]
        cases b
        · simp only [Bool.false_eq_true, if_false] at h1 ⊢
          simp only [Builtin.min2, Sem.run_pure, Result.andThen_ok]; exact h1
        · simp only [if_true] at h1 ⊢
          simp only [Builtin.max2, Sem.run_pure, Result.andThen_ok]; exact h1
      · cases hv
    · cases hv

theorem minmaxV_rel {b : Bool} {r : List Value} : ∀ {r' : List Value} {x v x' : Value}, LRel β r r' → VRel β x x' → minmaxV b x r = some v → x' = x ∧ r' = r := by
  induction r with
  | nil =>
    intro r' x v x' hr hx hv
    cases hr
    unfold minmaxV at hv
    split at hv
    · exact ⟨hx.int_inv, rfl⟩
    · rename_i heq; exact absurd heq (by simp)
    · cases hv
  | cons y r ih =>
    intro r' x v x' hr hx hv
    cases hr with
    | cons hy ht =>
      unfold minmaxV at hv
      split at hv
      · rename_i h; simp at h
      · rename_i k x k' y' r' h
        simp only [List.cons.injEq] at h
        obtain ⟨rfl, rfl⟩ := h
        split at hv
        · obtain ⟨_, h2⟩ := ih ht (.prim _ rfl) hv
          exact ⟨hx.int_inv, by rw [hy.int_inv, h2]⟩
        · cases hv
      · cases hv

theorem minmax_sim {ts : Array TypeId} {ty : TypeId} {b : Bool} {xs xs' : List Value} (hx : LRel β xs xs') (hs : Sim β h w) (he : evP h n (.minmax b xs) = some res) :
    OpOK P β h w n res id (if b then Builtin.max_ ts ty xs'.toArray else Builtin.min_ ts ty xs'.toArray) := by
  simp only [evP] at he
  cases xs with
  | nil => simp at he
  | cons x r =>
    cases hx with
    | cons hx ht =>
      simp only at he
      cases hv : minmaxV b x r with
      | none => simp [hv] at he
      | some v =>
        simp only [hv, Option.map_some, Option.some.injEq] at he
        subst he
        obtain ⟨rfl, rfl⟩ := minmaxV_rel ht hx hv
        obtain ⟨h1, k, a, rfl⟩ := minmaxV_run (P := P) (w := w) hv
        refine OpOK.pure hs ?_ .int'
        cases b <;> simp [Builtin.max_, Builtin.min_] at h1 ⊢ <;> exact h1

/-! ### what grows -/

theorem cell_of_heap {w w' : World} (hw : w'.heap = w.heap) (a : Addr) : w'.cell? a = w.cell? a := by
  unfold World.cell?; rw [hw]

theorem firstL_run {size m : Nat} {x x' : Value} {l : List Value} (hx : VRel β x x') (hs : Sim β h w) (hl : firstL h size m x = some l) :
    ∃ l', LRel β l l' ∧ ∀ w' : World, w'.heap = w.heap → (Builtin.firstCells size m x').run P w' = .ok l'.toArray w' := by
  unfold firstL at hl
  split at hl
  · rename_i id o ln c
    split at hl
    case isFalse => cases hl
    rename_i hm
    rcases hx.slice_inv with ⟨r, c', hsp, hbb, rfl, hc'⟩ | ⟨r, bb, hsp, hbb, rfl, rfl, rfl⟩
    · obtain ⟨l', hlr, hlen, hc⟩ := cells_read hs hbb hl
      refine ⟨l', hlr, fun w' hw => ?_⟩
      have hrun := run_loadCells_list (P := P) w' ⟨r.blk, r.base + o, none⟩ l' (fun j v hv => by rw [cell_of_heap hw]; exact hc j v hv)
      rw [← hlr.length, hlen] at hrun
      simp [Builtin.firstCells, hrun]
    · -- an empty slice: nothing is asked of it
      obtain rfl : m = 0 := by omega
      obtain ⟨l', hlr, hlen, hc⟩ := cells_read hs hbb hl
      rw [Nat.zero_mul] at hlen
      have h0 := List.eq_nil_of_length_eq_zero hlen
      subst h0
      exact ⟨[], .nil, fun w' _ => by simp [Builtin.firstCells, loadCells, loadCellsFrom]⟩
  · cases hl
    rw [hx.nilSlice_inv]
    exact ⟨[], .nil, fun w' _ => by simp [Builtin.firstCells]⟩
  · cases hl
    rw [hx.string_inv]
    refine ⟨_, LRel.zero ?_, fun w' _ => ?_⟩
    · simp only [zeroOk, List.all_eq_true, List.mem_map, Array.mem_toList_iff]
      rintro x ⟨b, _, rfl⟩
      rfl
    · simp only [Builtin.firstCells, Sem.run_pure, Result.ok.injEq, and_true]
      rw [← Array.toList_inj]
      simp only [Array.toList_map]
  · cases hl

end
end Go.Abs


/-
  The operations, value by value: append, copy, make, conversions.
-/
set_option linter.unusedVariables false
set_option linter.unusedSimpArgs false
namespace Go.Abs
open Go

theorem growBy_le (need : Nat) (h : 256 < need) : ∀ (k c : Nat), c < need → Builtin.growBy need k c ≤ 2 * need := by
  intro k
  induction k with
  | zero => intro c hc; simp only [Builtin.growBy]; omega
  | succ k ih =>
    intro c hc
    simp only [Builtin.growBy]
    rw [if_neg (by omega)]
    by_cases hq : c + (c + 768) / 4 < need
    · exact ih _ hq
    · cases k with
      | zero => simp only [Builtin.growBy]; omega
      | succ k => simp only [Builtin.growBy]; rw [if_pos (by omega)]; omega

theorem nextslicecap_le {need c : Nat} (h : c < need) : Builtin.nextslicecap need c ≤ 2 * need := by
  unfold Builtin.nextslicecap
  split
  · omega
  · split
    · omega
    · rename_i h1 h2
      exact growBy_le need (by omega) 4 c h

section
variable {P : Program} {β : Map} {h : HF} {w : World} {n : Nat} {res : Res}

theorem lenOf_run {x x' : Value} {m : Nat} (hx : VRel β x x') (hl : lenV x = some m) : (Builtin.lenOf x').run P w = .ok m w := by
  unfold lenV at hl
  split at hl
  · rename_i a l c
    cases hl
    cases a with
    | none => rw [hx.nilSlice_inv]; rfl
    | some a =>
      rcases hx.slice_inv with ⟨r, c', _, _, rfl, _⟩ | ⟨r, b, _, _, rfl, _, rfl⟩ <;> rfl
  · cases hl; rw [hx.string_inv]; rfl
  · cases hl

theorem zeroCells_size (z : Array Value) (k : Nat) : (Builtin.zeroCells z k).size = k * z.size := by
  simp [Builtin.zeroCells]

theorem zeroCells_prim {z : Value} (h : zeroOk (cellList z) = true) (k : Nat) : (Builtin.zeroCells z.cells k).toList.all primV = true := by
  rw [List.all_eq_true]
  intro x hx
  simp only [Builtin.zeroCells, Array.toList_map, List.mem_map] at hx
  obtain ⟨i, hi, rfl⟩ := hx
  have hi : i < k * z.cells.size := by simpa using hi
  have hpos : 0 < z.cells.size := by
    rcases Nat.eq_zero_or_pos z.cells.size with h0 | h0
    · rw [h0] at hi; omega
    · exact h0
  have hlt : i % z.cells.size < z.cells.size := Nat.mod_lt _ hpos
  rw [getElem!_pos z.cells _ hlt]
  exact List.all_eq_true.1 h _ (by simp [cellList])

theorem tooBig_spec {m b : Nat} (h : tooBig m b = false) : m * b ≤ 2 ^ 46 ∧ m ≤ 2 ^ 46 := by
  simp only [tooBig, Bool.or_eq_false_iff, decide_eq_false_iff_not, Nat.not_lt] at h
  exact h

def SrcT (P : Program) (ts : Array TypeId) : Prop := ts[1]? = none ∨ ∃ u, ts[1]? = some u ∧ (P.underlying u = some .string ∨ ∃ e', P.underlying u = some (.slice e'))

theorem append_room_run {ts : Array TypeId} {ty t e : TypeId} {i : TypeInfo} {base : Option Addr} {sl c' m : Nat} {y' : Value} {new : List Value} (ht0 : ts[0]? = some t) (ht : P.underlying t = some (.slice e)) (hi : P.info? e = some i)
    (hz : SrcT P ts) (hm : (Builtin.lenOf y').run P w = .ok m w) (hnew : (Builtin.firstCells i.size m y').run P w = .ok new.toArray w) (hle : sl + m ≤ c') {w' : World}
    (hst : ∀ a, base = some a → (storeCells (a.add (sl * i.size)) new).run P w = .ok () w') (hb : base = none → w' = w) :
    (Builtin.append_ ts ty #[.slice base sl c', y']).run P w = .ok (.slice base (sl + m) c') w' := by
  cases base with
  | none =>
    rw [hb rfl]
    rcases hz with hu | ⟨u, hu, hd | ⟨e', hd⟩⟩
    · simp [Builtin.append_, ht0, hu, run_und ht, run_size hi, hm, hle, hnew]
    · simp [Builtin.append_, ht0, hu, run_und ht, run_und hd, run_size hi, hm, hle, hnew]
    · simp [Builtin.append_, ht0, hu, run_und ht, run_und hd, run_size hi, hm, hle, hnew]
  | some a =>
    have hst' := hst a rfl
    rcases hz with hu | ⟨u, hu, hd | ⟨e', hd⟩⟩
    · simp [Builtin.append_, ht0, hu, run_und ht, run_size hi, hm, hle, hnew, hst']
    · simp [Builtin.append_, ht0, hu, run_und ht, run_und hd, run_size hi, hm, hle, hnew, hst']
    · simp [Builtin.append_, ht0, hu, run_und ht, run_und hd, run_size hi, hm, hle, hnew, hst']

theorem append_grow_run {ts : Array TypeId} {ty t e : TypeId} {i : TypeInfo} {z : Value} {base : Option Addr} {sl c' m : Nat} {y' : Value} {old new : List Value} (ht0 : ts[0]? = some t) (ht : P.underlying t = some (.slice e)) (hi : P.info? e = some i)
    (hzv : i.zero = some z) (hz : SrcT P ts) (hm : (Builtin.lenOf y').run P w = .ok m w) (hnew : ∀ w' : World, w'.heap = w.heap → (Builtin.firstCells i.size m y').run P w' = .ok new.toArray w')
    (hold : ∀ w' : World, w'.heap = w.heap → (Builtin.firstCells i.size sl (.slice base sl c')).run P w' = .ok old.toArray w') (hle : c' < sl + m) (hbig : tooBig (sl + m) i.bytes = false) :
    ∃ k : Nat, (Builtin.append_ ts ty #[.slice base sl c', y']).run P w = .ok (.slice (some ⟨w.heap.size, 0, none⟩) (sl + m) (sl + m + k)) (w.drew.alloc (.cells (old.toArray ++ (new.toArray ++ Builtin.zeroCells z.cells k)) e)) := by
  obtain ⟨hb1, hb2⟩ := tooBig_spec hbig
  have hcap := nextslicecap_le hle
  have hnb : ¬ (2 ^ 48 < Builtin.nextslicecap (sl + m) c' * i.bytes) := by
    have : Builtin.nextslicecap (sl + m) c' * i.bytes ≤ 2 * (sl + m) * i.bytes := Nat.mul_le_mul_right _ hcap
    rw [Nat.mul_assoc] at this
    omega
  have hnb' : ¬ (281474976710656 < Builtin.nextslicecap (sl + m) c' * i.bytes) := hnb
  have hni : ¬ (9223372036854775807 < ((sl : Int) + (m : Int)) ∧ i.bytes = 0) := by omega
  have hlt : ¬ (sl + m ≤ c') := by omega
  have e1 := hold { w with drawn := w.drawn + 1 } rfl
  have e2 := hnew { w with drawn := w.drawn + 1 } rfl
  rw [World.drew_eq] at e1 e2
  refine ⟨w.tape w.drawn (.appendCap (sl + m) c' e) % (2 ^ 63 - (sl + m)), ?_⟩
  rcases hz with hu | ⟨u, hu, hd | ⟨e', hd⟩⟩
  · simp [Builtin.append_, ht0, hu, run_und ht, run_size hi, run_info hi, hm, hlt, hni, hnb', Question.forced, Question.cut, e1, e2, run_zero hi hzv, newRow, IntKind.max, IntKind.signed, IntKind.bits]
  · simp [Builtin.append_, ht0, hu, run_und ht, run_und hd, run_size hi, run_info hi, hm, hlt, hni, hnb', Question.forced, Question.cut, e1, e2, run_zero hi hzv, newRow, IntKind.max, IntKind.signed, IntKind.bits]
  · simp [Builtin.append_, ht0, hu, run_und ht, run_und hd, run_size hi, run_info hi, hm, hlt, hni, hnb', Question.forced, Question.cut, e1, e2, run_zero hi hzv, newRow, IntKind.max, IntKind.signed, IntKind.bits]

theorem grown_step {e : TypeId} {L L' : List Value} {Z : Array Value} {sz k : Nat} (hs : Sim β h w) (hn : β n = none) (hL : LRel β L L') (hsz : k * sz ≤ Z.size) (hZ : Z.toList.all primV = true) (h32 : sz < 4294967296) {w' : World} (hw : w' = w.drew.alloc (.cells (L'.toArray ++ Z) e)) :
    Sim (ext β n ⟨w.heap.size, 0, k, L.length, sz⟩) (fun j => if j = n then some (.cells L e sz false) else h j) w' ∧
      Step β h w (ext β n ⟨w.heap.size, 0, k, L.length, sz⟩) (fun j => if j = n then some (.cells L e sz false) else h j) w' n (n + 1) := by
  subst hw
  refine alloc_step hs hn rfl rfl rfl rfl rfl ?_
  have hl := hL.length
  refine ⟨rfl, rfl, by simp, fun _ => ⟨rfl, h32⟩, by simp; omega, fun i hi => ?_, fun _ => .inl rfl, fun _ i hi => ?_, fun _ _ _ => rfl⟩
  rotate_left
  · simp only at hi
    refine ⟨Z[i]'(by omega), ?_, List.all_eq_true.1 hZ _ (by simp)⟩
    simp only [Nat.zero_add]
    rw [hl, Array.getElem?_append_right (by simp)]
    simp only [List.size_toArray, Nat.add_sub_cancel_left]
    exact Array.getElem?_eq_getElem _
  obtain ⟨_, h2⟩ := lrel_iff.1 hL
  refine ⟨L'[i]'(by omega), ?_, (h2 i hi _).mono (ext_le hn)⟩
  simp only [Nat.zero_add]
  rw [Array.getElem?_append_left (by simp; omega)]
  simp

theorem append_sim {ts : Array TypeId} {ty t e : TypeId} {i : TypeInfo} {z : Value} {x x' y y' : Value} (ht0 : ts[0]? = some t) (ht : P.underlying t = some (.slice e)) (hi : P.info? e = some i) (hzv : i.zero = some z) (hzs : z.cells.size = i.size) (hzo : zeroOk (cellList z) = true) (h32 : i.size < 4294967296)
    (hz : SrcT P ts) (hx : VRel β x x') (hy : VRel β y y') (hs : Sim β h w) (hf : Fresh β n res.next) (he : evP h n (.append e i.size i.bytes x y) = some res) : OpOK P β h w n res id (Builtin.append_ ts ty #[x', y']) := by
  simp only [evP] at he
  split at he
  case h_2 => cases he
  rename_i a sl sc
  cases hm : lenV y with
  | none => simp [hm] at he
  | some m =>
    cases hl : firstL h i.size m y with
    | none => simp [hm, hl] at he
    | some new =>
      simp only [hm, hl, Option.bind_some] at he
      split at he
      · cases he
      rename_i hcell
      have hmr := fun w => lenOf_run (P := P) (w := w) hy hm
      obtain ⟨new', hnl, hnr⟩ := firstL_run (P := P) hy hs hl
      have hnc : new.all isCell = true ∧ new.length = m * i.size := by
        constructor
        · cases hq : new.all isCell with
          | true => rfl
          | false => exact absurd (.inl hq) hcell
        · exact Decidable.not_not.1 fun q => hcell (.inr q)
      obtain ⟨hnc, hnlen⟩ := hnc
      have hnlen' := hnl.length
      split at he
      · -- there is room
        rename_i hroom
        split at he
        · cases he
          rw [hx.nilSlice_inv]
          refine OpOK.pure hs (append_room_run (w' := w) ht0 ht hi hz (hmr w) (hnr w rfl) hroom (fun a ha => by cases ha) (fun _ => rfl)) (.prim _ rfl)
        · rename_i id o
          split at he
          case h_2 => cases he
          rename_i c t' z' ho
          split at he
          case isFalse => cases he
          rename_i hle
          cases he
          rcases hx.slice_inv with ⟨r, c', hsp, hbb, rfl, hc'⟩ | ⟨r, bb, hsp, hbb, rfl, rfl, rfl⟩
          · have hmul : (sl + m) * i.size = sl * i.size + m * i.size := Nat.add_mul _ _ _
            simp only at hbb
            obtain ⟨w', hr, hs', hst⟩ := store_step (P := P) (n := n) (o := o + sl * i.size) hs hbb ho hnl (by rw [hnl.all_isCell]; exact hnc) (by omega)
            refine ⟨_, w', β, append_room_run (w' := w') ht0 ht hi hz (hmr w) (hnr w rfl) (by omega) (fun a ha => ?_) (fun hq => by cases hq), .slice hbb hc', hs', hst⟩
            cases ha
            rw [add_eq, Nat.add_assoc]; exact hr
          · obtain rfl : m = 0 := by omega
            simp only at hbb
            rw [Nat.zero_mul] at hnlen
            have h0 := List.eq_nil_of_length_eq_zero hnlen
            subst h0
            have h0' := List.eq_nil_of_length_eq_zero hnlen'.symm
            subst h0'
            have hsame : (fun j => if j = id then some (AObj.cells (storeL c (o + 0 * i.size) []) t' z' false) else h j) = h := by
              funext j
              by_cases e : j = id
              · subst e; simp [storeL, ho]
              · simp [e]
            refine ⟨_, w, β, append_room_run (w' := w) ht0 ht hi hz (hmr w) (hnr w rfl) (by omega) (fun a ha => by simp [storeCells]) (fun hq => by cases hq), .empty hbb, ?_, ?_⟩
            · simp only [updF]; rw [hsame]; exact hs
            · simp only [updF]; rw [hsame]; exact Step.refl β h w n
        · cases he
      · rename_i hroom
        split at he
        · cases he
        rename_i hbig
        simp only [Bool.not_eq_true] at hbig
        split at he
        · -- a nil slice
          split at he
          case isFalse => cases he
          rename_i h0
          subst h0
          cases he
          rw [hx.nilSlice_inv]
          rw [Nat.zero_add] at hbig hroom
          obtain ⟨k, hrun⟩ := append_grow_run (ty := ty) (base := none) (sl := 0) (c' := sc) (old := []) ht0 ht hi hzv hz (hmr w) hnr (fun w' _ => by simp [Builtin.firstCells]) (by omega) (by rw [Nat.zero_add]; exact hbig)
          have hfr : β n = none := hf n (Nat.le_refl _) (Nat.lt_succ_self _)
          obtain ⟨h1, h2⟩ := grown_step (sz := i.size) (k := k) (e := e) (Z := Builtin.zeroCells z.cells k) hs hfr hnl (by rw [zeroCells_size, hzs]; exact Nat.le_refl _) (zeroCells_prim hzo _) h32 rfl
          refine ⟨_, _, _, hrun, ?_, by simpa [updF] using h1, by simpa [updF] using h2⟩
          have hself : ext β n ⟨w.heap.size, 0, k, new.length, i.size⟩ n = some ⟨w.heap.size, 0, k, new.length, i.size⟩ := by simp [ext]
          have := VRel.slice (o := 0) (len := m) (cap := m) (cap' := m + k) hself (.inr ⟨rfl, by show 0 + m * i.size = _; rw [Nat.zero_add]; exact hnlen.symm⟩)
          simpa using this
        · rename_i id o
          split at he
          case h_2 => cases he
          rename_i c t' z' ro ho
          split at he
          case isFalse => cases he
          rename_i hcond
          obtain ⟨hle, hzz, rfl⟩ := hcond
          have hmul : (sl + m) * i.size = sl * i.size + m * i.size := Nat.add_mul _ _ _
          have hLlen : ((c.drop o).take (sl * i.size) ++ new).length = (sl + m) * i.size := by simp; omega
          cases he
          have hfr : β n = none := hf n (Nat.le_refl _) (Nat.lt_succ_self _)
          have hold : ∃ old', LRel β ((c.drop o).take (sl * i.size)) old' ∧ ∀ w' : World, w'.heap = w.heap → (Builtin.firstCells i.size sl x').run P w' = .ok old'.toArray w' := by
            refine firstL_run (P := P) (x := .slice (some ⟨id, o, none⟩) sl sc) hx hs ?_
            simp only [firstL, if_pos (Nat.le_refl _), cellsAt, ho]
            rw [if_pos hle]
          obtain ⟨old', hol, hor⟩ := hold
          -- behind a new block
          have hfin : ∀ (base' : Addr) (c' : Nat), x' = .slice (some base') sl c' → c' < sl + m →
              OpOK P β h w n ⟨.slice (some ⟨n, 0, none⟩) (sl + m) (sl + m), (n, some (.cells ((c.drop o).take (sl * i.size) ++ new) t' i.size false)) :: (if ro = true then [] else [(id, none)]), n + 1⟩ (fun v => v) (Builtin.append_ ts ty #[x', y']) := by
            intro base' c' hx' hlt
            subst hx'
            obtain ⟨k, hrun⟩ := append_grow_run (ty := ty) (old := old') ht0 ht hi hzv hz (hmr w) hnr hor hlt hbig
            obtain ⟨h1, h2⟩ := grown_step (sz := i.size) (k := k) (e := t') (Z := Builtin.zeroCells z.cells k) hs hfr (hol.append hnl) (by rw [zeroCells_size, hzs]; exact Nat.le_refl _) (zeroCells_prim hzo _) h32 rfl
            have hself : ext β n ⟨w.heap.size, 0, k, ((c.drop o).take (sl * i.size) ++ new).length, i.size⟩ n = some ⟨w.heap.size, 0, k, ((c.drop o).take (sl * i.size) ++ new).length, i.size⟩ := by simp [ext]
            have hv := VRel.slice (o := 0) (len := sl + m) (cap := sl + m) (cap' := sl + m + k) hself (.inr ⟨rfl, by show 0 + (sl + m) * i.size = _; rw [Nat.zero_add]; exact hLlen.symm⟩)
            have hworld : (old' ++ new').toArray ++ Builtin.zeroCells z.cells k = old'.toArray ++ (new'.toArray ++ Builtin.zeroCells z.cells k) := by
              rw [← Array.toList_inj]
              simp only [Array.toList_append, List.append_assoc]
            rw [hworld] at h1 h2
            cases ro with
            | true => exact ⟨_, _, _, hrun, hv, by simpa [updF] using h1, by simpa [updF] using h2⟩
            | false =>
              refine ⟨_, _, _, hrun, hv, ?_, ?_⟩
              · have := kill_sim (id := id) h1; simpa [updF] using this
              · have := kill_step (id := id) h2; simpa [updF] using this
          rcases hx.slice_inv with ⟨r, c', hsp, hbb, rfl, hc'⟩ | ⟨r, bb, hsp, hbb, rfl, rfl, rfl⟩
          · simp only at hbb
            by_cases hin : sl + m ≤ c'
            · -- in place
              have hc2 : c' = sc + r.slack ∧ o + sc * r.sz = r.n := by
                rcases hc' with hc' | hc'
                · omega
                · exact hc'
              obtain ⟨hc2, hend⟩ := hc2
              obtain ⟨C, fr, hq, hn, hrs, hsl, hsz, hc, hfz, hpr⟩ := (hs.obj id r _ hbb ho).cells_inv
              have hs0 : r.slack ≠ 0 := by omega
              have hro : ro = false := by
                cases ro with
                | false => rfl
                | true => exact absurd (hrs rfl) hs0
              subst hro
              have hzsz : r.sz = i.size := by
                have := (hsl hs0).1
                rcases hzz with hzz | hzz
                · cases hzz
                · omega
              rw [hzsz] at hend hsz hfz hpr
              have hcap : o + c' * i.size = c.length + r.slack * i.size := by
                rw [hc2, Nat.add_mul]; omega
              have hin2 : (sl + m) * i.size ≤ c' * i.size := Nat.mul_le_mul_right _ hin
              obtain ⟨w', hr, hh, hbut⟩ := run_storeCells (P := P) (b := r.blk) (o := r.base + o + sl * i.size) (t := t') (fr := fr) new' 0 w C hq (by omega)
                (fun j h1 h2 => by rcases hfz rfl with h | ⟨_, h⟩ <;> omega) (by rw [hnl.all_isCell]; exact hnc)
              have hobj : ORel (ext β n ⟨r.blk, r.base + o, c' - (sl + m), (sl + m) * i.size, i.size⟩) ⟨r.blk, r.base + o, c' - (sl + m), (sl + m) * i.size, i.size⟩
                  (.cells ((c.drop o).take (sl * i.size) ++ new) t' i.size false) w'.heap[r.blk]? := by
                rw [hh]
                have hsub : (c' - (sl + m)) * i.size = c' * i.size - (sl + m) * i.size := Nat.sub_mul _ _ _
                refine ⟨rfl, hLlen.symm, by simp, fun _ => ⟨rfl, h32⟩, ?_, fun j hj => ?_, fun _ => ?_, fun h1s j hj => ?_, fun h0 _ hn0 => absurd (by simp only [h0, Nat.mul_zero]) hn0⟩
                · simp only [hLlen, List.size_toArray, storeL_length, Array.length_toList]
                  rw [hsub]; omega
                · rw [hLlen] at hj
                  have hget : (storeL C.toList (r.base + o + sl * i.size + 0) new').toArray[r.base + o + j]? = if sl * i.size ≤ j then new'[j - sl * i.size]? else C[r.base + (o + j)]? := by
                    rw [List.getElem?_toArray, storeL_get _ _ _ _ (by simp; omega)]
                    by_cases hq : sl * i.size ≤ j
                    · rw [if_pos hq, if_pos (by omega)]
                      congr 1; omega
                    · rw [if_neg hq, if_neg (by omega)]
                      simp [Nat.add_assoc]
                  simp only
                  rw [hget]
                  by_cases hq : sl * i.size ≤ j
                  · rw [if_pos hq]
                    have hj2 : j - sl * i.size < new.length := by omega
                    obtain ⟨y2, hy2, hv2⟩ := hnl.get (List.getElem?_eq_getElem hj2)
                    refine ⟨y2, hy2, ?_⟩
                    have e1 : ((c.drop o).take (sl * i.size)).length = sl * i.size := by simp; omega
                    rw [List.getElem_append_right (by omega)]
                    simp only [e1]
                    exact hv2.mono (ext_le hfr)
                  · rw [if_neg hq]
                    obtain ⟨y2, hy2, hv2⟩ := hc (o + j) (by omega)
                    refine ⟨y2, hy2, ?_⟩
                    rw [List.getElem_append_left (by simp; omega)]
                    simp only [List.getElem_take, List.getElem_drop]
                    exact hv2.mono (ext_le hfr)
                · rcases hfz rfl with h | ⟨h1, h⟩
                  · exact .inl h
                  · refine .inr ⟨by have := (hsl hs0).1; omega, ?_⟩
                    rw [hLlen]
                    simp only
                    rw [hsub]; omega
                · simp only at hj
                  rw [hsub] at hj
                  have hge : sc * i.size ≤ (sl + m) * i.size := Nat.mul_le_mul_right _ (by omega)
                  obtain ⟨y, hy, hp⟩ := hpr.1 (by have := (hsl hs0).1; omega) (o + (sl + m) * i.size + j - c.length) (by omega)
                  refine ⟨y, ?_, hp⟩
                  rw [hLlen, List.getElem?_toArray, storeL_get _ _ _ _ (by simp; omega), if_neg (by simp only; omega)]
                  rw [← hy]
                  simp only [Array.getElem?_toList]
                  congr 1; omega
              obtain ⟨h1, h2⟩ := rename_step (r' := ⟨r.blk, r.base + o, c' - (sl + m), (sl + m) * i.size, i.size⟩) (o' := .cells ((c.drop o).take (sl * i.size) ++ new) t' i.size false) hs hfr hbb ho rfl rfl hbut.heap hbut.size hbut.os hbut.tape hbut.output rfl hobj
              have hself : ext β n ⟨r.blk, r.base + o, c' - (sl + m), (sl + m) * i.size, i.size⟩ n = some ⟨r.blk, r.base + o, c' - (sl + m), (sl + m) * i.size, i.size⟩ := by simp [ext]
              have hv := VRel.slice (o := 0) (len := sl + m) (cap := sl + m) (cap' := c') hself (.inr ⟨by simp only; omega, by simp⟩)
              refine ⟨.slice (some ⟨r.blk, r.base + o, none⟩) (sl + m) c', w', _, append_room_run (w' := w') ht0 ht hi hz (hmr w) (hnr w rfl) hin (fun a ha => ?_) (fun hq => by cases hq), hv, ?_, ?_⟩
              · cases ha; rw [add_eq]; exact hr
              · simpa [updF] using h1
              · simpa [updF] using h2
            · exact hfin _ c' rfl (by omega)
          · exact hfin bb 0 rfl (by omega)
        · cases he
end
end Go.Abs


/-
  The operations, value by value: copy, make, conversions, comparisons.
-/
set_option linter.unusedVariables false
set_option linter.unusedSimpArgs false
namespace Go.Abs
open Go

section
variable {P : Program} {β : Map} {h : HF} {w : World} {n : Nat} {res : Res}

theorem copy_sim {ts : Array TypeId} {ty t e : TypeId} {i : TypeInfo} {x x' y y' : Value} (ht0 : ts[0]? = some t) (ht : P.underlying t = some (.slice e)) (hi : P.info? e = some i)
    (hx : VRel β x x') (hy : VRel β y y') (hs : Sim β h w) (he : evP h n (.copy i.size x y) = some res) : OpOK P β h w n res id (Builtin.copy_ ts ty #[x', y']) := by
  simp only [evP] at he
  split at he
  case h_2 => cases he
  rename_i a dl dc
  cases hm : lenV y with
  | none => simp [hm] at he
  | some m =>
    cases hl : firstL h i.size (min m dl) y with
    | none => simp [hm, hl] at he
    | some new =>
      simp only [hm, hl, Option.bind_some] at he
      split at he
      · cases he
      rename_i hcell
      have hmr := lenOf_run (P := P) (w := w) hy hm
      obtain ⟨new', hnl, hnr⟩ := firstL_run (P := P) hy hs hl
      have hnr := hnr w rfl
      have hnc : new.all isCell = true ∧ new.length = min m dl * i.size := by
        constructor
        · cases hq : new.all isCell with
          | true => rfl
          | false => exact absurd (.inl hq) hcell
        · exact Decidable.not_not.1 fun q => hcell (.inr q)
      obtain ⟨hnc, hnlen⟩ := hnc
      have hnlen' := hnl.length
      have hmin : Nat.min m dl = min m dl := rfl
      split at he
      · cases he
        rw [hx.nilSlice_inv]
        refine OpOK.pure hs ?_ .int'
        simp [Builtin.copy_, ht0, run_und ht, hmr, run_size hi, hnr, goInt, hmin]
      · rename_i id o
        split at he
        case h_2 => cases he
        rename_i c t' z' ho
        split at he
        case isFalse => cases he
        rename_i hle
        cases he
        rcases hx.slice_inv with ⟨r, c', hsp, hbb, rfl, hc'⟩ | ⟨r, bb, hsp, hbb, rfl, rfl, rfl⟩
        · simp only at hbb
          obtain ⟨w', hr, hs', hst⟩ := store_step (P := P) (n := n) (o := o) hs hbb ho hnl (by rw [hnl.all_isCell]; exact hnc) (by omega)
          refine ⟨.int .i64 (min m dl : Nat), w', β, ?_, .int', hs', hst⟩
          simp [Builtin.copy_, ht0, run_und ht, hmr, run_size hi, hnr, goInt, hr, hmin]
        · simp only at hbb
          have h00 : min m 0 = 0 := by omega
          rw [h00, Nat.zero_mul] at hnlen
          have h0 := List.eq_nil_of_length_eq_zero hnlen
          subst h0
          have h0' := List.eq_nil_of_length_eq_zero hnlen'.symm
          subst h0'
          have hsame : (fun j => if j = id then some (AObj.cells (storeL c o []) t' z' false) else h j) = h := by
            funext j
            by_cases e : j = id
            · subst e; simp [storeL, ho]
            · simp [e]
          refine ⟨.int .i64 (min m 0 : Nat), w, β, ?_, .int', ?_, ?_⟩
          · rw [h00] at hnr
            have hq : Nat.min m 0 = 0 := h00
            simp [Builtin.copy_, ht0, run_und ht, hmr, run_size hi, hnr, goInt, storeCells, hq, h00]
          · simp only [updF]; rw [hsame]; exact hs
          · simp only [updF]; rw [hsame]; exact Step.refl β h w n
      · cases he

theorem zeros_list (z : Array Value) (c : Nat) : ((Array.range (c * z.size)).map fun i => z[i % z.size]!).toList = (List.replicate c z.toList).flatten := by
  apply List.ext_getElem?
  intro j
  by_cases hz : z.size = 0
  · have : z.toList = [] := List.eq_nil_of_length_eq_zero (by simpa using hz)
    simp [hz, this]
  · have hlen : ∀ k, ((List.replicate k z.toList).flatten).length = k * z.size := by intro k; simp
    have key : ∀ (c j : Nat), ((List.replicate c z.toList).flatten)[j]? = if j < c * z.size then z[j % z.size]? else none := by
      intro c
      induction c with
      | zero => intro j; simp
      | succ c ih =>
        intro j
        rw [List.replicate_succ, List.flatten_cons, Nat.add_mul, Nat.one_mul]
        by_cases hj : j < z.size
        · rw [List.getElem?_append_left (by simpa using hj), if_pos (by omega), Nat.mod_eq_of_lt hj]; simp
        · rw [List.getElem?_append_right (by simpa using hj), ih]
          simp only [Array.length_toList]
          rw [Nat.mod_eq_sub_mod (Nat.le_of_not_lt hj)]
          by_cases h2 : j - z.size < c * z.size
          · rw [if_pos h2, if_pos (by omega)]
          · rw [if_neg h2, if_neg (by omega)]
    rw [key]
    by_cases hj : j < c * z.size
    · have hlt : j % z.size < z.size := Nat.mod_lt _ (by omega)
      simp [hj, hlt]
    · simp [hj]

theorem zeros_rel {z : Array Value} {c : Nat} (hz : zeroOk z.toList = true) : LRel β (List.replicate c z.toList).flatten (List.replicate c z.toList).flatten := by
  refine LRel.zero ?_
  simp only [zeroOk, List.all_eq_true] at hz ⊢
  intro v hv
  simp only [List.mem_flatten, List.mem_replicate] at hv
  obtain ⟨l, ⟨_, rfl⟩, hv⟩ := hv
  exact hz v hv

theorem mkSlice_sim {t e : TypeId} {i : TypeInfo} {z l l' c c' : Value} (ht : P.underlying t = some (.slice e)) (hi : P.info? e = some i) (hzv : i.zero = some z) (hzo : zeroOk (cellList z) = true)
    (hl : VRel β l l') (hc : VRel β c c') (hs : Sim β h w) (hf : Fresh β n res.next) (he : evP h n (.mkSlice e i.size i.bytes (cellList z) l c) = some res) : OpOK P β h w n res id (Instr.makeSlice t l' c') := by
  simp only [evP] at he
  split at he
  case h_2 => cases he
  rename_i l c
  split at he
  case isFalse => cases he
  rename_i hcond
  obtain ⟨h0, h1, hbig, hzl⟩ := hcond
  cases he
  obtain ⟨hb1, hb2⟩ := tooBig_spec hbig
  rw [hl.int_inv, hc.int_inv]
  obtain ⟨L, rfl⟩ := Int.eq_ofNat_of_zero_le h0
  obtain ⟨C, rfl⟩ := Int.eq_ofNat_of_zero_le (Int.le_trans h0 h1)
  simp only [Int.toNat_natCast] at *
  have hzs : z.cells.size = i.size := by simpa [cellList] using hzl
  have hfr : β n = none := hf n (Nat.le_refl _) (Nat.lt_succ_self _)
  have hw1 : IntKind.i64.wrap (L : Int) = L := by simp only [IntKind.wrap, IntKind.bits, IntKind.signed]; simp; omega
  have hw2 : IntKind.i64.wrap (C : Int) = C := by simp only [IntKind.wrap, IntKind.bits, IntKind.signed]; simp; omega
  have hzr := zeros_rel (β := β) (c := C) hzo
  obtain ⟨β', e1, e2, e3⟩ := newRow_ok (e := e) (sz := i.size) hzr hs hfr
  have hval : VRel β' (.slice (some ⟨n, 0, none⟩) L C) (.slice (some ⟨w.heap.size, 0, none⟩) L C) := by
    have := VRel.slice (o := 0) (len := L) (cap := C) (cap' := C) e1 (.inl rfl)
    simpa using this
  refine ⟨_, w.alloc (.cells (List.replicate C (cellList z)).flatten.toArray e), β', ?_, hval, e2, e3⟩
  have hcells : (if C * i.size = 0 then #[] else (Array.range (C * i.size)).map (fun j => z.cells[j % z.cells.size]!)) = (List.replicate C (cellList z)).flatten.toArray := by
    rw [← hzs]
    split
    · rename_i h0
      rw [← Array.toList_inj]
      have : ((List.replicate C (cellList z)).flatten).length = 0 := by
        simp only [List.length_flatten, List.map_replicate, List.sum_replicate_nat, cellList, Array.length_toList]; omega
      simp [List.eq_nil_of_length_eq_zero this]
    · rw [← Array.toList_inj, zeros_list]; rfl
  have hnb : ¬ (((i.bytes : Int) * (C : Int)) > 2 ^ 48) := by
    have : ((i.bytes * C : Nat) : Int) ≤ 2 ^ 46 := by rw [Nat.mul_comm]; exact_mod_cast hb1
    push_cast at this
    omega
  unfold Instr.makeSlice
  simp only [Sem.run_bind, run_und ht, Result.andThen_ok, asInt, asIntOf, Sem.run_pure, run_info hi, hw1, hw2]
  rw [if_neg (by simp only [Bool.or_eq_true, decide_eq_true_eq, not_or]; refine ⟨⟨⟨by omega, hnb⟩, by omega⟩, by omega⟩)]
  by_cases hz0 : C * i.size = 0
  · rw [if_pos hz0] at hcells
    have hr0 : Array.range 0 = #[] := Array.eq_empty_of_size_eq_zero (by simp)
    simp [hz0, newRow, ← hcells, run_size hi, hr0]
  · rw [if_neg hz0] at hcells
    simp [hz0, newRow, ← hcells, run_zero hi hzv, run_size hi]

theorem appendMake_sim {ts : Array TypeId} {ty t u e : TypeId} {i : TypeInfo} {z x x' y y' : Value} {kk : IntKind} (ht0 : ts[0]? = some t) (ht1 : ts[1]? = some u) (ht : P.underlying t = some (.slice e)) (hu : P.underlying u = some (.int kk)) (hi : P.info? e = some i)
    (hzv : i.zero = some z) (hzo : zeroOk (cellList z) = true) (h32 : i.size < 4294967296) (hx : VRel β x x') (hy : VRel β y y') (hs : Sim β h w) (hf : Fresh β n res.next)
    (he : evP h n (.appendMake e i.size i.bytes (cellList z) x y) = some res) : OpOK P β h w n res id (Builtin.append_ ts ty #[x', y']) := by
  simp only [evP] at he
  split at he
  case h_3 => cases he
  case h_2 id o sl sc m =>
    split at he
    case h_2 => cases he
    rename_i c t' z' ho
    split at he
    case isFalse => cases he
    rename_i hcond
    obtain ⟨h0, hbig, hzl, hsz0, rfl, hle, hroom⟩ := hcond
    cases he
    obtain ⟨hb1, hb2⟩ := tooBig_spec hbig
    obtain ⟨M, rfl⟩ := Int.eq_ofNat_of_zero_le (Int.le_of_lt h0)
    simp only [Int.toNat_natCast] at *
    have hM : 0 < M := by omega
    have hzs : z.cells.size = i.size := by simpa [cellList] using hzl
    have hfr : β n = none := hf n (Nat.le_refl _) (Nat.lt_succ_self _)
    have hold : ∃ old', LRel β ((c.drop o).take (sl * i.size)) old' ∧ ∀ w' : World, w'.heap = w.heap → (Builtin.firstCells i.size sl x').run P w' = .ok old'.toArray w' := by
      refine firstL_run (P := P) (x := .slice (some ⟨id, o, none⟩) sl sc) hx hs ?_
      simp only [firstL, if_pos (Nat.le_refl _), cellsAt, ho]
      rw [if_pos hle]
    obtain ⟨old', hol, hor⟩ := hold
    have hx2 : ∃ base', x' = .slice (some base') sl sc := by
      rcases hx.slice_inv with ⟨r, c', _, hbb, rfl, hc'⟩ | ⟨r, bb, _, _, rfl, rfl, rfl⟩
      · simp only at hbb
        obtain ⟨C, fr, hq, hn, hro, _⟩ := (hs.obj id r _ hbb ho).cells_inv
        have hs0 := hro rfl
        refine ⟨⟨r.blk, r.base + o, none⟩, ?_⟩
        rcases hc' with h | ⟨h, _⟩
        · rw [h]
        · rw [h, hs0, Nat.add_zero]
      · exact ⟨bb, rfl⟩
    obtain ⟨base', rfl⟩ := hx2
    rw [hy.int_inv]
    have hcap := nextslicecap_le hroom
    have hfit : Builtin.nextslicecap (sl + M) sc * i.bytes ≤ 281474976710656 := by
      have : Builtin.nextslicecap (sl + M) sc * i.bytes ≤ 2 * (sl + M) * i.bytes := Nat.mul_le_mul_right _ hcap
      rw [Nat.mul_assoc] at this
      omega
    have hMb : M * i.bytes ≤ (sl + M) * i.bytes := Nat.mul_le_mul_right _ (by omega)
    have hrun := Lib.run_append_grow_zeros w t u ty t' i z .i64 kk ht hu hi hzv (some base') sl sc old' (hor w.drew rfl) M hM hsz0 hroom (by omega) (by omega) hfit
    have hkk : ∃ k, grownCap w (sl + M) sc t' = sl + M + k := by unfold grownCap; exact ⟨_, rfl⟩
    obtain ⟨k, hk⟩ := hkk
    rw [hk, Nat.add_sub_cancel_left] at hrun
    have hzr := zeros_rel (β := β) (c := M) hzo
    have hzc : Builtin.zeroCells z.cells M = (List.replicate M (cellList z)).flatten.toArray := by
      rw [← Array.toList_inj, Builtin.zeroCells, zeros_list]; rfl
    have hLl := hol.append hzr
    have hlen : ((c.drop o).take (sl * i.size) ++ (List.replicate M (cellList z)).flatten).length = (sl + M) * i.size := by
      rw [List.length_append, List.length_take, List.length_drop, Nat.add_mul]
      have : ((List.replicate M (cellList z)).flatten).length = M * i.size := by simp [cellList, hzs]
      omega
    obtain ⟨h1, h2⟩ := grown_step (w := w) (sz := i.size) (k := k) (e := t') (Z := Builtin.zeroCells z.cells k) hs hfr hLl (by rw [zeroCells_size, hzs]; exact Nat.le_refl _) (zeroCells_prim hzo _) h32 rfl
    have hworld : old'.toArray ++ Builtin.zeroCells z.cells M ++ Builtin.zeroCells z.cells k = (old' ++ (List.replicate M (cellList z)).flatten).toArray ++ Builtin.zeroCells z.cells k := by
      rw [hzc, ← Array.toList_inj]
      simp only [Array.toList_append, List.append_assoc]
    rw [hworld] at hrun
    have hts : ∀ a, Builtin.append_ ts ty a = Builtin.append_ #[t, u] ty a := by
      intro a
      unfold Builtin.append_
      simp only [ht0, ht1, List.getElem?_toArray, List.getElem?_cons_zero, List.getElem?_cons_succ]
    rw [hts]
    refine ⟨_, _, _, hrun, ?_, by simpa [updF, cellList] using h1, by simpa [updF, cellList] using h2⟩
    have hself : ext β n ⟨w.heap.size, 0, k, ((c.drop o).take (sl * i.size) ++ (List.replicate M (cellList z)).flatten).length, i.size⟩ n = some ⟨w.heap.size, 0, k, ((c.drop o).take (sl * i.size) ++ (List.replicate M (cellList z)).flatten).length, i.size⟩ := by simp [ext]
    have hv := VRel.slice (o := 0) (len := sl + M) (cap := sl + M) (cap' := sl + M + k) hself (.inr ⟨rfl, by show 0 + (sl + M) * i.size = _; rw [Nat.zero_add]; exact hlen.symm⟩)
    simpa [cellList] using hv
  rename_i m
  split at he
  case isFalse => cases he
  rename_i hcond
  obtain ⟨h0, hbig, hzl⟩ := hcond
  cases he
  obtain ⟨hb1, hb2⟩ := tooBig_spec hbig
  rw [hx.nilSlice_inv, hy.int_inv]
  obtain ⟨M, rfl⟩ := Int.eq_ofNat_of_zero_le (Int.le_of_lt h0)
  simp only [Int.toNat_natCast] at *
  have hM : 0 < M := by omega
  have hzs : z.cells.size = i.size := by simpa [cellList] using hzl
  have hfr : β n = none := hf n (Nat.le_refl _) (Nat.lt_succ_self _)
  have hw1 : IntKind.i64.wrap (M : Int) = M := by simp only [IntKind.wrap, IntKind.bits, IntKind.signed]; simp; omega
  have hcap := nextslicecap_le (need := M) (c := 0) hM
  have hnb' : ¬ (281474976710656 < Builtin.nextslicecap M 0 * i.bytes) := by
    have : Builtin.nextslicecap M 0 * i.bytes ≤ 2 * M * i.bytes := Nat.mul_le_mul_right _ hcap
    rw [Nat.mul_assoc] at this
    omega
  have hnb : ¬ (281474976710656 < (M : Int) * (i.bytes : Int)) := by
    have : ((M * i.bytes : Nat) : Int) ≤ 2 ^ 46 := by exact_mod_cast hb1
    push_cast at this
    omega
  have hzr := zeros_rel (β := β) (c := M) hzo
  have hzc : Builtin.zeroCells z.cells M = (List.replicate M (cellList z)).flatten.toArray := by
    rw [← Array.toList_inj, Builtin.zeroCells, zeros_list]; rfl
  obtain ⟨h1, h2⟩ := grown_step (w := w) (sz := i.size) (k := w.tape w.drawn (.appendCap M 0 e) % (2 ^ 63 - M)) (e := e) (Z := Builtin.zeroCells z.cells (w.tape w.drawn (.appendCap M 0 e) % (2 ^ 63 - M))) hs hfr hzr (by rw [zeroCells_size, hzs]; exact Nat.le_refl _) (zeroCells_prim hzo _) h32 rfl
  have hLlen : ((List.replicate M z.cells.toList).flatten).length = M * i.size := by simp [hzs]
  have hrun : (Builtin.append_ ts ty #[.slice none 0 0, .int .i64 (M : Int)]).run P w = .ok (.slice (some ⟨w.heap.size, 0, none⟩) M (M + w.tape w.drawn (.appendCap M 0 e) % (2 ^ 63 - M)))
      (w.drew.alloc (.cells ((List.replicate M z.cells.toList).flatten.toArray ++ Builtin.zeroCells z.cells (w.tape w.drawn (.appendCap M 0 e) % (2 ^ 63 - M))) e)) := by
    have hlt : ¬ (M = 0) := by omega
    have hng : ¬ (9223372036854775807 < (M : Int)) := by omega
    have hn0 : ¬ ((M : Int) < 0) := by omega
    have hzc' : (List.replicate M z.cells.toList).flatten.toArray = Builtin.zeroCells z.cells M := hzc.symm
    rw [hzc']
    by_cases hm0 : M * i.size = 0
    · have he0 : Builtin.zeroCells z.cells M = #[] := by
        apply Array.eq_empty_of_size_eq_zero
        rw [zeroCells_size, hzs]; exact hm0
      simp [Builtin.append_, ht0, ht1, run_und ht, run_und hu, run_size hi, run_info hi, asInt, asIntOf, hw1, hn0, hnb, hnb', hlt, hng, Question.forced, Question.cut, run_zero hi hzv, newRow, Builtin.firstCells, hm0, he0]
    · simp [Builtin.append_, ht0, ht1, run_und ht, run_und hu, run_size hi, run_info hi, asInt, asIntOf, hw1, hn0, hnb, hnb', hlt, hng, Question.forced, Question.cut, run_zero hi hzv, newRow, Builtin.firstCells, hm0]
  generalize w.tape w.drawn (.appendCap M 0 e) % (2 ^ 63 - M) = k at *
  refine ⟨_, _, _, hrun, ?_, h1, h2⟩
  have hself : ext β n ⟨w.heap.size, 0, k, ((List.replicate M z.cells.toList).flatten).length, i.size⟩ n = some ⟨w.heap.size, 0, k, ((List.replicate M z.cells.toList).flatten).length, i.size⟩ := by simp [ext]
  have := VRel.slice (o := 0) (len := M) (cap := M) (cap' := M + k) hself (.inr ⟨rfl, by show 0 + M * i.size = _; rw [Nat.zero_add]; exact hLlen.symm⟩)
  simpa using this

/-! ### conversions -/
theorem conv_int_sim {src dst : TypeId} {k : IntKind} {ds : TypeDesc} {x x' : Value} (hs1 : P.underlying src = some ds) (hd : P.underlying dst = some (.int k)) (hx : VRel β x x') (hs : Sim β h w)
    (he : evP h n (.conv (.int k) x) = some res) : OpOK P β h w n res id (convert src dst x') := by
  cases x <;> simp only [evP, reduceCtorEq, Option.some.injEq] at he
  subst he
  rw [hx.int_inv]
  refine OpOK.pure hs ?_ .int'
  cases ds <;> simp [convert, run_und hs1, run_und hd, Conv.intToInt]

theorem conv_same_sim {src dst : TypeId} {x x' : Value} (hs1 : P.underlying src = some .string) (hd : P.underlying dst = some .string) (hx : VRel β x x') (hs : Sim β h w)
    (he : evP h n (.conv .same x) = some res) : OpOK P β h w n res id (convert src dst x') := by
  cases x <;> simp only [evP, reduceCtorEq, Option.some.injEq] at he
  subst he
  rw [hx.string_inv]
  refine OpOK.pure hs ?_ .string'
  simp [convert, run_und hs1, run_und hd]

theorem conv_toString_sim {src dst e : TypeId} {x x' : Value} (hs1 : P.underlying src = some (.slice e)) (hu : P.underlying e = some (.int .u8)) (hd : P.underlying dst = some .string) (hx : VRel β x x') (hs : Sim β h w)
    (he : evP h n (.conv .toString x) = some res) : OpOK P β h w n res id (convert src dst x') := by
  cases x <;> simp only [evP, reduceCtorEq] at he
  rename_i a len cap
  cases a with
  | none =>
    simp only [Option.some.injEq] at he
    subst he
    rw [hx.nilSlice_inv]
    refine OpOK.pure (x := .string .empty) hs ?_ .string'
    rw [run_convert_bytes_string w src dst e none len cap hs1 hu hd]
    simp [Conv.bytesToString]
  | some ad =>
    obtain ⟨id, o, sp⟩ := ad
    cases sp with
    | some _ => simp at he
    | none =>
      simp only at he
      cases hl : cellsAt h id o len with
      | none => simp [hl] at he
      | some l =>
        cases hb : bytesOf l .empty with
        | none => simp [hl, hb] at he
        | some s =>
          simp only [hl, hb, Option.bind_some, Option.map_some, Option.some.injEq] at he
          subst he
          rcases hx.slice_inv with ⟨r, c', hsp, hbb, rfl, hc'⟩ | ⟨r, bb, hsp, hbb, rfl, rfl, rfl⟩
          · simp only at hbb
            obtain ⟨l', hlr, hlen, hc⟩ := cells_read hs hbb hl
            obtain ⟨ns, rfl, rfl⟩ := bytesOf_ints l' _ _ (bytesOf_rel hlr _ _ hb)
            have hrun := run_loadCells_list (P := P) w ⟨r.blk, r.base + o, none⟩ (ns.map (Value.int .u8)) hc
            rw [← hlr.length, hlen] at hrun
            refine OpOK.pure hs ?_ .string'
            rw [run_convert_bytes_string w src dst e _ len c' hs1 hu hd, run_bytesToString w _ len c' ns hrun]
          · simp only at hbb
            obtain ⟨l', hlr, hlen, hc⟩ := cells_read hs hbb hl
            have h0 := List.eq_nil_of_length_eq_zero hlen
            subst h0
            simp only [bytesOf, Option.some.injEq] at hb
            subst hb
            refine OpOK.pure (x := .string .empty) hs ?_ .string'
            rw [run_convert_bytes_string w src dst e _ 0 0 hs1 hu hd, run_bytesToString w _ 0 0 [] (by simp [loadCells, loadCellsFrom])]
            simp

theorem conv_toBytes_sim {src dst e : TypeId} {x x' : Value} (hs1 : P.underlying src = some .string) (hd : P.underlying dst = some (.slice e)) (hu : P.underlying e = some (.int .u8)) (hx : VRel β x x') (hs : Sim β h w) (hf : Fresh β n res.next)
    (he : evP h n (.conv (.toBytes e) x) = some res) : OpOK P β h w n res id (convert src dst x') := by
  cases x <;> simp only [evP, reduceCtorEq, Option.some.injEq] at he
  rename_i s
  subst he
  rw [hx.string_inv]
  have hfr : β n = none := hf n (Nat.le_refl _) (Nat.lt_succ_self _)
  have hzr : LRel β (s.data.toList.map fun b => Value.int .u8 b.toNat) (s.data.toList.map fun b => Value.int .u8 b.toNat) := by
    refine LRel.zero ?_
    simp only [zeroOk, List.all_eq_true, List.mem_map]
    rintro x ⟨b, _, rfl⟩
    rfl
  have hrun := run_bytes_of_string (P := P) w src dst e s hs1 hd hu
  have hcap : ∃ k, grownCap w s.size 0 e = s.size + k := by
    unfold grownCap
    exact ⟨_, rfl⟩
  obtain ⟨k, hk⟩ := hcap
  rw [hk] at hrun
  have hstep := alloc_step (r := ⟨w.heap.size, 0, k, s.size, 1⟩) (o := .cells (s.data.toList.map fun b => Value.int .u8 b.toNat) e 1 false) hs hfr (w' := w.drew.alloc (.cells (bytesRow s (s.size + k)) e ((bytesRow s (s.size + k)).size, (bytesRow s (s.size + k)).size + 1))) rfl rfl rfl rfl rfl ?_
  · obtain ⟨h1, h2⟩ := hstep
    have hself : ext β n ⟨w.heap.size, 0, k, s.size, 1⟩ n = some ⟨w.heap.size, 0, k, s.size, 1⟩ := by simp [ext]
    have hv := VRel.slice (o := 0) (len := s.size) (cap := s.size) (cap' := s.size + k) hself (.inr ⟨rfl, by simp⟩)
    refine ⟨_, _, _, hrun, ?_, h1, h2⟩
    simpa using hv
  · have hsz : (bytesRow s (s.size + k)).size = s.size + k := by simp [bytesRow]
    have hdl : s.data.toList.length = s.size := by simp
    refine ⟨rfl, by simp, by simp, fun _ => ⟨rfl, by simp⟩, by simp only [hsz, List.length_map, hdl]; omega, fun j hj => ?_, fun _ => .inr ⟨rfl, ?_⟩, fun _ j hj => ?_, fun h => absurd h (by omega)⟩
    · simp only [List.length_map, hdl] at hj
      refine ⟨(s.data.toList.map fun b => Value.int .u8 b.toNat)[j]'(by simpa using hj), ?_, ?_⟩
      · simp only [bytesRow, Nat.zero_add]
        rw [Array.getElem?_append_left (by simpa using hj)]
        simp
        exact ⟨_, Array.getElem?_eq_getElem (show j < s.data.size from hj), rfl⟩
      · simp only [List.getElem_map]; exact .int'
    · rw [hsz]; simp only [List.length_map, hdl]; omega
    · simp only [Nat.mul_one] at hj
      have hlt : s.size + j < (bytesRow s (s.size + k)).size := by omega
      refine ⟨(bytesRow s (s.size + k))[s.size + j], ?_, ?_⟩
      · simp only [List.length_map, hdl, Nat.zero_add]
        exact Array.getElem?_eq_getElem _
      · have : ∀ y ∈ (bytesRow s (s.size + k)).toList, primV y = true := by
          intro y hy
          simp [bytesRow] at hy
          rcases hy with ⟨b, _, rfl⟩ | ⟨_, rfl⟩ <;> rfl
        exact this _ (by simp)

theorem markStringish_run {C : Array Value} {T : TypeId} {fr : Nat × Nat} {a : Addr} (hq : w.heap[a.block]? = some (.cells C T fr)) :
    (markStringish a).run P w = .ok () (w.freeze ⟨a.block, C.size, none⟩ 1) := by
  simp [markStringish, shape, freeze, Sem.run, World.shape?, hq]

theorem conv_sameB_sim {src e : TypeId} {x x' : Value} (hs1 : P.underlying src = some (.slice e)) (hu : P.underlying e = some (.int .u8)) (hx : VRel β x x') (hs : Sim β h w)
    (he : evP h n (.conv .sameB x) = some res) : OpOK P β h w n res id (convert src src x') := by
  cases x <;> simp only [evP, reduceCtorEq] at he
  rename_i a len cap
  cases a with
  | none => simp at he
  | some ad =>
    obtain ⟨id, o, spot⟩ := ad
    cases spot with
    | some _ => simp at he
    | none =>
      simp only at he
      split at he
      case h_2 => cases he
      rename_i c t' sz ho
      split at he
      · cases he
      rename_i hcap
      cases he
      rcases hx.slice_inv with ⟨r, c', hsp, hbb, rfl, hc'⟩ | ⟨r, bb, hsp, hbb, rfl, rfl, rfl⟩
      · simp only at hbb
        obtain ⟨C, fr, hq, hn, hrs, hsl, hsz, hc, hfr, hpr⟩ := (hs.obj id r _ hbb ho).cells_inv
        have hrun := markStringish_run (P := P) (w := w) (a := ⟨r.blk, r.base + o, none⟩) hq
        have hself : (fun j => if j = id then some (AObj.cells c t' sz false) else h j) = h := by
          funext j
          by_cases e : j = id
          · subst e; simp [ho]
          · simp [e]
        have hhp : ∀ k, (w.freeze ⟨r.blk, C.size, none⟩ 1).heap[k]? = if r.blk = k then some (.cells C t' (if fr.1 == fr.2 then (C.size, C.size + 1) else (min fr.1 C.size, max fr.2 (C.size + 1)))) else w.heap[k]? := by
          intro k
          simp only [World.freeze, Nat.one_ne_zero, if_false, Array.getElem?_modify]
          by_cases e : r.blk = k
          · subst e
            simp [hq]
          · simp [e]
        obtain ⟨h1, h2⟩ := update_step (w' := w.freeze ⟨r.blk, C.size, none⟩ 1) (n := n) (o' := .cells c t' sz false) hs hbb ho rfl rfl (fun k hk => by rw [hhp, if_neg (Ne.symm hk)]) (by simp [World.freeze]) rfl rfl rfl (by
          rw [hhp, if_pos rfl]
          refine ⟨rfl, hn, hrs, hsl, hsz, hc, fun _ => .inr ⟨by omega, ?_⟩, hpr⟩
          split
          · exact hsz
          · rename_i hne
            rcases hfr rfl with h | ⟨_, h⟩
            · simp [h] at hne
            · simp only; omega)
        rw [hself] at h1 h2
        refine ⟨_, w.freeze ⟨r.blk, C.size, none⟩ 1, β, ?_, .slice hbb hc', by simpa [updF] using h1, by simpa [updF] using h2⟩
        simp only [convert, Sem.run_bind, run_und hs1, run_und hu, Result.andThen_ok, BEq.rfl, hrun, Sem.run_pure]
      · exact absurd (.inl rfl) hcap

theorem clear_run {ts : Array TypeId} {ty t e : TypeId} {z : Value} {i : TypeInfo} (ht0 : ts[0]? = some t) (ht : P.underlying t = some (.slice e)) (hi : P.info? e = some i) (hzv : i.zero = some z) {a : Addr} {len c : Nat} (hl : len ≠ 0) {w' : World}
    (hr : (storeCells a (Builtin.zeroCells z.cells len).toList).run P w = .ok () w') : (Builtin.clear_ ts ty #[.slice (some a) len c]).run P w = .ok (.tuple #[]) w' := by
  obtain ⟨l, rfl⟩ : ∃ l, len = l + 1 := ⟨len - 1, by omega⟩
  simp only [Builtin.clear_, ht0, List.getElem?_toArray, List.getElem?_cons_zero, Sem.run_bind, run_und ht, Result.andThen_ok, run_zero hi hzv, hr, Sem.run_pure]

theorem clear_sim {ts : Array TypeId} {ty t e : TypeId} {i : TypeInfo} {z x x' : Value} (ht0 : ts[0]? = some t) (ht : P.underlying t = some (.slice e)) (hi : P.info? e = some i) (hzv : i.zero = some z) (hzo : zeroOk (cellList z) = true)
    (hx : VRel β x x') (hs : Sim β h w) (he : evP h n (.clear i.size (cellList z) x) = some res) : OpOK P β h w n res id (Builtin.clear_ ts ty #[x']) := by
  simp only [evP] at he
  split at he
  · cases he
    rw [hx.nilSlice_inv]
    refine OpOK.pure hs ?_ (LRel.tuple (l := []) (l' := []) .nil)
    simp [Builtin.clear_, ht0, run_und ht]
  · rename_i id o len cap
    split at he
    · cases he
    rename_i ob ho0
    split at he
    · rename_i hl0
      cases he
      rcases hx.slice_inv with ⟨r, c', hsp, hbb, rfl, hc'⟩ | ⟨r, bb, hsp, hbb, h1, h2, rfl⟩
      · rw [hl0]
        refine OpOK.pure hs ?_ (LRel.tuple (l := []) (l' := []) .nil)
        simp [Builtin.clear_, ht0, run_und ht]
      · refine OpOK.pure hs ?_ (LRel.tuple (l := []) (l' := []) .nil)
        simp [Builtin.clear_, ht0, run_und ht]
    · rename_i hl0
      split at he
      case h_2 => cases he
      rename_i c t' z'
      have ho := ho0
      split at he
      case isFalse => cases he
      rename_i hle
      cases he
      rcases hx.slice_inv with ⟨r, c', hsp, hbb, rfl, hc'⟩ | ⟨r, bb, hsp, hbb, h1, h2, rfl⟩
      · simp only at hbb
        have hzs : z.cells.size = i.size := by simpa [cellList] using hle.2
        have hcells : (Builtin.zeroCells z.cells len).toList = (List.replicate len (cellList z)).flatten := by
          unfold Builtin.zeroCells
          rw [zeros_list]; rfl
        have hzr : LRel β (List.replicate len (cellList z)).flatten (List.replicate len (cellList z)).flatten := zeros_rel (z := z.cells) hzo
        have hln : ((List.replicate len (cellList z)).flatten).length = len * i.size := by simp [hle.2]
        have hall : ((List.replicate len (cellList z)).flatten).all isCell = true := by
          rw [List.all_eq_true]
          intro v hv
          have h1 : zeroOk (cellList z) = true := hzo
          simp only [zeroOk, List.all_eq_true] at h1
          simp only [List.mem_flatten, List.mem_replicate] at hv
          obtain ⟨l, ⟨_, rfl⟩, hv⟩ := hv
          have := h1 v hv
          cases v <;> first | rfl | (simp [primV] at this)
        generalize hL : (List.replicate len (cellList z)).flatten = L at *
        obtain ⟨w', hr, hs', hst⟩ := store_step (P := P) (n := n) (o := o) hs hbb ho hzr hall (by rw [hln]; exact hle.1)
        rw [← hcells] at hr
        exact ⟨.tuple #[], w', β, clear_run ht0 ht hi hzv hl0 hr, LRel.tuple (l := []) (l' := []) .nil, hs', hst⟩
      · exact absurd h1 hl0
  · cases he

/-! ### comparisons -/
def flatFs (P : Program) (g : TypeId → Option (List KeyK)) : List Field → Nat → Option (List KeyK)
  | [], _ => some []
  | f :: fs, off =>
    if f.name ≠ "_" ∧ f.offset = off then
      (g f.type).bind fun ks => if (P.info? f.type).map (·.size) = some ks.length then (flatFs P g fs (off + ks.length)).map fun r => ks ++ r else none
    else none

def flatK (P : Program) : Nat → TypeId → Option (List KeyK)
  | 0, _ => none
  | d + 1, t =>
    match P.underlying t with
    | some (.int _) => some [.int]
    | some .string => some [.string]
    | some .bool => some [.bool]
    | some (.struct fs) => if P.stoodInHeld t then none else flatFs P (flatK P d) fs.toList 0
    | _ => none

theorem cellsEqK_append {ks ks' : List KeyK} : ∀ {xs ys : List Value} {b : Bool}, cellsEqK (ks ++ ks') xs ys = some b →
    ∃ b1 b2, cellsEqK ks (xs.take ks.length) (ys.take ks.length) = some b1 ∧ cellsEqK ks' (xs.drop ks.length) (ys.drop ks.length) = some b2 ∧ b = (b1 && b2) := by
  induction ks with
  | nil => intro xs ys b h; exact ⟨true, b, rfl, by simpa using h, by simp⟩
  | cons k ks ih =>
    intro xs ys b h
    cases xs with
    | nil => simp [cellsEqK] at h
    | cons x xs =>
      cases ys with
      | nil => simp [cellsEqK] at h
      | cons y ys =>
        simp only [List.cons_append, cellsEqK] at h
        cases hc : cellEqK k x y with
        | none => simp [hc] at h
        | some c =>
          simp only [hc, Option.bind_some] at h
          cases hr : cellsEqK (ks ++ ks') xs ys with
          | none => simp [hr] at h
          | some r =>
            simp only [hr, Option.map_some, Option.some.injEq] at h
            obtain ⟨b1, b2, h1, h2, h3⟩ := ih hr
            refine ⟨c && b1, b2, by simp [cellsEqK, hc, h1], by simpa using h2, ?_⟩
            rw [← h, h3, Bool.and_assoc]

theorem flatFs_run {d : Nat} {g : TypeId → Option (List KeyK)}
    (hg : ∀ t ks, g t = some ks → ∃ dd, P.underlying t = some dd ∧ ((isAggD dd = true ∧ ∀ (xs ys : Array Value) b, cellsEqK ks xs.toList ys.toList = some b → (Op.equalIn d t (.agg xs) (.agg ys)).run P w = .ok b w) ∨
      (isAggD dd = false ∧ ∃ k, ks = [k] ∧ ∀ x y b, cellEqK k x y = some b → (Op.equalIn d t x y).run P w = .ok b w))) (xs ys : Array Value) :
    ∀ (fs : List Field) (off : Nat) (ks : List KeyK) (b : Bool), flatFs P g fs off = some ks → cellsEqK ks (xs.toList.drop off) (ys.toList.drop off) = some b → (Op.eqFields d xs ys fs).run P w = .ok b w := by
  intro fs
  induction fs with
  | nil =>
    intro off ks b hk hb
    simp only [flatFs, Option.some.injEq] at hk
    subst hk
    have : b = true := by
      cases h1 : xs.toList.drop off <;> cases h2 : ys.toList.drop off <;> simp_all [cellsEqK]
    subst this
    simp [Op.eqFields]
  | cons f fs ih =>
    intro off ks b hk hb
    simp only [flatFs] at hk
    split at hk
    case isFalse => cases hk
    rename_i hf
    obtain ⟨hname, hoff⟩ := hf
    cases hgt : g f.type with
    | none => simp [hgt] at hk
    | some k1 =>
      simp only [hgt, Option.bind_some] at hk
      split at hk
      case isFalse => cases hk
      rename_i hsize
      cases hr : flatFs P g fs (off + k1.length) with
      | none => simp [hr] at hk
      | some kr =>
        simp only [hr, Option.map_some, Option.some.injEq] at hk
        subst hk
        obtain ⟨b1, b2, h1, h2, rfl⟩ := cellsEqK_append hb
        rw [List.drop_drop, List.drop_drop] at h2
        have hrest := ih _ _ _ hr h2
        have hinfo : ∃ i, P.info? f.type = some i ∧ i.size = k1.length := by
          cases hi : P.info? f.type with
          | none => simp [hi] at hsize
          | some i => exact ⟨i, rfl, by simpa [hi] using hsize⟩
        obtain ⟨i, hi, hisz⟩ := hinfo
        have hhead : ∃ a c, (part f.type xs f.offset).run P w = .ok a w ∧ (part f.type ys f.offset).run P w = .ok c w ∧ (Op.equalIn d f.type a c).run P w = .ok b1 w := by
          obtain ⟨dd, hdd, hcase | ⟨hna, k, rfl, hcase⟩⟩ := hg _ _ hgt
          · refine ⟨.agg (xs.extract off (off + k1.length)), .agg (ys.extract off (off + k1.length)), ?_, ?_, ?_⟩
            · simp [part, run_agg hdd, hcase.1, run_size hi, hisz, hoff]
            · simp [part, run_agg hdd, hcase.1, run_size hi, hisz, hoff]
            · refine hcase.2 _ _ _ ?_
              simpa [Array.toList_extract, List.extract_eq_take_drop] using h1
          · simp only [List.length_cons, List.length_nil, Nat.zero_add] at h1
            have hx : ∃ x, xs.toList[off]? = some x := by
              cases hq : xs.toList.drop off with
              | nil => rw [hq] at h1; simp [cellsEqK] at h1
              | cons x r => exact ⟨x, by have := congrArg (fun l => l[0]?) hq; simpa using this⟩
            have hy : ∃ y, ys.toList[off]? = some y := by
              cases hq : ys.toList.drop off with
              | nil => rw [hq] at h1; cases (xs.toList.drop off).take 1 <;> simp [cellsEqK] at h1
              | cons y r => exact ⟨y, by have := congrArg (fun l => l[0]?) hq; simpa using this⟩
            obtain ⟨x, hx⟩ := hx
            obtain ⟨y, hy⟩ := hy
            refine ⟨x, y, ?_, ?_, ?_⟩
            · have : xs[off]? = some x := by simpa using hx
              simp [part, run_agg hdd, hna, hoff, this]
            · have : ys[off]? = some y := by simpa using hy
              simp [part, run_agg hdd, hna, hoff, this]
            · refine hcase _ _ _ ?_
              have e1 : (xs.toList.drop off).take 1 = [x] := by
                rw [List.take_one, List.head?_drop, hx]; rfl
              have e2 : (ys.toList.drop off).take 1 = [y] := by
                rw [List.take_one, List.head?_drop, hy]; rfl
              rw [e1, e2] at h1
              simp only [cellsEqK] at h1
              cases hc : cellEqK k x y with
              | none => simp [hc] at h1
              | some c => simpa [hc] using h1
        obtain ⟨a, c, ha, hc, he⟩ := hhead
        simp only [Op.eqFields]
        rw [if_pos hname]
        simp only [Sem.run_bind, ha, hc, he, Result.andThen_ok]
        cases b1 with
        | false => simp
        | true => simpa using hrest

theorem cellEqK_run {k : KeyK} {d : TypeDesc} {dp : Nat} {t : TypeId} {x y : Value} {b : Bool} (ht : P.underlying t = some d) (hk : keyD k d = true) (hb : cellEqK k x y = some b) : (Op.equalIn (dp + 1) t x y).run P w = .ok b w := by
  unfold cellEqK at hb
  split at hb
  case isFalse => cases hb
  rename_i hok
  simp only [Bool.and_eq_true] at hok
  obtain ⟨h1, h2⟩ := hok
  cases k <;> cases d <;> simp [keyD] at hk <;> cases x <;> simp [keyOk] at h1 <;> cases y <;> simp [keyOk] at h2 <;> simp only [keyEq] at hb
  · split at hb
    · rename_i hkk; subst hkk; cases hb; exact run_equalIn_int w dp t _ _ _ _ ht
    · cases hb
  · cases hb; simp [Op.equalIn, run_und ht]
  · cases hb; exact run_equalIn_bool w dp t _ _ ht

theorem flatK_run : ∀ (d : Nat) (t : TypeId) (ks : List KeyK), flatK P d t = some ks → ∃ dd, P.underlying t = some dd ∧ ((isAggD dd = true ∧ ∀ (xs ys : Array Value) b, cellsEqK ks xs.toList ys.toList = some b → (Op.equalIn d t (.agg xs) (.agg ys)).run P w = .ok b w) ∨
      (isAggD dd = false ∧ ∃ k, ks = [k] ∧ ∀ x y b, cellEqK k x y = some b → (Op.equalIn d t x y).run P w = .ok b w)) := by
  intro d
  induction d with
  | zero => intro t ks h; simp [flatK] at h
  | succ d ih =>
    intro t ks h
    simp only [flatK] at h
    split at h
    · rename_i kk hd; cases h; exact ⟨_, hd, .inr ⟨rfl, .int, rfl, fun x y b hb => cellEqK_run hd rfl hb⟩⟩
    · rename_i hd; cases h; exact ⟨_, hd, .inr ⟨rfl, .string, rfl, fun x y b hb => cellEqK_run hd rfl hb⟩⟩
    · rename_i hd; cases h; exact ⟨_, hd, .inr ⟨rfl, .bool, rfl, fun x y b hb => cellEqK_run hd rfl hb⟩⟩
    · rename_i fs hd
      split at h
      · cases h
      rename_i hst
      simp only [Bool.not_eq_true] at hst
      refine ⟨_, hd, .inl ⟨rfl, fun xs ys b hb => ?_⟩⟩
      have hfo : P.fieldsOf t = fs := by simp [Program.fieldsOf, hd]
      rw [run_equalIn_struct w d t xs ys (by rw [hfo]; exact hd) hst, hfo]
      exact flatFs_run ih xs ys fs.toList 0 ks b h (by simpa using hb)
    · cases h

end
end Go.Abs


/-
  From the model's operations to the abstract ones, and that these are sound.
-/
set_option linter.unusedVariables false
set_option linter.unusedSimpArgs false
namespace Go.Abs
open Go

def okConst : Operand → Bool
  | .const c => primV c
  | .global _ => false
  | _ => true

def zeroL (P : Program) (t : TypeId) : Option (List Value) :=
  match P.info? t with
  | some i => i.zero.map fun z => cellList z
  | none => none

def keyKind (P : Program) (t : TypeId) : Option KeyK :=
  match P.underlying t with
  | some (.int _) => some .int
  | some .string => some .string
  | some .bool => some .bool
  | _ => none

def placesOf (P : Program) : List Field → Option (List (Nat × Nat))
  | [] => some []
  | f :: fs => (P.info? f.type).bind fun i => (placesOf P fs).map fun r => (f.offset, i.size) :: r

def partsOf (pl : List (Nat × Nat)) : List (Nat × Operand) → Option (List (Nat × Nat × Operand))
  | [] => some []
  | (i, x) :: r => (pl[i]?).bind fun p => (partsOf pl r).map fun q => (p.1, p.2, x) :: q

def compEq (P : Program) (neg : Bool) (t : TypeId) (x y : Operand) : Option (AOp Operand) :=
  match P.underlying t with
  | some (.int _) => some (.bin (if neg then .neq else .eql) x y)
  | some .string => some (.bin (if neg then .neq else .eql) x y)
  | some .bool => some (.eq neg .scalar x y)
  | some (.pointer _) => some (.eq neg .pointer x y)
  | some (.slice _) => some (.eq neg .slice x y)
  | some (.map _ _) => some (.eq neg .map x y)
  | some (.func _ _ _) => some (.eq neg .func x y)
  | some (.interface _) => match y with | .const .nilIface => some (.eq neg .iface x y) | _ => none
  | some (.struct _) => if P.eqGuardType P.depth t then none else (flatK P 10000 t).map fun ks => .eq neg (.plain ks) x y
  | _ => none

def compConv (P : Program) (src dst : TypeId) (x : Operand) : Option (AOp Operand) :=
  match P.underlying src, P.underlying dst with
  | some (.int _), some (.int k) => some (.conv (.int k) x)
  | some .string, some .string => some (.conv .same x)
  | some .string, some (.slice e) => match P.underlying e with | some (.int .u8) => some (.conv (.toBytes e) x) | _ => none
  | some (.slice e), some .string => match P.underlying e with | some (.int .u8) => some (.conv .toString x) | _ => none
  | some (.slice e), some (.slice _) => if src = dst then match P.underlying e with | some (.int .u8) => some (.conv .sameB x) | _ => none else none
  | _, _ => none

def compBuiltin (P : Program) (b : Builtin) (ts : Array TypeId) (args : List Operand) : Option (AOp Operand) :=
  match b, args with
  | .len, [x] => match (ts[0]?).bind P.underlying with | some .string => some (.len .string x) | some (.slice _) => some (.len .slice x) | some (.map _ _) => some (.len .map x) | _ => none
  | .cap, [x] => match (ts[0]?).bind P.underlying with | some (.slice _) => some (.cap x) | _ => none
  | .append, [x, y] =>
    match (ts[0]?).bind P.underlying with
    | some (.slice e) =>
      match P.info? e with
      | some i =>
        match i.zero with
        | some z =>
          if z.cells.size = i.size ∧ zeroOk (cellList z) = true ∧ i.size < 4294967296 then
            match ts[1]? with
            | none => some (.append e i.size i.bytes x y)
            | some u =>
              match P.underlying u with
              | some .string => some (.append e i.size i.bytes x y)
              | some (.slice _) => some (.append e i.size i.bytes x y)
              | some (.int _) => if zeroOk (cellList z) then some (.appendMake e i.size i.bytes (cellList z) x y) else none
              | _ => none
          else none
        | none => none
      | none => none
    | _ => none
  | .copy, [x, y] => match (ts[0]?).bind P.underlying with | some (.slice e) => (P.info? e).map fun i => .copy i.size x y | _ => none
  | .delete, [m, k] => match (ts[0]?).bind P.underlying with | some (.map kt _) => (keyKind P kt).map fun kk => .delete kk m k | _ => none
  | .clear, [x] =>
    match (ts[0]?).bind P.underlying with
    | some (.slice e) =>
      match P.info? e with
      | some i => (i.zero).bind fun z => if zeroOk (cellList z) then some (.clear i.size (cellList z) x) else none
      | none => none
    | _ => none
  | .max, xs => some (.minmax true xs)
  | .min, xs => some (.minmax false xs)
  | _, _ => none

def compOp (P : Program) : Op → Option (AOp Operand)
  | .move x | .assign x => some (.mov x)
  | .pick c a b => some (.pick c a b)
  | .alloc e => (zeroL P e).bind fun z => if zeroOk z then some (.alloc e z) else none
  | .box e x => some (.box e x)
  | .build t ps =>
    match P.underlying t with
    | some (.struct fs) => (placesOf P fs.toList).bind fun pl => (zeroL P t).bind fun z => if zeroOk z then (partsOf pl ps.toList).map fun q => .build z q else none
    | _ => none
  | .buildSlice t len ps =>
    match P.underlying t with
    | some (.slice e) =>
      match P.info? e with
      | some i =>
        match i.zero with
        | some z =>
          if z.cells.size = i.size ∧ i.size ≠ 0 ∧ len * i.size ≤ 2 ^ 24 ∧ zeroOk (cellList z) then
            some (.buildSlice e i.size len (List.replicate len (cellList z)).flatten (ps.toList.map fun p => (p.1 * i.size, i.size, p.2))) else none
        | none => none
      | none => none
    | _ => none
  | .load t a => (shapeT P t).map fun k => .load k a
  | .store t a x => (P.info? t).map fun i => .store i.size a x
  | .nilCheck x => some (.nilCheck x)
  | .binOp op t x y _ =>
    match op with
    | .eql => compEq P false t x y
    | .neq => compEq P true t x y
    | _ => some (.bin op x y)
  | .unOp op _ x => some (.un op x)
  | .convert src dst x => compConv P src dst x
  | .makeInterface t x => match P.underlying t with | some (.interface _) => none | some _ => some (.mkIface t x) | none => none
  | .makeFunc fn a c => some (.mkFunc fn a.toList c.toList)
  | .makeMap _ none => some (.mkMap none)
  | .makeSlice t l c =>
    match P.underlying t with
    | some (.slice e) =>
      match P.info? e with
      | some i => (i.zero).bind fun z => if zeroOk (cellList z) then some (.mkSlice e i.size i.bytes (cellList z) l c) else none
      | none => none
    | _ => none
  | .slice t x lo hi mx =>
    match P.underlying t with
    | some .string => some (.slice .string x lo hi mx)
    | some (.slice e) => (P.info? e).map fun i => .slice (.slice i.size) x lo hi mx
    | _ => none
  | .fieldAddr t x j =>
    match P.underlying t with
    | some (.struct fs) => (fs[j]?).bind fun f => (P.info? f.type).bind fun i => if i.size ≠ 0 then some (.fieldAddr f.offset x) else none
    | _ => none
  | .field t x j =>
    match P.underlying t with
    | some (.struct fs) => (fs[j]?).bind fun f => (shapeT P f.type).map fun k => .field f.offset k x
    | _ => none
  | .indexAddr t x i =>
    match P.underlying t with
    | some (.slice e) => (P.info? e).map fun j => .indexAddr j.size x i
    | _ => none
  | .index t x i =>
    match P.underlying t with
    | some .string => some (.index x i)
    | _ => none
  | .lookup t x k ok =>
    match P.underlying t with
    | some (.map kt et) => (keyKind P kt).bind fun kk =>
      match P.info? et with
      | some i => (i.zero).bind fun z => if primV z || zeroAgg z then some (.lookup kk z ok x k) else none
      | none => none
    | _ => none
  | .mapUpdate t m k v | .insert t m k v =>
    match P.underlying t with
    | some (.map kt _) => (keyKind P kt).map fun kk => .mapUpdate kk m k v
    | _ => none
  | .mapEntry t m k =>
    match P.underlying t with
    | some (.map kt et) => (keyKind P kt).bind fun kk =>
      match P.info? et with
      | some i => (i.zero).bind fun z => if primV z || zeroAgg z then some (.mapEntry kk z m k) else none
      | none => none
    | _ => none
  | .entryStore _ m s v => some (.entryStore m s v)
  | .panic _ => some (.cap (.const (.bool false)))
  | .range t x =>
    match P.underlying t with
    | some .string => some (.rangeStr x)
    | _ => none
  | .next x true => some (.nextStr x)
  | .extract x i => some (.extract x i)
  | .call c =>
    match c.callee with
    | .builtin b => compBuiltin P b c.argTypes c.args.toList
    | .value f => some (.call f c.args.toList)
    | _ => none
  | _ => none
where
  zeroAgg : Value → Bool
    | .agg cs => zeroOk cs.toList
    | _ => false

section
variable {P : Program} {β : Map} {h : HF} {w : World} {n : Nat} {res : Res}

def ExOK (P : Program) (β : Map) (h : HF) (w : World) (n : Nat) (res : Res) (r : Sem Next) : Prop :=
  ∃ nx w' β' v', r.run P w = .ok nx w' ∧ (nx = .value v' ∨ (nx = .skip ∧ v' = undef)) ∧ VRel β' res.val v' ∧ Sim β' (updF h res.upd) w' ∧ Step β h w β' (updF h res.upd) w' n res.next

theorem OpOK.v {s : Sem Value} (ho : OpOK P β h w n res id s) : ExOK P β h w n res (do Pure.pure (.value (← s))) := by
  obtain ⟨x, w', β', hr, hv, h1, h2⟩ := ho
  exact ⟨.value x, w', β', x, by simp [hr], .inl rfl, hv, h1, h2⟩

theorem OpOK.u {s : Sem Unit} (ho : OpOK P β h w n res (fun _ => undef) s) : ExOK P β h w n res (do s; Pure.pure .skip) := by
  obtain ⟨x, w', β', hr, hv, h1, h2⟩ := ho
  exact ⟨.skip, w', β', undef, by simp [hr], .inr ⟨rfl, rfl⟩, hv, h1, h2⟩

theorem ExOK.pureV {v v' : Value} {r : Sem Next} (hs : Sim β h w) (hr : r.run P w = .ok (.value v') w) (hv : VRel β v v') : ExOK P β h w n ⟨v, [], n⟩ r :=
  ⟨.value v', w, β, v', hr, .inl rfl, hv, hs, Step.refl β h w n⟩

theorem mapList_rel {e : Env} {a : Act} (hr : EnvRel β e a) : ∀ {xs : List Operand} {vs : List Value}, (∀ x ∈ xs, okConst x = true) → mapList e.rd xs = some vs → LRel β vs (xs.map a.eval) := by
  intro xs
  induction xs with
  | nil => intro vs _ hv; simp only [mapList, Option.some.injEq] at hv; subst hv; exact .nil
  | cons x xs ih =>
    intro vs hok hv
    simp only [mapList] at hv
    cases h1 : e.rd x with
    | none => simp [h1] at hv
    | some v =>
      cases h2 : mapList e.rd xs with
      | none => simp [h1, h2] at hv
      | some r =>
        simp only [h1, h2, Option.bind_some, Option.map_some, Option.some.injEq] at hv
        subst hv
        refine .cons (hr.rd (fun c hc => ?_) h1) (ih (fun y hy => hok y (List.mem_cons_of_mem _ hy)) h2)
        have := hok x (List.mem_cons_self ..)
        rw [hc] at this; exact this

theorem mapOpt_rel {e : Env} {a : Act} (hr : EnvRel β e a) {x : Option Operand} {v : Option Value} (hok : ∀ y, x = some y → okConst y = true) (hv : mapOpt e.rd x = some v) : OptRel β v (x.map a.eval) := by
  cases x with
  | none => simp only [mapOpt, Option.some.injEq] at hv; subst hv; exact .none
  | some x =>
    simp only [mapOpt] at hv
    cases h1 : e.rd x with
    | none => simp [h1] at hv
    | some u =>
      simp only [h1, Option.map_some, Option.some.injEq] at hv
      subst hv
      refine .some (hr.rd (fun c hc => ?_) h1)
      have := hok x rfl
      rw [hc] at this; exact this

theorem keyKind_spec {t : TypeId} {kk : KeyK} (h : keyKind P t = some kk) : ∃ d, P.underlying t = some d ∧ keyD kk d = true := by
  unfold keyKind at h
  split at h <;> first | (cases h; rename_i hd; exact ⟨_, hd, rfl⟩) | cases h

theorem zeroL_spec {t : TypeId} {z : List Value} (h : zeroL P t = some z) : ∃ i zv, P.info? t = some i ∧ i.zero = some zv ∧ z = cellList zv := by
  unfold zeroL at h
  split at h
  · rename_i i hi
    cases hz : i.zero with
    | none => simp [hz] at h
    | some zv => simp only [hz, Option.map_some, Option.some.injEq] at h; exact ⟨i, zv, hi, hz, h.symm⟩
  · cases h

theorem VRel.pointer_shape {a : Option Addr} {v : Value} (hv : VRel β (.pointer a) v) : ∃ a', v = .pointer a' ∧ a'.isNone = a.isNone := by
  cases a with
  | none => exact ⟨none, hv.nilPtr_inv, rfl⟩
  | some a =>
    cases hv with
    | prim _ h => simp [primV] at h
    | ptr h => exact ⟨_, rfl, rfl⟩
theorem VRel.some_shape {a : Addr} {v : Value} (hv : VRel β (.pointer (some a)) v) : ∃ a', v = .pointer (some a') := by
  obtain ⟨a', rfl, h⟩ := hv.pointer_shape
  cases a' with
  | none => simp at h
  | some b => exact ⟨b, rfl⟩
theorem VRel.iface_inv {t : TypeId} {u v : Value} (hv : VRel β (.iface t u) v) : ∃ u', v = .iface t u' ∧ VRel β u u' := by
  cases hv with
  | prim _ h => simp [primV] at h
  | iface h => exact ⟨_, rfl, h⟩
theorem VRel.slice_shape {a : Option Addr} {l c : Nat} {v : Value} (hv : VRel β (.slice a l c) v) : ∃ a' l' c', v = .slice a' l' c' ∧ a'.isNone = a.isNone := by
  cases a with
  | none => exact ⟨none, l, c, hv.nilSlice_inv, rfl⟩
  | some a =>
    rcases hv.slice_inv with ⟨r, c', _, _, e, _⟩ | ⟨r, b, _, _, e1, e2, e⟩
    · exact ⟨_, _, _, e, rfl⟩
    · exact ⟨_, _, _, e, rfl⟩
theorem VRel.map_shape {a : Option Nat} {v : Value} (hv : VRel β (.map a) v) : ∃ a', v = .map a' ∧ a'.isNone = a.isNone := by
  cases a with
  | none => exact ⟨none, hv.nilMap_inv, rfl⟩
  | some a => obtain ⟨r, _, e⟩ := hv.map_inv; exact ⟨_, e, rfl⟩

def genV : Value → Bool
  | .int _ _ | .float _ _ | .complex _ _ _ | .string _ => false
  | _ => true

theorem binOp_eq_run {neg : Bool} {t : TypeId} {x y : Operand} {a b : Value} {r : Bool} (h1 : genV a = true) (hg : (eqGuard (if neg then .neq else .eql) t x y a b).run P w = .ok () w) (hr : (Op.equal t a b).run P w = .ok r w) :
    (do eqGuard (if neg then .neq else .eql) t x y a b; binOp (if neg then .neq else .eql) t a b : Sem Value).run P w = .ok (.bool (r != neg)) w := by
  simp only [Sem.run_bind, hg, Result.andThen_ok]
  have e1 : binOp .eql t a b = (do Pure.pure (.bool (← Op.equal t a b)) : Sem Value) := by cases a <;> simp [genV] at h1 <;> rfl
  have e2 : binOp .neq t a b = (do Pure.pure (.bool (!(← Op.equal t a b))) : Sem Value) := by cases a <;> simp [genV] at h1 <;> rfl
  cases neg
  · simp [e1, hr]
  · simp [e2, hr]

def eqD : EqK → TypeDesc → Bool
  | .scalar, .bool => true
  | .pointer, .pointer _ => true
  | .slice, .slice _ => true
  | .map, .map _ _ => true
  | .func, .func _ _ _ => true
  | .iface, .interface _ => true
  | _, _ => false

theorem eqV_run {neg : Bool} {t : TypeId} {d : TypeDesc} {x y : Operand} {k : EqK} {a b a' b' : Value} {r : Bool} (hd : P.underlying t = some d) (hk : eqD k d = true) (ha : VRel β a a') (hb : VRel β b b')
    (hy : k = .iface → ∃ c, y = .const c) (he : eqV k a b = some r) :
    (do eqGuard (if neg then .neq else .eql) t x y a' b'; binOp (if neg then .neq else .eql) t a' b' : Sem Value).run P w = .ok (.bool (r != neg)) w := by
  cases k <;> cases d <;> simp only [eqD, Bool.false_eq_true] at hk <;> cases a <;> cases b <;> simp only [eqV, reduceCtorEq, Option.some.injEq] at he
  · -- bools
    subst he
    rw [ha.bool_inv, hb.bool_inv]
    exact binOp_eq_run rfl (by cases neg <;> simp [eqGuard]) (run_equal_bool w t _ _ hd)
  · -- pointers
    rename_i p q
    obtain ⟨p', rfl, hp⟩ := ha.pointer_shape
    obtain ⟨q', rfl, hq⟩ := hb.pointer_shape
    refine binOp_eq_run rfl (by cases neg <;> simp [eqGuard]) ?_
    cases p <;> cases q <;> cases p' <;> cases q' <;> simp at hp hq he <;> subst he <;> (show (Op.equalIn (9999 + 1) _ _ _).run P w = _; rw [Op.equalIn]; simp only [Sem.run_bind, run_und hd, Result.andThen_ok]; rfl)
  · -- slices
    rename_i p _ _ q _ _
    obtain ⟨p', _, _, rfl, hp⟩ := ha.slice_shape
    obtain ⟨q', _, _, rfl, hq⟩ := hb.slice_shape
    refine binOp_eq_run rfl (by cases neg <;> simp [eqGuard]) ?_
    cases p <;> cases q <;> cases p' <;> cases q' <;> simp at hp hq he <;> subst he <;> (show (Op.equalIn (9999 + 1) _ _ _).run P w = _; rw [Op.equalIn]; simp only [Sem.run_bind, run_und hd, Result.andThen_ok]; rfl)
  · -- maps
    rename_i p q
    obtain ⟨p', rfl, hp⟩ := ha.map_shape
    obtain ⟨q', rfl, hq⟩ := hb.map_shape
    refine binOp_eq_run rfl (by cases neg <;> simp [eqGuard]) ?_
    cases p <;> cases q <;> cases p' <;> cases q' <;> simp at hp hq he <;> subst he <;> (show (Op.equalIn (9999 + 1) _ _ _).run P w = _; rw [Op.equalIn]; simp only [Sem.run_bind, run_und hd, Result.andThen_ok]; rfl)
  · subst he
    obtain ⟨_, _, rfl, _⟩ := ha.func_inv
    cases hb
    refine binOp_eq_run rfl (by cases neg <;> simp [eqGuard]) ?_
    show (Op.equalIn (9999 + 1) _ _ _).run P w = _
    rw [Op.equalIn]; simp only [Sem.run_bind, run_und hd, Result.andThen_ok]; rfl
  · subst he
    obtain ⟨_, _, rfl, _⟩ := hb.func_inv
    cases ha
    refine binOp_eq_run rfl (by cases neg <;> simp [eqGuard]) ?_
    show (Op.equalIn (9999 + 1) _ _ _).run P w = _
    rw [Op.equalIn]; simp only [Sem.run_bind, run_und hd, Result.andThen_ok]; rfl
  · subst he
    cases ha; cases hb
    refine binOp_eq_run rfl (by cases neg <;> simp [eqGuard]) ?_
    show (Op.equalIn (9999 + 1) _ _ _).run P w = _
    rw [Op.equalIn]; simp only [Sem.run_bind, run_und hd, Result.andThen_ok]; rfl
  · subst he
    cases hb
    cases ha with
    | prim _ h => simp [primV] at h
    | iface h =>
    refine binOp_eq_run rfl (by cases neg <;> simp [eqGuard]) ?_
    show (Op.equalIn (9999 + 1) _ _ _).run P w = _
    rw [Op.equalIn]; simp only [Sem.run_bind, run_und hd, Result.andThen_ok]; rfl
  · subst he
    cases ha
    cases hb with
    | prim _ h => simp [primV] at h
    | iface h =>
    refine binOp_eq_run rfl (by cases neg <;> simp [eqGuard]) ?_
    show (Op.equalIn (9999 + 1) _ _ _).run P w = _
    rw [Op.equalIn]; simp only [Sem.run_bind, run_und hd, Result.andThen_ok]; rfl
  · subst he
    cases ha; cases hb
    obtain ⟨c, rfl⟩ := hy rfl
    refine binOp_eq_run rfl (by cases neg <;> simp [eqGuard]) ?_
    show (Op.equalIn (9999 + 1) _ _ _).run P w = _
    rw [Op.equalIn]; simp only [Sem.run_bind, run_und hd, Result.andThen_ok]; rfl

theorem cellsEqK_rel {ks : List KeyK} : ∀ {xs ys xs' ys' : List Value} {b : Bool}, LRel β xs xs' → LRel β ys ys' → cellsEqK ks xs ys = some b → xs' = xs ∧ ys' = ys := by
  induction ks with
  | nil =>
    intro xs ys xs' ys' b hx hy h
    cases hx <;> cases hy <;> simp_all [cellsEqK]
  | cons k ks ih =>
    intro xs ys xs' ys' b hx hy h
    cases hx with
    | nil => simp [cellsEqK] at h
    | cons hx tx =>
      cases hy with
      | nil => simp [cellsEqK] at h
      | cons hy ty =>
        rename_i x x' xs xs' y y' ys ys'
        simp only [cellsEqK] at h
        cases hc : cellEqK k x y with
        | none => simp [hc] at h
        | some c =>
          cases hr : cellsEqK ks xs ys with
          | none => simp [hc, hr] at h
          | some r =>
            obtain ⟨rfl, rfl⟩ := ih tx ty hr
            unfold cellEqK at hc
            split at hc
            · rename_i hok
              simp only [Bool.and_eq_true] at hok
              rw [(keyOk_inv hok.1 hx).1, (keyOk_inv hok.2 hy).1]
              exact ⟨rfl, rfl⟩
            · cases hc

theorem eqPlain_run {neg : Bool} {t : TypeId} {x y : Operand} {ks : List KeyK} {a b a' b' : Value} {r : Bool} (hg : P.eqGuardType P.depth t = false) (hk : flatK P 10000 t = some ks) (hstr : ∃ fs, P.underlying t = some (.struct fs)) (ha : VRel β a a') (hb : VRel β b b')
    (he : eqV (.plain ks) a b = some r) :
    (do eqGuard (if neg then .neq else .eql) t x y a' b'; binOp (if neg then .neq else .eql) t a' b' : Sem Value).run P w = .ok (.bool (r != neg)) w := by
  cases a <;> cases b <;> simp only [eqV, reduceCtorEq] at he
  obtain ⟨a2, rfl, hA⟩ := ha.agg_inv
  obtain ⟨b2, rfl, hB⟩ := hb.agg_inv
  obtain ⟨e1, e2⟩ := cellsEqK_rel hA hB he
  rw [← e1, ← e2] at he
  obtain ⟨dd, hdd, hcase | ⟨hna, _⟩⟩ := flatK_run (w := w) 10000 t ks hk
  · refine binOp_eq_run rfl (run_eqGuard_agg w _ t x y a2 b2 hg) ?_
    exact hcase.2 a2 b2 r he
  · obtain ⟨fs, hfs⟩ := hstr
    rw [hfs] at hdd
    cases hdd
    simp [isAggD] at hna

end
end Go.Abs


/-
  Every operation is sound.
-/
set_option linter.unusedVariables false
set_option linter.unusedSimpArgs false
namespace Go.Abs
open Go

section
variable {P : Program} {β : Map} {h : HF} {w : World} {n : Nat} {res : Res}

theorem OpOK.v' {s : Sem Value} {r : Sem Next} (ho : OpOK P β h w n res id s) (hr : ∀ x w', s.run P w = .ok x w' → r.run P w = .ok (.value x) w') : ExOK P β h w n res r := by
  obtain ⟨x, w', β', hx, hv, h1, h2⟩ := ho
  exact ⟨.value x, w', β', x, hr x w' hx, .inl rfl, hv, h1, h2⟩

theorem OpOK.u' {s : Sem Unit} {r : Sem Next} (ho : OpOK P β h w n res (fun _ => undef) s) (hr : ∀ w', s.run P w = .ok () w' → r.run P w = .ok .skip w') : ExOK P β h w n res r := by
  obtain ⟨x, w', β', hx, hv, h1, h2⟩ := ho
  exact ⟨.skip, w', β', undef, hr w' hx, .inr ⟨rfl, rfl⟩, hv, h1, h2⟩

theorem parts_rel {e : Env} {a : Act} (hr : EnvRel β e a) {pl : List (Nat × Nat)} {place : Nat → Option (Nat × Nat)} (hpl : ∀ i, place i = pl[i]?) : ∀ {ps : List (Nat × Operand)} {q : List (Nat × Nat × Operand)} {vs : List (Nat × Nat × Value)},
    (∀ p ∈ ps, okConst p.2 = true) → partsOf pl ps = some q → mapParts e.rd q = some vs →
    All2 (fun (p : Nat × Nat × Value) (q : Nat × Value) => place q.1 = some (p.1, p.2.1) ∧ VRel β p.2.2 q.2) vs (ps.map fun p => (p.1, a.eval p.2)) := by
  intro ps
  induction ps with
  | nil => intro q vs _ hq hv; simp only [partsOf, Option.some.injEq] at hq; subst hq; simp only [mapParts, Option.some.injEq] at hv; subst hv; exact .nil
  | cons p ps ih =>
    intro q vs hok hq hv
    obtain ⟨i, x⟩ := p
    simp only [partsOf] at hq
    cases h1 : pl[i]? with
    | none => simp [h1] at hq
    | some os =>
      cases h2 : partsOf pl ps with
      | none => simp [h1, h2] at hq
      | some q' =>
        simp only [h1, h2, Option.bind_some, Option.map_some, Option.some.injEq] at hq
        subst hq
        simp only [mapParts] at hv
        cases h3 : e.rd x with
        | none => simp [h3] at hv
        | some v =>
          cases h4 : mapParts e.rd q' with
          | none => simp [h3, h4] at hv
          | some vs' =>
            simp only [h3, h4, Option.bind_some, Option.map_some, Option.some.injEq] at hv
            subst hv
            refine .cons ⟨by rw [hpl, h1], hr.rd (fun c hc => ?_) h3⟩ (ih (fun y hy => hok y (List.mem_cons_of_mem _ hy)) h2 h4)
            have := hok (i, x) (List.mem_cons_self ..)
            subst hc; exact this

theorem places_run : ∀ {fs : List Field} {pl : List (Nat × Nat)}, placesOf P fs = some pl → (fs.mapM fun f => (do Pure.pure (f.offset, ← sizeOf f.type) : Sem (Nat × Nat))).run P w = .ok pl w := by
  intro fs
  induction fs with
  | nil => intro pl hp; simp only [placesOf, Option.some.injEq] at hp; subst hp; simp
  | cons f fs ih =>
    intro pl hp
    simp only [placesOf] at hp
    cases hi : P.info? f.type with
    | none => simp [hi] at hp
    | some i =>
      cases h2 : placesOf P fs with
      | none => simp [hi, h2] at hp
      | some r =>
        simp only [hi, h2, Option.bind_some, Option.map_some, Option.some.injEq] at hp
        subst hp
        have := ih h2
        simp only [List.mapM_cons, Sem.run_bind, run_size hi, Result.andThen_ok, Sem.run_pure, this]

theorem build_sim {t : TypeId} {fs : Array Field} {i : TypeInfo} {z : Value} {pl : List (Nat × Nat)} {vs : List (Nat × Nat × Value)} {ps' : Array (Nat × Value)} (ht : P.underlying t = some (.struct fs)) (hp : placesOf P fs.toList = some pl)
    (hi : P.info? t = some i) (hzv : i.zero = some z) (hzo : zeroOk (cellList z) = true) (hps : All2 (fun (p : Nat × Nat × Value) (q : Nat × Value) => pl[q.1]? = some (p.1, p.2.1) ∧ VRel β p.2.2 q.2) vs ps'.toList)
    (hs : Sim β h w) (he : evP h n (.build (cellList z) vs) = some res) : OpOK P β h w n res id (Instr.build t ps') := by
  simp only [evP] at he
  cases hf : fillL (cellList z) vs with
  | none => simp [hf] at he
  | some c =>
    simp only [hf, Option.map_some, Option.some.injEq] at he
    subst he
    obtain ⟨C, h1, h2⟩ := fill_sim (place := fun i => pl[i]?) (L' := z.cells) (LRel.zero hzo) hps hf
    have hm := places_run (P := P) (w := w) hp
    refine OpOK.pure (x := .agg C) hs ?_ (by have := LRel.agg h2; simpa using this)
    have hm' : (fs.mapM fun f => (do Pure.pure (f.offset, ← sizeOf f.type) : Sem (Nat × Nat))).run P w = .ok pl.toArray w := by
      rw [← Array.toArray_toList (xs := fs), List.mapM_toArray]
      simp only [Sem.run_map, hm, Result.andThen_ok]
    unfold Instr.build
    simp only [Sem.run_bind, run_zero hi hzv, Result.andThen_ok, run_und ht, hm']
    simp [h1]

theorem buildSlice_sim {t e : TypeId} {i : TypeInfo} {z : Value} {len : Nat} {vs : List (Nat × Nat × Value)} {ps' : Array (Nat × Value)} (ht : P.underlying t = some (.slice e))
    (hi : P.info? e = some i) (hzv : i.zero = some z) (hzo : zeroOk (cellList z) = true) (hzs : z.cells.size = i.size) (h0 : i.size ≠ 0) (hlen : len * i.size ≤ 2 ^ 24)
    (hps : All2 (fun (p : Nat × Nat × Value) (q : Nat × Value) => some (q.1 * i.size, i.size) = some (p.1, p.2.1) ∧ VRel β p.2.2 q.2) vs ps'.toList)
    (hs : Sim β h w) (hfr : Fresh β n res.next) (he : evP h n (.buildSlice e i.size len (List.replicate len (cellList z)).flatten vs) = some res) : OpOK P β h w n res id (Instr.buildSlice t len ps') := by
  simp only [evP] at he
  cases hf : fillL (List.replicate len (cellList z)).flatten vs with
  | none => simp [hf] at he
  | some c =>
    simp only [hf, Option.map_some, Option.some.injEq] at he
    subst he
    have hz1 : ((Array.range (len * i.size)).map fun j => z.cells[j % z.cells.size]!).toList = (List.replicate len (cellList z)).flatten := by
      rw [← hzs, zeros_list]; rfl
    obtain ⟨C, h1, h2⟩ := fill_sim (place := fun j => some (j * i.size, i.size)) (L' := (Array.range (len * i.size)).map fun j => z.cells[j % z.cells.size]!) (by rw [hz1]; exact zeros_rel hzo) hps hf
    have hn : β n = none := hfr n (Nat.le_refl _) (Nat.lt_succ_self _)
    obtain ⟨β', e1, e2, e3⟩ := newRow_ok (e := e) (sz := i.size) h2 hs hn
    have hv := VRel.slice (o := 0) (len := len) (cap := len) (cap' := len) e1 (.inl rfl)
    rw [Array.toArray_toList] at e2 e3
    refine ⟨.slice (some ⟨w.heap.size, 0, none⟩) len len, w.alloc (.cells C e), β', ?_, by simpa using hv, e2, e3⟩
    have hbig : ¬ (len * i.size > 16777216) := by omega
    unfold Instr.buildSlice
    simp only [Sem.run_bind, run_und ht, Result.andThen_ok, run_size hi]
    by_cases hl0 : len * i.size = 0
    · have hlz : len = 0 := by
        rcases Nat.mul_eq_zero.1 hl0 with h | h
        · exact h
        · exact absurd h h0
      subst hlz
      have hr0 : Array.range 0 = #[] := Array.eq_empty_of_size_eq_zero (by simp)
      have h1' : Instr.fill (fun j => some (j * i.size, i.size)) #[] ps'.toList = some C := by
        rw [← h1]; simp [hr0]
      simp [h1', newRow, hr0]
    · simp [hbig, hl0, run_zero hi hzv, h1, newRow]

theorem zero_rel {z : Value} (hz : (primV z || compOp.zeroAgg z) = true) : VRel β z z := by
  cases hp : primV z with
  | true => exact .prim z hp
  | false =>
    rw [hp, Bool.false_or] at hz
    cases z <;> simp [compOp.zeroAgg] at hz
    have := LRel.agg (LRel.zero (β := β) hz)
    simpa using this

theorem guard_plain {op : BinOp} {x y : Operand} {t : TypeId} {a b v : Value} (hb : binV op a b = some v) : (eqGuard op t x y a b).run P w = .ok () w := by
  unfold binV at hb
  split at hb
  · cases op <;> simp [eqGuard]
  · cases op <;> simp [eqGuard]
  · cases hb

theorem bin_ok {op : BinOp} {t yt : TypeId} {x y : Operand} {a : Act} {dst : Option Tmp} {type : TypeId} {pos : String} {after : Array Edge} {guard : Option (Nat × Bool)} {v u : Value} (r1 : VRel β v (a.eval x)) (r2 : VRel β u (a.eval y)) (hs : Sim β h w) (he : evP h n (.bin op v u) = some res) :
    ExOK P β h w n res (execOp a.eval ⟨dst, .binOp op t x y yt, type, pos, after, guard⟩) := by
  simp only [evP, Option.map_eq_some_iff] at he
  obtain ⟨q, hq, rfl⟩ := he
  obtain ⟨e1, e2, hqq⟩ := binV_inv hq r1 r2
  refine ExOK.pureV hs ?_ hqq
  simp only [execOp, e1, e2, Sem.run_bind, guard_plain hq, binV_run hq, Result.andThen_ok, Sem.run_pure]

theorem eq_ok {neg : Bool} {t yt : TypeId} {d : TypeDesc} {k : EqK} {x y : Operand} {a : Act} {dst : Option Tmp} {type : TypeId} {pos : String} {after : Array Edge} {guard : Option (Nat × Bool)} {v u : Value} (hd : P.underlying t = some d) (hk : eqD k d = true) (hy : k = .iface → ∃ c, y = .const c) (r1 : VRel β v (a.eval x)) (r2 : VRel β u (a.eval y)) (hs : Sim β h w) (he : evP h n (.eq neg k v u) = some res) :
    ExOK P β h w n res (execOp a.eval ⟨dst, .binOp (if neg then .neq else .eql) t x y yt, type, pos, after, guard⟩) := by
  simp only [evP, Option.map_eq_some_iff] at he
  obtain ⟨q, hq, rfl⟩ := he
  refine ExOK.pureV (v' := .bool (q != neg)) hs ?_ .bool'
  have := eqV_run (w := w) (neg := neg) (x := x) hd hk r1 r2 hy hq
  simp only [execOp, Sem.run_bind]
  rw [Sem.run_bind] at this
  rw [this]; rfl

theorem eqp_ok {neg : Bool} {t yt : TypeId} {ks : List KeyK} {x y : Operand} {a : Act} {dst : Option Tmp} {type : TypeId} {pos : String} {after : Array Edge} {guard : Option (Nat × Bool)} {v u : Value} (hg : P.eqGuardType P.depth t = false) (hk : flatK P 10000 t = some ks) (hstr : ∃ fs, P.underlying t = some (.struct fs)) (r1 : VRel β v (a.eval x)) (r2 : VRel β u (a.eval y)) (hs : Sim β h w) (he : evP h n (.eq neg (.plain ks) v u) = some res) :
    ExOK P β h w n res (execOp a.eval ⟨dst, .binOp (if neg then .neq else .eql) t x y yt, type, pos, after, guard⟩) := by
  simp only [evP, Option.map_eq_some_iff] at he
  obtain ⟨q, hq, rfl⟩ := he
  refine ExOK.pureV (v' := .bool (q != neg)) hs ?_ .bool'
  have := eqPlain_run (w := w) (neg := neg) (x := x) (y := y) hg hk hstr r1 r2 hq
  simp only [execOp, Sem.run_bind]
  rw [Sem.run_bind] at this
  rw [this]; rfl

theorem compEq_case {neg : Bool} {t yt : TypeId} {x y : Operand} {a : Act} {e : Env} {aop : AOp Operand} {av : AOp Value} {dst : Option Tmp} {type : TypeId} {pos : String} {after : Array Edge} {guard : Option (Nat × Bool)} (hc : compEq P neg t x y = some aop) (hx : okConst x = true) (hy : okConst y = true) (hr : EnvRel β e a) (hv : aop.vals e.rd = some av) (hs : Sim β h w) (he : evP h n av = some res) :
    ExOK P β h w n res (execOp a.eval ⟨dst, .binOp (if neg then .neq else .eql) t x y yt, type, pos, after, guard⟩) := by
  have rd : ∀ {x : Operand} {v : Value}, okConst x = true → e.rd x = some v → VRel β v (a.eval x) := by
    intro x v hx hv
    refine hr.rd (fun c hc => ?_) hv
    subst hc; exact hx
  unfold compEq at hc
  split at hc
  all_goals (try (simp only [reduceCtorEq] at hc; done))
  iterate 2
    · simp only [Option.some.injEq] at hc; subst hc
      simp only [AOp.vals, Option.bind_eq_some_iff, Option.map_eq_some_iff] at hv
      obtain ⟨v, h1, u, h2, rfl⟩ := hv
      exact bin_ok (rd hx h1) (rd hy h2) hs he
  iterate 5
    · rename_i hd
      simp only [Option.some.injEq] at hc; subst hc
      simp only [AOp.vals, Option.bind_eq_some_iff, Option.map_eq_some_iff] at hv
      obtain ⟨v, h1, u, h2, rfl⟩ := hv
      exact eq_ok hd rfl (fun hq => by cases hq) (rd hx h1) (rd hy h2) hs he
  · rename_i hd
    split at hc
    case h_2 => cases hc
    simp only [Option.some.injEq] at hc; subst hc
    simp only [AOp.vals, Option.bind_eq_some_iff, Option.map_eq_some_iff] at hv
    obtain ⟨v, h1, u, h2, rfl⟩ := hv
    exact eq_ok hd rfl (fun _ => ⟨_, rfl⟩) (rd hx h1) (rd hy h2) hs he
  · rename_i fs hd
    split at hc
    · cases hc
    rename_i hg
    simp only [Bool.not_eq_true] at hg
    simp only [Option.map_eq_some_iff] at hc
    obtain ⟨ks, hks, rfl⟩ := hc
    simp only [AOp.vals, Option.bind_eq_some_iff, Option.map_eq_some_iff] at hv
    obtain ⟨v, h1, u, h2, rfl⟩ := hv
    exact eqp_ok hg hks ⟨fs, hd⟩ (rd hx h1) (rd hy h2) hs he

theorem binOp_case {op : BinOp} {t yt : TypeId} {x y : Operand} {a : Act} {e : Env} {aop : AOp Operand} {av : AOp Value} {dst : Option Tmp} {type : TypeId} {pos : String} {after : Array Edge} {guard : Option (Nat × Bool)}
    (hc : (match op with | .eql => compEq P false t x y | .neq => compEq P true t x y | _ => some (.bin op x y)) = some aop) (hok : ∀ z ∈ (Op.binOp op t x y yt).operands, okConst z = true) (hr : EnvRel β e a) (hv : aop.vals e.rd = some av) (hs : Sim β h w) (he : evP h n av = some res) :
    ExOK P β h w n res (execOp a.eval ⟨dst, .binOp op t x y yt, type, pos, after, guard⟩) := by
  have hx := hok x (by simp [Op.operands])
  have hy := hok y (by simp [Op.operands])
  have rd : ∀ {x : Operand} {v : Value}, okConst x = true → e.rd x = some v → VRel β v (a.eval x) := by
    intro x v hx hv
    refine hr.rd (fun c hc => ?_) hv
    subst hc; exact hx
  have hgen : aop = .bin op x y → ExOK P β h w n res (execOp a.eval ⟨dst, .binOp op t x y yt, type, pos, after, guard⟩) := by
    intro hq
    subst hq
    simp only [AOp.vals, Option.bind_eq_some_iff, Option.map_eq_some_iff] at hv
    obtain ⟨v, h1, u, h2, rfl⟩ := hv
    exact bin_ok (rd hx h1) (rd hy h2) hs he
  cases op
  case eql => exact compEq_case (neg := false) hc hx hy hr hv hs he
  case neq => exact compEq_case (neg := true) hc hx hy hr hv hs he
  all_goals (simp only [Option.some.injEq] at hc; exact hgen hc.symm)

theorem call_builtin {c : Call} {b : Builtin} {a : Act} {dst : Option Tmp} {type : TypeId} {pos : String} {after : Array Edge} {guard : Option (Nat × Bool)} (hb : c.callee = .builtin b) :
    execOp a.eval ⟨dst, .call c, type, pos, after, guard⟩ = builtin b c.argTypes type (c.args.map fun | .const _ => true | _ => false) (c.args.map a.eval) := by
  simp only [execOp, resolve, hb]
  rfl

theorem call_case {c : Call} {a : Act} {e : Env} {aop : AOp Operand} {av : AOp Value} {dst : Option Tmp} {type : TypeId} {pos : String} {after : Array Edge} {guard : Option (Nat × Bool)}
    (hc : (match c.callee with | .builtin b => compBuiltin P b c.argTypes c.args.toList | .value f => some (.call f c.args.toList) | _ => none) = some aop) (hok : ∀ z ∈ (Op.call c).operands, okConst z = true) (hr : EnvRel β e a) (hv : aop.vals e.rd = some av)
    (hnc : ∀ f as, av ≠ .call f as) (hs : Sim β h w) (he : evP h n av = some res) (hf : Fresh β n res.next) :
    ExOK P β h w n res (execOp a.eval ⟨dst, .call c, type, pos, after, guard⟩) := by
  have rd : ∀ {x : Operand} {v : Value}, okConst x = true → e.rd x = some v → VRel β v (a.eval x) := by
    intro x v hx hv
    refine hr.rd (fun c hc => ?_) hv
    subst hc; exact hx
  split at hc
  · rename_i b hb
    rw [call_builtin hb]
    have hargs : ∀ z ∈ c.args.toList, okConst z = true := fun z hz => hok z (by rw [Op.operands, Call.operands, Array.mem_append]; exact .inr (by simpa using hz))
    have harr : c.args.map a.eval = (c.args.toList.map a.eval).toArray := by rw [← Array.toList_map, Array.toArray_toList]
    rw [harr]
    generalize c.args.toList = args at hc hargs
    generalize (c.args.map fun | .const _ => true | _ => false) = cs
    generalize c.argTypes = ts at hc
    unfold compBuiltin at hc
    split at hc
    · -- len
      rename_i x
      have hx := hargs x (by simp)
      split at hc
      case h_4 => cases hc
      all_goals
        rename_i hd
        simp only [Option.bind_eq_some_iff] at hd
        obtain ⟨t, ht0, ht⟩ := hd
        simp only [Option.some.injEq] at hc; subst hc
        simp only [AOp.vals, Option.map_eq_some_iff] at hv
        obtain ⟨v, h1, rfl⟩ := hv
        exact (len_sim (ty := type) ht0 ht rfl (rd hx h1) hs he).v' (fun x w' hx => by simp [builtin, hx])
    · -- cap
      rename_i x
      have hx := hargs x (by simp)
      split at hc
      case h_2 => cases hc
      rename_i el hd
      simp only [Option.bind_eq_some_iff] at hd
      obtain ⟨t, ht0, ht⟩ := hd
      simp only [Option.some.injEq] at hc; subst hc
      simp only [AOp.vals, Option.map_eq_some_iff] at hv
      obtain ⟨v, h1, rfl⟩ := hv
      exact (cap_sim (ty := type) ht0 ht (rd hx h1) hs he).v' (fun x w' hx => by simp [builtin, hx])
    · -- append
      rename_i x y
      have hx := hargs x (by simp)
      have hy := hargs y (by simp)
      split at hc
      case h_2 => cases hc
      rename_i el hd
      simp only [Option.bind_eq_some_iff] at hd
      obtain ⟨t, ht0, ht⟩ := hd
      split at hc
      case h_2 => cases hc
      rename_i i hi
      split at hc
      case h_2 => cases hc
      rename_i z hz
      split at hc
      case isFalse => cases hc
      rename_i hzs
      have happ : SrcT P ts → aop = .append el i.size i.bytes x y → ExOK P β h w n res (builtin .append ts type cs (([x, y] : List Operand).map a.eval).toArray) := by
        intro hsrc hq
        subst hq
        simp only [AOp.vals, Option.bind_eq_some_iff, Option.map_eq_some_iff] at hv
        obtain ⟨v, h1, u, h2, rfl⟩ := hv
        exact (append_sim (ty := type) ht0 ht hi hz hzs.1 hzs.2.1 hzs.2.2 hsrc (rd hx h1) (rd hy h2) hs hf he).v' (fun x w' hx => by simp [builtin, hx])
      split at hc
      · rename_i hu
        simp only [Option.some.injEq] at hc
        exact happ (.inl hu) hc.symm
      · rename_i u hu
        split at hc
        · rename_i hud
          simp only [Option.some.injEq] at hc
          exact happ (.inr ⟨u, hu, .inl hud⟩) hc.symm
        · rename_i e' hud
          simp only [Option.some.injEq] at hc
          exact happ (.inr ⟨u, hu, .inr ⟨e', hud⟩⟩) hc.symm
        · rename_i kk hud
          split at hc
          case isFalse => cases hc
          rename_i hzo
          simp only [Option.some.injEq] at hc; subst hc
          simp only [AOp.vals, Option.bind_eq_some_iff, Option.map_eq_some_iff] at hv
          obtain ⟨v, h1, u, h2, rfl⟩ := hv
          exact (appendMake_sim (ty := type) ht0 hu ht hud hi hz hzo hzs.2.2 (rd hx h1) (rd hy h2) hs hf he).v' (fun x w' hx => by simp [builtin, hx])
        · cases hc
    · -- copy
      rename_i x y
      have hx := hargs x (by simp)
      have hy := hargs y (by simp)
      split at hc
      case h_2 => cases hc
      rename_i el hd
      simp only [Option.bind_eq_some_iff] at hd
      obtain ⟨t, ht0, ht⟩ := hd
      simp only [Option.map_eq_some_iff] at hc
      obtain ⟨i, hi, rfl⟩ := hc
      simp only [AOp.vals, Option.bind_eq_some_iff, Option.map_eq_some_iff] at hv
      obtain ⟨v, h1, u, h2, rfl⟩ := hv
      exact (copy_sim (ty := type) ht0 ht hi (rd hx h1) (rd hy h2) hs he).v' (fun x w' hx => by simp [builtin, hx])
    · -- delete
      rename_i x y
      have hx := hargs x (by simp)
      have hy := hargs y (by simp)
      split at hc
      case h_2 => cases hc
      rename_i kt et hd
      simp only [Option.bind_eq_some_iff] at hd
      obtain ⟨t, ht0, ht⟩ := hd
      simp only [Option.map_eq_some_iff] at hc
      obtain ⟨kk, hkk, rfl⟩ := hc
      obtain ⟨d, hdd, hkd⟩ := keyKind_spec hkk
      simp only [AOp.vals, Option.bind_eq_some_iff, Option.map_eq_some_iff] at hv
      obtain ⟨v, h1, u, h2, rfl⟩ := hv
      exact (delete_sim (ty := type) ht0 ht hdd hkd (rd hx h1) (rd hy h2) hs he).v' (fun x w' hx => by simp [builtin, hx])
    · -- clear
      rename_i x
      have hx := hargs x (by simp)
      split at hc
      case h_2 => cases hc
      rename_i el hd
      simp only [Option.bind_eq_some_iff] at hd
      obtain ⟨t, ht0, ht⟩ := hd
      split at hc
      case h_2 => cases hc
      rename_i i hi
      simp only [Option.bind_eq_some_iff] at hc
      obtain ⟨z, hz, hc⟩ := hc
      split at hc
      case isFalse => cases hc
      rename_i hzo
      simp only [Option.some.injEq] at hc; subst hc
      simp only [AOp.vals, Option.map_eq_some_iff] at hv
      obtain ⟨v, h1, rfl⟩ := hv
      exact (clear_sim (ty := type) ht0 ht hi hz hzo (rd hx h1) hs he).v' (fun x w' hx => by simp [builtin, hx])
    · simp only [Option.some.injEq] at hc; subst hc
      simp only [AOp.vals, Option.map_eq_some_iff] at hv
      obtain ⟨v, h1, rfl⟩ := hv
      have r1 := mapList_rel hr hargs h1
      exact (minmax_sim (ts := ts) (ty := type) r1 hs he).v' (fun x w' hx => by simp only [if_true] at hx; simp [builtin, hx])
    · simp only [Option.some.injEq] at hc; subst hc
      simp only [AOp.vals, Option.map_eq_some_iff] at hv
      obtain ⟨v, h1, rfl⟩ := hv
      have r1 := mapList_rel hr hargs h1
      exact (minmax_sim (ts := ts) (ty := type) r1 hs he).v' (fun x w' hx => by simp only [Bool.false_eq_true, if_false] at hx; simp [builtin, hx])
    · cases hc
  · simp only [Option.some.injEq] at hc; subst hc
    simp only [AOp.vals, Option.bind_eq_some_iff, Option.map_eq_some_iff] at hv
    obtain ⟨f, _, as, _, rfl⟩ := hv
    exact absurd rfl (hnc f as)
  · cases hc

theorem op_sim {o : Oper} {aop : AOp Operand} {e : Env} {a : Act} {av : AOp Value} (hc : compOp P o.op = some aop) (hok : ∀ x ∈ o.op.operands, okConst x = true) (hr : EnvRel β e a) (hv : aop.vals e.rd = some av)
    (hnc : ∀ f as, av ≠ .call f as) (hs : Sim β h w) (he : evP h n av = some res) (hf : Fresh β n res.next) : ExOK P β h w n res (execOp a.eval o) := by
  have rd : ∀ {x : Operand} {v : Value}, okConst x = true → e.rd x = some v → VRel β v (a.eval x) := by
    intro x v hx hv
    refine hr.rd (fun c hc => ?_) hv
    subst hc; exact hx
  obtain ⟨dst, op, type, pos, after, guard⟩ := o
  simp only at hc hok ⊢
  cases op <;> simp only [compOp, Option.some.injEq, reduceCtorEq] at hc
  case move x =>
    subst hc
    simp only [AOp.vals, Option.map_eq_some_iff] at hv
    obtain ⟨v, h1, rfl⟩ := hv
    have r1 := rd (hok _ (by simp [Op.operands])) h1
    simp only [evP, Option.some.injEq] at he; subst he
    exact ExOK.pureV hs (by simp [execOp]) r1
  case assign x =>
    subst hc
    simp only [AOp.vals, Option.map_eq_some_iff] at hv
    obtain ⟨v, h1, rfl⟩ := hv
    have r1 := rd (hok _ (by simp [Op.operands])) h1
    simp only [evP, Option.some.injEq] at he; subst he
    exact ExOK.pureV hs (by simp [execOp]) r1
  case pick c x y =>
    subst hc
    simp only [AOp.vals, Option.bind_eq_some_iff, Option.map_eq_some_iff] at hv
    obtain ⟨v, h1, u, h2, q, h3, rfl⟩ := hv
    have r1 := rd (hok _ (by simp [Op.operands])) h1
    have r2 := rd (hok _ (by simp [Op.operands])) h2
    have r3 := rd (hok _ (by simp [Op.operands])) h3
    simp only [evP] at he
    split at he
    case h_2 => cases he
    rename_i t
    cases he
    refine ExOK.pureV (v' := if t then a.eval x else a.eval y) hs ?_ (by cases t <;> assumption)
    simp [execOp, r1.bool_inv, asBool]
  case alloc t =>
    simp only [Option.bind_eq_some_iff] at hc
    obtain ⟨z, hz, hc⟩ := hc
    split at hc
    case isFalse => cases hc
    rename_i hzo
    cases hc
    obtain ⟨i, zv, hi, hzv, rfl⟩ := zeroL_spec hz
    simp only [AOp.vals, Option.some.injEq] at hv; subst hv
    have hn : res.next = n + 1 := by simp only [evP, Option.some.injEq] at he; subst he; rfl
    rw [hn] at hf
    exact (alloc_sim hi hzv hzo hs hf he).v' (fun x w' hx => by simp [execOp, hx])
  case box t x =>
    subst hc
    simp only [AOp.vals, Option.map_eq_some_iff] at hv
    obtain ⟨v, h1, rfl⟩ := hv
    have r1 := rd (hok _ (by simp [Op.operands])) h1
    have hn : res.next = n + 1 := by simp only [evP, Option.some.injEq] at he; subst he; rfl
    rw [hn] at hf
    exact (box_sim r1 hs hf he).v' (fun x w' hx => by simp [execOp, hx])
  case build t ps =>
    split at hc
    case h_2 => cases hc
    rename_i fs ht
    simp only [Option.bind_eq_some_iff] at hc
    obtain ⟨pl, hpl, z, hz, hc⟩ := hc
    split at hc
    case isFalse => cases hc
    rename_i hzo
    simp only [Option.map_eq_some_iff] at hc
    obtain ⟨q, hq, rfl⟩ := hc
    obtain ⟨i, zv, hi, hzv, rfl⟩ := zeroL_spec hz
    simp only [AOp.vals, Option.map_eq_some_iff] at hv
    obtain ⟨vs, h1, rfl⟩ := hv
    have hp := parts_rel hr (place := fun i => pl[i]?) (fun _ => rfl) (fun p hp => hok p.2 (by simp only [Op.operands, List.mem_toArray, List.mem_map]; exact ⟨p, hp, rfl⟩)) hq h1
    refine (build_sim (ps' := ps.map fun p => (p.1, a.eval p.2)) ht hpl hi hzv hzo (by simpa using hp) hs he).v' (fun x w' hx => ?_)
    simp only [execOp, Sem.run_bind]
    rw [hx]; rfl
  case buildSlice t len ps =>
    split at hc
    case h_2 => cases hc
    rename_i el ht
    split at hc
    case h_2 => cases hc
    rename_i i hi
    split at hc
    case h_2 => cases hc
    rename_i z hz
    split at hc
    case isFalse => cases hc
    rename_i hcond
    obtain ⟨hzs, h0, hlen, hzo⟩ := hcond
    cases hc
    simp only [AOp.vals, Option.map_eq_some_iff] at hv
    obtain ⟨vs, h1, rfl⟩ := hv
    have hp : All2 (fun (p : Nat × Nat × Value) (q : Nat × Value) => some (q.1 * i.size, i.size) = some (p.1, p.2.1) ∧ VRel β p.2.2 q.2) vs (ps.toList.map fun p => (p.1, a.eval p.2)) := by
      have hok' : ∀ p ∈ ps.toList, okConst p.2 = true := fun p hp => hok p.2 (by simp only [Op.operands, List.mem_toArray, List.mem_map]; exact ⟨p, hp, rfl⟩)
      clear hok he hf hnc
      generalize ps.toList = l at *
      induction l generalizing vs with
      | nil => simp only [List.map_nil, mapParts, Option.some.injEq] at h1; subst h1; exact .nil
      | cons p l ih =>
        simp only [List.map_cons, mapParts, Option.bind_eq_some_iff, Option.map_eq_some_iff] at h1
        obtain ⟨v, hv1, vs', hv2, rfl⟩ := h1
        exact .cons ⟨rfl, rd (hok' p (List.mem_cons_self ..)) hv1⟩ (ih vs' hv2 (fun q hq => hok' q (List.mem_cons_of_mem _ hq)))
    refine (buildSlice_sim (ps' := ps.map fun p => (p.1, a.eval p.2)) ht hi hz hzo hzs h0 hlen (by simpa using hp) hs hf he).v' (fun x w' hx => ?_)
    simp only [execOp, Sem.run_bind]
    rw [hx]; rfl
  case load t x =>
    simp only [Option.map_eq_some_iff] at hc
    obtain ⟨k, hk, rfl⟩ := hc
    simp only [AOp.vals, Option.map_eq_some_iff] at hv
    obtain ⟨v, h1, rfl⟩ := hv
    have r1 := rd (hok _ (by simp [Op.operands])) h1
    exact (load_sim hk r1 hs he).v' (fun x w' hx => by simp [execOp, hx])
  case store t x y =>
    simp only [Option.map_eq_some_iff] at hc
    obtain ⟨i, hi, rfl⟩ := hc
    simp only [AOp.vals, Option.bind_eq_some_iff, Option.map_eq_some_iff] at hv
    obtain ⟨v, h1, u, h2, rfl⟩ := hv
    have r1 := rd (hok _ (by simp [Op.operands])) h1
    have r2 := rd (hok _ (by simp [Op.operands])) h2
    exact (store_sim hi r1 r2 hs he).u' (fun w' hx => by simp [execOp, hx])
  case nilCheck x =>
    subst hc
    simp only [AOp.vals, Option.map_eq_some_iff] at hv
    obtain ⟨v, h1, rfl⟩ := hv
    have r1 := rd (hok _ (by simp [Op.operands])) h1
    simp only [evP] at he
    split at he
    · cases he
      refine ExOK.pureV hs ?_ r1
      obtain ⟨a2, hq⟩ := r1.some_shape
      simp [execOp, hq]
    · cases he
      refine ExOK.pureV hs ?_ r1
      obtain ⟨a2, c2, hq, _⟩ := r1.func_inv
      simp [execOp, hq]
    · cases he
      refine ExOK.pureV hs ?_ r1
      obtain ⟨u2, hq, _⟩ := r1.iface_inv
      simp [execOp, hq]
    · cases he
  case unOp op t x =>
    subst hc
    simp only [AOp.vals, Option.map_eq_some_iff] at hv
    obtain ⟨v, h1, rfl⟩ := hv
    have r1 := rd (hok _ (by simp [Op.operands])) h1
    simp only [evP, Option.map_eq_some_iff] at he
    obtain ⟨q, hq, rfl⟩ := he
    obtain ⟨e1, hvv⟩ := unV_inv hq r1
    refine ExOK.pureV hs ?_ hvv
    simp [execOp, e1, unV_run hq]
  case makeInterface t x =>
    split at hc
    · cases hc
    · rename_i d hd hni
      cases hc
      simp only [AOp.vals, Option.map_eq_some_iff] at hv
      obtain ⟨v, h1, rfl⟩ := hv
      have r1 := rd (hok _ (by simp [Op.operands])) h1
      simp only [evP, Option.some.injEq] at he; subst he
      refine ExOK.pureV hs ?_ (.iface r1)
      have : (Instr.makeInterface t (a.eval x)).run P w = .ok (.iface t (a.eval x)) w := by
        simp only [Instr.makeInterface, Sem.run_bind, run_und hni, Result.andThen_ok]
        cases d <;> first | rfl | (rename_i q; exact absurd hni (hd q))
      simp [execOp, this]
    · cases hc
  case makeFunc fn x y =>
    subst hc
    simp only [AOp.vals, Option.bind_eq_some_iff, Option.map_eq_some_iff] at hv
    obtain ⟨v, h1, u, h2, rfl⟩ := hv
    have r1 := mapList_rel hr (fun z hz => hok z (by simp only [Op.operands, Array.mem_append]; exact .inl (by simpa using hz))) h1
    have r2 := mapList_rel hr (fun z hz => hok z (by simp only [Op.operands, Array.mem_append]; exact .inr (by simpa using hz))) h2
    simp only [evP, Option.some.injEq] at he; subst he
    have q1 := lrel_iff.1 r1
    have q2 := lrel_iff.1 r2
    refine ExOK.pureV (v' := .func fn (x.map a.eval) (y.map a.eval)) hs ?_ (.func (by simpa using q1.1) (by simpa using q2.1) (by simpa using q1.2) (by simpa using q2.2))
    simp [execOp, Instr.makeFunc]
  case makeMap t r =>
    cases r with
    | some _ => simp at hc
    | none =>
      simp only [Option.some.injEq] at hc; subst hc
      simp only [AOp.vals, mapOpt, Option.map_some, Option.some.injEq] at hv; subst hv
      simp only [evP, Option.some.injEq] at he; subst he
      have hn : β n = none := hf n (Nat.le_refl _) (Nat.lt_succ_self _)
      obtain ⟨h1, h2⟩ := alloc_step (r := ⟨w.heap.size, 0, 0, 0, 0⟩) (o := .map [] 0) (ob := .map #[] 0) (w' := w.alloc (.map #[] 0)) hs hn rfl rfl rfl rfl rfl ⟨rfl, .nil⟩
      refine ⟨.value (.map (some w.heap.size)), _, _, _, ?_, .inl rfl, VRel.map (r := ⟨w.heap.size, 0, 0, 0, 0⟩) (by simp [ext]), h1, h2⟩
      simp [execOp, Instr.makeMap]
  case range t x =>
    split at hc
    case h_2 => cases hc
    rename_i ht
    cases hc
    simp only [AOp.vals, Option.map_eq_some_iff] at hv
    obtain ⟨v, h1, rfl⟩ := hv
    have r1 := rd (hok _ (by simp [Op.operands])) h1
    simp only [evP] at he
    split at he
    case h_2 => cases he
    rename_i sx
    simp only [Option.some.injEq] at he; subst he
    have hx : a.eval x = .string sx := by
      obtain ⟨q, hq⟩ : ∃ q, q = a.eval x := ⟨_, rfl⟩
      rw [← hq] at r1 ⊢
      cases r1; rfl
    have hn : β n = none := hf n (Nat.le_refl _) (Nat.lt_succ_self _)
    obtain ⟨h1, h2⟩ := alloc_step (r := ⟨w.heap.size, 0, 0, 0, 0⟩) (o := .iter sx 0) (ob := .stringIter sx 0) (w' := w.alloc (.stringIter sx 0)) hs hn rfl rfl rfl rfl rfl ⟨rfl, rfl, rfl⟩
    refine ⟨.value (.pointer (some ⟨w.heap.size, 0, none⟩)), _, _, _, ?_, .inl rfl, VRel.ptr (o := 0) (r := ⟨w.heap.size, 0, 0, 0, 0⟩) (by simp [ext]), h1, h2⟩
    simp [execOp, Instr.range, hx, run_und ht]
  case next x b =>
    cases b with
    | false => simp at hc
    | true =>
      simp only [Option.some.injEq] at hc; subst hc
      simp only [AOp.vals, Option.map_eq_some_iff] at hv
      obtain ⟨v, h1, rfl⟩ := hv
      have r1 := rd (hok _ (by simp [Op.operands])) h1
      simp only [evP] at he
      split at he
      case h_2 => cases he
      rename_i id
      split at he
      case h_2 => cases he
      rename_i sx pos hid
      obtain ⟨r, hb, hx⟩ : ∃ r, β id = some r ∧ a.eval x = .pointer (some ⟨r.blk, r.base + 0, none⟩) := by
        obtain ⟨q, hq⟩ : ∃ q, q = a.eval x := ⟨_, rfl⟩
        rw [← hq] at r1 ⊢
        cases r1 with
        | prim _ h => simp [primV] at h
        | ptr h => exact ⟨_, h, rfl⟩
      have ho := hs.obj id r _ hb hid
      have hlt := hs.lt hb hid
      cases hq : w.heap[r.blk]? with
      | none => rw [hq] at ho; exact ho.elim
      | some q =>
        rw [hq] at ho
        cases q <;> try exact ho.elim
        obtain ⟨hb0, rfl, rfl⟩ := ho
        rw [hb0] at hx
        by_cases hp : pos < sx.size
        · rw [if_pos hp] at he
          simp only [Option.some.injEq] at he; subst he
          have hbut := setObj_but (w := w) r.blk (.stringIter sx (pos + (Utf8.decode sx pos).2))
          obtain ⟨h1, h2⟩ := update_step (n := n) (o' := .iter sx (pos + (Utf8.decode sx pos).2)) hs hb hid rfl rfl hbut.heap hbut.size rfl rfl rfl (by
            have : (w.heap.setIfInBounds r.blk (.stringIter sx (pos + (Utf8.decode sx pos).2)))[r.blk]? = some (.stringIter sx (pos + (Utf8.decode sx pos).2)) := by simp [hlt]
            rw [this]
            exact ⟨hb0, rfl, rfl⟩)
          refine ⟨.value (.tuple #[.bool true, .int .i64 (pos : Nat), .int .i32 (Utf8.decode sx pos).1]), _, _, _, ?_, .inl rfl, ?_, h1, h2⟩
          · rw [Nat.add_zero] at hx
            simp [execOp, Instr.next, hx, getObj, setObj, Sem.run, hq, hp, goInt, Result.andThen]
          · exact LRel.tuple (l := [.bool true, .int .i64 (pos : Nat), .int .i32 (Utf8.decode sx pos).1]) (l' := [.bool true, .int .i64 (pos : Nat), .int .i32 (Utf8.decode sx pos).1]) (.cons .bool' (.cons .int' (.cons .int' .nil)))
        · rw [if_neg hp] at he
          simp only [Option.some.injEq] at he; subst he
          refine ExOK.pureV (v' := .tuple #[.bool false]) hs ?_ (LRel.tuple (l := [.bool false]) (l' := [.bool false]) (.cons .bool' .nil))
          rw [Nat.add_zero] at hx
          simp [execOp, Instr.next, hx, getObj, Sem.run, hq, hp, Result.andThen]
  case makeSlice t x y =>
    split at hc
    case h_2 => cases hc
    rename_i el ht
    split at hc
    case h_2 => cases hc
    rename_i i hi
    simp only [Option.bind_eq_some_iff] at hc
    obtain ⟨z, hz, hc⟩ := hc
    split at hc
    case isFalse => cases hc
    rename_i hzo
    cases hc
    simp only [AOp.vals, Option.bind_eq_some_iff, Option.map_eq_some_iff] at hv
    obtain ⟨v, h1, u, h2, rfl⟩ := hv
    have r1 := rd (hok _ (by simp [Op.operands])) h1
    have r2 := rd (hok _ (by simp [Op.operands])) h2
    exact (mkSlice_sim ht hi hz hzo r1 r2 hs hf he).v' (fun x w' hx => by simp [execOp, hx])
  case slice t x lo hi mx =>
    have hopt : ∀ (y : Option Operand), (∀ z, y = some z → z ∈ (Op.slice t x lo hi mx).operands) → ∀ v, mapOpt e.rd y = some v → OptRel β v (y.map a.eval) :=
      fun y hy v hv => mapOpt_rel hr (fun z hz => hok z (hy z hz)) hv
    split at hc
    · rename_i ht
      cases hc
      simp only [AOp.vals, Option.bind_eq_some_iff, Option.map_eq_some_iff] at hv
      obtain ⟨v, h1, v2, h2, v3, h3, v4, h4, rfl⟩ := hv
      have r1 := rd (hok _ (by simp [Op.operands])) h1
      have r2 := hopt lo (fun z hz => by subst hz; simp [Op.operands]) _ h2
      have r3 := hopt hi (fun z hz => by subst hz; simp [Op.operands]) _ h3
      have r4 := hopt mx (fun z hz => by subst hz; simp [Op.operands]) _ h4
      exact (slice_string_sim ht r1 r2 r3 r4 hs he).v' (fun x w' hx => by simp [execOp, hx])
    · rename_i el ht
      simp only [Option.map_eq_some_iff] at hc
      obtain ⟨i, hif, rfl⟩ := hc
      simp only [AOp.vals, Option.bind_eq_some_iff, Option.map_eq_some_iff] at hv
      obtain ⟨v, h1, v2, h2, v3, h3, v4, h4, rfl⟩ := hv
      have r1 := rd (hok _ (by simp [Op.operands])) h1
      have r2 := hopt lo (fun z hz => by subst hz; simp [Op.operands]) _ h2
      have r3 := hopt hi (fun z hz => by subst hz; simp [Op.operands]) _ h3
      have r4 := hopt mx (fun z hz => by subst hz; simp [Op.operands]) _ h4
      exact (slice_slice_sim ht hif r1 r2 r3 r4 hs he).v' (fun x w' hx => by simp [execOp, hx])
    · cases hc
  case fieldAddr t x j =>
    split at hc
    case h_2 => cases hc
    rename_i fs ht
    simp only [Option.bind_eq_some_iff] at hc
    obtain ⟨f, hfj, i, hi, hc⟩ := hc
    split at hc
    case isFalse => cases hc
    rename_i h0
    cases hc
    simp only [AOp.vals, Option.map_eq_some_iff] at hv
    obtain ⟨v, h1, rfl⟩ := hv
    have r1 := rd (hok _ (by simp [Op.operands])) h1
    exact (fieldAddr_sim ht hfj hi h0 r1 hs he).v' (fun x w' hx => by simp [execOp, hx])
  case field t x j =>
    split at hc
    case h_2 => cases hc
    rename_i fs ht
    simp only [Option.bind_eq_some_iff, Option.map_eq_some_iff] at hc
    obtain ⟨f, hfj, k, hk, rfl⟩ := hc
    simp only [AOp.vals, Option.map_eq_some_iff] at hv
    obtain ⟨v, h1, rfl⟩ := hv
    have r1 := rd (hok _ (by simp [Op.operands])) h1
    exact (field_sim ht hfj hk r1 hs he).v' (fun x w' hx => by simp [execOp, hx])
  case indexAddr t x y =>
    split at hc
    case h_2 => cases hc
    rename_i el ht
    simp only [Option.map_eq_some_iff] at hc
    obtain ⟨i, hi, rfl⟩ := hc
    simp only [AOp.vals, Option.bind_eq_some_iff, Option.map_eq_some_iff] at hv
    obtain ⟨v, h1, u, h2, rfl⟩ := hv
    have r1 := rd (hok _ (by simp [Op.operands])) h1
    have r2 := rd (hok _ (by simp [Op.operands])) h2
    exact (indexAddr_sim ht hi r1 r2 hs he).v' (fun x w' hx => by simp [execOp, hx])
  case index t x y =>
    split at hc
    case h_2 => cases hc
    rename_i ht
    cases hc
    simp only [AOp.vals, Option.bind_eq_some_iff, Option.map_eq_some_iff] at hv
    obtain ⟨v, h1, u, h2, rfl⟩ := hv
    have r1 := rd (hok _ (by simp [Op.operands])) h1
    have r2 := rd (hok _ (by simp [Op.operands])) h2
    exact (index_sim ht r1 r2 hs he).v' (fun x w' hx => by simp [execOp, hx])
  case lookup t x k ok =>
    split at hc
    case h_2 => cases hc
    rename_i kt et ht
    simp only [Option.bind_eq_some_iff] at hc
    obtain ⟨kk, hkk, hc⟩ := hc
    split at hc
    case h_2 => cases hc
    rename_i i hi
    simp only [Option.bind_eq_some_iff] at hc
    obtain ⟨z, hz, hc⟩ := hc
    split at hc
    case isFalse => cases hc
    rename_i hzp
    cases hc
    obtain ⟨d, hd, hkd⟩ := keyKind_spec hkk
    simp only [AOp.vals, Option.bind_eq_some_iff, Option.map_eq_some_iff] at hv
    obtain ⟨v, h1, u, h2, rfl⟩ := hv
    have r1 := rd (hok _ (by simp [Op.operands])) h1
    have r2 := rd (hok _ (by simp [Op.operands])) h2
    exact (lookup_sim ht hd hkd hi hz (zero_rel hzp) r1 r2 hs he).v' (fun x w' hx => by simp [execOp, hx])
  case mapUpdate t m k v =>
    split at hc
    case h_2 => cases hc
    rename_i kt et ht
    simp only [Option.map_eq_some_iff] at hc
    obtain ⟨kk, hkk, rfl⟩ := hc
    obtain ⟨d, hd, hkd⟩ := keyKind_spec hkk
    simp only [AOp.vals, Option.bind_eq_some_iff, Option.map_eq_some_iff] at hv
    obtain ⟨v, h1, u, h2, q, h3, rfl⟩ := hv
    have r1 := rd (hok _ (by simp [Op.operands])) h1
    have r2 := rd (hok _ (by simp [Op.operands])) h2
    have r3 := rd (hok _ (by simp [Op.operands])) h3
    exact (mapUpdate_sim ht hd hkd r1 r2 r3 hs he).u' (fun w' hx => by simp [execOp, hx])
  case insert t m k v =>
    split at hc
    case h_2 => cases hc
    rename_i kt et ht
    simp only [Option.map_eq_some_iff] at hc
    obtain ⟨kk, hkk, rfl⟩ := hc
    obtain ⟨d, hd, hkd⟩ := keyKind_spec hkk
    simp only [AOp.vals, Option.bind_eq_some_iff, Option.map_eq_some_iff] at hv
    obtain ⟨v, h1, u, h2, q, h3, rfl⟩ := hv
    have r1 := rd (hok _ (by simp [Op.operands])) h1
    have r2 := rd (hok _ (by simp [Op.operands])) h2
    have r3 := rd (hok _ (by simp [Op.operands])) h3
    exact (mapUpdate_sim ht hd hkd r1 r2 r3 hs he).u' (fun w' hx => by simp [execOp, hx])
  case mapEntry t m k =>
    split at hc
    case h_2 => cases hc
    rename_i kt et ht
    simp only [Option.bind_eq_some_iff] at hc
    obtain ⟨kk, hkk, hc⟩ := hc
    split at hc
    case h_2 => cases hc
    rename_i i hi
    simp only [Option.bind_eq_some_iff] at hc
    obtain ⟨z, hz, hc⟩ := hc
    split at hc
    case isFalse => cases hc
    rename_i hzp
    cases hc
    obtain ⟨d, hd, hkd⟩ := keyKind_spec hkk
    simp only [AOp.vals, Option.bind_eq_some_iff, Option.map_eq_some_iff] at hv
    obtain ⟨v, h1, u, h2, rfl⟩ := hv
    have r1 := rd (hok _ (by simp [Op.operands])) h1
    have r2 := rd (hok _ (by simp [Op.operands])) h2
    exact (mapEntry_sim ht hd hkd hi hz (zero_rel hzp) r1 r2 hs he).v' (fun x w' hx => by simp [execOp, hx])
  case entryStore t m s v =>
    subst hc
    simp only [AOp.vals, Option.bind_eq_some_iff, Option.map_eq_some_iff] at hv
    obtain ⟨v, h1, u, h2, q, h3, rfl⟩ := hv
    have r1 := rd (hok _ (by simp [Op.operands])) h1
    have r2 := rd (hok _ (by simp [Op.operands])) h2
    have r3 := rd (hok _ (by simp [Op.operands])) h3
    exact (entryStore_sim (t := t) r1 r2 r3 hs he).u' (fun w' hx => by simp [execOp, hx])
  case panic x =>
    subst hc
    simp only [AOp.vals, Env.rd, Option.map_some, Option.some.injEq] at hv
    subst hv
    simp [evP] at he
  case extract x i =>
    subst hc
    simp only [AOp.vals, Option.map_eq_some_iff] at hv
    obtain ⟨v, h1, rfl⟩ := hv
    have r1 := rd (hok _ (by simp [Op.operands])) h1
    simp only [evP] at he
    split at he
    case h_2 => cases he
    simp only [Option.map_eq_some_iff] at he
    obtain ⟨q, hq, rfl⟩ := he
    obtain ⟨vs', hq2, hl⟩ := r1.tuple_inv
    obtain ⟨q', hq', hrr⟩ := hl.get hq
    refine ExOK.pureV hs ?_ hrr
    have : vs'[i]? = some q' := by simpa using hq'
    simp [execOp, hq2, Instr.extract, this]
  case convert src dst x =>
    unfold compConv at hc
    split at hc
    · rename_i k1 k2 h1 h2
      cases hc
      simp only [AOp.vals, Option.map_eq_some_iff] at hv
      obtain ⟨v, g1, rfl⟩ := hv
      have r1 := rd (hok _ (by simp [Op.operands])) g1
      exact (conv_int_sim h1 h2 r1 hs he).v' (fun x w' hx => by simp [execOp, hx])
    · rename_i h1 h2
      cases hc
      simp only [AOp.vals, Option.map_eq_some_iff] at hv
      obtain ⟨v, g1, rfl⟩ := hv
      have r1 := rd (hok _ (by simp [Op.operands])) g1
      exact (conv_same_sim h1 h2 r1 hs he).v' (fun x w' hx => by simp [execOp, hx])
    · rename_i el h1 h2
      split at hc
      case h_2 => cases hc
      rename_i hu
      cases hc
      simp only [AOp.vals, Option.map_eq_some_iff] at hv
      obtain ⟨v, g1, rfl⟩ := hv
      have r1 := rd (hok _ (by simp [Op.operands])) g1
      exact (conv_toBytes_sim h1 h2 hu r1 hs hf he).v' (fun x w' hx => by simp [execOp, hx])
    · rename_i el h1 h2
      split at hc
      case h_2 => cases hc
      rename_i hu
      cases hc
      simp only [AOp.vals, Option.map_eq_some_iff] at hv
      obtain ⟨v, g1, rfl⟩ := hv
      have r1 := rd (hok _ (by simp [Op.operands])) g1
      exact (conv_toString_sim h1 hu h2 r1 hs he).v' (fun x w' hx => by simp [execOp, hx])
    · rename_i el el2 h1 h2
      split at hc
      case isFalse => cases hc
      rename_i hsd
      split at hc
      case h_2 => cases hc
      rename_i hu
      cases hc
      simp only [AOp.vals, Option.map_eq_some_iff] at hv
      obtain ⟨v, g1, rfl⟩ := hv
      have r1 := rd (hok _ (by simp [Op.operands])) g1
      exact (conv_sameB_sim h1 hu r1 hs he).v' (fun x w' hx => by simp [execOp, ← hsd, hx])
    · cases hc
  case binOp op t x y yt =>
    exact binOp_case hc hok hr hv hs he
  case call c =>
    exact call_case hc hok hr hv hnc hs he hf

end
end Go.Abs
