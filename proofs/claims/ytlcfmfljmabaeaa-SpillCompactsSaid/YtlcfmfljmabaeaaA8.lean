/-
  The operations, value by value: maps, append, copy, make.
-/
import Derived.Test.YtlcfmfljmabaeaaA7
set_option linter.unusedVariables false
set_option linter.unusedSimpArgs false
namespace Go.Abs
open Go

section
variable {P : Program} {β : Map} {h : HF} {w : World} {n : Nat} {res : Res}

/-! ### maps -/
def keyD : KeyK → TypeDesc → Bool
  | .int, .int _ => true
  | .string, .string => true
  | .bool, .bool => true
  | _, _ => false

theorem checkKey_run {kk : KeyK} {t : TypeId} {d : TypeDesc} {k : Value} (hd : P.underlying t = some d) (hk : keyD kk d = true) (b : Bool) : (Instr.checkKey b 10000 t k).run P w = .ok () w := by
  unfold Instr.checkKey
  simp only [Sem.run_bind, run_und hd, Result.andThen]
  cases kk <;> cases d <;> simp [keyD] at hk <;> rfl

theorem sameNow_eq {kk : KeyK} {d : TypeDesc} {a b : Value} (hk : keyD kk d = true) (ho : keyOk kk a = true) {r : Bool} (h : keyEq a b = some r) : Instr.sameNow d a b = some r := by
  cases kk <;> cases d <;> simp [keyD] at hk <;> cases a <;> simp [keyOk] at ho <;> cases b <;> simp_all [keyEq, Instr.sameNow]

def FRel (β : Map) : Option (Nat × Value) → Option (Nat × Value) → Prop
  | none, none => True
  | some (i, v), some (j, v') => i = j ∧ VRel β v v'
  | _, _ => False

theorem findL_run {kk : KeyK} {d : TypeDesc} {k : Value} (hk : keyD kk d = true) (ho : keyOk kk k = true) {es es' : List MapEntry} (hes : All2 (ERel β) es es') : ∀ (i : Nat) (r : Option (Nat × Value)),
    findL k es i = some r → ∃ r', Instr.findNow d k es' i = some r' ∧ FRel β r r' := by
  induction hes with
  | nil => intro i r hr; simp only [findL, Option.some.injEq] at hr; subst hr; exact ⟨none, rfl, trivial⟩
  | cons he _ ih =>
    intro i r hr
    rename_i e e' _ _
    simp only [findL] at hr
    simp only [Instr.findNow]
    obtain ⟨h1, h2, h3, h4⟩ := he
    split at hr
    · rename_i hq
      rw [h1] at hq
      simp only [Option.some.injEq] at hr
      subst hr
      rw [sameNow_eq hk ho hq]
      exact ⟨_, rfl, rfl, h3⟩
    · rename_i hq
      rw [h1] at hq
      rw [sameNow_eq hk ho hq]
      exact ih _ _ hr
    · cases hr

theorem findKey_run {kk : KeyK} {t : TypeId} {d : TypeDesc} {k : Value} (hd : P.underlying t = some d) (hk : keyD kk d = true) (ho : keyOk kk k = true) {es es' : List MapEntry} (hes : All2 (ERel β) es es') {r : Option (Nat × Value)}
    (hr : findL k es 0 = some r) : ∃ r', (Instr.findKey t k es').run P w = .ok r' w ∧ FRel β r r' := by
  obtain ⟨r', h1, h2⟩ := findL_run hk ho hes 0 r hr
  exact ⟨r', by simp [Instr.findKey, run_und hd, h1], h2⟩

theorem keyOk_inv {kk : KeyK} {k k' : Value} (ho : keyOk kk k = true) (hv : VRel β k k') : k' = k ∧ plainV k = true := by
  cases kk <;> cases k <;> simp [keyOk] at ho <;> cases hv <;> exact ⟨rfl, rfl⟩

theorem getObj_map {r : Nat} {ES : Array MapEntry} {c : Nat} (hq : w.heap[r]? = some (.map ES c)) : (getObj r).run P w = .ok (.map ES c) w := by
  simp [getObj, Sem.run, hq]

theorem setObj_map {r : Nat} {ES : Array MapEntry} {c : Nat} {o : Obj} (hq : w.heap[r]? = some (.map ES c)) : (setObj r o).run P w = .ok () { w with heap := w.heap.setIfInBounds r o } := by
  simp [setObj, Sem.run, hq]

theorem setObj_but (r : Nat) (o : Obj) : But r w { w with heap := w.heap.setIfInBounds r o } :=
  ⟨fun k hk => by simp [Array.getElem?_setIfInBounds, Ne.symm hk], by simp, rfl, rfl, rfl, rfl⟩

theorem entries_inv {x x' : Value} {es : List MapEntry} (hx : VRel β x x') (hs : Sim β h w) (he : entriesOf h x = some es) :
    (x' = .map none ∧ es = []) ∨ ∃ r ES c, x' = .map (some r) ∧ w.heap[r]? = some (.map ES c) ∧ All2 (ERel β) es ES.toList := by
  unfold entriesOf at he
  split at he
  · cases he; exact .inl ⟨hx.nilMap_inv, rfl⟩
  · rename_i id
    split at he
    · rename_i es' c ho
      cases he
      obtain ⟨r, hb, rfl⟩ := hx.map_inv
      obtain ⟨ES, hq, hes⟩ := (hs.obj id r _ hb ho).map_inv
      exact .inr ⟨_, ES, c, rfl, hq, hes⟩
    · cases he
  · cases he

theorem lookup_sim {t kt et : TypeId} {d : TypeDesc} {i : TypeInfo} {z : Value} {kk : KeyK} {ok : Bool} {x x' k k' : Value} (ht : P.underlying t = some (.map kt et)) (hd : P.underlying kt = some d) (hk : keyD kk d = true)
    (hi : P.info? et = some i) (hz : i.zero = some z) (hzp : VRel β z z) (hx : VRel β x x') (hkv : VRel β k k') (hs : Sim β h w) (he : evP h n (.lookup kk z ok x k) = some res) : OpOK P β h w n res id (Instr.lookup t x' k' ok) := by
  simp only [evP] at he
  split at he
  case isFalse => cases he
  rename_i ho
  obtain ⟨rfl, _⟩ := keyOk_inv ho hkv
  cases hes : entriesOf h x with
  | none => simp [hes] at he
  | some es =>
    simp only [hes, Option.bind_some] at he
    cases hf : findL k' es 0 with
    | none => simp [hf] at he
    | some f =>
      simp only [hf, Option.map_some, Option.some.injEq] at he
      subst he
      have hval : ∀ f', FRel β f f' → VRel β (lookV z ok f) (lookV z ok f') := by
        intro f' hfr
        cases f with
        | none =>
          cases f' with
          | some _ => exact hfr.elim
          | none =>
            cases ok with
            | false => exact hzp
            | true => exact LRel.tuple (l := [z, .bool false]) (l' := [z, .bool false]) (.cons hzp (.cons .bool' .nil))
        | some p =>
          obtain ⟨j, v⟩ := p
          cases f' with
          | none => exact hfr.elim
          | some p' =>
            obtain ⟨j', v'⟩ := p'
            cases ok with
            | false => exact hfr.2
            | true => exact LRel.tuple (l := [v, .bool true]) (l' := [v', .bool true]) (.cons hfr.2 (.cons .bool' .nil))
      rcases entries_inv hx hs hes with ⟨rfl, rfl⟩ | ⟨r, ES, c, rfl, hq, hes'⟩
      · obtain ⟨f', hr, hfr⟩ := findKey_run (P := P) (w := w) hd hk ho .nil hf
        refine OpOK.pure (x := lookV z ok f') hs ?_ (hval f' hfr)
        cases f' with
        | none => cases ok <;> simp [Instr.lookup, run_und ht, checkKey_run hd hk, hr, run_zero hi hz, lookV]
        | some p => obtain ⟨j, v⟩ := p; cases ok <;> simp [Instr.lookup, run_und ht, checkKey_run hd hk, hr, lookV]
      · obtain ⟨f', hr, hfr⟩ := findKey_run (P := P) (w := w) hd hk ho hes' hf
        refine OpOK.pure (x := lookV z ok f') hs ?_ (hval f' hfr)
        cases f' with
        | none => cases ok <;> simp [Instr.lookup, run_und ht, checkKey_run hd hk, getObj_map hq, hr, run_zero hi hz, lookV]
        | some p => obtain ⟨j, v⟩ := p; cases ok <;> simp [Instr.lookup, run_und ht, checkKey_run hd hk, getObj_map hq, hr, lookV]

theorem all2_length {α γ : Type} {R : α → γ → Prop} {l : List α} {l' : List γ} (h : All2 R l l') : l.length = l'.length := by
  induction h with
  | nil => rfl
  | cons _ _ ih => simp [ih]

theorem all2_append {α γ : Type} {R : α → γ → Prop} {l k : List α} {l' k' : List γ} (h : All2 R l l') (g : All2 R k k') : All2 R (l ++ k) (l' ++ k') := by
  induction h with
  | nil => exact g
  | cons h _ ih => exact .cons h ih

theorem all2_modify {α γ : Type} {R : α → γ → Prop} {l : List α} {l' : List γ} (h : All2 R l l') {f : α → α} {f' : γ → γ} (hf : ∀ a b, R a b → R (f a) (f' b)) : ∀ i, All2 R (l.modify i f) (l'.modify i f') := by
  induction h with
  | nil => intro i; cases i <;> exact .nil
  | cons h t ih =>
    intro i
    cases i with
    | zero => exact .cons (hf _ _ h) t
    | succ i => exact .cons h (ih i)

theorem all2_erase {α γ : Type} {R : α → γ → Prop} {l : List α} {l' : List γ} (h : All2 R l l') : ∀ i, All2 R (l.eraseIdx i) (l'.eraseIdx i) := by
  induction h with
  | nil => intro i; cases i <;> exact .nil
  | cons h t ih =>
    intro i
    cases i with
    | zero => exact t
    | succ i => exact .cons h (ih i)

theorem all2_get {α γ : Type} {R : α → γ → Prop} {l : List α} {l' : List γ} (h : All2 R l l') : ∀ {i : Nat} {a : α}, l[i]? = some a → ∃ b, l'[i]? = some b ∧ R a b := by
  induction h with
  | nil => intro i a e; simp at e
  | cons h t ih =>
    intro i a e
    cases i with
    | zero => simp only [List.getElem?_cons_zero, Option.some.injEq] at e; subst e; exact ⟨_, rfl, h⟩
    | succ i => simp only [List.getElem?_cons_succ] at e ⊢; exact ih e

theorem map_write {id : Nat} {r : Rec} {es es2 : List MapEntry} {c c2 : Nat} {ES ES2 : Array MapEntry} (hs : Sim β h w) (hb : β id = some r) (ho : h id = some (.map es c)) (hq : w.heap[r.blk]? = some (.map ES c)) (hes : All2 (ERel β) es2 ES2.toList) :
    Sim β (fun j => if j = id then some (.map es2 c2) else h j) { w with heap := w.heap.setIfInBounds r.blk (.map ES2 c2) } ∧
    Step β h w β (fun j => if j = id then some (.map es2 c2) else h j) { w with heap := w.heap.setIfInBounds r.blk (.map ES2 c2) } n n := by
  have hbut := setObj_but (w := w) r.blk (.map ES2 c2)
  have hlt : r.blk < w.heap.size := hs.lt hb ho
  refine update_step hs hb ho rfl rfl hbut.heap hbut.size rfl rfl rfl ?_
  have : (w.heap.setIfInBounds r.blk (.map ES2 c2))[r.blk]? = some (.map ES2 c2) := by simp [hlt]
  rw [this]
  exact ⟨rfl, hes⟩

theorem keyEq_true {a b : Value} (h : keyEq a b = some true) : a = b := by
  unfold keyEq at h
  split at h
  · split at h
    · rename_i hk; simp only [Option.some.injEq, beq_iff_eq] at h; rw [hk, h]
    · cases h
  · simp only [Option.some.injEq, bytes_eq_iff] at h; rw [h]
  · simp only [Option.some.injEq, beq_iff_eq] at h; rw [h]
  · cases h

theorem findL_key {k : Value} {es : List MapEntry} : ∀ {i j : Nat} {v : Value}, findL k es i = some (some (j, v)) → ∃ e, i ≤ j ∧ es[j - i]? = some e ∧ e.key = k ∧ e.val = v := by
  induction es with
  | nil => intro i j v h; simp [findL] at h
  | cons e es ih =>
    intro i j v h
    simp only [findL] at h
    split at h
    · rename_i hq
      simp only [Option.some.injEq, Prod.mk.injEq] at h
      obtain ⟨rfl, rfl⟩ := h
      exact ⟨e, Nat.le_refl _, by simp, (keyEq_true hq).symm, rfl⟩
    · obtain ⟨e', h1, h2, h3, h4⟩ := ih h
      refine ⟨e', by omega, ?_, h3, h4⟩
      obtain ⟨d, rfl⟩ : ∃ d, j = i + 1 + d := ⟨j - (i + 1), by omega⟩
      rw [show i + 1 + d - i = d + 1 by omega]
      rw [show i + 1 + d - (i + 1) = d by omega] at h2
      simpa using h2
    · cases h

theorem sameBits_refl {v : Value} (h : plainV v = true) : Instr.sameBits 10000 v v = true := by
  cases v <;> simp [plainV] at h <;> simp [Instr.sameBits, bytes_eq_iff]

theorem keyStays_run {old new : Value} (he : old = new) (hp : plainV new = true) : (Instr.keyThatStays old new).run P w = .ok new w := by
  subst he
  simp [Instr.keyThatStays, sameBits_refl hp]

theorem mapUpdate_sim {t kt et : TypeId} {d : TypeDesc} {kk : KeyK} {m m' k k' v v' : Value} (ht : P.underlying t = some (.map kt et)) (hd : P.underlying kt = some d) (hk : keyD kk d = true)
    (hm : VRel β m m') (hkv : VRel β k k') (hv : VRel β v v') (hs : Sim β h w) (he : evP h n (.mapUpdate kk m k v) = some res) : OpOK P β h w n res (fun _ => undef) (Instr.mapUpdate t m' k' v') := by
  simp only [evP] at he
  split at he
  case h_2 => cases he
  rename_i id
  split at he
  case h_2 => cases he
  rename_i es clock ho
  split at he
  case isFalse => cases he
  rename_i hko
  obtain ⟨rfl, hpl⟩ := keyOk_inv hko hkv
  obtain ⟨r, hb, rfl⟩ := hm.map_inv
  obtain ⟨ES, hq, hes⟩ := (hs.obj id r _ hb ho).map_inv
  cases hf : findL k' es 0 with
  | none => simp [hf] at he
  | some f =>
    obtain ⟨f', hr, hfr⟩ := findKey_run (P := P) (w := w) hd hk hko hes hf
    simp only [hf, Option.map_some, Option.some.injEq] at he
    cases f with
    | none =>
      simp only at he
      subst he
      cases f' with
      | some _ => exact hfr.elim
      | none =>
        have hnew : All2 (ERel β) (es ++ [{ key := k', val := v, born := clock }]) (ES.push { key := k', val := v', born := clock }).toList := by
          rw [Array.toList_push]; exact all2_append hes (.cons ⟨rfl, hpl, hv, rfl⟩ .nil)
        obtain ⟨h1, h2⟩ := map_write (n := n) (c2 := clock + 1) hs hb ho hq hnew
        refine ⟨(), _, β, ?_, undefV_rel β, h1, h2⟩
        simp [Instr.mapUpdate, run_und ht, getObj_map hq, checkKey_run hd hk, hr, setObj_map hq]
    | some p =>
      obtain ⟨j, u⟩ := p
      simp only at he
      subst he
      cases f' with
      | none => exact hfr.elim
      | some p' =>
        obtain ⟨j', u'⟩ := p'
        obtain ⟨rfl, _⟩ := hfr
        obtain ⟨e, _, hej, hek, _⟩ := findL_key hf
        simp only [Nat.sub_zero] at hej
        obtain ⟨e', hej', hee⟩ := all2_get hes hej
        have hold : ((ES[j]?.map (·.key)).getD k') = k' := by
          have : ES[j]? = some e' := by simpa using hej'
          rw [this]; simp [← hee.1, hek]
        have hnew : All2 (ERel β) (es.modify j fun e => { e with key := k', val := v }) (ES.modify j fun e => { e with key := k', val := v' }).toList := by
          rw [Array.toList_modify]
          refine all2_modify hes ?_ j
          intro a b hab; exact ⟨rfl, hpl, hv, hab.2.2.2⟩
        obtain ⟨h1, h2⟩ := map_write (n := n) (c2 := clock) hs hb ho hq hnew
        refine ⟨(), _, β, ?_, undefV_rel β, h1, h2⟩
        simp only [Instr.mapUpdate, Sem.run_bind, run_und ht, Result.andThen, getObj_map hq, checkKey_run hd hk, hr, keyStays_run hold hpl, setObj_map hq]

theorem mapEntry_sim {t kt et : TypeId} {d : TypeDesc} {i : TypeInfo} {z : Value} {kk : KeyK} {m m' k k' : Value} (ht : P.underlying t = some (.map kt et)) (hd : P.underlying kt = some d) (hk : keyD kk d = true)
    (hi : P.info? et = some i) (hz : i.zero = some z) (hzp : VRel β z z) (hm : VRel β m m') (hkv : VRel β k k') (hs : Sim β h w) (he : evP h n (.mapEntry kk z m k) = some res) : OpOK P β h w n res id (Instr.mapEntry t m' k') := by
  simp only [evP] at he
  split at he
  case h_2 => cases he
  rename_i id
  split at he
  case h_2 => cases he
  rename_i es clock ho
  split at he
  case isFalse => cases he
  rename_i hko
  obtain ⟨rfl, hpl⟩ := keyOk_inv hko hkv
  obtain ⟨r, hb, rfl⟩ := hm.map_inv
  obtain ⟨ES, hq, hes⟩ := (hs.obj id r _ hb ho).map_inv
  cases hf : findL k' es 0 with
  | none => simp [hf] at he
  | some f =>
    obtain ⟨f', hr, hfr⟩ := findKey_run (P := P) (w := w) hd hk hko hes hf
    simp only [hf, Option.map_some, Option.some.injEq] at he
    cases f with
    | none =>
      simp only at he
      subst he
      cases f' with
      | some _ => exact hfr.elim
      | none =>
        have hnew : All2 (ERel β) (es ++ [{ key := k', val := z, born := clock }]) (ES.push { key := k', val := z, born := clock }).toList := by
          rw [Array.toList_push]; exact all2_append hes (.cons ⟨rfl, hpl, hzp, rfl⟩ .nil)
        obtain ⟨h1, h2⟩ := map_write (n := n) (c2 := clock + 1) hs hb ho hq hnew
        refine ⟨_, _, β, ?_, LRel.tuple (l := [z, .int .i64 clock]) (l' := [z, .int .i64 clock]) (.cons hzp (.cons .int' .nil)), h1, h2⟩
        simp [Instr.mapEntry, run_und ht, getObj_map hq, checkKey_run hd hk, hr, setObj_map hq, run_zero hi hz, goInt]
    | some p =>
      obtain ⟨j, u⟩ := p
      simp only at he
      subst he
      cases f' with
      | none => exact hfr.elim
      | some p' =>
        obtain ⟨j', u'⟩ := p'
        obtain ⟨rfl, hu⟩ := hfr
        obtain ⟨e, _, hej, hek, _⟩ := findL_key hf
        simp only [Nat.sub_zero] at hej
        obtain ⟨e', hej', hee⟩ := all2_get hes hej
        have hEj : ES[j]? = some e' := by simpa using hej'
        have hold : ((ES[j]?.map (·.key)).getD k') = k' := by
          rw [hEj]; simp [← hee.1, hek]
        have hnew : All2 (ERel β) (es.modify j fun e => { e with key := k' }) (ES.modify j fun e => { e with key := k' }).toList := by
          rw [Array.toList_modify]
          refine all2_modify hes ?_ j
          intro a b hab; exact ⟨rfl, hpl, hab.2.2.1, hab.2.2.2⟩
        obtain ⟨h1, h2⟩ := map_write (n := n) (c2 := clock) hs hb ho hq hnew
        refine ⟨.tuple #[u', .int .i64 ((ES[j]?.map (·.born)).getD 0 : Nat)], _, β, ?_, ?_, h1, h2⟩
        · have hek' : e'.key = k' := by rw [← hee.1]; exact hek
          simp [Instr.mapEntry, run_und ht, getObj_map hq, checkKey_run hd hk, hr, hEj, keyStays_run hek' hpl, setObj_map hq, goInt]
        · rw [hEj, hej]
          simp only [Option.map_some, Option.getD_some, hee.2.2.2]
          exact LRel.tuple (l := [u, .int .i64 e'.born]) (l' := [u', .int .i64 e'.born]) (.cons hu (.cons .int' .nil))

theorem findIdx_rel {es es' : List MapEntry} (hes : All2 (ERel β) es es') (b : Int) : es'.findIdx? (fun e => (e.born : Int) == b) = es.findIdx? (fun e => (e.born : Int) == b) := by
  induction hes with
  | nil => rfl
  | cons h _ ih => simp only [List.findIdx?_cons, h.2.2.2, ih]

theorem entryStore_sim {t : TypeId} {m m' k k' v v' : Value} (hm : VRel β m m') (hkv : VRel β k k') (hv : VRel β v v') (hs : Sim β h w) (he : evP h n (.entryStore m k v) = some res) :
    OpOK P β h w n res (fun _ => undef) (Instr.entryStore t m' k' v') := by
  simp only [evP] at he
  split at he
  case h_2 => cases he
  rename_i id b
  split at he
  case h_2 => cases he
  rename_i es clock ho
  obtain ⟨r, hb, rfl⟩ := hm.map_inv
  obtain ⟨ES, hq, hes⟩ := (hs.obj id r _ hb ho).map_inv
  rw [hkv.int_inv]
  cases hf : es.findIdx? (fun e => (e.born : Int) == b) with
  | none => simp [hf] at he
  | some j =>
    simp only [hf, Option.map_some, Option.some.injEq] at he
    subst he
    have hf' : ES.findIdx? (fun e => (e.born : Int) == b) = some j := by
      rw [← hf, ← findIdx_rel hes b]
      have := List.findIdx?_toArray (fun e : MapEntry => (e.born : Int) == b) ES.toList
      rwa [Array.toArray_toList] at this
    have hnew : All2 (ERel β) (es.modify j fun e => { e with val := v }) (ES.modify j fun e => { e with val := v' }).toList := by
      rw [Array.toList_modify]
      refine all2_modify hes ?_ j
      intro a b hab; exact ⟨hab.1, hab.2.1, hv, hab.2.2.2⟩
    obtain ⟨h1, h2⟩ := map_write (n := n) (c2 := clock) hs hb ho hq hnew
    refine ⟨(), _, β, ?_, undefV_rel β, h1, h2⟩
    simp [Instr.entryStore, getObj_map hq, asInt, asIntOf, hf', setObj_map hq]

end
end Go.Abs
