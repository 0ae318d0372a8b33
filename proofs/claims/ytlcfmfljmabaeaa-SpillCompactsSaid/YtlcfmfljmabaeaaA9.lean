/-
  The operations, value by value: what grows, and the small ones.
-/
import Derived.Test.YtlcfmfljmabaeaaA8
set_option linter.unusedVariables false
set_option linter.unusedSimpArgs false
namespace Go.Abs
open Go

section
variable {P : Program} {β : Map} {h : HF} {w : World} {n : Nat} {res : Res}

theorem delete_sim {ts : Array TypeId} {ty t kt et : TypeId} {d : TypeDesc} {kk : KeyK} {m m' k k' : Value} (ht0 : ts[0]? = some t) (ht : P.underlying t = some (.map kt et)) (hd : P.underlying kt = some d) (hk : keyD kk d = true)
    (hm : VRel β m m') (hkv : VRel β k k') (hs : Sim β h w) (he : evP h n (.delete kk m k) = some res) : OpOK P β h w n res id (Builtin.delete_ ts ty #[m', k']) := by
  simp only [evP] at he
  split at he
  · split at he
    · rename_i hko
      cases he
      rw [hm.nilMap_inv]
      obtain ⟨rfl, hpl⟩ := keyOk_inv hko hkv
      refine OpOK.pure (x := .tuple #[]) hs ?_ (undefV_rel β)
      simp [Builtin.delete_, ht0, run_und ht, checkKey_run hd hk]
    · cases he
  · rename_i id
    split at he
    case h_2 => cases he
    rename_i es clock ho
    split at he
    case isFalse => cases he
    rename_i hko
    obtain ⟨rfl, hpl⟩ := keyOk_inv hko hkv
    obtain ⟨r, hb, rfl⟩ := hm.map_inv
    obtain ⟨ES, hq, hes⟩ := (hs.obj id r _ hb ho).map_inv
    cases hf : findL k' es 0 with
    | none => simp [hf] at he
    | some f =>
      obtain ⟨f', hr, hfr⟩ := findKey_run (P := P) (w := w) hd hk hko hes hf
      simp only [hf, Option.map_some, Option.some.injEq] at he
      cases f with
      | none =>
        simp only at he
        subst he
        cases f' with
        | some _ => exact hfr.elim
        | none =>
          obtain ⟨h1, h2⟩ := map_write (n := n) (c2 := clock) hs hb ho hq hes
          refine ⟨.tuple #[], _, β, ?_, undefV_rel β, h1, h2⟩
          simp [Builtin.delete_, ht0, run_und ht, getObj_map hq, checkKey_run hd hk, hr, setObj_map hq]
      | some p =>
        obtain ⟨j, u⟩ := p
        simp only at he
        subst he
        cases f' with
        | none => exact hfr.elim
        | some p' =>
          obtain ⟨j', u'⟩ := p'
          obtain ⟨rfl, _⟩ := hfr
          obtain ⟨e, _, hej, _, _⟩ := findL_key hf
          simp only [Nat.sub_zero] at hej
          obtain ⟨e', hej', _⟩ := all2_get hes hej
          have hlt : j < ES.size := by
            have := (List.getElem?_eq_some_iff.1 hej').1
            simpa using this
          have hnew : All2 (ERel β) (es.eraseIdx j) (ES.eraseIdxIfInBounds j).toList := by
            unfold Array.eraseIdxIfInBounds
            rw [dif_pos hlt, Array.toList_eraseIdx]
            exact all2_erase hes j
          obtain ⟨h1, h2⟩ := map_write (n := n) (c2 := clock) hs hb ho hq hnew
          refine ⟨.tuple #[], _, β, ?_, undefV_rel β, h1, h2⟩
          simp [Builtin.delete_, ht0, run_und ht, getObj_map hq, checkKey_run hd hk, hr, setObj_map hq]
  · cases he

def lenD : LenK → TypeDesc → Bool
  | .string, .string => true
  | .slice, .slice _ => true
  | .map, .map _ _ => true
  | _, _ => false

theorem len_sim {ts : Array TypeId} {ty t : TypeId} {d : TypeDesc} {k : LenK} {x x' : Value} (ht0 : ts[0]? = some t) (ht : P.underlying t = some d) (hd : lenD k d = true) (hx : VRel β x x') (hs : Sim β h w)
    (he : evP h n (.len k x) = some res) : OpOK P β h w n res id (Builtin.len_ ts ty #[x']) := by
  simp only [evP] at he
  split at he
  · cases he
    rw [hx.string_inv]
    cases d <;> simp [lenD] at hd
    refine OpOK.pure hs ?_ .int'
    simp [Builtin.len_, ht0, run_und ht, goInt]
  · rename_i a m c
    cases he
    cases d <;> simp [lenD] at hd
    have : ∃ a' c', x' = .slice a' m c' := by
      cases a with
      | none => exact ⟨none, c, hx.nilSlice_inv⟩
      | some a =>
        rcases hx.slice_inv with ⟨r, c', _, _, e, _⟩ | ⟨r, b, _, _, e1, e2, e⟩
        · exact ⟨_, _, e⟩
        · exact ⟨_, _, by rw [e, e1]⟩
    obtain ⟨a', c', rfl⟩ := this
    refine OpOK.pure hs ?_ .int'
    simp [Builtin.len_, ht0, run_und ht, goInt]
  · cases he
    cases d <;> simp [lenD] at hd
    rw [hx.nilMap_inv]
    refine OpOK.pure hs ?_ .int'
    simp [Builtin.len_, ht0, run_und ht, goInt]
  · rename_i id
    split at he
    case h_2 => cases he
    rename_i es clock ho
    cases he
    cases d <;> simp [lenD] at hd
    obtain ⟨r, hb, rfl⟩ := hx.map_inv
    obtain ⟨ES, hq, hes⟩ := (hs.obj id r _ hb ho).map_inv
    refine OpOK.pure hs ?_ .int'
    have : es.length = ES.size := by have := all2_length hes; simpa using this
    simp [Builtin.len_, ht0, run_und ht, goInt, getObj_map hq, this]
  · cases he

theorem cap_sim {ts : Array TypeId} {ty t e : TypeId} {x x' : Value} (ht0 : ts[0]? = some t) (ht : P.underlying t = some (.slice e)) (hx : VRel β x x') (hs : Sim β h w)
    (he : evP h n (.cap x) = some res) : OpOK P β h w n res id (Builtin.cap_ ts ty #[x']) := by
  simp only [evP] at he
  split at he
  · cases he
    rw [hx.nilSlice_inv]
    refine OpOK.pure hs ?_ .int'
    simp [Builtin.cap_, ht0, run_und ht, goInt]
  · rename_i id o len c
    split at he
    case h_2 => cases he
    rename_i cc ct z ro ho
    split at he
    case isFalse => cases he
    rename_i hc
    cases he
    rcases hx.slice_inv with ⟨r, c', _, hbb, rfl, hc'⟩ | ⟨r, bb, _, _, rfl, rfl, rfl⟩
    · simp only at hbb
      obtain ⟨C, fr, hq, hn, hro, hsl, _⟩ := (hs.obj id r _ hbb ho).cells_inv
      have hs0 : r.slack = 0 := by
        rcases hc with hc | hc
        · exact hro hc
        · rcases Nat.eq_zero_or_pos r.slack with h | h
          · exact h
          · have := (hsl (by omega)).2; omega
      have : c' = c := by
        rcases hc' with h | ⟨h, _⟩
        · exact h
        · omega
      subst this
      refine OpOK.pure hs ?_ .int'
      simp [Builtin.cap_, ht0, run_und ht, goInt]
    · refine OpOK.pure hs ?_ .int'
      simp [Builtin.cap_, ht0, run_und ht, goInt]
  · cases he

theorem minmaxV_run {b : Bool} {r : List Value} : ∀ {x v : Value}, minmaxV b x r = some v → (r.foldlM (if b then Builtin.max2 else Builtin.min2) x).run P w = .ok v w ∧ ∃ k a, v = .int k a := by
  induction r with
  | nil =>
    intro x v hv
    unfold minmaxV at hv
    split at hv
    · cases hv; exact ⟨rfl, _, _, rfl⟩
    · rename_i heq; exact absurd heq (by simp)
    · cases hv
  | cons y r ih =>
    intro x v hv
    unfold minmaxV at hv
    split at hv
    · rename_i h; simp at h
    · rename_i k x k' y' r' h
      simp only [List.cons.injEq] at h
      obtain ⟨rfl, rfl⟩ := h
      split at hv
      · rename_i hk
        subst hk
        obtain ⟨h1, h2⟩ := ih hv
        refine ⟨?_, h2⟩
        rw [List.foldlM_cons, Sem.run_bind]
        cases b
        · simp only [Bool.false_eq_true, if_false] at h1 ⊢
          simp only [Builtin.min2, Sem.run_pure, Result.andThen_ok]; exact h1
        · simp only [if_true] at h1 ⊢
          simp only [Builtin.max2, Sem.run_pure, Result.andThen_ok]; exact h1
      · cases hv
    · cases hv

theorem minmaxV_rel {b : Bool} {r : List Value} : ∀ {r' : List Value} {x v x' : Value}, LRel β r r' → VRel β x x' → minmaxV b x r = some v → x' = x ∧ r' = r := by
  induction r with
  | nil =>
    intro r' x v x' hr hx hv
    cases hr
    unfold minmaxV at hv
    split at hv
    · exact ⟨hx.int_inv, rfl⟩
    · rename_i heq; exact absurd heq (by simp)
    · cases hv
  | cons y r ih =>
    intro r' x v x' hr hx hv
    cases hr with
    | cons hy ht =>
      unfold minmaxV at hv
      split at hv
      · rename_i h; simp at h
      · rename_i k x k' y' r' h
        simp only [List.cons.injEq] at h
        obtain ⟨rfl, rfl⟩ := h
        split at hv
        · obtain ⟨_, h2⟩ := ih ht (.prim _ rfl) hv
          exact ⟨hx.int_inv, by rw [hy.int_inv, h2]⟩
        · cases hv
      · cases hv

theorem minmax_sim {ts : Array TypeId} {ty : TypeId} {b : Bool} {xs xs' : List Value} (hx : LRel β xs xs') (hs : Sim β h w) (he : evP h n (.minmax b xs) = some res) :
    OpOK P β h w n res id (if b then Builtin.max_ ts ty xs'.toArray else Builtin.min_ ts ty xs'.toArray) := by
  simp only [evP] at he
  cases xs with
  | nil => simp at he
  | cons x r =>
    cases hx with
    | cons hx ht =>
      simp only at he
      cases hv : minmaxV b x r with
      | none => simp [hv] at he
      | some v =>
        simp only [hv, Option.map_some, Option.some.injEq] at he
        subst he
        obtain ⟨rfl, rfl⟩ := minmaxV_rel ht hx hv
        obtain ⟨h1, k, a, rfl⟩ := minmaxV_run (P := P) (w := w) hv
        refine OpOK.pure hs ?_ .int'
        cases b <;> simp [Builtin.max_, Builtin.min_] at h1 ⊢ <;> exact h1

/-! ### what grows -/

theorem cell_of_heap {w w' : World} (hw : w'.heap = w.heap) (a : Addr) : w'.cell? a = w.cell? a := by
  unfold World.cell?; rw [hw]

theorem firstL_run {size m : Nat} {x x' : Value} {l : List Value} (hx : VRel β x x') (hs : Sim β h w) (hl : firstL h size m x = some l) :
    ∃ l', LRel β l l' ∧ ∀ w' : World, w'.heap = w.heap → (Builtin.firstCells size m x').run P w' = .ok l'.toArray w' := by
  unfold firstL at hl
  split at hl
  · rename_i id o ln c
    split at hl
    case isFalse => cases hl
    rename_i hm
    rcases hx.slice_inv with ⟨r, c', hsp, hbb, rfl, hc'⟩ | ⟨r, bb, hsp, hbb, rfl, rfl, rfl⟩
    · obtain ⟨l', hlr, hlen, hc⟩ := cells_read hs hbb hl
      refine ⟨l', hlr, fun w' hw => ?_⟩
      have hrun := run_loadCells_list (P := P) w' ⟨r.blk, r.base + o, none⟩ l' (fun j v hv => by rw [cell_of_heap hw]; exact hc j v hv)
      rw [← hlr.length, hlen] at hrun
      simp [Builtin.firstCells, hrun]
    · -- an empty slice: nothing is asked of it
      obtain rfl : m = 0 := by omega
      obtain ⟨l', hlr, hlen, hc⟩ := cells_read hs hbb hl
      rw [Nat.zero_mul] at hlen
      have h0 := List.eq_nil_of_length_eq_zero hlen
      subst h0
      exact ⟨[], .nil, fun w' _ => by simp [Builtin.firstCells, loadCells, loadCellsFrom]⟩
  · cases hl
    rw [hx.nilSlice_inv]
    exact ⟨[], .nil, fun w' _ => by simp [Builtin.firstCells]⟩
  · cases hl
    rw [hx.string_inv]
    refine ⟨_, LRel.zero ?_, fun w' _ => ?_⟩
    · simp only [zeroOk, List.all_eq_true, List.mem_map, Array.mem_toList_iff]
      rintro x ⟨b, _, rfl⟩
      rfl
    · simp only [Builtin.firstCells, Sem.run_pure, Result.ok.injEq, and_true]
      rw [← Array.toList_inj]
      simp only [Array.toList_map]
  · cases hl

end
end Go.Abs
