/-
  The operations, value by value.
-/
import Derived.Test.YtlcfmfljmabaeaaA4
import Derived.Laws.Small
set_option linter.unusedVariables false
set_option linter.unusedSimpArgs false
namespace Go.Abs
open Go

section
variable {P : Program}

theorem run_info {t : TypeId} {i : TypeInfo} (h : P.info? t = some i) (w : World) : (typeInfo t).run P w = .ok i w := by
  simp [typeInfo, h]
theorem run_size {t : TypeId} {i : TypeInfo} (h : P.info? t = some i) (w : World) : (sizeOf t).run P w = .ok i.size w := by
  simp [sizeOf, run_info h]
theorem run_und {t : TypeId} {d : TypeDesc} (h : P.underlying t = some d) (w : World) : (underlying t).run P w = .ok d w := by
  simp [underlying, h]
theorem run_zero {t : TypeId} {i : TypeInfo} {z : Value} (h : P.info? t = some i) (hz : i.zero = some z) (w : World) : (zeroValue t).run P w = .ok z w := by
  simp [zeroValue, run_info h, hz]

def isAggD : TypeDesc → Bool
  | .struct _ | .array _ _ => true
  | _ => false

theorem run_agg {t : TypeId} {d : TypeDesc} (h : P.underlying t = some d) (w : World) : (isAgg t).run P w = .ok (isAggD d) w := by
  unfold isAgg
  simp only [Sem.run_bind, run_und h, Result.andThen]
  cases d <;> rfl

def shapeT (P : Program) (t : TypeId) : Option (Option Nat) :=
  match P.info? t, P.underlying t with
  | some i, some d => some (if isAggD d then some i.size else none)
  | _, _ => none

theorem shapeT_spec {t : TypeId} {k : Option Nat} (h : shapeT P t = some k) : ∃ i d, P.info? t = some i ∧ P.underlying t = some d ∧ k = if isAggD d then some i.size else none := by
  unfold shapeT at h
  split at h
  · rename_i i d hi hd; exact ⟨i, d, hi, hd, by simpa using h.symm⟩
  · cases h

variable {β : Map} {h : HF} {w : World} {n : Nat} {res : Res}

/-! inversion of values -/
theorem VRel.ptr_inv {id o : Nat} {v : Value} (hv : VRel β (.pointer (some ⟨id, o, none⟩)) v) : ∃ r, β id = some r ∧ v = .pointer (some ⟨r.blk, r.base + o, none⟩) := by
  cases hv with
  | prim _ h => simp [primV] at h
  | ptr h => exact ⟨_, h, rfl⟩
theorem VRel.int_inv {k : IntKind} {a : Int} {v : Value} (hv : VRel β (.int k a) v) : v = .int k a := by
  cases hv; rfl
theorem VRel.bool_inv {a : Bool} {v : Value} (hv : VRel β (.bool a) v) : v = .bool a := by
  cases hv; rfl
theorem VRel.string_inv {a : ByteArray} {v : Value} (hv : VRel β (.string a) v) : v = .string a := by
  cases hv; rfl
theorem VRel.nilSlice_inv {l c : Nat} {v : Value} (hv : VRel β (.slice none l c) v) : v = .slice none l c := by
  cases hv; rfl
theorem VRel.nilPtr_inv {v : Value} (hv : VRel β (.pointer none) v) : v = .pointer none := by
  cases hv; rfl
theorem VRel.nilMap_inv {v : Value} (hv : VRel β (.map none) v) : v = .map none := by
  cases hv; rfl
theorem VRel.map_inv {id : Nat} {v : Value} (hv : VRel β (.map (some id)) v) : ∃ r, β id = some r ∧ v = .map (some r.blk) := by
  cases hv with
  | prim _ h => simp [primV] at h
  | map h => exact ⟨_, h, rfl⟩
theorem VRel.agg_inv {a : Array Value} {v : Value} (hv : VRel β (.agg a) v) : ∃ a', v = .agg a' ∧ LRel β a.toList a'.toList := by
  cases hv with
  | prim _ h => simp [primV] at h
  | agg h1 h3 => exact ⟨_, rfl, lrel_arr.2 ⟨h1, h3⟩⟩
theorem VRel.tuple_inv {a : Array Value} {v : Value} (hv : VRel β (.tuple a) v) : ∃ a', v = .tuple a' ∧ LRel β a.toList a'.toList := by
  cases hv with
  | prim _ h => simp [primV] at h
  | tuple h1 h3 => exact ⟨_, rfl, lrel_arr.2 ⟨h1, h3⟩⟩
theorem VRel.func_inv {fn : Fn} {a c : Array Value} {v : Value} (hv : VRel β (.func fn a c) v) : ∃ a' c', v = .func fn a' c' ∧ LRel β a.toList a'.toList ∧ LRel β c.toList c'.toList := by
  cases hv with
  | prim _ h => simp [primV] at h
  | func h1 h2 h3 h4 => exact ⟨_, _, rfl, lrel_arr.2 ⟨h1, h3⟩, lrel_arr.2 ⟨h2, h4⟩⟩
theorem VRel.slice_inv {a : Addr} {l c : Nat} {v : Value} (hv : VRel β (.slice (some a) l c) v) :
    (∃ r c', a.spot = none ∧ β a.block = some r ∧ v = .slice (some ⟨r.blk, r.base + a.off, none⟩) l c' ∧ (c' = c ∨ (c' = c + r.slack ∧ a.off + c * r.sz = r.n))) ∨
    (∃ r b, a.spot = none ∧ β a.block = some r ∧ l = 0 ∧ c = 0 ∧ v = .slice (some b) 0 0) := by
  cases hv with
  | prim _ h => simp [primV] at h
  | slice h hc => exact .inl ⟨_, _, rfl, h, rfl, hc⟩
  | empty h => exact .inr ⟨_, _, rfl, h, rfl, rfl, rfl⟩

theorem VRel.int' {k : IntKind} {a : Int} : VRel β (.int k a) (.int k a) := .prim _ rfl
theorem VRel.bool' {a : Bool} : VRel β (.bool a) (.bool a) := .prim _ rfl
theorem VRel.string' {a : ByteArray} : VRel β (.string a) (.string a) := .prim _ rfl

theorem VRel.cells {v v' : Value} (hv : VRel β v v') : LRel β (cellList v) (cellList v') := by
  cases hv with
  | agg h1 h3 => exact lrel_arr.2 ⟨h1, h3⟩
  | prim v h => cases v <;> first | exact .cons (.prim _ h) .nil | simp [primV] at h
  | ptr h => exact .cons (.ptr h) .nil
  | slice h hc => exact .cons (.slice h hc) .nil
  | empty h => exact .cons (.empty h) .nil
  | map h => exact .cons (.map h) .nil
  | func h1 h2 h3 h4 => exact .cons (.func h1 h2 h3 h4) .nil
  | iface h => exact .cons (.iface h) .nil
  | tuple h1 h3 => exact .cons (.tuple h1 h3) .nil

theorem VRel.isCell {v v' : Value} (hv : VRel β v v') : isCell v' = isCell v := by cases hv <;> rfl
theorem LRel.all_isCell {l l' : List Value} (hl : LRel β l l') : l'.all Abs.isCell = l.all Abs.isCell := by
  induction hl with
  | nil => rfl
  | cons h _ ih => simp [h.isCell, ih]

/-! ### loads, stores, new blocks -/

theorem load_sim {t : TypeId} {k : Option Nat} {a a' : Value} (hk : shapeT P t = some k) (ha : VRel β a a') (hs : Sim β h w) (he : evP h n (.load k a) = some res) :
    OpOK P β h w n res id (Instr.loadAt t a') := by
  obtain ⟨i, d, hi, hd, rfl⟩ := shapeT_spec hk
  simp only [evP] at he
  split at he
  case h_2 => cases he
  rename_i id o
  obtain ⟨r, hb, rfl⟩ := ha.ptr_inv
  split at he
  · -- one cell
    rename_i hag
    split at he
    case h_2 => cases he
    rename_i c t' sz ro ho
    cases hv : c[o]? with
    | none => simp [hv] at he
    | some v =>
      rw [hv] at he
      simp only [Option.map_some, Option.some.injEq] at he
      subst he
      obtain ⟨v', hc, hvr⟩ := cell_read hs hb ho hv
      have hd' : isAggD d = false := by revert hag; cases isAggD d <;> simp
      refine OpOK.pure hs ?_ hvr
      simp [Instr.loadAt, Instr.sureAddr, loadVar, run_agg hd, hd', hc]
  · rename_i m hag
    have hd' : isAggD d = true ∧ m = i.size := by revert hag; cases isAggD d <;> simp [eq_comm]
    obtain ⟨hd', rfl⟩ := hd'
    cases hl : cellsAt h id o i.size with
    | none => simp [hl] at he
    | some l =>
      rw [hl] at he
      simp only [Option.map_some, Option.some.injEq] at he
      subst he
      obtain ⟨l', hlr, hlen, hc⟩ := cells_read hs hb hl
      have hrun := run_loadCells_list (P := P) w ⟨r.blk, r.base + o, none⟩ l' hc
      rw [← hlr.length, hlen] at hrun
      refine OpOK.pure hs ?_ hlr.agg
      simp [Instr.loadAt, Instr.sureAddr, loadVar, run_agg hd, hd', run_size hi, hrun]

theorem store_sim {t : TypeId} {i : TypeInfo} {a a' x x' : Value} (hi : P.info? t = some i) (ha : VRel β a a') (hx : VRel β x x') (hs : Sim β h w) (he : evP h n (.store i.size a x) = some res) :
    OpOK P β h w n res (fun _ => undef) (Instr.storeAt t a' x') := by
  simp only [evP] at he
  split at he
  case h_2 => cases he
  rename_i id o
  obtain ⟨r, hb, rfl⟩ := ha.ptr_inv
  split at he
  case h_2 => cases he
  rename_i c t' sz ho
  split at he
  case isFalse => cases he
  rename_i hcond
  obtain ⟨hlen, hall, hle⟩ := hcond
  cases he
  have hcl := hx.cells
  obtain ⟨w', hr, hs', hst⟩ := store_step (P := P) (n := n) hs hb ho hcl (by rw [hcl.all_isCell]; exact hall) (by rw [hlen]; exact hle)
  refine ⟨(), w', β, ?_, undefV_rel β, hs', hst⟩
  have : x'.cells.size = i.size := by
    have := hcl.length; simp only [cellList, Array.length_toList] at this hlen; omega
  simp only [Instr.storeAt, Instr.sureAddr, storeVar, Sem.run_bind, Sem.run_pure, Result.andThen, run_size hi, this, ne_eq, not_true_eq_false, if_false]
  exact hr

theorem newRow_ok {c c' : List Value} {e : TypeId} {sz : Nat} (hc : LRel β c c') (hs : Sim β h w) (hn : β n = none) :
    ∃ β', β' n = some ⟨w.heap.size, 0, 0, c.length, sz⟩ ∧ Sim β' (fun j => if j = n then some (.cells c e sz false) else h j) (w.alloc (.cells c'.toArray e)) ∧
      Step β h w β' (fun j => if j = n then some (.cells c e sz false) else h j) (w.alloc (.cells c'.toArray e)) n (n + 1) := by
  refine ⟨ext β n ⟨w.heap.size, 0, 0, c.length, sz⟩, by simp [ext], ?_⟩
  refine alloc_step hs hn rfl rfl rfl rfl rfl ?_
  have hl := hc.length
  refine ⟨rfl, rfl, by simp, by simp, by simp; omega, fun i hi => ?_, fun _ => .inl rfl, fun _ i hi => by simp at hi, fun _ _ _ => rfl⟩
  obtain ⟨_, h2⟩ := lrel_iff.1 hc
  refine ⟨c'[i]'(by omega), by simp, (h2 i hi _).mono (ext_le hn)⟩

theorem newVar_sim {c : List Value} {e : TypeId} {v' : Value} {sz : Nat} (hc : LRel β c (cellList v')) (hs : Sim β h w) (hn : β n = none) :
    OpOK P β h w n ⟨.pointer (some ⟨n, 0, none⟩), [(n, some (.cells c e sz false))], n + 1⟩ id (do pure (.pointer (some (← newVar e v')))) := by
  obtain ⟨β', h1, h2, h3⟩ := newRow_ok (e := e) (sz := sz) hc hs hn
  refine ⟨.pointer (some ⟨w.heap.size, 0, none⟩), w.alloc (.cells v'.cells e), β', ?_, ?_, ?_, ?_⟩
  · simp [newVar, newRow]
  · have := VRel.ptr (β := β') (o := 0) h1
    simpa using this
  · simpa [updF, cellList] using h2
  · simpa [updF, cellList] using h3

theorem alloc_sim {e : TypeId} {i : TypeInfo} {z : Value} (hi : P.info? e = some i) (hz : i.zero = some z) (hzo : zeroOk (cellList z) = true) (hs : Sim β h w) (hf : Fresh β n (n + 1))
    (he : evP h n (.alloc e (cellList z)) = some res) : OpOK P β h w n res id (Instr.alloc e true (.tuple #[])) := by
  simp only [evP, Option.some.injEq] at he
  subst he
  have := newVar_sim (P := P) (sz := 0) (e := e) (v' := z) (LRel.zero hzo) hs (hf n (Nat.le_refl _) (Nat.lt_succ_self _))
  obtain ⟨x, w', β', hr, r⟩ := this
  refine ⟨x, w', β', ?_, r⟩
  simp only [Instr.alloc, Sem.run_bind, run_zero hi hz, Result.andThen]
  exact hr

theorem box_sim {e : TypeId} {x x' : Value} (hx : VRel β x x') (hs : Sim β h w) (hf : Fresh β n (n + 1)) (he : evP h n (.box e x) = some res) : OpOK P β h w n res id (Instr.box e x') := by
  simp only [evP, Option.some.injEq] at he
  subst he
  exact newVar_sim (P := P) (sz := 0) (e := e) (v' := x') hx.cells hs (hf n (Nat.le_refl _) (Nat.lt_succ_self _))

/-! ### aggregates -/

theorem foldl_storeL (vs : List Value) : ∀ (L : Array Value) (off : Nat) (k : Nat),
    ((vs.zipIdx k).foldl (fun cs (p : Value × Nat) => cs.setIfInBounds (off + p.2) p.1) L).toList = storeL L.toList (off + k) vs := by
  induction vs with
  | nil => intro L off k; rfl
  | cons v vs ih =>
    intro L off k
    simp only [List.zipIdx_cons, List.foldl_cons, storeL]
    rw [ih]
    simp [Array.toList_setIfInBounds, Nat.add_assoc]

theorem fill_sim {place : Nat → Option (Nat × Nat)} {ps' : List (Nat × Value)} : ∀ {ps : List (Nat × Nat × Value)} {L : List Value} {L' : Array Value} {c : List Value},
    LRel β L L'.toList → All2 (fun (p : Nat × Nat × Value) (q : Nat × Value) => place q.1 = some (p.1, p.2.1) ∧ VRel β p.2.2 q.2) ps ps' → fillL L ps = some c →
    ∃ C, Instr.fill place L' ps' = some C ∧ LRel β c C.toList := by
  induction ps' with
  | nil =>
    intro ps L L' c hL hp hc
    cases hp
    simp only [fillL, Option.some.injEq] at hc
    subst hc
    exact ⟨L', rfl, hL⟩
  | cons q ps' ih =>
    intro ps L L' c hL hp hc
    cases hp with
    | cons hq ht =>
      rename_i p ps
      obtain ⟨off, size, v⟩ := p
      obtain ⟨j, v'⟩ := q
      obtain ⟨h1, h2⟩ := hq
      simp only at h1 h2
      simp only [fillL] at hc
      split at hc
      case isFalse => cases hc
      rename_i hcond
      have hcl := h2.cells
      have hlen := hcl.length
      have hlen2 := hL.length
      simp only [cellList, Array.length_toList] at hlen hcond hlen2
      simp only [Instr.fill, h1]
      rw [if_neg (by simp only [ne_eq, Bool.or_eq_true, decide_eq_true_eq, not_or]; constructor <;> omega)]
      refine ih ?_ ht hc
      have : (v'.cells.zipIdx.foldl (fun cs (p : Value × Nat) => cs.setIfInBounds (off + p.2) p.1) L').toList = storeL L'.toList off (cellList v') := by
        rw [← Array.foldl_toList, Array.toList_zipIdx, foldl_storeL]
        simp [cellList]
      rw [this]
      exact LRel.storeL hcl hL off

end
end Go.Abs
