/-
  The operations, value by value: copy, make, conversions, comparisons.
-/
import Derived.Test.YtlcfmfljmabaeaaA10
import Derived.Lib.AppendZerosOnto
import Derived.Laws.IdiomStrings
import Derived.Laws.StructEq
set_option linter.unusedVariables false
set_option linter.unusedSimpArgs false
namespace Go.Abs
open Go

section
variable {P : Program} {β : Map} {h : HF} {w : World} {n : Nat} {res : Res}

theorem copy_sim {ts : Array TypeId} {ty t e : TypeId} {i : TypeInfo} {x x' y y' : Value} (ht0 : ts[0]? = some t) (ht : P.underlying t = some (.slice e)) (hi : P.info? e = some i)
    (hx : VRel β x x') (hy : VRel β y y') (hs : Sim β h w) (he : evP h n (.copy i.size x y) = some res) : OpOK P β h w n res id (Builtin.copy_ ts ty #[x', y']) := by
  simp only [evP] at he
  split at he
  case h_2 => cases he
  rename_i a dl dc
  cases hm : lenV y with
  | none => simp [hm] at he
  | some m =>
    cases hl : firstL h i.size (min m dl) y with
    | none => simp [hm, hl] at he
    | some new =>
      simp only [hm, hl, Option.bind_some] at he
      split at he
      · cases he
      rename_i hcell
      have hmr := lenOf_run (P := P) (w := w) hy hm
      obtain ⟨new', hnl, hnr⟩ := firstL_run (P := P) hy hs hl
      have hnr := hnr w rfl
      have hnc : new.all isCell = true ∧ new.length = min m dl * i.size := by
        constructor
        · cases hq : new.all isCell with
          | true => rfl
          | false => exact absurd (.inl hq) hcell
        · exact Decidable.not_not.1 fun q => hcell (.inr q)
      obtain ⟨hnc, hnlen⟩ := hnc
      have hnlen' := hnl.length
      have hmin : Nat.min m dl = min m dl := rfl
      split at he
      · cases he
        rw [hx.nilSlice_inv]
        refine OpOK.pure hs ?_ .int'
        simp [Builtin.copy_, ht0, run_und ht, hmr, run_size hi, hnr, goInt, hmin]
      · rename_i id o
        split at he
        case h_2 => cases he
        rename_i c t' z' ho
        split at he
        case isFalse => cases he
        rename_i hle
        cases he
        rcases hx.slice_inv with ⟨r, c', hsp, hbb, rfl, hc'⟩ | ⟨r, bb, hsp, hbb, rfl, rfl, rfl⟩
        · simp only at hbb
          obtain ⟨w', hr, hs', hst⟩ := store_step (P := P) (n := n) (o := o) hs hbb ho hnl (by rw [hnl.all_isCell]; exact hnc) (by omega)
          refine ⟨.int .i64 (min m dl : Nat), w', β, ?_, .int', hs', hst⟩
          simp [Builtin.copy_, ht0, run_und ht, hmr, run_size hi, hnr, goInt, hr, hmin]
        · simp only at hbb
          have h00 : min m 0 = 0 := by omega
          rw [h00, Nat.zero_mul] at hnlen
          have h0 := List.eq_nil_of_length_eq_zero hnlen
          subst h0
          have h0' := List.eq_nil_of_length_eq_zero hnlen'.symm
          subst h0'
          have hsame : (fun j => if j = id then some (AObj.cells (storeL c o []) t' z' false) else h j) = h := by
            funext j
            by_cases e : j = id
            · subst e; simp [storeL, ho]
            · simp [e]
          refine ⟨.int .i64 (min m 0 : Nat), w, β, ?_, .int', ?_, ?_⟩
          · rw [h00] at hnr
            have hq : Nat.min m 0 = 0 := h00
            simp [Builtin.copy_, ht0, run_und ht, hmr, run_size hi, hnr, goInt, storeCells, hq, h00]
          · simp only [updF]; rw [hsame]; exact hs
          · simp only [updF]; rw [hsame]; exact Step.refl β h w n
      · cases he

theorem zeros_list (z : Array Value) (c : Nat) : ((Array.range (c * z.size)).map fun i => z[i % z.size]!).toList = (List.replicate c z.toList).flatten := by
  apply List.ext_getElem?
  intro j
  by_cases hz : z.size = 0
  · have : z.toList = [] := List.eq_nil_of_length_eq_zero (by simpa using hz)
    simp [hz, this]
  · have hlen : ∀ k, ((List.replicate k z.toList).flatten).length = k * z.size := by intro k; simp
    have key : ∀ (c j : Nat), ((List.replicate c z.toList).flatten)[j]? = if j < c * z.size then z[j % z.size]? else none := by
      intro c
      induction c with
      | zero => intro j; simp
      | succ c ih =>
        intro j
        rw [List.replicate_succ, List.flatten_cons, Nat.add_mul, Nat.one_mul]
        by_cases hj : j < z.size
        · rw [List.getElem?_append_left (by simpa using hj), if_pos (by omega), Nat.mod_eq_of_lt hj]; simp
        · rw [List.getElem?_append_right (by simpa using hj), ih]
          simp only [Array.length_toList]
          rw [Nat.mod_eq_sub_mod (Nat.le_of_not_lt hj)]
          by_cases h2 : j - z.size < c * z.size
          · rw [if_pos h2, if_pos (by omega)]
          · rw [if_neg h2, if_neg (by omega)]
    rw [key]
    by_cases hj : j < c * z.size
    · have hlt : j % z.size < z.size := Nat.mod_lt _ (by omega)
      simp [hj, hlt]
    · simp [hj]

theorem zeros_rel {z : Array Value} {c : Nat} (hz : zeroOk z.toList = true) : LRel β (List.replicate c z.toList).flatten (List.replicate c z.toList).flatten := by
  refine LRel.zero ?_
  simp only [zeroOk, List.all_eq_true] at hz ⊢
  intro v hv
  simp only [List.mem_flatten, List.mem_replicate] at hv
  obtain ⟨l, ⟨_, rfl⟩, hv⟩ := hv
  exact hz v hv

theorem mkSlice_sim {t e : TypeId} {i : TypeInfo} {z l l' c c' : Value} (ht : P.underlying t = some (.slice e)) (hi : P.info? e = some i) (hzv : i.zero = some z) (hzo : zeroOk (cellList z) = true)
    (hl : VRel β l l') (hc : VRel β c c') (hs : Sim β h w) (hf : Fresh β n res.next) (he : evP h n (.mkSlice e i.size i.bytes (cellList z) l c) = some res) : OpOK P β h w n res id (Instr.makeSlice t l' c') := by
  simp only [evP] at he
  split at he
  case h_2 => cases he
  rename_i l c
  split at he
  case isFalse => cases he
  rename_i hcond
  obtain ⟨h0, h1, hbig, hzl⟩ := hcond
  cases he
  obtain ⟨hb1, hb2⟩ := tooBig_spec hbig
  rw [hl.int_inv, hc.int_inv]
  obtain ⟨L, rfl⟩ := Int.eq_ofNat_of_zero_le h0
  obtain ⟨C, rfl⟩ := Int.eq_ofNat_of_zero_le (Int.le_trans h0 h1)
  simp only [Int.toNat_natCast] at *
  have hzs : z.cells.size = i.size := by simpa [cellList] using hzl
  have hfr : β n = none := hf n (Nat.le_refl _) (Nat.lt_succ_self _)
  have hw1 : IntKind.i64.wrap (L : Int) = L := by simp only [IntKind.wrap, IntKind.bits, IntKind.signed]; simp; omega
  have hw2 : IntKind.i64.wrap (C : Int) = C := by simp only [IntKind.wrap, IntKind.bits, IntKind.signed]; simp; omega
  have hzr := zeros_rel (β := β) (c := C) hzo
  obtain ⟨β', e1, e2, e3⟩ := newRow_ok (e := e) (sz := i.size) hzr hs hfr
  have hval : VRel β' (.slice (some ⟨n, 0, none⟩) L C) (.slice (some ⟨w.heap.size, 0, none⟩) L C) := by
    have := VRel.slice (o := 0) (len := L) (cap := C) (cap' := C) e1 (.inl rfl)
    simpa using this
  refine ⟨_, w.alloc (.cells (List.replicate C (cellList z)).flatten.toArray e), β', ?_, hval, e2, e3⟩
  have hcells : (if C * i.size = 0 then #[] else (Array.range (C * i.size)).map (fun j => z.cells[j % z.cells.size]!)) = (List.replicate C (cellList z)).flatten.toArray := by
    rw [← hzs]
    split
    · rename_i h0
      rw [← Array.toList_inj]
      have : ((List.replicate C (cellList z)).flatten).length = 0 := by
        simp only [List.length_flatten, List.map_replicate, List.sum_replicate_nat, cellList, Array.length_toList]; omega
      simp [List.eq_nil_of_length_eq_zero this]
    · rw [← Array.toList_inj, zeros_list]; rfl
  have hnb : ¬ (((i.bytes : Int) * (C : Int)) > 2 ^ 48) := by
    have : ((i.bytes * C : Nat) : Int) ≤ 2 ^ 46 := by rw [Nat.mul_comm]; exact_mod_cast hb1
    push_cast at this
    omega
  unfold Instr.makeSlice
  simp only [Sem.run_bind, run_und ht, Result.andThen_ok, asInt, asIntOf, Sem.run_pure, run_info hi, hw1, hw2]
  rw [if_neg (by simp only [Bool.or_eq_true, decide_eq_true_eq, not_or]; refine ⟨⟨⟨by omega, hnb⟩, by omega⟩, by omega⟩)]
  by_cases hz0 : C * i.size = 0
  · rw [if_pos hz0] at hcells
    have hr0 : Array.range 0 = #[] := Array.eq_empty_of_size_eq_zero (by simp)
    simp [hz0, newRow, ← hcells, run_size hi, hr0]
  · rw [if_neg hz0] at hcells
    simp [hz0, newRow, ← hcells, run_zero hi hzv, run_size hi]

theorem appendMake_sim {ts : Array TypeId} {ty t u e : TypeId} {i : TypeInfo} {z x x' y y' : Value} {kk : IntKind} (ht0 : ts[0]? = some t) (ht1 : ts[1]? = some u) (ht : P.underlying t = some (.slice e)) (hu : P.underlying u = some (.int kk)) (hi : P.info? e = some i)
    (hzv : i.zero = some z) (hzo : zeroOk (cellList z) = true) (h32 : i.size < 4294967296) (hx : VRel β x x') (hy : VRel β y y') (hs : Sim β h w) (hf : Fresh β n res.next)
    (he : evP h n (.appendMake e i.size i.bytes (cellList z) x y) = some res) : OpOK P β h w n res id (Builtin.append_ ts ty #[x', y']) := by
  simp only [evP] at he
  split at he
  case h_3 => cases he
  case h_2 id o sl sc m =>
    split at he
    case h_2 => cases he
    rename_i c t' z' ho
    split at he
    case isFalse => cases he
    rename_i hcond
    obtain ⟨h0, hbig, hzl, hsz0, rfl, hle, hroom⟩ := hcond
    cases he
    obtain ⟨hb1, hb2⟩ := tooBig_spec hbig
    obtain ⟨M, rfl⟩ := Int.eq_ofNat_of_zero_le (Int.le_of_lt h0)
    simp only [Int.toNat_natCast] at *
    have hM : 0 < M := by omega
    have hzs : z.cells.size = i.size := by simpa [cellList] using hzl
    have hfr : β n = none := hf n (Nat.le_refl _) (Nat.lt_succ_self _)
    have hold : ∃ old', LRel β ((c.drop o).take (sl * i.size)) old' ∧ ∀ w' : World, w'.heap = w.heap → (Builtin.firstCells i.size sl x').run P w' = .ok old'.toArray w' := by
      refine firstL_run (P := P) (x := .slice (some ⟨id, o, none⟩) sl sc) hx hs ?_
      simp only [firstL, if_pos (Nat.le_refl _), cellsAt, ho]
      rw [if_pos hle]
    obtain ⟨old', hol, hor⟩ := hold
    have hx2 : ∃ base', x' = .slice (some base') sl sc := by
      rcases hx.slice_inv with ⟨r, c', _, hbb, rfl, hc'⟩ | ⟨r, bb, _, _, rfl, rfl, rfl⟩
      · simp only at hbb
        obtain ⟨C, fr, hq, hn, hro, _⟩ := (hs.obj id r _ hbb ho).cells_inv
        have hs0 := hro rfl
        refine ⟨⟨r.blk, r.base + o, none⟩, ?_⟩
        rcases hc' with h | ⟨h, _⟩
        · rw [h]
        · rw [h, hs0, Nat.add_zero]
      · exact ⟨bb, rfl⟩
    obtain ⟨base', rfl⟩ := hx2
    rw [hy.int_inv]
    have hcap := nextslicecap_le hroom
    have hfit : Builtin.nextslicecap (sl + M) sc * i.bytes ≤ 281474976710656 := by
      have : Builtin.nextslicecap (sl + M) sc * i.bytes ≤ 2 * (sl + M) * i.bytes := Nat.mul_le_mul_right _ hcap
      rw [Nat.mul_assoc] at this
      omega
    have hMb : M * i.bytes ≤ (sl + M) * i.bytes := Nat.mul_le_mul_right _ (by omega)
    have hrun := Lib.run_append_grow_zeros w t u ty t' i z .i64 kk ht hu hi hzv (some base') sl sc old' (hor w.drew rfl) M hM hsz0 hroom (by omega) (by omega) hfit
    have hkk : ∃ k, grownCap w (sl + M) sc t' = sl + M + k := by unfold grownCap; exact ⟨_, rfl⟩
    obtain ⟨k, hk⟩ := hkk
    rw [hk, Nat.add_sub_cancel_left] at hrun
    have hzr := zeros_rel (β := β) (c := M) hzo
    have hzc : Builtin.zeroCells z.cells M = (List.replicate M (cellList z)).flatten.toArray := by
      rw [← Array.toList_inj, Builtin.zeroCells, zeros_list]; rfl
    have hLl := hol.append hzr
    have hlen : ((c.drop o).take (sl * i.size) ++ (List.replicate M (cellList z)).flatten).length = (sl + M) * i.size := by
      rw [List.length_append, List.length_take, List.length_drop, Nat.add_mul]
      have : ((List.replicate M (cellList z)).flatten).length = M * i.size := by simp [cellList, hzs]
      omega
    obtain ⟨h1, h2⟩ := grown_step (w := w) (sz := i.size) (k := k) (e := t') (Z := Builtin.zeroCells z.cells k) hs hfr hLl (by rw [zeroCells_size, hzs]; exact Nat.le_refl _) (zeroCells_prim hzo _) h32 rfl
    have hworld : old'.toArray ++ Builtin.zeroCells z.cells M ++ Builtin.zeroCells z.cells k = (old' ++ (List.replicate M (cellList z)).flatten).toArray ++ Builtin.zeroCells z.cells k := by
      rw [hzc, ← Array.toList_inj]
      simp only [Array.toList_append, List.append_assoc]
    rw [hworld] at hrun
    have hts : ∀ a, Builtin.append_ ts ty a = Builtin.append_ #[t, u] ty a := by
      intro a
      unfold Builtin.append_
      simp only [ht0, ht1, List.getElem?_toArray, List.getElem?_cons_zero, List.getElem?_cons_succ]
    rw [hts]
    refine ⟨_, _, _, hrun, ?_, by simpa [updF, cellList] using h1, by simpa [updF, cellList] using h2⟩
    have hself : ext β n ⟨w.heap.size, 0, k, ((c.drop o).take (sl * i.size) ++ (List.replicate M (cellList z)).flatten).length, i.size⟩ n = some ⟨w.heap.size, 0, k, ((c.drop o).take (sl * i.size) ++ (List.replicate M (cellList z)).flatten).length, i.size⟩ := by simp [ext]
    have hv := VRel.slice (o := 0) (len := sl + M) (cap := sl + M) (cap' := sl + M + k) hself (.inr ⟨rfl, by show 0 + (sl + M) * i.size = _; rw [Nat.zero_add]; exact hlen.symm⟩)
    simpa [cellList] using hv
  rename_i m
  split at he
  case isFalse => cases he
  rename_i hcond
  obtain ⟨h0, hbig, hzl⟩ := hcond
  cases he
  obtain ⟨hb1, hb2⟩ := tooBig_spec hbig
  rw [hx.nilSlice_inv, hy.int_inv]
  obtain ⟨M, rfl⟩ := Int.eq_ofNat_of_zero_le (Int.le_of_lt h0)
  simp only [Int.toNat_natCast] at *
  have hM : 0 < M := by omega
  have hzs : z.cells.size = i.size := by simpa [cellList] using hzl
  have hfr : β n = none := hf n (Nat.le_refl _) (Nat.lt_succ_self _)
  have hw1 : IntKind.i64.wrap (M : Int) = M := by simp only [IntKind.wrap, IntKind.bits, IntKind.signed]; simp; omega
  have hcap := nextslicecap_le (need := M) (c := 0) hM
  have hnb' : ¬ (281474976710656 < Builtin.nextslicecap M 0 * i.bytes) := by
    have : Builtin.nextslicecap M 0 * i.bytes ≤ 2 * M * i.bytes := Nat.mul_le_mul_right _ hcap
    rw [Nat.mul_assoc] at this
    omega
  have hnb : ¬ (281474976710656 < (M : Int) * (i.bytes : Int)) := by
    have : ((M * i.bytes : Nat) : Int) ≤ 2 ^ 46 := by exact_mod_cast hb1
    push_cast at this
    omega
  have hzr := zeros_rel (β := β) (c := M) hzo
  have hzc : Builtin.zeroCells z.cells M = (List.replicate M (cellList z)).flatten.toArray := by
    rw [← Array.toList_inj, Builtin.zeroCells, zeros_list]; rfl
  obtain ⟨h1, h2⟩ := grown_step (w := w) (sz := i.size) (k := w.tape w.drawn (.appendCap M 0 e) % (2 ^ 63 - M)) (e := e) (Z := Builtin.zeroCells z.cells (w.tape w.drawn (.appendCap M 0 e) % (2 ^ 63 - M))) hs hfr hzr (by rw [zeroCells_size, hzs]; exact Nat.le_refl _) (zeroCells_prim hzo _) h32 rfl
  have hLlen : ((List.replicate M z.cells.toList).flatten).length = M * i.size := by simp [hzs]
  have hrun : (Builtin.append_ ts ty #[.slice none 0 0, .int .i64 (M : Int)]).run P w = .ok (.slice (some ⟨w.heap.size, 0, none⟩) M (M + w.tape w.drawn (.appendCap M 0 e) % (2 ^ 63 - M)))
      (w.drew.alloc (.cells ((List.replicate M z.cells.toList).flatten.toArray ++ Builtin.zeroCells z.cells (w.tape w.drawn (.appendCap M 0 e) % (2 ^ 63 - M))) e)) := by
    have hlt : ¬ (M = 0) := by omega
    have hng : ¬ (9223372036854775807 < (M : Int)) := by omega
    have hn0 : ¬ ((M : Int) < 0) := by omega
    have hzc' : (List.replicate M z.cells.toList).flatten.toArray = Builtin.zeroCells z.cells M := hzc.symm
    rw [hzc']
    by_cases hm0 : M * i.size = 0
    · have he0 : Builtin.zeroCells z.cells M = #[] := by
        apply Array.eq_empty_of_size_eq_zero
        rw [zeroCells_size, hzs]; exact hm0
      simp [Builtin.append_, ht0, ht1, run_und ht, run_und hu, run_size hi, run_info hi, asInt, asIntOf, hw1, hn0, hnb, hnb', hlt, hng, Question.forced, Question.cut, run_zero hi hzv, newRow, Builtin.firstCells, hm0, he0]
    · simp [Builtin.append_, ht0, ht1, run_und ht, run_und hu, run_size hi, run_info hi, asInt, asIntOf, hw1, hn0, hnb, hnb', hlt, hng, Question.forced, Question.cut, run_zero hi hzv, newRow, Builtin.firstCells, hm0]
  generalize w.tape w.drawn (.appendCap M 0 e) % (2 ^ 63 - M) = k at *
  refine ⟨_, _, _, hrun, ?_, h1, h2⟩
  have hself : ext β n ⟨w.heap.size, 0, k, ((List.replicate M z.cells.toList).flatten).length, i.size⟩ n = some ⟨w.heap.size, 0, k, ((List.replicate M z.cells.toList).flatten).length, i.size⟩ := by simp [ext]
  have := VRel.slice (o := 0) (len := M) (cap := M) (cap' := M + k) hself (.inr ⟨rfl, by show 0 + M * i.size = _; rw [Nat.zero_add]; exact hLlen.symm⟩)
  simpa using this

/-! ### conversions -/
theorem conv_int_sim {src dst : TypeId} {k : IntKind} {ds : TypeDesc} {x x' : Value} (hs1 : P.underlying src = some ds) (hd : P.underlying dst = some (.int k)) (hx : VRel β x x') (hs : Sim β h w)
    (he : evP h n (.conv (.int k) x) = some res) : OpOK P β h w n res id (convert src dst x') := by
  cases x <;> simp only [evP, reduceCtorEq, Option.some.injEq] at he
  subst he
  rw [hx.int_inv]
  refine OpOK.pure hs ?_ .int'
  cases ds <;> simp [convert, run_und hs1, run_und hd, Conv.intToInt]

theorem conv_same_sim {src dst : TypeId} {x x' : Value} (hs1 : P.underlying src = some .string) (hd : P.underlying dst = some .string) (hx : VRel β x x') (hs : Sim β h w)
    (he : evP h n (.conv .same x) = some res) : OpOK P β h w n res id (convert src dst x') := by
  cases x <;> simp only [evP, reduceCtorEq, Option.some.injEq] at he
  subst he
  rw [hx.string_inv]
  refine OpOK.pure hs ?_ .string'
  simp [convert, run_und hs1, run_und hd]

theorem conv_toString_sim {src dst e : TypeId} {x x' : Value} (hs1 : P.underlying src = some (.slice e)) (hu : P.underlying e = some (.int .u8)) (hd : P.underlying dst = some .string) (hx : VRel β x x') (hs : Sim β h w)
    (he : evP h n (.conv .toString x) = some res) : OpOK P β h w n res id (convert src dst x') := by
  cases x <;> simp only [evP, reduceCtorEq] at he
  rename_i a len cap
  cases a with
  | none =>
    simp only [Option.some.injEq] at he
    subst he
    rw [hx.nilSlice_inv]
    refine OpOK.pure (x := .string .empty) hs ?_ .string'
    rw [run_convert_bytes_string w src dst e none len cap hs1 hu hd]
    simp [Conv.bytesToString]
  | some ad =>
    obtain ⟨id, o, sp⟩ := ad
    cases sp with
    | some _ => simp at he
    | none =>
      simp only at he
      cases hl : cellsAt h id o len with
      | none => simp [hl] at he
      | some l =>
        cases hb : bytesOf l .empty with
        | none => simp [hl, hb] at he
        | some s =>
          simp only [hl, hb, Option.bind_some, Option.map_some, Option.some.injEq] at he
          subst he
          rcases hx.slice_inv with ⟨r, c', hsp, hbb, rfl, hc'⟩ | ⟨r, bb, hsp, hbb, rfl, rfl, rfl⟩
          · simp only at hbb
            obtain ⟨l', hlr, hlen, hc⟩ := cells_read hs hbb hl
            obtain ⟨ns, rfl, rfl⟩ := bytesOf_ints l' _ _ (bytesOf_rel hlr _ _ hb)
            have hrun := run_loadCells_list (P := P) w ⟨r.blk, r.base + o, none⟩ (ns.map (Value.int .u8)) hc
            rw [← hlr.length, hlen] at hrun
            refine OpOK.pure hs ?_ .string'
            rw [run_convert_bytes_string w src dst e _ len c' hs1 hu hd, run_bytesToString w _ len c' ns hrun]
          · simp only at hbb
            obtain ⟨l', hlr, hlen, hc⟩ := cells_read hs hbb hl
            have h0 := List.eq_nil_of_length_eq_zero hlen
            subst h0
            simp only [bytesOf, Option.some.injEq] at hb
            subst hb
            refine OpOK.pure (x := .string .empty) hs ?_ .string'
            rw [run_convert_bytes_string w src dst e _ 0 0 hs1 hu hd, run_bytesToString w _ 0 0 [] (by simp [loadCells, loadCellsFrom])]
            simp

theorem conv_toBytes_sim {src dst e : TypeId} {x x' : Value} (hs1 : P.underlying src = some .string) (hd : P.underlying dst = some (.slice e)) (hu : P.underlying e = some (.int .u8)) (hx : VRel β x x') (hs : Sim β h w) (hf : Fresh β n res.next)
    (he : evP h n (.conv (.toBytes e) x) = some res) : OpOK P β h w n res id (convert src dst x') := by
  cases x <;> simp only [evP, reduceCtorEq, Option.some.injEq] at he
  rename_i s
  subst he
  rw [hx.string_inv]
  have hfr : β n = none := hf n (Nat.le_refl _) (Nat.lt_succ_self _)
  have hzr : LRel β (s.data.toList.map fun b => Value.int .u8 b.toNat) (s.data.toList.map fun b => Value.int .u8 b.toNat) := by
    refine LRel.zero ?_
    simp only [zeroOk, List.all_eq_true, List.mem_map]
    rintro x ⟨b, _, rfl⟩
    rfl
  have hrun := run_bytes_of_string (P := P) w src dst e s hs1 hd hu
  have hcap : ∃ k, grownCap w s.size 0 e = s.size + k := by
    unfold grownCap
    exact ⟨_, rfl⟩
  obtain ⟨k, hk⟩ := hcap
  rw [hk] at hrun
  have hstep := alloc_step (r := ⟨w.heap.size, 0, k, s.size, 1⟩) (o := .cells (s.data.toList.map fun b => Value.int .u8 b.toNat) e 1 false) hs hfr (w' := w.drew.alloc (.cells (bytesRow s (s.size + k)) e ((bytesRow s (s.size + k)).size, (bytesRow s (s.size + k)).size + 1))) rfl rfl rfl rfl rfl ?_
  · obtain ⟨h1, h2⟩ := hstep
    have hself : ext β n ⟨w.heap.size, 0, k, s.size, 1⟩ n = some ⟨w.heap.size, 0, k, s.size, 1⟩ := by simp [ext]
    have hv := VRel.slice (o := 0) (len := s.size) (cap := s.size) (cap' := s.size + k) hself (.inr ⟨rfl, by simp⟩)
    refine ⟨_, _, _, hrun, ?_, h1, h2⟩
    simpa using hv
  · have hsz : (bytesRow s (s.size + k)).size = s.size + k := by simp [bytesRow]
    have hdl : s.data.toList.length = s.size := by simp
    refine ⟨rfl, by simp, by simp, fun _ => ⟨rfl, by simp⟩, by simp only [hsz, List.length_map, hdl]; omega, fun j hj => ?_, fun _ => .inr ⟨rfl, ?_⟩, fun _ j hj => ?_, fun h => absurd h (by omega)⟩
    · simp only [List.length_map, hdl] at hj
      refine ⟨(s.data.toList.map fun b => Value.int .u8 b.toNat)[j]'(by simpa using hj), ?_, ?_⟩
      · simp only [bytesRow, Nat.zero_add]
        rw [Array.getElem?_append_left (by simpa using hj)]
        simp
        exact ⟨_, Array.getElem?_eq_getElem (show j < s.data.size from hj), rfl⟩
      · simp only [List.getElem_map]; exact .int'
    · rw [hsz]; simp only [List.length_map, hdl]; omega
    · simp only [Nat.mul_one] at hj
      have hlt : s.size + j < (bytesRow s (s.size + k)).size := by omega
      refine ⟨(bytesRow s (s.size + k))[s.size + j], ?_, ?_⟩
      · simp only [List.length_map, hdl, Nat.zero_add]
        exact Array.getElem?_eq_getElem _
      · have : ∀ y ∈ (bytesRow s (s.size + k)).toList, primV y = true := by
          intro y hy
          simp [bytesRow] at hy
          rcases hy with ⟨b, _, rfl⟩ | ⟨_, rfl⟩ <;> rfl
        exact this _ (by simp)

theorem markStringish_run {C : Array Value} {T : TypeId} {fr : Nat × Nat} {a : Addr} (hq : w.heap[a.block]? = some (.cells C T fr)) :
    (markStringish a).run P w = .ok () (w.freeze ⟨a.block, C.size, none⟩ 1) := by
  simp [markStringish, shape, freeze, Sem.run, World.shape?, hq]

theorem conv_sameB_sim {src e : TypeId} {x x' : Value} (hs1 : P.underlying src = some (.slice e)) (hu : P.underlying e = some (.int .u8)) (hx : VRel β x x') (hs : Sim β h w)
    (he : evP h n (.conv .sameB x) = some res) : OpOK P β h w n res id (convert src src x') := by
  cases x <;> simp only [evP, reduceCtorEq] at he
  rename_i a len cap
  cases a with
  | none => simp at he
  | some ad =>
    obtain ⟨id, o, spot⟩ := ad
    cases spot with
    | some _ => simp at he
    | none =>
      simp only at he
      split at he
      case h_2 => cases he
      rename_i c t' sz ho
      split at he
      · cases he
      rename_i hcap
      cases he
      rcases hx.slice_inv with ⟨r, c', hsp, hbb, rfl, hc'⟩ | ⟨r, bb, hsp, hbb, rfl, rfl, rfl⟩
      · simp only at hbb
        obtain ⟨C, fr, hq, hn, hrs, hsl, hsz, hc, hfr, hpr⟩ := (hs.obj id r _ hbb ho).cells_inv
        have hrun := markStringish_run (P := P) (w := w) (a := ⟨r.blk, r.base + o, none⟩) hq
        have hself : (fun j => if j = id then some (AObj.cells c t' sz false) else h j) = h := by
          funext j
          by_cases e : j = id
          · subst e; simp [ho]
          · simp [e]
        have hhp : ∀ k, (w.freeze ⟨r.blk, C.size, none⟩ 1).heap[k]? = if r.blk = k then some (.cells C t' (if fr.1 == fr.2 then (C.size, C.size + 1) else (min fr.1 C.size, max fr.2 (C.size + 1)))) else w.heap[k]? := by
          intro k
          simp only [World.freeze, Nat.one_ne_zero, if_false, Array.getElem?_modify]
          by_cases e : r.blk = k
          · subst e
            simp [hq]
          · simp [e]
        obtain ⟨h1, h2⟩ := update_step (w' := w.freeze ⟨r.blk, C.size, none⟩ 1) (n := n) (o' := .cells c t' sz false) hs hbb ho rfl rfl (fun k hk => by rw [hhp, if_neg (Ne.symm hk)]) (by simp [World.freeze]) rfl rfl rfl (by
          rw [hhp, if_pos rfl]
          refine ⟨rfl, hn, hrs, hsl, hsz, hc, fun _ => .inr ⟨by omega, ?_⟩, hpr⟩
          split
          · exact hsz
          · rename_i hne
            rcases hfr rfl with h | ⟨_, h⟩
            · simp [h] at hne
            · simp only; omega)
        rw [hself] at h1 h2
        refine ⟨_, w.freeze ⟨r.blk, C.size, none⟩ 1, β, ?_, .slice hbb hc', by simpa [updF] using h1, by simpa [updF] using h2⟩
        simp only [convert, Sem.run_bind, run_und hs1, run_und hu, Result.andThen_ok, BEq.rfl, hrun, Sem.run_pure]
      · exact absurd (.inl rfl) hcap

theorem clear_run {ts : Array TypeId} {ty t e : TypeId} {z : Value} {i : TypeInfo} (ht0 : ts[0]? = some t) (ht : P.underlying t = some (.slice e)) (hi : P.info? e = some i) (hzv : i.zero = some z) {a : Addr} {len c : Nat} (hl : len ≠ 0) {w' : World}
    (hr : (storeCells a (Builtin.zeroCells z.cells len).toList).run P w = .ok () w') : (Builtin.clear_ ts ty #[.slice (some a) len c]).run P w = .ok (.tuple #[]) w' := by
  obtain ⟨l, rfl⟩ : ∃ l, len = l + 1 := ⟨len - 1, by omega⟩
  simp only [Builtin.clear_, ht0, List.getElem?_toArray, List.getElem?_cons_zero, Sem.run_bind, run_und ht, Result.andThen_ok, run_zero hi hzv, hr, Sem.run_pure]

theorem clear_sim {ts : Array TypeId} {ty t e : TypeId} {i : TypeInfo} {z x x' : Value} (ht0 : ts[0]? = some t) (ht : P.underlying t = some (.slice e)) (hi : P.info? e = some i) (hzv : i.zero = some z) (hzo : zeroOk (cellList z) = true)
    (hx : VRel β x x') (hs : Sim β h w) (he : evP h n (.clear i.size (cellList z) x) = some res) : OpOK P β h w n res id (Builtin.clear_ ts ty #[x']) := by
  simp only [evP] at he
  split at he
  · cases he
    rw [hx.nilSlice_inv]
    refine OpOK.pure hs ?_ (LRel.tuple (l := []) (l' := []) .nil)
    simp [Builtin.clear_, ht0, run_und ht]
  · rename_i id o len cap
    split at he
    · cases he
    rename_i ob ho0
    split at he
    · rename_i hl0
      cases he
      rcases hx.slice_inv with ⟨r, c', hsp, hbb, rfl, hc'⟩ | ⟨r, bb, hsp, hbb, h1, h2, rfl⟩
      · rw [hl0]
        refine OpOK.pure hs ?_ (LRel.tuple (l := []) (l' := []) .nil)
        simp [Builtin.clear_, ht0, run_und ht]
      · refine OpOK.pure hs ?_ (LRel.tuple (l := []) (l' := []) .nil)
        simp [Builtin.clear_, ht0, run_und ht]
    · rename_i hl0
      split at he
      case h_2 => cases he
      rename_i c t' z'
      have ho := ho0
      split at he
      case isFalse => cases he
      rename_i hle
      cases he
      rcases hx.slice_inv with ⟨r, c', hsp, hbb, rfl, hc'⟩ | ⟨r, bb, hsp, hbb, h1, h2, rfl⟩
      · simp only at hbb
        have hzs : z.cells.size = i.size := by simpa [cellList] using hle.2
        have hcells : (Builtin.zeroCells z.cells len).toList = (List.replicate len (cellList z)).flatten := by
          unfold Builtin.zeroCells
          rw [zeros_list]; rfl
        have hzr : LRel β (List.replicate len (cellList z)).flatten (List.replicate len (cellList z)).flatten := zeros_rel (z := z.cells) hzo
        have hln : ((List.replicate len (cellList z)).flatten).length = len * i.size := by simp [hle.2]
        have hall : ((List.replicate len (cellList z)).flatten).all isCell = true := by
          rw [List.all_eq_true]
          intro v hv
          have h1 : zeroOk (cellList z) = true := hzo
          simp only [zeroOk, List.all_eq_true] at h1
          simp only [List.mem_flatten, List.mem_replicate] at hv
          obtain ⟨l, ⟨_, rfl⟩, hv⟩ := hv
          have := h1 v hv
          cases v <;> first | rfl | (simp [primV] at this)
        generalize hL : (List.replicate len (cellList z)).flatten = L at *
        obtain ⟨w', hr, hs', hst⟩ := store_step (P := P) (n := n) (o := o) hs hbb ho hzr hall (by rw [hln]; exact hle.1)
        rw [← hcells] at hr
        exact ⟨.tuple #[], w', β, clear_run ht0 ht hi hzv hl0 hr, LRel.tuple (l := []) (l' := []) .nil, hs', hst⟩
      · exact absurd h1 hl0
  · cases he

/-! ### comparisons -/
def flatFs (P : Program) (g : TypeId → Option (List KeyK)) : List Field → Nat → Option (List KeyK)
  | [], _ => some []
  | f :: fs, off =>
    if f.name ≠ "_" ∧ f.offset = off then
      (g f.type).bind fun ks => if (P.info? f.type).map (·.size) = some ks.length then (flatFs P g fs (off + ks.length)).map fun r => ks ++ r else none
    else none

def flatK (P : Program) : Nat → TypeId → Option (List KeyK)
  | 0, _ => none
  | d + 1, t =>
    match P.underlying t with
    | some (.int _) => some [.int]
    | some .string => some [.string]
    | some .bool => some [.bool]
    | some (.struct fs) => if P.stoodInHeld t then none else flatFs P (flatK P d) fs.toList 0
    | _ => none

theorem cellsEqK_append {ks ks' : List KeyK} : ∀ {xs ys : List Value} {b : Bool}, cellsEqK (ks ++ ks') xs ys = some b →
    ∃ b1 b2, cellsEqK ks (xs.take ks.length) (ys.take ks.length) = some b1 ∧ cellsEqK ks' (xs.drop ks.length) (ys.drop ks.length) = some b2 ∧ b = (b1 && b2) := by
  induction ks with
  | nil => intro xs ys b h; exact ⟨true, b, rfl, by simpa using h, by simp⟩
  | cons k ks ih =>
    intro xs ys b h
    cases xs with
    | nil => simp [cellsEqK] at h
    | cons x xs =>
      cases ys with
      | nil => simp [cellsEqK] at h
      | cons y ys =>
        simp only [List.cons_append, cellsEqK] at h
        cases hc : cellEqK k x y with
        | none => simp [hc] at h
        | some c =>
          simp only [hc, Option.bind_some] at h
          cases hr : cellsEqK (ks ++ ks') xs ys with
          | none => simp [hr] at h
          | some r =>
            simp only [hr, Option.map_some, Option.some.injEq] at h
            obtain ⟨b1, b2, h1, h2, h3⟩ := ih hr
            refine ⟨c && b1, b2, by simp [cellsEqK, hc, h1], by simpa using h2, ?_⟩
            rw [← h, h3, Bool.and_assoc]

theorem flatFs_run {d : Nat} {g : TypeId → Option (List KeyK)}
    (hg : ∀ t ks, g t = some ks → ∃ dd, P.underlying t = some dd ∧ ((isAggD dd = true ∧ ∀ (xs ys : Array Value) b, cellsEqK ks xs.toList ys.toList = some b → (Op.equalIn d t (.agg xs) (.agg ys)).run P w = .ok b w) ∨
      (isAggD dd = false ∧ ∃ k, ks = [k] ∧ ∀ x y b, cellEqK k x y = some b → (Op.equalIn d t x y).run P w = .ok b w))) (xs ys : Array Value) :
    ∀ (fs : List Field) (off : Nat) (ks : List KeyK) (b : Bool), flatFs P g fs off = some ks → cellsEqK ks (xs.toList.drop off) (ys.toList.drop off) = some b → (Op.eqFields d xs ys fs).run P w = .ok b w := by
  intro fs
  induction fs with
  | nil =>
    intro off ks b hk hb
    simp only [flatFs, Option.some.injEq] at hk
    subst hk
    have : b = true := by
      cases h1 : xs.toList.drop off <;> cases h2 : ys.toList.drop off <;> simp_all [cellsEqK]
    subst this
    simp [Op.eqFields]
  | cons f fs ih =>
    intro off ks b hk hb
    simp only [flatFs] at hk
    split at hk
    case isFalse => cases hk
    rename_i hf
    obtain ⟨hname, hoff⟩ := hf
    cases hgt : g f.type with
    | none => simp [hgt] at hk
    | some k1 =>
      simp only [hgt, Option.bind_some] at hk
      split at hk
      case isFalse => cases hk
      rename_i hsize
      cases hr : flatFs P g fs (off + k1.length) with
      | none => simp [hr] at hk
      | some kr =>
        simp only [hr, Option.map_some, Option.some.injEq] at hk
        subst hk
        obtain ⟨b1, b2, h1, h2, rfl⟩ := cellsEqK_append hb
        rw [List.drop_drop, List.drop_drop] at h2
        have hrest := ih _ _ _ hr h2
        have hinfo : ∃ i, P.info? f.type = some i ∧ i.size = k1.length := by
          cases hi : P.info? f.type with
          | none => simp [hi] at hsize
          | some i => exact ⟨i, rfl, by simpa [hi] using hsize⟩
        obtain ⟨i, hi, hisz⟩ := hinfo
        have hhead : ∃ a c, (part f.type xs f.offset).run P w = .ok a w ∧ (part f.type ys f.offset).run P w = .ok c w ∧ (Op.equalIn d f.type a c).run P w = .ok b1 w := by
          obtain ⟨dd, hdd, hcase | ⟨hna, k, rfl, hcase⟩⟩ := hg _ _ hgt
          · refine ⟨.agg (xs.extract off (off + k1.length)), .agg (ys.extract off (off + k1.length)), ?_, ?_, ?_⟩
            · simp [part, run_agg hdd, hcase.1, run_size hi, hisz, hoff]
            · simp [part, run_agg hdd, hcase.1, run_size hi, hisz, hoff]
            · refine hcase.2 _ _ _ ?_
              simpa [Array.toList_extract, List.extract_eq_take_drop] using h1
          · simp only [List.length_cons, List.length_nil, Nat.zero_add] at h1
            have hx : ∃ x, xs.toList[off]? = some x := by
              cases hq : xs.toList.drop off with
              | nil => rw [hq] at h1; simp [cellsEqK] at h1
              | cons x r => exact ⟨x, by have := congrArg (fun l => l[0]?) hq; simpa using this⟩
            have hy : ∃ y, ys.toList[off]? = some y := by
              cases hq : ys.toList.drop off with
              | nil => rw [hq] at h1; cases (xs.toList.drop off).take 1 <;> simp [cellsEqK] at h1
              | cons y r => exact ⟨y, by have := congrArg (fun l => l[0]?) hq; simpa using this⟩
            obtain ⟨x, hx⟩ := hx
            obtain ⟨y, hy⟩ := hy
            refine ⟨x, y, ?_, ?_, ?_⟩
            · have : xs[off]? = some x := by simpa using hx
              simp [part, run_agg hdd, hna, hoff, this]
            · have : ys[off]? = some y := by simpa using hy
              simp [part, run_agg hdd, hna, hoff, this]
            · refine hcase _ _ _ ?_
              have e1 : (xs.toList.drop off).take 1 = [x] := by
                rw [List.take_one, List.head?_drop, hx]; rfl
              have e2 : (ys.toList.drop off).take 1 = [y] := by
                rw [List.take_one, List.head?_drop, hy]; rfl
              rw [e1, e2] at h1
              simp only [cellsEqK] at h1
              cases hc : cellEqK k x y with
              | none => simp [hc] at h1
              | some c => simpa [hc] using h1
        obtain ⟨a, c, ha, hc, he⟩ := hhead
        simp only [Op.eqFields]
        rw [if_pos hname]
        simp only [Sem.run_bind, ha, hc, he, Result.andThen_ok]
        cases b1 with
        | false => simp
        | true => simpa using hrest

theorem cellEqK_run {k : KeyK} {d : TypeDesc} {dp : Nat} {t : TypeId} {x y : Value} {b : Bool} (ht : P.underlying t = some d) (hk : keyD k d = true) (hb : cellEqK k x y = some b) : (Op.equalIn (dp + 1) t x y).run P w = .ok b w := by
  unfold cellEqK at hb
  split at hb
  case isFalse => cases hb
  rename_i hok
  simp only [Bool.and_eq_true] at hok
  obtain ⟨h1, h2⟩ := hok
  cases k <;> cases d <;> simp [keyD] at hk <;> cases x <;> simp [keyOk] at h1 <;> cases y <;> simp [keyOk] at h2 <;> simp only [keyEq] at hb
  · split at hb
    · rename_i hkk; subst hkk; cases hb; exact run_equalIn_int w dp t _ _ _ _ ht
    · cases hb
  · cases hb; simp [Op.equalIn, run_und ht]
  · cases hb; exact run_equalIn_bool w dp t _ _ ht

theorem flatK_run : ∀ (d : Nat) (t : TypeId) (ks : List KeyK), flatK P d t = some ks → ∃ dd, P.underlying t = some dd ∧ ((isAggD dd = true ∧ ∀ (xs ys : Array Value) b, cellsEqK ks xs.toList ys.toList = some b → (Op.equalIn d t (.agg xs) (.agg ys)).run P w = .ok b w) ∨
      (isAggD dd = false ∧ ∃ k, ks = [k] ∧ ∀ x y b, cellEqK k x y = some b → (Op.equalIn d t x y).run P w = .ok b w)) := by
  intro d
  induction d with
  | zero => intro t ks h; simp [flatK] at h
  | succ d ih =>
    intro t ks h
    simp only [flatK] at h
    split at h
    · rename_i kk hd; cases h; exact ⟨_, hd, .inr ⟨rfl, .int, rfl, fun x y b hb => cellEqK_run hd rfl hb⟩⟩
    · rename_i hd; cases h; exact ⟨_, hd, .inr ⟨rfl, .string, rfl, fun x y b hb => cellEqK_run hd rfl hb⟩⟩
    · rename_i hd; cases h; exact ⟨_, hd, .inr ⟨rfl, .bool, rfl, fun x y b hb => cellEqK_run hd rfl hb⟩⟩
    · rename_i fs hd
      split at h
      · cases h
      rename_i hst
      simp only [Bool.not_eq_true] at hst
      refine ⟨_, hd, .inl ⟨rfl, fun xs ys b hb => ?_⟩⟩
      have hfo : P.fieldsOf t = fs := by simp [Program.fieldsOf, hd]
      rw [run_equalIn_struct w d t xs ys (by rw [hfo]; exact hd) hst, hfo]
      exact flatFs_run ih xs ys fs.toList 0 ks b h (by simpa using hb)
    · cases h

end
end Go.Abs
