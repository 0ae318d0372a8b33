/-
  The operations, value by value: append, copy, make, conversions.
-/
import Derived.Test.YtlcfmfljmabaeaaA9
set_option linter.unusedVariables false
set_option linter.unusedSimpArgs false
namespace Go.Abs
open Go

theorem growBy_le (need : Nat) (h : 256 < need) : ∀ (k c : Nat), c < need → Builtin.growBy need k c ≤ 2 * need := by
  intro k
  induction k with
  | zero => intro c hc; simp only [Builtin.growBy]; omega
  | succ k ih =>
    intro c hc
    simp only [Builtin.growBy]
    rw [if_neg (by omega)]
    by_cases hq : c + (c + 768) / 4 < need
    · exact ih _ hq
    · cases k with
      | zero => simp only [Builtin.growBy]; omega
      | succ k => simp only [Builtin.growBy]; rw [if_pos (by omega)]; omega

theorem nextslicecap_le {need c : Nat} (h : c < need) : Builtin.nextslicecap need c ≤ 2 * need := by
  unfold Builtin.nextslicecap
  split
  · omega
  · split
    · omega
    · rename_i h1 h2
      exact growBy_le need (by omega) 4 c h

section
variable {P : Program} {β : Map} {h : HF} {w : World} {n : Nat} {res : Res}

theorem lenOf_run {x x' : Value} {m : Nat} (hx : VRel β x x') (hl : lenV x = some m) : (Builtin.lenOf x').run P w = .ok m w := by
  unfold lenV at hl
  split at hl
  · rename_i a l c
    cases hl
    cases a with
    | none => rw [hx.nilSlice_inv]; rfl
    | some a =>
      rcases hx.slice_inv with ⟨r, c', _, _, rfl, _⟩ | ⟨r, b, _, _, rfl, _, rfl⟩ <;> rfl
  · cases hl; rw [hx.string_inv]; rfl
  · cases hl

theorem zeroCells_size (z : Array Value) (k : Nat) : (Builtin.zeroCells z k).size = k * z.size := by
  simp [Builtin.zeroCells]

theorem zeroCells_prim {z : Value} (h : zeroOk (cellList z) = true) (k : Nat) : (Builtin.zeroCells z.cells k).toList.all primV = true := by
  rw [List.all_eq_true]
  intro x hx
  simp only [Builtin.zeroCells, Array.toList_map, List.mem_map] at hx
  obtain ⟨i, hi, rfl⟩ := hx
  have hi : i < k * z.cells.size := by simpa using hi
  have hpos : 0 < z.cells.size := by
    rcases Nat.eq_zero_or_pos z.cells.size with h0 | h0
    · rw [h0] at hi; omega
    · exact h0
  have hlt : i % z.cells.size < z.cells.size := Nat.mod_lt _ hpos
  rw [getElem!_pos z.cells _ hlt]
  exact List.all_eq_true.1 h _ (by simp [cellList])

theorem tooBig_spec {m b : Nat} (h : tooBig m b = false) : m * b ≤ 2 ^ 46 ∧ m ≤ 2 ^ 46 := by
  simp only [tooBig, Bool.or_eq_false_iff, decide_eq_false_iff_not, Nat.not_lt] at h
  exact h

def SrcT (P : Program) (ts : Array TypeId) : Prop := ts[1]? = none ∨ ∃ u, ts[1]? = some u ∧ (P.underlying u = some .string ∨ ∃ e', P.underlying u = some (.slice e'))

theorem append_room_run {ts : Array TypeId} {ty t e : TypeId} {i : TypeInfo} {base : Option Addr} {sl c' m : Nat} {y' : Value} {new : List Value} (ht0 : ts[0]? = some t) (ht : P.underlying t = some (.slice e)) (hi : P.info? e = some i)
    (hz : SrcT P ts) (hm : (Builtin.lenOf y').run P w = .ok m w) (hnew : (Builtin.firstCells i.size m y').run P w = .ok new.toArray w) (hle : sl + m ≤ c') {w' : World}
    (hst : ∀ a, base = some a → (storeCells (a.add (sl * i.size)) new).run P w = .ok () w') (hb : base = none → w' = w) :
    (Builtin.append_ ts ty #[.slice base sl c', y']).run P w = .ok (.slice base (sl + m) c') w' := by
  cases base with
  | none =>
    rw [hb rfl]
    rcases hz with hu | ⟨u, hu, hd | ⟨e', hd⟩⟩
    · simp [Builtin.append_, ht0, hu, run_und ht, run_size hi, hm, hle, hnew]
    · simp [Builtin.append_, ht0, hu, run_und ht, run_und hd, run_size hi, hm, hle, hnew]
    · simp [Builtin.append_, ht0, hu, run_und ht, run_und hd, run_size hi, hm, hle, hnew]
  | some a =>
    have hst' := hst a rfl
    rcases hz with hu | ⟨u, hu, hd | ⟨e', hd⟩⟩
    · simp [Builtin.append_, ht0, hu, run_und ht, run_size hi, hm, hle, hnew, hst']
    · simp [Builtin.append_, ht0, hu, run_und ht, run_und hd, run_size hi, hm, hle, hnew, hst']
    · simp [Builtin.append_, ht0, hu, run_und ht, run_und hd, run_size hi, hm, hle, hnew, hst']

theorem append_grow_run {ts : Array TypeId} {ty t e : TypeId} {i : TypeInfo} {z : Value} {base : Option Addr} {sl c' m : Nat} {y' : Value} {old new : List Value} (ht0 : ts[0]? = some t) (ht : P.underlying t = some (.slice e)) (hi : P.info? e = some i)
    (hzv : i.zero = some z) (hz : SrcT P ts) (hm : (Builtin.lenOf y').run P w = .ok m w) (hnew : ∀ w' : World, w'.heap = w.heap → (Builtin.firstCells i.size m y').run P w' = .ok new.toArray w')
    (hold : ∀ w' : World, w'.heap = w.heap → (Builtin.firstCells i.size sl (.slice base sl c')).run P w' = .ok old.toArray w') (hle : c' < sl + m) (hbig : tooBig (sl + m) i.bytes = false) :
    ∃ k : Nat, (Builtin.append_ ts ty #[.slice base sl c', y']).run P w = .ok (.slice (some ⟨w.heap.size, 0, none⟩) (sl + m) (sl + m + k)) (w.drew.alloc (.cells (old.toArray ++ (new.toArray ++ Builtin.zeroCells z.cells k)) e)) := by
  obtain ⟨hb1, hb2⟩ := tooBig_spec hbig
  have hcap := nextslicecap_le hle
  have hnb : ¬ (2 ^ 48 < Builtin.nextslicecap (sl + m) c' * i.bytes) := by
    have : Builtin.nextslicecap (sl + m) c' * i.bytes ≤ 2 * (sl + m) * i.bytes := Nat.mul_le_mul_right _ hcap
    rw [Nat.mul_assoc] at this
    omega
  have hnb' : ¬ (281474976710656 < Builtin.nextslicecap (sl + m) c' * i.bytes) := hnb
  have hni : ¬ (9223372036854775807 < ((sl : Int) + (m : Int)) ∧ i.bytes = 0) := by omega
  have hlt : ¬ (sl + m ≤ c') := by omega
  have e1 := hold { w with drawn := w.drawn + 1 } rfl
  have e2 := hnew { w with drawn := w.drawn + 1 } rfl
  rw [World.drew_eq] at e1 e2
  refine ⟨w.tape w.drawn (.appendCap (sl + m) c' e) % (2 ^ 63 - (sl + m)), ?_⟩
  rcases hz with hu | ⟨u, hu, hd | ⟨e', hd⟩⟩
  · simp [Builtin.append_, ht0, hu, run_und ht, run_size hi, run_info hi, hm, hlt, hni, hnb', Question.forced, Question.cut, e1, e2, run_zero hi hzv, newRow, IntKind.max, IntKind.signed, IntKind.bits]
  · simp [Builtin.append_, ht0, hu, run_und ht, run_und hd, run_size hi, run_info hi, hm, hlt, hni, hnb', Question.forced, Question.cut, e1, e2, run_zero hi hzv, newRow, IntKind.max, IntKind.signed, IntKind.bits]
  · simp [Builtin.append_, ht0, hu, run_und ht, run_und hd, run_size hi, run_info hi, hm, hlt, hni, hnb', Question.forced, Question.cut, e1, e2, run_zero hi hzv, newRow, IntKind.max, IntKind.signed, IntKind.bits]

theorem grown_step {e : TypeId} {L L' : List Value} {Z : Array Value} {sz k : Nat} (hs : Sim β h w) (hn : β n = none) (hL : LRel β L L') (hsz : k * sz ≤ Z.size) (hZ : Z.toList.all primV = true) (h32 : sz < 4294967296) {w' : World} (hw : w' = w.drew.alloc (.cells (L'.toArray ++ Z) e)) :
    Sim (ext β n ⟨w.heap.size, 0, k, L.length, sz⟩) (fun j => if j = n then some (.cells L e sz false) else h j) w' ∧
      Step β h w (ext β n ⟨w.heap.size, 0, k, L.length, sz⟩) (fun j => if j = n then some (.cells L e sz false) else h j) w' n (n + 1) := by
  subst hw
  refine alloc_step hs hn rfl rfl rfl rfl rfl ?_
  have hl := hL.length
  refine ⟨rfl, rfl, by simp, fun _ => ⟨rfl, h32⟩, by simp; omega, fun i hi => ?_, fun _ => .inl rfl, fun _ i hi => ?_, fun _ _ _ => rfl⟩
  rotate_left
  · simp only at hi
    refine ⟨Z[i]'(by omega), ?_, List.all_eq_true.1 hZ _ (by simp)⟩
    simp only [Nat.zero_add]
    rw [hl, Array.getElem?_append_right (by simp)]
    simp only [List.size_toArray, Nat.add_sub_cancel_left]
    exact Array.getElem?_eq_getElem _
  obtain ⟨_, h2⟩ := lrel_iff.1 hL
  refine ⟨L'[i]'(by omega), ?_, (h2 i hi _).mono (ext_le hn)⟩
  simp only [Nat.zero_add]
  rw [Array.getElem?_append_left (by simp; omega)]
  simp

theorem append_sim {ts : Array TypeId} {ty t e : TypeId} {i : TypeInfo} {z : Value} {x x' y y' : Value} (ht0 : ts[0]? = some t) (ht : P.underlying t = some (.slice e)) (hi : P.info? e = some i) (hzv : i.zero = some z) (hzs : z.cells.size = i.size) (hzo : zeroOk (cellList z) = true) (h32 : i.size < 4294967296)
    (hz : SrcT P ts) (hx : VRel β x x') (hy : VRel β y y') (hs : Sim β h w) (hf : Fresh β n res.next) (he : evP h n (.append e i.size i.bytes x y) = some res) : OpOK P β h w n res id (Builtin.append_ ts ty #[x', y']) := by
  simp only [evP] at he
  split at he
  case h_2 => cases he
  rename_i a sl sc
  cases hm : lenV y with
  | none => simp [hm] at he
  | some m =>
    cases hl : firstL h i.size m y with
    | none => simp [hm, hl] at he
    | some new =>
      simp only [hm, hl, Option.bind_some] at he
      split at he
      · cases he
      rename_i hcell
      have hmr := fun w => lenOf_run (P := P) (w := w) hy hm
      obtain ⟨new', hnl, hnr⟩ := firstL_run (P := P) hy hs hl
      have hnc : new.all isCell = true ∧ new.length = m * i.size := by
        constructor
        · cases hq : new.all isCell with
          | true => rfl
          | false => exact absurd (.inl hq) hcell
        · exact Decidable.not_not.1 fun q => hcell (.inr q)
      obtain ⟨hnc, hnlen⟩ := hnc
      have hnlen' := hnl.length
      split at he
      · -- there is room
        rename_i hroom
        split at he
        · cases he
          rw [hx.nilSlice_inv]
          refine OpOK.pure hs (append_room_run (w' := w) ht0 ht hi hz (hmr w) (hnr w rfl) hroom (fun a ha => by cases ha) (fun _ => rfl)) (.prim _ rfl)
        · rename_i id o
          split at he
          case h_2 => cases he
          rename_i c t' z' ho
          split at he
          case isFalse => cases he
          rename_i hle
          cases he
          rcases hx.slice_inv with ⟨r, c', hsp, hbb, rfl, hc'⟩ | ⟨r, bb, hsp, hbb, rfl, rfl, rfl⟩
          · have hmul : (sl + m) * i.size = sl * i.size + m * i.size := Nat.add_mul _ _ _
            simp only at hbb
            obtain ⟨w', hr, hs', hst⟩ := store_step (P := P) (n := n) (o := o + sl * i.size) hs hbb ho hnl (by rw [hnl.all_isCell]; exact hnc) (by omega)
            refine ⟨_, w', β, append_room_run (w' := w') ht0 ht hi hz (hmr w) (hnr w rfl) (by omega) (fun a ha => ?_) (fun hq => by cases hq), .slice hbb hc', hs', hst⟩
            cases ha
            rw [add_eq, Nat.add_assoc]; exact hr
          · obtain rfl : m = 0 := by omega
            simp only at hbb
            rw [Nat.zero_mul] at hnlen
            have h0 := List.eq_nil_of_length_eq_zero hnlen
            subst h0
            have h0' := List.eq_nil_of_length_eq_zero hnlen'.symm
            subst h0'
            have hsame : (fun j => if j = id then some (AObj.cells (storeL c (o + 0 * i.size) []) t' z' false) else h j) = h := by
              funext j
              by_cases e : j = id
              · subst e; simp [storeL, ho]
              · simp [e]
            refine ⟨_, w, β, append_room_run (w' := w) ht0 ht hi hz (hmr w) (hnr w rfl) (by omega) (fun a ha => by simp [storeCells]) (fun hq => by cases hq), .empty hbb, ?_, ?_⟩
            · simp only [updF]; rw [hsame]; exact hs
            · simp only [updF]; rw [hsame]; exact Step.refl β h w n
        · cases he
      · rename_i hroom
        split at he
        · cases he
        rename_i hbig
        simp only [Bool.not_eq_true] at hbig
        split at he
        · -- a nil slice
          split at he
          case isFalse => cases he
          rename_i h0
          subst h0
          cases he
          rw [hx.nilSlice_inv]
          rw [Nat.zero_add] at hbig hroom
          obtain ⟨k, hrun⟩ := append_grow_run (ty := ty) (base := none) (sl := 0) (c' := sc) (old := []) ht0 ht hi hzv hz (hmr w) hnr (fun w' _ => by simp [Builtin.firstCells]) (by omega) (by rw [Nat.zero_add]; exact hbig)
          have hfr : β n = none := hf n (Nat.le_refl _) (Nat.lt_succ_self _)
          obtain ⟨h1, h2⟩ := grown_step (sz := i.size) (k := k) (e := e) (Z := Builtin.zeroCells z.cells k) hs hfr hnl (by rw [zeroCells_size, hzs]; exact Nat.le_refl _) (zeroCells_prim hzo _) h32 rfl
          refine ⟨_, _, _, hrun, ?_, by simpa [updF] using h1, by simpa [updF] using h2⟩
          have hself : ext β n ⟨w.heap.size, 0, k, new.length, i.size⟩ n = some ⟨w.heap.size, 0, k, new.length, i.size⟩ := by simp [ext]
          have := VRel.slice (o := 0) (len := m) (cap := m) (cap' := m + k) hself (.inr ⟨rfl, by show 0 + m * i.size = _; rw [Nat.zero_add]; exact hnlen.symm⟩)
          simpa using this
        · rename_i id o
          split at he
          case h_2 => cases he
          rename_i c t' z' ro ho
          split at he
          case isFalse => cases he
          rename_i hcond
          obtain ⟨hle, hzz, rfl⟩ := hcond
          have hmul : (sl + m) * i.size = sl * i.size + m * i.size := Nat.add_mul _ _ _
          have hLlen : ((c.drop o).take (sl * i.size) ++ new).length = (sl + m) * i.size := by simp; omega
          cases he
          have hfr : β n = none := hf n (Nat.le_refl _) (Nat.lt_succ_self _)
          have hold : ∃ old', LRel β ((c.drop o).take (sl * i.size)) old' ∧ ∀ w' : World, w'.heap = w.heap → (Builtin.firstCells i.size sl x').run P w' = .ok old'.toArray w' := by
            refine firstL_run (P := P) (x := .slice (some ⟨id, o, none⟩) sl sc) hx hs ?_
            simp only [firstL, if_pos (Nat.le_refl _), cellsAt, ho]
            rw [if_pos hle]
          obtain ⟨old', hol, hor⟩ := hold
          -- behind a new block
          have hfin : ∀ (base' : Addr) (c' : Nat), x' = .slice (some base') sl c' → c' < sl + m →
              OpOK P β h w n ⟨.slice (some ⟨n, 0, none⟩) (sl + m) (sl + m), (n, some (.cells ((c.drop o).take (sl * i.size) ++ new) t' i.size false)) :: (if ro = true then [] else [(id, none)]), n + 1⟩ (fun v => v) (Builtin.append_ ts ty #[x', y']) := by
            intro base' c' hx' hlt
            subst hx'
            obtain ⟨k, hrun⟩ := append_grow_run (ty := ty) (old := old') ht0 ht hi hzv hz (hmr w) hnr hor hlt hbig
            obtain ⟨h1, h2⟩ := grown_step (sz := i.size) (k := k) (e := t') (Z := Builtin.zeroCells z.cells k) hs hfr (hol.append hnl) (by rw [zeroCells_size, hzs]; exact Nat.le_refl _) (zeroCells_prim hzo _) h32 rfl
            have hself : ext β n ⟨w.heap.size, 0, k, ((c.drop o).take (sl * i.size) ++ new).length, i.size⟩ n = some ⟨w.heap.size, 0, k, ((c.drop o).take (sl * i.size) ++ new).length, i.size⟩ := by simp [ext]
            have hv := VRel.slice (o := 0) (len := sl + m) (cap := sl + m) (cap' := sl + m + k) hself (.inr ⟨rfl, by show 0 + (sl + m) * i.size = _; rw [Nat.zero_add]; exact hLlen.symm⟩)
            have hworld : (old' ++ new').toArray ++ Builtin.zeroCells z.cells k = old'.toArray ++ (new'.toArray ++ Builtin.zeroCells z.cells k) := by
              rw [← Array.toList_inj]
              simp only [Array.toList_append, List.append_assoc]
            rw [hworld] at h1 h2
            cases ro with
            | true => exact ⟨_, _, _, hrun, hv, by simpa [updF] using h1, by simpa [updF] using h2⟩
            | false =>
              refine ⟨_, _, _, hrun, hv, ?_, ?_⟩
              · have := kill_sim (id := id) h1; simpa [updF] using this
              · have := kill_step (id := id) h2; simpa [updF] using this
          rcases hx.slice_inv with ⟨r, c', hsp, hbb, rfl, hc'⟩ | ⟨r, bb, hsp, hbb, rfl, rfl, rfl⟩
          · simp only at hbb
            by_cases hin : sl + m ≤ c'
            · -- in place
              have hc2 : c' = sc + r.slack ∧ o + sc * r.sz = r.n := by
                rcases hc' with hc' | hc'
                · omega
                · exact hc'
              obtain ⟨hc2, hend⟩ := hc2
              obtain ⟨C, fr, hq, hn, hrs, hsl, hsz, hc, hfz, hpr⟩ := (hs.obj id r _ hbb ho).cells_inv
              have hs0 : r.slack ≠ 0 := by omega
              have hro : ro = false := by
                cases ro with
                | false => rfl
                | true => exact absurd (hrs rfl) hs0
              subst hro
              have hzsz : r.sz = i.size := by
                have := (hsl hs0).1
                rcases hzz with hzz | hzz
                · cases hzz
                · omega
              rw [hzsz] at hend hsz hfz hpr
              have hcap : o + c' * i.size = c.length + r.slack * i.size := by
                rw [hc2, Nat.add_mul]; omega
              have hin2 : (sl + m) * i.size ≤ c' * i.size := Nat.mul_le_mul_right _ hin
              obtain ⟨w', hr, hh, hbut⟩ := run_storeCells (P := P) (b := r.blk) (o := r.base + o + sl * i.size) (t := t') (fr := fr) new' 0 w C hq (by omega)
                (fun j h1 h2 => by rcases hfz rfl with h | ⟨_, h⟩ <;> omega) (by rw [hnl.all_isCell]; exact hnc)
              have hobj : ORel (ext β n ⟨r.blk, r.base + o, c' - (sl + m), (sl + m) * i.size, i.size⟩) ⟨r.blk, r.base + o, c' - (sl + m), (sl + m) * i.size, i.size⟩
                  (.cells ((c.drop o).take (sl * i.size) ++ new) t' i.size false) w'.heap[r.blk]? := by
                rw [hh]
                have hsub : (c' - (sl + m)) * i.size = c' * i.size - (sl + m) * i.size := Nat.sub_mul _ _ _
                refine ⟨rfl, hLlen.symm, by simp, fun _ => ⟨rfl, h32⟩, ?_, fun j hj => ?_, fun _ => ?_, fun h1s j hj => ?_, fun h0 _ hn0 => absurd (by simp only [h0, Nat.mul_zero]) hn0⟩
                · simp only [hLlen, List.size_toArray, storeL_length, Array.length_toList]
                  rw [hsub]; omega
                · rw [hLlen] at hj
                  have hget : (storeL C.toList (r.base + o + sl * i.size + 0) new').toArray[r.base + o + j]? = if sl * i.size ≤ j then new'[j - sl * i.size]? else C[r.base + (o + j)]? := by
                    rw [List.getElem?_toArray, storeL_get _ _ _ _ (by simp; omega)]
                    by_cases hq : sl * i.size ≤ j
                    · rw [if_pos hq, if_pos (by omega)]
                      congr 1; omega
                    · rw [if_neg hq, if_neg (by omega)]
                      simp [Nat.add_assoc]
                  simp only
                  rw [hget]
                  by_cases hq : sl * i.size ≤ j
                  · rw [if_pos hq]
                    have hj2 : j - sl * i.size < new.length := by omega
                    obtain ⟨y2, hy2, hv2⟩ := hnl.get (List.getElem?_eq_getElem hj2)
                    refine ⟨y2, hy2, ?_⟩
                    have e1 : ((c.drop o).take (sl * i.size)).length = sl * i.size := by simp; omega
                    rw [List.getElem_append_right (by omega)]
                    simp only [e1]
                    exact hv2.mono (ext_le hfr)
                  · rw [if_neg hq]
                    obtain ⟨y2, hy2, hv2⟩ := hc (o + j) (by omega)
                    refine ⟨y2, hy2, ?_⟩
                    rw [List.getElem_append_left (by simp; omega)]
                    simp only [List.getElem_take, List.getElem_drop]
                    exact hv2.mono (ext_le hfr)
                · rcases hfz rfl with h | ⟨h1, h⟩
                  · exact .inl h
                  · refine .inr ⟨by have := (hsl hs0).1; omega, ?_⟩
                    rw [hLlen]
                    simp only
                    rw [hsub]; omega
                · simp only at hj
                  rw [hsub] at hj
                  have hge : sc * i.size ≤ (sl + m) * i.size := Nat.mul_le_mul_right _ (by omega)
                  obtain ⟨y, hy, hp⟩ := hpr.1 (by have := (hsl hs0).1; omega) (o + (sl + m) * i.size + j - c.length) (by omega)
                  refine ⟨y, ?_, hp⟩
                  rw [hLlen, List.getElem?_toArray, storeL_get _ _ _ _ (by simp; omega), if_neg (by simp only; omega)]
                  rw [← hy]
                  simp only [Array.getElem?_toList]
                  congr 1; omega
              obtain ⟨h1, h2⟩ := rename_step (r' := ⟨r.blk, r.base + o, c' - (sl + m), (sl + m) * i.size, i.size⟩) (o' := .cells ((c.drop o).take (sl * i.size) ++ new) t' i.size false) hs hfr hbb ho rfl rfl hbut.heap hbut.size hbut.os hbut.tape hbut.output rfl hobj
              have hself : ext β n ⟨r.blk, r.base + o, c' - (sl + m), (sl + m) * i.size, i.size⟩ n = some ⟨r.blk, r.base + o, c' - (sl + m), (sl + m) * i.size, i.size⟩ := by simp [ext]
              have hv := VRel.slice (o := 0) (len := sl + m) (cap := sl + m) (cap' := c') hself (.inr ⟨by simp only; omega, by simp⟩)
              refine ⟨.slice (some ⟨r.blk, r.base + o, none⟩) (sl + m) c', w', _, append_room_run (w' := w') ht0 ht hi hz (hmr w) (hnr w rfl) hin (fun a ha => ?_) (fun hq => by cases hq), hv, ?_, ?_⟩
              · cases ha; rw [add_eq]; exact hr
              · simpa [updF] using h1
              · simpa [updF] using h2
            · exact hfin _ c' rfl (by omega)
          · exact hfin bb 0 rfl (by omega)
        · cases he
end
end Go.Abs
