/-
  slices.Insert: what its code comes to, in place and where the slice grows.
-/
import Derived.Test.YtehgdocbabaldaaGreatA36
import Derived.Lib.Overlaps
import Derived.Laws.Externs
set_option linter.unusedVariables false
set_option linter.unusedSimpArgs false
set_option maxRecDepth 100000
namespace Go.Abs
open Go Go.Abs.K

def insCode (e : TypeId) (sz b : Nat) (z : List Value) (kv kr : FuncId) : ACode :=
 .seq (R [o 6 (.mov (.const (.slice none 0 0)))])
 (.seq (R [o 10 (.mov (v 0)), o 11 (.mov (v 1)), o 12 (.slice (.slice sz) (v 10) (some (v 11)) none none)])
 (.seq (R [o 13 (.mov (v 2)), o 14 (.len .slice (v 13)), o 7 (.mov (v 14))])
 (.seq (.seq (R [o 15 (.mov (v 7)), o 16 (.bin .eql (v 15) (i 0))])
  (.cond (v 16) (.seq (R [o 17 (.mov (v 0)), o 6 (.mov (v 17))])
   (.ret))
  (.skip)))
 (.seq (R [o 18 (.mov (v 0)), o 19 (.len .slice (v 18)), o 8 (.mov (v 19))])
 (.seq (.seq (R [o 20 (.mov (v 1)), o 21 (.mov (v 8)), o 22 (.bin .eql (v 20) (v 21))])
  (.cond (v 22) (.seq (R [o 23 (.mov (v 0)), o 24 (.mov (v 2)), o 25 (.append e sz b (v 23) (v 24)), o 6 (.mov (v 25))])
   (.ret))
  (.skip)))
 (.seq (.seq (R [o 26 (.mov (v 8)), o 27 (.mov (v 7)), o 28 (.bin .add (v 26) (v 27)), o 29 (.mov (v 0)), o 30 (.cap (v 29)), o 31 (.bin .gtr (v 28) (v 30))])
  (.cond (v 31) (.seq (R [o 32 (.mov (v 0)), o 33 (.mov (v 1)), o 34 (.slice (.slice sz) (v 32) none (some (v 33)) none), o 35 (.mov (v 8)), o 36 (.mov (v 7)), o 37 (.bin .add (v 35) (v 36)), o 38 (.mov (v 1)), o 39 (.bin .sub (v 37) (v 38)), o 40 (.appendMake e sz b z (v 34) (v 39)), o 9 (.mov (v 40))])
   (.seq (R [o 41 (.mov (v 9)), o 42 (.mov (v 1)), o 43 (.slice (.slice sz) (v 41) (some (v 42)) none none), o 44 (.mov (v 2)), o 45 (.copy sz (v 43) (v 44))])
   (.seq (R [o 46 (.mov (v 9)), o 47 (.mov (v 1)), o 48 (.mov (v 7)), o 49 (.bin .add (v 47) (v 48)), o 50 (.slice (.slice sz) (v 46) (some (v 49)) none none), o 51 (.mov (v 0)), o 52 (.mov (v 1)), o 53 (.slice (.slice sz) (v 51) (some (v 52)) none none), o 54 (.copy sz (v 50) (v 53))])
   (.seq (R [o 55 (.mov (v 9)), o 6 (.mov (v 55))])
   (.ret)))))
  (.skip)))
 (.seq (R [o 56 (.mov (v 0)), o 57 (.mov (v 8)), o 58 (.mov (v 7)), o 59 (.bin .add (v 57) (v 58)), o 60 (.slice (.slice sz) (v 56) none (some (v 59)) none), o 0 (.mov (v 60))])
 (.seq (.seq (R [o 61 (.mov (v 2)), o 62 (.mov (v 0)), o 63 (.mov (v 1)), o 64 (.mov (v 7)), o 65 (.bin .add (v 63) (v 64)), o 66 (.slice (.slice sz) (v 62) (some (v 65)) none none), o 67 (.call (.func kv) [(v 61), (v 66)]), o 68 (.un .not (v 67))])
  (.cond (v 68) (.seq (R [o 69 (.mov (v 0)), o 70 (.mov (v 1)), o 71 (.mov (v 7)), o 72 (.bin .add (v 70) (v 71)), o 73 (.slice (.slice sz) (v 69) (some (v 72)) none none), o 74 (.mov (v 0)), o 75 (.mov (v 1)), o 76 (.slice (.slice sz) (v 74) (some (v 75)) none none), o 77 (.copy sz (v 73) (v 76))])
   (.seq (R [o 78 (.mov (v 0)), o 79 (.mov (v 1)), o 80 (.slice (.slice sz) (v 78) (some (v 79)) none none), o 81 (.mov (v 2)), o 82 (.copy sz (v 80) (v 81))])
   (.seq (R [o 83 (.mov (v 0)), o 6 (.mov (v 83))])
   (.ret))))
  (.skip)))
 (.seq (R [o 84 (.mov (v 0)), o 85 (.mov (v 8)), o 86 (.slice (.slice sz) (v 84) (some (v 85)) none none), o 87 (.mov (v 2)), o 88 (.copy sz (v 86) (v 87))])
 (.seq (R [o 89 (.mov (v 0)), o 90 (.mov (v 1)), o 91 (.slice (.slice sz) (v 89) (some (v 90)) none none), o 92 (.mov (v 7)), o 93 (.call (.func kr) [(v 91), (v 92)])])
 (.seq (R [o 94 (.mov (v 0)), o 6 (.mov (v 94))])
 (.ret))))))))))))
def insFun (e : TypeId) (sz b : Nat) (z : List Value) (kv kr : FuncId) : AFun := ⟨3, insCode e sz b z kv kr, [.tmp 6], 0⟩

/-! ### slices.overlaps: two blocks -/

def ovlSem (kv : FuncId) : CallSem := fun f args s =>
  if f = kv then
    match args with
    | [.slice (some ⟨a, _, none⟩) la _, .slice (some ⟨b, _, none⟩) lb _] =>
      match s.heap.get a, s.heap.get b with
      | some (.cells _ _ zy false), some (.cells cs _ _ false) => if a ≠ b ∧ 1 < zy ∧ 0 < cs.length ∧ 0 < la ∧ 0 < lb then some (.bool false, s) else none
      | _, _ => none
    | _ => none
  else none

structure OvlOK (P : Program) (kv : FuncId) : Prop where
  ok : ∃ (tS tR e : TypeId) (size : Nat), P.underlying tS = some (.slice e) ∧ (∀ w, (Go.sizeOf e).run P w = .ok size w) ∧
    ∀ args w, (callFunc kv args).run P w = ((Extern.SlicesOverlaps.overlaps #[tS, tS] #[tR] args).run P w).andThen fun v w' => .ok (.value v) w'

theorem OvlOK.of {P : Program} {kv : FuncId} {F : Func} {tS tR e : TypeId} (hF : P.funcs[kv]? = some F) (hname : (F.name == "runtime.NumGoroutine") = false) (hb : F.body.isNone = true) (hn : Extern.findNext F = none)
    (he : Extern.find F = some (Extern.SlicesOverlaps.overlaps #[tS, tS] #[tR])) (hu : P.underlying tS = some (.slice e)) (hi : (P.info? e).isSome = true) : OvlOK P kv := by
  obtain ⟨ti, hi⟩ := Option.isSome_iff_exists.1 hi
  exact ⟨tS, tR, e, ti.size, hu, fun w => run_size hi w, fun args w => run_callFunc_extern hF hname hb hn he args w⟩

theorem ovl_good {P : Program} {kv : FuncId} (h : OvlOK P kv) : GoodCalls P (ovlSem kv) ∧ GoodWF (ovlSem kv) := by
  obtain ⟨tS, tR, e, size, hu, hz, hrun⟩ := h.ok
  refine ⟨fun f args s v s' _ hq => ?_, fun f args s v s' hq hs => ?_⟩
  · unfold ovlSem at hq
    split at hq
    case isFalse => cases hq
    rename_i hf
    subst hf
    split at hq
    case h_2 => cases hq
    rename_i a oa la ca b ob lb cb
    split at hq
    case h_2 => cases hq
    rename_i cy ty zy cs t z hga hgb
    split at hq
    case isFalse => cases hq
    rename_i hc
    obtain ⟨hne, hzy, hcs, hla, hlb⟩ := hc
    cases hq
    refine .inr ⟨Nat.le_refl _, fun β w args' hs hfr ha => ?_⟩
    cases ha with | cons h1 ha => ?_
    cases ha with | cons h2 ha => ?_
    cases ha
    cases h1 with
    | prim _ hp => simp [primV] at hp
    | empty _ => omega
    | slice h1 hc1 =>
      rename_i ca' ra
      cases h2 with
      | prim _ hp => simp [primV] at hp
      | empty _ => omega
      | slice h2 hc2 =>
        rename_i cb' rb
        obtain ⟨C, fr, hq, _, _, _, hsz, _, hfz, _⟩ := (hs.obj a ra _ h1 hga).cells_inv
        obtain ⟨C', fr', hq', _, _, _, hsz', _, _, _⟩ := (hs.obj b rb _ h2 hgb).cells_inv
        have hfe : fr.1 = fr.2 := by rcases hfz rfl with h | ⟨h, _⟩ <;> omega
        have hnb : ra.blk ≠ rb.blk := fun hh => by
          rcases hs.inj a b ra rb _ _ h1 h2 hga hgb hh with hx | ⟨hx, _⟩
          · exact hne hx
          · cases hx
        obtain ⟨f1, f2⟩ := fr
        simp only at hfe
        subst hfe
        refine ⟨.bool false, w, β, ?_, .prim _ rfl, hs, Step.refl ..⟩
        rw [hrun, Lib.run_overlaps_apart w tS tR e hu size hz ⟨ra.blk, ra.base + oa, none⟩ ⟨rb.blk, rb.base + ob, none⟩ la ca' lb cb' hnb ty t C.size C'.size (by simp [World.shape?, hq]) (by simp [World.shape?, hq']) (by omega)
          (by simp only [World.frozen?, hq, Bool.and_eq_false_iff, decide_eq_false_iff_not]; omega) (by simp only [World.frozen?, hq, Bool.and_eq_false_iff, decide_eq_false_iff_not]; omega)]
        rfl
  · unfold ovlSem at hq
    split at hq
    case isFalse => cases hq
    split at hq
    case h_2 => cases hq
    split at hq
    case h_2 => cases hq
    split at hq
    case isFalse => cases hq
    cases hq
    exact hs

/-! ### Lists -/

theorem storeL_eq (vs : List Value) (l : List Value) (k : Nat) (h : k + vs.length ≤ l.length) : storeL l k vs = l.take k ++ vs ++ l.drop (k + vs.length) := by
  apply List.ext_getElem?
  intro j
  rw [storeL_get vs l k j h]
  by_cases h1 : j < k
  · rw [if_neg (by omega), List.append_assoc, List.getElem?_append_left (by simp; omega), List.getElem?_take, if_pos h1]
  · by_cases h2 : j < k + vs.length
    · rw [if_pos (by omega), List.append_assoc, List.getElem?_append_right (by simp; omega), List.getElem?_append_left (by simp; omega)]
      congr 1
      rw [List.length_take]; omega
    · rw [if_neg (by omega), List.getElem?_append_right (by simp; omega), List.getElem?_drop]
      congr 1
      simp only [List.length_append, List.length_take]; omega

theorem prim_cell {v : Value} (h : primV v = true) : isCell v = true := by cases v <;> first | rfl | (simp [primV] at h)
theorem prim_cells {l : List Value} (h : l.all primV = true) : l.all isCell = true := by
  simp only [List.all_eq_true] at h ⊢
  exact fun v hv => prim_cell (h v hv)

end Go.Abs


/-
  slices.Insert: its code evaluated, where there is room and where there is none.
-/
set_option linter.unusedVariables false
set_option linter.unusedSimpArgs false
set_option maxRecDepth 100000
namespace Go.Abs
open Go Go.Abs.K

section
variable {g : Nat → Option AObj} {nx id o dl dc sz z m : Nat} {c new : List Value} {t : TypeId} {y : Value} {ly : Nat}
theorem ev_copy (hd : g id = some (.cells c t z false)) (hn : lenV y = some ly) (hm : min ly dl = m) (hf : firstL g sz m y = some new) (hp : new.all isCell = true) (hl : new.length = m * sz) (ho : o + m * sz ≤ c.length) :
    evP g nx (.copy sz (.slice (some ⟨id, o, none⟩) dl dc) y) = some ⟨.int .i64 (m : Nat), [(id, some (.cells (storeL c o new) t z false))], nx⟩ := by
  subst hm
  have : ¬ (new.all isCell = false ∨ new.length ≠ min ly dl * sz) := by rw [hp, hl]; simp
  simp only [evP, hn, hf, hd, ho, this, Option.bind_some, if_true, if_false]
theorem firstL_cells {ob ln cap : Nat} {ro : Bool} (hd : g id = some (.cells c t z ro)) (h1 : m ≤ ln) (h2 : ob + m * sz ≤ c.length) : firstL g sz m (.slice (some ⟨id, ob, none⟩) ln cap) = some ((c.drop ob).take (m * sz)) := by
  simp [firstL, cellsAt, hd, h1, h2]
theorem ev_cap {cap ln : Nat} {ro : Bool} (hd : g id = some (.cells c t z ro)) (h : ro = true ∨ 4294967296 ≤ z) : evP g nx (.cap (.slice (some ⟨id, o, none⟩) ln cap)) = some ⟨.int .i64 cap, [], nx⟩ := by
  simp [evP, hd, h]
end

def insPlace (c : List Value) (o k n sz : Nat) (row : List Value) : List Value := c.take (o + k * sz) ++ row ++ (c.drop (o + k * sz)).take ((n - k) * sz) ++ c.drop (o + (n + 1) * sz)
def insGrow (c : List Value) (o k n sz : Nat) (row : List Value) : List Value := (c.drop o).take (k * sz) ++ row ++ (c.drop (o + k * sz)).take ((n - k) * sz)

theorem ins_list (c row : List Value) (p m : Nat) (h : p + row.length + m ≤ c.length) : storeL (storeL c (p + row.length) ((c.drop p).take m)) p row = c.take p ++ row ++ (c.drop p).take m ++ c.drop (p + row.length + m) := by
  have hl : ((c.drop p).take m).length = m := by simp; omega
  rw [storeL_eq _ (storeL c (p + row.length) ((c.drop p).take m)) p (by rw [storeL_length]; omega), storeL_eq _ c (p + row.length) (by rw [hl]; omega), hl]
  have h1 : (c.take (p + row.length) ++ (c.drop p).take m ++ c.drop (p + row.length + m)).take p = c.take p := by
    rw [List.append_assoc, List.take_append_of_le_length (by simp; omega), List.take_take]
    congr 1; omega
  have h2 : (c.take (p + row.length) ++ (c.drop p).take m ++ c.drop (p + row.length + m)).drop (p + row.length) = (c.drop p).take m ++ c.drop (p + row.length + m) := by
    rw [List.append_assoc, List.drop_append_of_le_length (by simp; omega), List.drop_take]
    simp
  rw [h1, h2]
  simp [List.append_assoc]

section
variable {cs : Nat → CallSem} {e : TypeId} {sz b : Nat} {z : List Value} {kv kr ki : FuncId} {s : St} {id yb oo oy yc n cc k : Nat} {c ys : List Value} {t ty : TypeId} {zy : Nat}

theorem ins_place (hid : s.heap.get id = some (.cells c t (sz + 4294967296) false)) (hy : s.heap.get yb = some (.cells ys ty zy false)) (hne : yb ≠ id) (hkv : ki ≠ kv) (hk : k < n) (hcc : n + 1 ≤ cc) (hn : n + 1 ≤ 2 ^ 46) (hsz : 1 < sz)
    (hzy : 1 < zy) (hc : c.all primV = true) (hyp : ys.all primV = true) (ho : oo + cc * sz ≤ c.length) (hoy : oy + sz ≤ ys.length) :
    WCode (fun k => call (tblOf [(ki, insFun e sz b z kv kr)]) (ovlSem kv) k) (insCode e sz b z kv kr) (params 0 [.slice (some ⟨id, oo, none⟩) n cc, .int .i64 (k : Nat), .slice (some ⟨yb, oy, none⟩) 1 yc]) s (ends [.tmp 6] fun u s' =>
      u = .slice (some ⟨id, oo, none⟩) (n + 1) cc ∧ s'.next = s.next ∧ s'.heap.get id = some (.cells (insPlace c oo k n sz ((ys.drop oy).take sz)) t (sz + 4294967296) false) ∧ ∀ j, j ≠ id → s'.heap.get j = s.heap.get j) := by
  have hz2 : ∀ {X : Prop}, X ∨ sz + 4294967296 = sz ∨ sz + 4294967296 = sz + 4294967296 := .inr (.inr rfl)
  have hnk : (n + 1) * sz ≤ cc * sz := Nat.mul_le_mul_right _ hcc
  have hk1 : (k + 1) * sz + (n - k) * sz = (n + 1) * sz := by rw [← Nat.add_mul]; congr 1; omega
  have hk2 : (k + 1) * sz = k * sz + sz := by rw [Nat.add_mul, Nat.one_mul]
  have hrow : ((ys.drop oy).take sz).length = sz := by simp; omega
  have e1 : evP s.heap.get s.next (.slice (.slice sz) (.slice (some ⟨id, oo, none⟩) n cc) (some (.int .i64 (k : Nat))) none none) = _ := ev_sliceL hid hz2 (by omega) (by omega)
  have e2 : evP s.heap.get s.next (.cap (.slice (some ⟨id, oo, none⟩) n cc)) = _ := ev_cap hid (by omega)
  have e3 : evP s.heap.get s.next (.slice (.slice sz) (.slice (some ⟨id, oo, none⟩) n cc) none (some (.int .i64 ((n + 1 : Nat) : Int))) none) = _ := ev_sliceH hid hz2 (by omega)
  have e4 : evP s.heap.get s.next (.slice (.slice sz) (.slice (some ⟨id, oo, none⟩) (n + 1) cc) (some (.int .i64 ((k + 1 : Nat) : Int))) none none) = _ := ev_sliceL hid hz2 (by omega) (by omega)
  have e5 : evP s.heap.get s.next (.slice (.slice sz) (.slice (some ⟨id, oo, none⟩) (n + 1) cc) (some (.int .i64 (k : Nat))) none none) = _ := ev_sliceL hid hz2 (by omega) (by omega)
  have d0 : (((1 : Nat) : Int) == 0) = false := rfl
  have w1 : IntKind.i64.wrap ((n : Int) + ((1 : Nat) : Int)) = ((n + 1 : Nat) : Int) := by rw [IntKind.wrap_i64]; omega
  have w2 : IntKind.i64.wrap ((k : Int) + ((1 : Nat) : Int)) = ((k + 1 : Nat) : Int) := by rw [IntKind.wrap_i64]; omega
  have d1 : ((k : Int) == (n : Int)) = false := by simp; omega
  have d2 : decide (((n + 1 : Nat) : Int) > (cc : Int)) = false := by simp; omega
  have hov : ∀ K, WCall (fun k => call (tblOf [(ki, insFun e sz b z kv kr)]) (ovlSem kv) k) kv [.slice (some ⟨yb, oy, none⟩) 1 yc, .slice (some ⟨id, oo + (k + 1) * sz, none⟩) (n + 1 - (k + 1)) (cc - (k + 1))] s K = K (.bool false) s := fun K =>
    WCall.eq (WCall.ov (by simp [tblOf, hkv]) (r := (.bool false, s)) (by simp only [ovlSem, if_true, hid, hy]; rw [if_pos ⟨hne, hzy, by omega, by omega, by omega⟩]) ⟨rfl, rfl⟩) K
  have e6 : evP s.heap.get s.next (.copy sz (.slice (some ⟨id, oo + (k + 1) * sz, none⟩) (n + 1 - (k + 1)) (cc - (k + 1))) (.slice (some ⟨id, oo + k * sz, none⟩) (n + 1 - k) (cc - k))) = _ :=
    ev_copy (m := n - k) hid rfl (by omega) (firstL_cells hid (by omega) (by omega)) (prim_cells (List.all_eq_true.2 fun v hv => List.all_eq_true.1 hc v (List.mem_of_mem_drop (List.mem_of_mem_take hv)))) (by simp; omega) (by omega)
  have hl1 : (storeL c (oo + (k + 1) * sz) ((c.drop (oo + k * sz)).take ((n - k) * sz))).length = c.length := storeL_length ..
  have hlist := ins_list c ((ys.drop oy).take sz) (oo + k * sz) ((n - k) * sz) (by omega)
  rw [hrow, Nat.add_assoc oo, ← hk2, Nat.add_assoc oo, hk1] at hlist
  generalize hc1 : storeL c (oo + (k + 1) * sz) ((c.drop (oo + k * sz)).take ((n - k) * sz)) = c1 at e6 hl1 hlist
  have hg1 : (s.heap.put id (some (.cells c1 t (sz + 4294967296) false))).get id = some (.cells c1 t (sz + 4294967296) false) := by rw [Heap.get_put, if_pos rfl]
  have hg2 : (s.heap.put id (some (.cells c1 t (sz + 4294967296) false))).get yb = some (.cells ys ty zy false) := by rw [Heap.get_put, if_neg hne, hy]
  have e7 : evP (s.heap.put id (some (.cells c1 t (sz + 4294967296) false))).get s.next (.slice (.slice sz) (.slice (some ⟨id, oo, none⟩) (n + 1) cc) (some (.int .i64 (k : Nat))) none none) = _ := ev_sliceL hg1 hz2 (by omega) (by omega)
  have e8 : evP (s.heap.put id (some (.cells c1 t (sz + 4294967296) false))).get s.next (.copy sz (.slice (some ⟨id, oo + k * sz, none⟩) (n + 1 - k) (cc - k)) (.slice (some ⟨yb, oy, none⟩) 1 yc)) = some ⟨.int .i64 ((1 : Nat) : Int), [(id, some (.cells (storeL c1 (oo + k * sz) ((ys.drop oy).take sz)) t (sz + 4294967296) false))], s.next⟩ :=
    ev_copy (m := 1) hg1 rfl (by omega) (by rw [firstL_cells hg2 (by omega) (by omega), Nat.one_mul]) (prim_cells (List.all_eq_true.2 fun v hv => List.all_eq_true.1 hyp v (List.mem_of_mem_drop (List.mem_of_mem_take hv)))) (by omega) (by omega)
  simp -implicitDefEqProofs only [insCode, params, go_sem, e1, e2, e3, e4, e5, w1, w2, d0, d1, d2, hov, e6, e7, e8]
  rw [hlist]
  refine ⟨rfl, fun j hj => by rw [if_neg hj, if_neg hj]⟩

theorem ev_appendMake {g : Nat → Option AObj} {nx id o n sc m sz b z : Nat} {c zl : List Value} {t e : TypeId} (hd : g id = some (.cells c t z true)) (h0 : 0 < m) (hb : tooBig (n + m) b = false) (hz : zl.length = sz) (hs : 0 < sz) (ht : t = e) (ho : o + n * sz ≤ c.length) (hc : sc < n + m) :
    evP g nx (.appendMake e sz b zl (.slice (some ⟨id, o, none⟩) n sc) (.int .i64 (m : Nat))) = some ⟨.slice (some ⟨nx, 0, none⟩) (n + m) (n + m), [(nx, some (.cells ((c.drop o).take (n * sz) ++ (List.replicate m zl).flatten) e sz false))], nx + 1⟩ := by
  have h1 : (0 : Int) < (m : Int) := by omega
  simp only [evP, hd, Int.toNat_natCast]
  rw [if_pos ⟨h1, hb, hz, hs, ht, ho, hc⟩]

theorem flat_length {zl : List Value} {m : Nat} : (List.replicate m zl).flatten.length = m * zl.length := by
  induction m with
  | zero => simp
  | succ m ih => rw [List.replicate_succ, List.flatten_cons, List.length_append, ih, Nat.add_mul, Nat.one_mul, Nat.add_comm]

theorem ins_grow (hid : s.heap.get id = some (.cells c e sz true)) (hy : s.heap.get yb = some (.cells ys ty zy false)) (hkv : ki ≠ kv) (hk : k < n) (hcc : cc < n + 1) (hnc : n ≤ cc) (hb : tooBig (n + 1) b = false) (hsz : 1 < sz) (hz : z.length = sz)
    (hi1 : id < s.next) (hy1 : yb < s.next) (hc : c.all primV = true) (hyp : ys.all primV = true) (ho : oo + n * sz ≤ c.length) (hoy : oy + sz ≤ ys.length) :
    WCode (fun k => call (tblOf [(ki, insFun e sz b z kv kr)]) (ovlSem kv) k) (insCode e sz b z kv kr) (params 0 [.slice (some ⟨id, oo, none⟩) n cc, .int .i64 (k : Nat), .slice (some ⟨yb, oy, none⟩) 1 yc]) s (ends [.tmp 6] fun u s' =>
      u = .slice (some ⟨s.next, 0, none⟩) (n + 1) (n + 1) ∧ s'.next = s.next + 1 ∧ s'.heap.get s.next = some (.cells (insGrow c oo k n sz ((ys.drop oy).take sz)) e sz false) ∧ ∀ j, j ≠ s.next → s'.heap.get j = s.heap.get j) := by
  have hn := (tooBig_spec hb).2
  have hnk : k * sz + (n - k) * sz = n * sz := by rw [← Nat.add_mul]; congr 1; omega
  have hk1 : (k + 1) * sz + (n - k) * sz = (n + 1) * sz := by rw [← Nat.add_mul]; congr 1; omega
  have hk2 : (k + 1) * sz = k * sz + sz := by rw [Nat.add_mul, Nat.one_mul]
  have hk3 : k * sz + (n + 1 - k) * sz = (n + 1) * sz := by rw [← Nat.add_mul]; congr 1; omega
  have hk4 : (n + 1 - k) * sz = sz + (n - k) * sz := by rw [show n + 1 - k = 1 + (n - k) by omega, Nat.add_mul, Nat.one_mul]
  have hrow : ((ys.drop oy).take sz).length = sz := by simp; omega
  have hkn : k + (n + 1 - k) = n + 1 := by omega
  have e1 : evP s.heap.get s.next (.slice (.slice sz) (.slice (some ⟨id, oo, none⟩) n cc) (some (.int .i64 (k : Nat))) none none) = _ := ev_sliceL hid (.inl rfl) (by omega) (by omega)
  have e2 : evP s.heap.get s.next (.cap (.slice (some ⟨id, oo, none⟩) n cc)) = _ := ev_cap hid (.inl rfl)
  have e3 : evP s.heap.get s.next (.slice (.slice sz) (.slice (some ⟨id, oo, none⟩) n cc) none (some (.int .i64 (k : Nat))) none) = _ := ev_sliceH hid (.inl rfl) (by omega)
  have e4 : evP s.heap.get s.next (.appendMake e sz b z (.slice (some ⟨id, oo, none⟩) k cc) (.int .i64 ((n + 1 - k : Nat) : Int))) = _ := ev_appendMake hid (by omega) (by rw [hkn]; exact hb) hz (by omega) rfl (by omega) (by omega)
  rw [hkn] at e4
  have w1 : IntKind.i64.wrap ((n : Int) + ((1 : Nat) : Int)) = ((n + 1 : Nat) : Int) := by rw [IntKind.wrap_i64]; omega
  have w2 : IntKind.i64.wrap ((k : Int) + ((1 : Nat) : Int)) = ((k + 1 : Nat) : Int) := by rw [IntKind.wrap_i64]; omega
  have w3 : IntKind.i64.wrap (((n + 1 : Nat) : Int) - (k : Int)) = ((n + 1 - k : Nat) : Int) := by rw [IntKind.wrap_i64]; omega
  have d0 : (((1 : Nat) : Int) == 0) = false := rfl
  have d1 : ((k : Int) == (n : Int)) = false := by simp; omega
  have d2 : decide (((n + 1 : Nat) : Int) > (cc : Int)) = true := by simp; omega
  -- the new block, and what is written into it
  have hl0 : ((c.drop oo).take (k * sz)).length = k * sz := by simp; omega
  have hl1 : ((c.drop (oo + k * sz)).take ((n - k) * sz)).length = (n - k) * sz := by simp; omega
  have hlist : storeL (storeL ((c.drop oo).take (k * sz) ++ (List.replicate (n + 1 - k) z).flatten) (k * sz) ((ys.drop oy).take sz)) ((k + 1) * sz) ((c.drop (oo + k * sz)).take ((n - k) * sz)) = insGrow c oo k n sz ((ys.drop oy).take sz) := by
    have hlf : (List.replicate (n + 1 - k) z).flatten.length = sz + (n - k) * sz := by rw [flat_length, hz, hk4]
    generalize (List.replicate (n + 1 - k) z).flatten = F at hlf
    rw [storeL_eq _ (storeL _ _ _) _ (by rw [storeL_length, List.length_append]; omega), storeL_eq _ _ (k * sz) (by rw [List.length_append]; omega)]
    rw [hrow, hl1]
    unfold insGrow
    generalize (c.drop oo).take (k * sz) = A at hl0
    generalize (ys.drop oy).take sz = B at hrow
    have hAB : (A ++ B).length = (k + 1) * sz := by rw [List.length_append]; omega
    have h1 : (A ++ F).take (k * sz) = A := by rw [← hl0, List.take_left]
    have h2 : (A ++ B ++ (A ++ F).drop (k * sz + sz)).take ((k + 1) * sz) = A ++ B := by rw [← hAB, List.take_left]
    have h3 : (A ++ B ++ (A ++ F).drop (k * sz + sz)).drop ((k + 1) * sz + (n - k) * sz) = [] := List.drop_of_length_le (by simp only [List.length_append, List.length_drop] at hAB ⊢; omega)
    rw [h1, h2, h3, List.append_nil]
  generalize hc0 : (c.drop oo).take (k * sz) ++ (List.replicate (n + 1 - k) z).flatten = c0 at e4 hlist
  have hl2 : c0.length = (n + 1) * sz := by rw [← hc0, List.length_append, flat_length, hz, hl0]; exact hk3
  have hg1 : (s.heap.put s.next (some (.cells c0 e sz false))).get s.next = some (.cells c0 e sz false) := by rw [Heap.get_put, if_pos rfl]
  have hg2 : (s.heap.put s.next (some (.cells c0 e sz false))).get yb = some (.cells ys ty zy false) := by rw [Heap.get_put, if_neg (by omega), hy]
  have e5 : evP (s.heap.put s.next (some (.cells c0 e sz false))).get (s.next + 1) (.slice (.slice sz) (.slice (some ⟨s.next, 0, none⟩) (n + 1) (n + 1)) (some (.int .i64 (k : Nat))) none none) = _ := ev_sliceL hg1 (.inr (.inl rfl)) (by omega) (by omega)
  rw [Nat.zero_add] at e5
  have e6 : evP (s.heap.put s.next (some (.cells c0 e sz false))).get (s.next + 1) (.copy sz (.slice (some ⟨s.next, k * sz, none⟩) (n + 1 - k) (n + 1 - k)) (.slice (some ⟨yb, oy, none⟩) 1 yc)) = some ⟨.int .i64 ((1 : Nat) : Int), [(s.next, some (.cells (storeL c0 (k * sz) ((ys.drop oy).take sz)) e sz false))], s.next + 1⟩ :=
    ev_copy (m := 1) hg1 rfl (by omega) (by rw [firstL_cells hg2 (by omega) (by omega), Nat.one_mul]) (prim_cells (List.all_eq_true.2 fun v hv => List.all_eq_true.1 hyp v (List.mem_of_mem_drop (List.mem_of_mem_take hv)))) (by omega) (by omega)
  have hl3 : (storeL c0 (k * sz) ((ys.drop oy).take sz)).length = (n + 1) * sz := by rw [storeL_length, hl2]
  generalize hc1 : storeL c0 (k * sz) ((ys.drop oy).take sz) = c1 at e6 hl3 hlist
  have hg3 : ((s.heap.put s.next (some (.cells c0 e sz false))).put s.next (some (.cells c1 e sz false))).get s.next = some (.cells c1 e sz false) := by rw [Heap.get_put, if_pos rfl]
  have hg4 : ((s.heap.put s.next (some (.cells c0 e sz false))).put s.next (some (.cells c1 e sz false))).get id = some (.cells c e sz true) := by rw [Heap.get_put, if_neg (by omega), Heap.get_put, if_neg (by omega), hid]
  have e7 : evP ((s.heap.put s.next (some (.cells c0 e sz false))).put s.next (some (.cells c1 e sz false))).get (s.next + 1) (.slice (.slice sz) (.slice (some ⟨s.next, 0, none⟩) (n + 1) (n + 1)) (some (.int .i64 ((k + 1 : Nat) : Int))) none none) = _ := ev_sliceL hg3 (.inr (.inl rfl)) (by omega) (by omega)
  rw [Nat.zero_add] at e7
  have e8 : evP ((s.heap.put s.next (some (.cells c0 e sz false))).put s.next (some (.cells c1 e sz false))).get (s.next + 1) (.slice (.slice sz) (.slice (some ⟨id, oo, none⟩) n cc) (some (.int .i64 (k : Nat))) none none) = _ := ev_sliceL hg4 (.inl rfl) (by omega) (by omega)
  have e9 : evP ((s.heap.put s.next (some (.cells c0 e sz false))).put s.next (some (.cells c1 e sz false))).get (s.next + 1) (.copy sz (.slice (some ⟨s.next, (k + 1) * sz, none⟩) (n + 1 - (k + 1)) (n + 1 - (k + 1))) (.slice (some ⟨id, oo + k * sz, none⟩) (n - k) (cc - k))) = _ :=
    ev_copy (m := n - k) hg3 rfl (by omega) (firstL_cells hg4 (by omega) (by omega)) (prim_cells (List.all_eq_true.2 fun v hv => List.all_eq_true.1 hc v (List.mem_of_mem_drop (List.mem_of_mem_take hv)))) (by simp; omega) (by omega)
  simp -implicitDefEqProofs only [insCode, params, go_sem, e1, e2, e3, e4, e5, w1, w2, w3, d0, d1, d2, e6, e7, e8, e9]
  rw [hlist]
  refine ⟨rfl, fun j hj => by rw [if_neg hj, if_neg hj, if_neg hj]⟩
end
end Go.Abs
