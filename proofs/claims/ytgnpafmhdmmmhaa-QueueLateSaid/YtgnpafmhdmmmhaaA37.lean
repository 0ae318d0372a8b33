/-
  slices.Insert: what its code comes to, in place and where the slice grows.
-/
import Derived.Test.YtgnpafmhdmmmhaaA36
import Derived.Lib.Overlaps
import Derived.Laws.Externs
set_option linter.unusedVariables false
set_option linter.unusedSimpArgs false
set_option maxRecDepth 100000
namespace Go.Abs
open Go Go.Abs.K

/-- slices.Insert's code, at elements of sz cells. -/
def insCode (e : TypeId) (sz b : Nat) (z : List Value) (kv kr : FuncId) : ACode :=
 .seq (R [o 6 (.mov (.const (.slice none 0 0)))])
 (.seq (R [o 10 (.mov (v 0)), o 11 (.mov (v 1)), o 12 (.slice (.slice sz) (v 10) (some (v 11)) none none)])
 (.seq (R [o 13 (.mov (v 2)), o 14 (.len .slice (v 13)), o 7 (.mov (v 14))])
 (.seq (.seq (R [o 15 (.mov (v 7)), o 16 (.bin .eql (v 15) (i 0))])
  (.cond (v 16) (.seq (R [o 17 (.mov (v 0)), o 6 (.mov (v 17))])
   (.ret))
  (.skip)))
 (.seq (R [o 18 (.mov (v 0)), o 19 (.len .slice (v 18)), o 8 (.mov (v 19))])
 (.seq (.seq (R [o 20 (.mov (v 1)), o 21 (.mov (v 8)), o 22 (.bin .eql (v 20) (v 21))])
  (.cond (v 22) (.seq (R [o 23 (.mov (v 0)), o 24 (.mov (v 2)), o 25 (.append e sz b (v 23) (v 24)), o 6 (.mov (v 25))])
   (.ret))
  (.skip)))
 (.seq (.seq (R [o 26 (.mov (v 8)), o 27 (.mov (v 7)), o 28 (.bin .add (v 26) (v 27)), o 29 (.mov (v 0)), o 30 (.cap (v 29)), o 31 (.bin .gtr (v 28) (v 30))])
  (.cond (v 31) (.seq (R [o 32 (.mov (v 0)), o 33 (.mov (v 1)), o 34 (.slice (.slice sz) (v 32) none (some (v 33)) none), o 35 (.mov (v 8)), o 36 (.mov (v 7)), o 37 (.bin .add (v 35) (v 36)), o 38 (.mov (v 1)), o 39 (.bin .sub (v 37) (v 38)), o 40 (.appendMake e sz b z (v 34) (v 39)), o 9 (.mov (v 40))])
   (.seq (R [o 41 (.mov (v 9)), o 42 (.mov (v 1)), o 43 (.slice (.slice sz) (v 41) (some (v 42)) none none), o 44 (.mov (v 2)), o 45 (.copy sz (v 43) (v 44))])
   (.seq (R [o 46 (.mov (v 9)), o 47 (.mov (v 1)), o 48 (.mov (v 7)), o 49 (.bin .add (v 47) (v 48)), o 50 (.slice (.slice sz) (v 46) (some (v 49)) none none), o 51 (.mov (v 0)), o 52 (.mov (v 1)), o 53 (.slice (.slice sz) (v 51) (some (v 52)) none none), o 54 (.copy sz (v 50) (v 53))])
   (.seq (R [o 55 (.mov (v 9)), o 6 (.mov (v 55))])
   (.ret)))))
  (.skip)))
 (.seq (R [o 56 (.mov (v 0)), o 57 (.mov (v 8)), o 58 (.mov (v 7)), o 59 (.bin .add (v 57) (v 58)), o 60 (.slice (.slice sz) (v 56) none (some (v 59)) none), o 0 (.mov (v 60))])
 (.seq (.seq (R [o 61 (.mov (v 2)), o 62 (.mov (v 0)), o 63 (.mov (v 1)), o 64 (.mov (v 7)), o 65 (.bin .add (v 63) (v 64)), o 66 (.slice (.slice sz) (v 62) (some (v 65)) none none), o 67 (.call (.func kv) [(v 61), (v 66)]), o 68 (.un .not (v 67))])
  (.cond (v 68) (.seq (R [o 69 (.mov (v 0)), o 70 (.mov (v 1)), o 71 (.mov (v 7)), o 72 (.bin .add (v 70) (v 71)), o 73 (.slice (.slice sz) (v 69) (some (v 72)) none none), o 74 (.mov (v 0)), o 75 (.mov (v 1)), o 76 (.slice (.slice sz) (v 74) (some (v 75)) none none), o 77 (.copy sz (v 73) (v 76))])
   (.seq (R [o 78 (.mov (v 0)), o 79 (.mov (v 1)), o 80 (.slice (.slice sz) (v 78) (some (v 79)) none none), o 81 (.mov (v 2)), o 82 (.copy sz (v 80) (v 81))])
   (.seq (R [o 83 (.mov (v 0)), o 6 (.mov (v 83))])
   (.ret))))
  (.skip)))
 (.seq (R [o 84 (.mov (v 0)), o 85 (.mov (v 8)), o 86 (.slice (.slice sz) (v 84) (some (v 85)) none none), o 87 (.mov (v 2)), o 88 (.copy sz (v 86) (v 87))])
 (.seq (R [o 89 (.mov (v 0)), o 90 (.mov (v 1)), o 91 (.slice (.slice sz) (v 89) (some (v 90)) none none), o 92 (.mov (v 7)), o 93 (.call (.func kr) [(v 91), (v 92)])])
 (.seq (R [o 94 (.mov (v 0)), o 6 (.mov (v 94))])
 (.ret))))))))))))
def insFun (e : TypeId) (sz b : Nat) (z : List Value) (kv kr : FuncId) : AFun := ⟨3, insCode e sz b z kv kr, [.tmp 6], 0⟩

/-! ### slices.overlaps: two blocks -/

def ovlSem (kv : FuncId) : CallSem := fun f args s =>
  if f = kv then
    match args with
    | [.slice (some ⟨a, _, none⟩) la _, .slice (some ⟨b, _, none⟩) lb _] =>
      match s.heap.get a, s.heap.get b with
      | some (.cells _ _ zy false), some (.cells cs _ _ false) => if a ≠ b ∧ 1 < zy ∧ 0 < cs.length ∧ 0 < la ∧ 0 < lb then some (.bool false, s) else none
      | _, _ => none
    | _ => none
  else none

structure OvlOK (P : Program) (kv : FuncId) : Prop where
  ok : ∃ (tS tR e : TypeId) (size : Nat), P.underlying tS = some (.slice e) ∧ (∀ w, (Go.sizeOf e).run P w = .ok size w) ∧
    ∀ args w, (callFunc kv args).run P w = ((Extern.SlicesOverlaps.overlaps #[tS, tS] #[tR] args).run P w).andThen fun v w' => .ok (.value v) w'

theorem OvlOK.of {P : Program} {kv : FuncId} {F : Func} {tS tR e : TypeId} (hF : P.funcs[kv]? = some F) (hname : (F.name == "runtime.NumGoroutine") = false) (hb : F.body.isNone = true) (hn : Extern.findNext F = none)
    (he : Extern.find F = some (Extern.SlicesOverlaps.overlaps #[tS, tS] #[tR])) (hu : P.underlying tS = some (.slice e)) (hi : (P.info? e).isSome = true) : OvlOK P kv := by
  obtain ⟨ti, hi⟩ := Option.isSome_iff_exists.1 hi
  exact ⟨tS, tR, e, ti.size, hu, fun w => run_size hi w, fun args w => run_callFunc_extern hF hname hb hn he args w⟩

theorem ovl_good {P : Program} {kv : FuncId} (h : OvlOK P kv) : GoodCalls P (ovlSem kv) ∧ GoodWF (ovlSem kv) := by
  obtain ⟨tS, tR, e, size, hu, hz, hrun⟩ := h.ok
  refine ⟨fun f args s v s' _ hq => ?_, fun f args s v s' hq hs => ?_⟩
  · unfold ovlSem at hq
    split at hq
    case isFalse => cases hq
    rename_i hf
    subst hf
    split at hq
    case h_2 => cases hq
    rename_i a oa la ca b ob lb cb
    split at hq
    case h_2 => cases hq
    rename_i cy ty zy cs t z hga hgb
    split at hq
    case isFalse => cases hq
    rename_i hc
    obtain ⟨hne, hzy, hcs, hla, hlb⟩ := hc
    cases hq
    refine .inr ⟨Nat.le_refl _, fun β w args' hs hfr ha => ?_⟩
    cases ha with | cons h1 ha => ?_
    cases ha with | cons h2 ha => ?_
    cases ha
    cases h1 with
    | prim _ hp => simp [primV] at hp
    | empty _ => omega
    | slice h1 hc1 =>
      rename_i ca' ra
      cases h2 with
      | prim _ hp => simp [primV] at hp
      | empty _ => omega
      | slice h2 hc2 =>
        rename_i cb' rb
        obtain ⟨C, fr, hq, _, _, _, hsz, _, hfz, _⟩ := (hs.obj a ra _ h1 hga).cells_inv
        obtain ⟨C', fr', hq', _, _, _, hsz', _, _, _⟩ := (hs.obj b rb _ h2 hgb).cells_inv
        have hfe : fr.1 = fr.2 := by rcases hfz rfl with h | ⟨h, _⟩ <;> omega
        have hnb : ra.blk ≠ rb.blk := fun hh => by
          rcases hs.inj a b ra rb _ _ h1 h2 hga hgb hh with hx | ⟨hx, _⟩
          · exact hne hx
          · cases hx
        obtain ⟨f1, f2⟩ := fr
        simp only at hfe
        subst hfe
        refine ⟨.bool false, w, β, ?_, .prim _ rfl, hs, Step.refl ..⟩
        rw [hrun, Lib.run_overlaps_apart w tS tR e hu size hz ⟨ra.blk, ra.base + oa, none⟩ ⟨rb.blk, rb.base + ob, none⟩ la ca' lb cb' hnb ty t C.size C'.size (by simp [World.shape?, hq]) (by simp [World.shape?, hq']) (by omega)
          (by simp only [World.frozen?, hq, Bool.and_eq_false_iff, decide_eq_false_iff_not]; omega) (by simp only [World.frozen?, hq, Bool.and_eq_false_iff, decide_eq_false_iff_not]; omega)]
        rfl
  · unfold ovlSem at hq
    split at hq
    case isFalse => cases hq
    split at hq
    case h_2 => cases hq
    split at hq
    case h_2 => cases hq
    split at hq
    case isFalse => cases hq
    cases hq
    exact hs

/-! ### Lists -/

theorem storeL_eq (vs : List Value) (l : List Value) (k : Nat) (h : k + vs.length ≤ l.length) : storeL l k vs = l.take k ++ vs ++ l.drop (k + vs.length) := by
  apply List.ext_getElem?
  intro j
  rw [storeL_get vs l k j h]
  by_cases h1 : j < k
  · rw [if_neg (by omega), List.append_assoc, List.getElem?_append_left (by simp; omega), List.getElem?_take, if_pos h1]
  · by_cases h2 : j < k + vs.length
    · rw [if_pos (by omega), List.append_assoc, List.getElem?_append_right (by simp; omega), List.getElem?_append_left (by simp; omega)]
      congr 1
      rw [List.length_take]; omega
    · rw [if_neg (by omega), List.getElem?_append_right (by simp; omega), List.getElem?_drop]
      congr 1
      simp only [List.length_append, List.length_take]; omega

theorem prim_cell {v : Value} (h : primV v = true) : isCell v = true := by cases v <;> first | rfl | (simp [primV] at h)
theorem prim_cells {l : List Value} (h : l.all primV = true) : l.all isCell = true := by
  simp only [List.all_eq_true] at h ⊢
  exact fun v hv => prim_cell (h v hv)

end Go.Abs
