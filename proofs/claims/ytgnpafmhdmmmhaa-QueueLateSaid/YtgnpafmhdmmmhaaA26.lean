/-
  What 'append' and a slice expression come to.
-/
import Derived.Test.YtgnpafmhdmmmhaaA25
set_option linter.unusedVariables false
set_option linter.unusedSimpArgs false
namespace Go.Abs
open Go

section
variable {g : Nat → Option AObj} {nx : Nat} {e t : TypeId} {sz b id o sl sc n z len cap : Nat} {y : Value} {new c : List Value} {ro : Bool}

theorem ev_append_in (hn : lenV y = some n) (hf : firstL g sz n y = some new) (hc : new.all isCell = true) (hl : new.length = n * sz)
    (hg : g id = some (.cells c t z false)) (h1 : sl + n ≤ sc) (h2 : o + (sl + n) * sz ≤ c.length) :
    evP g nx (.append e sz b (.slice (some ⟨id, o, none⟩) sl sc) y) = some ⟨.slice (some ⟨id, o, none⟩) (sl + n) sc, [(id, some (.cells (storeL c (o + sl * sz) new) t z false))], nx⟩ := by
  have hc2 := List.all_eq_true.1 hc
  simp [evP, hn, hf, hl, hg, h1, h2]
  exact hc2

theorem ev_append_grow (hn : lenV y = some n) (hf : firstL g sz n y = some new) (hc : new.all isCell = true) (hl : new.length = n * sz)
    (hg : g id = some (.cells c e z ro)) (h1 : ¬ sl + n ≤ sc) (h2 : o + sl * sz ≤ c.length) (h3 : ro = true ∨ z = sz) (hb : tooBig (sl + n) b = false) :
    evP g nx (.append e sz b (.slice (some ⟨id, o, none⟩) sl sc) y) = some ⟨.slice (some ⟨nx, 0, none⟩) (sl + n) (sl + n), (nx, some (.cells ((c.drop o).take (sl * sz) ++ new) e sz false)) :: (if ro then [] else [(id, none)]), nx + 1⟩ := by
  have hc2 := List.all_eq_true.1 hc
  simp [evP, hn, hf, hl, hg, h1, h2, h3, hb]
  exact hc2

theorem ev_append_nil (hn : lenV y = some n) (hf : firstL g sz n y = some new) (hc : new.all isCell = true) (hl : new.length = n * sz)
    (h0 : 0 < n) (hb : tooBig n b = false) :
    evP g nx (.append e sz b (.slice none 0 0) y) = some ⟨.slice (some ⟨nx, 0, none⟩) n n, [(nx, some (.cells new e sz false))], nx + 1⟩ := by
  have : ¬ n = 0 := by omega
  have hc2 := List.all_eq_true.1 hc
  simp [evP, hn, hf, hl, hb, this]
  exact hc2

theorem ev_slice_hi {k : IntKind} (hg : g id = some (.cells c t sz ro)) (h : n ≤ cap) :
    evP g nx (.slice (.slice sz) (.slice (some ⟨id, o, none⟩) len cap) none (some (.int k n)) none) = some ⟨.slice (some ⟨id, o, none⟩) n cap, [], nx⟩ := by
  have h1 : (n : Int) ≤ cap := by omega
  simp [evP, boundsV, boundV, hg, h, h1]
theorem ev_mkSlice {zs : List Value} (hb : tooBig len b = false) (hz : zs.length = sz) : evP g nx (.mkSlice e sz b zs (.int .i64 len) (.int .i64 len)) = some ⟨.slice (some ⟨nx, 0, none⟩) len len, [(nx, some (.cells (List.replicate len zs).flatten e sz false))], nx + 1⟩ := by
  simp [evP, hb, hz]

theorem ev_buildSlice (ps : List (Nat × Nat × Value)) (zs : List Value) : evP g nx (.buildSlice e sz len zs ps) = (fillL zs ps).map fun c => ⟨.slice (some ⟨nx, 0, none⟩) len len, [(nx, some (.cells c e sz false))], nx + 1⟩ := rfl
end

theorem wops_cut (cs : Nat → CallSem) : ∀ (ops : List AOper) (n : Nat) (e : Env) (s : St) (Q : Env → St → Prop), WOps cs ops e s Q = WOps cs (ops.take n) e s (fun e s => WOps cs (ops.drop n) e s Q) := by
  intro ops
  induction ops with
  | nil => intro n e s Q; simp only [List.take_nil, List.drop_nil, WOps]
  | cons o r ih =>
    intro n e s Q
    cases n with
    | zero => rfl
    | succ n =>
      simp only [List.take_succ_cons, List.drop_succ_cons, WOps]
      rw [show (fun v s' => WOps cs r (setE e o.dst v) s' Q) = fun v s' => WOps cs (r.take n) (setE e o.dst v) s' (fun e s => WOps cs (r.drop n) e s Q) from funext fun v => funext fun s' => ih n _ _ _]
      rw [ih n]

/-- A region is cut in two. -/
theorem wc_cut (cs : Nat → CallSem) (ops : List AOper) (n : Nat) (e : Env) (s : St) (Q : AExit → Env → St → Prop) :
    WCode cs (.region ops none) e s Q = WCode cs (.region (ops.take n) none) e s (next Q fun e s => WCode cs (.region (ops.drop n) none) e s Q) := by
  show WOps cs ops e s _ = WOps cs (ops.take n) e s _
  rw [wops_cut cs ops n]
  rfl

/-- Two pieces of code, one behind the other. -/
theorem wc_then {cs : Nat → CallSem} {a b : ACode} {e : Env} {s : St} {Q : AExit → Env → St → Prop} {R : Env → St → Prop} (h : WCode cs a e s fun x e' s' => x = .normal ∧ R e' s') (k : ∀ e' s', R e' s' → WCode cs b e' s' Q) : WCode cs (.seq a b) e s Q := by
  rw [wc_seq]
  refine WCode.mono ?_ h
  rintro x e' s' ⟨rfl, hr⟩
  exact k e' s' hr

theorem wc_assoc (cs : Nat → CallSem) (a b c : ACode) (e : Env) (s : St) (Q : AExit → Env → St → Prop) : WCode cs (.seq a (.seq b c)) e s Q = WCode cs (.seq (.seq a b) c) e s Q := by
  rw [wc_seq, wc_seq, wc_seq]
  congr 1
  funext x e s
  cases x <;> rfl

theorem restrict_live {live : List Nat} {e : Env} {j : Nat} (h : j ∈ live) : Env.get (restrict live e) j = e.get j := by
  rw [restrict_get, if_pos h]

def opsOf : ACode → List AOper
  | .region ops _ => ops
  | _ => []

end Go.Abs
