/-
  What 'append' and a slice expression come to.
-/
import Derived.Test.YtehgdocbabaldaaGreatA25
set_option linter.unusedVariables false
set_option linter.unusedSimpArgs false
namespace Go.Abs
open Go

section
variable {g : Nat → Option AObj} {nx : Nat} {e t : TypeId} {sz b id o sl sc n z len cap : Nat} {y : Value} {new c : List Value} {ro : Bool}

theorem ev_append_in (hn : lenV y = some n) (hf : firstL g sz n y = some new) (hc : new.all isCell = true) (hl : new.length = n * sz)
    (hg : g id = some (.cells c t z false)) (h1 : sl + n ≤ sc) (h2 : o + (sl + n) * sz ≤ c.length) :
    evP g nx (.append e sz b (.slice (some ⟨id, o, none⟩) sl sc) y) = some ⟨.slice (some ⟨id, o, none⟩) (sl + n) sc, [(id, some (.cells (storeL c (o + sl * sz) new) t z false))], nx⟩ := by
  have hc2 := List.all_eq_true.1 hc
  simp [evP, hn, hf, hl, hg, h1, h2]
  exact hc2

theorem ev_append_grow (hn : lenV y = some n) (hf : firstL g sz n y = some new) (hc : new.all isCell = true) (hl : new.length = n * sz)
    (hg : g id = some (.cells c e z ro)) (h1 : ¬ sl + n ≤ sc) (h2 : o + sl * sz ≤ c.length) (h3 : ro = true ∨ z = sz) (hb : tooBig (sl + n) b = false) :
    evP g nx (.append e sz b (.slice (some ⟨id, o, none⟩) sl sc) y) = some ⟨.slice (some ⟨nx, 0, none⟩) (sl + n) (sl + n), (nx, some (.cells ((c.drop o).take (sl * sz) ++ new) e sz false)) :: (if ro then [] else [(id, none)]), nx + 1⟩ := by
  have hc2 := List.all_eq_true.1 hc
  simp [evP, hn, hf, hl, hg, h1, h2, h3, hb]
  exact hc2

theorem ev_append_nil (hn : lenV y = some n) (hf : firstL g sz n y = some new) (hc : new.all isCell = true) (hl : new.length = n * sz)
    (h0 : 0 < n) (hb : tooBig n b = false) :
    evP g nx (.append e sz b (.slice none 0 0) y) = some ⟨.slice (some ⟨nx, 0, none⟩) n n, [(nx, some (.cells new e sz false))], nx + 1⟩ := by
  have : ¬ n = 0 := by omega
  have hc2 := List.all_eq_true.1 hc
  simp [evP, hn, hf, hl, hb, this]
  exact hc2

theorem ev_mkSlice {zs : List Value} (hb : tooBig len b = false) (hz : zs.length = sz) : evP g nx (.mkSlice e sz b zs (.int .i64 len) (.int .i64 len)) = some ⟨.slice (some ⟨nx, 0, none⟩) len len, [(nx, some (.cells (List.replicate len zs).flatten e sz false))], nx + 1⟩ := by
  simp [evP, hb, hz]

theorem ev_buildSlice (ps : List (Nat × Nat × Value)) (zs : List Value) : evP g nx (.buildSlice e sz len zs ps) = (fillL zs ps).map fun c => ⟨.slice (some ⟨nx, 0, none⟩) len len, [(nx, some (.cells c e sz false))], nx + 1⟩ := rfl
end

theorem wc_then {cs : Nat → CallSem} {a b : ACode} {e : Env} {s : St} {Q : AExit → Env → St → Prop} {R : Env → St → Prop} (h : WCode cs a e s fun x e' s' => x = .normal ∧ R e' s') (k : ∀ e' s', R e' s' → WCode cs b e' s' Q) : WCode cs (.seq a b) e s Q := by
  rw [wc_seq]
  refine WCode.mono ?_ h
  rintro x e' s' ⟨rfl, hr⟩
  exact k e' s' hr

theorem wc_assoc (cs : Nat → CallSem) (a b c : ACode) (e : Env) (s : St) (Q : AExit → Env → St → Prop) : WCode cs (.seq a (.seq b c)) e s Q = WCode cs (.seq (.seq a b) c) e s Q := by
  rw [wc_seq, wc_seq, wc_seq]
  congr 1
  funext x e s
  cases x <;> rfl

theorem restrict_live {live : List Nat} {e : Env} {j : Nat} (h : j ∈ live) : Env.get (restrict live e) j = e.get j := by
  rw [restrict_get, if_pos h]

end Go.Abs


/-
  A law's call, from its arguments' blocks.
-/
set_option linter.unusedVariables false
set_option linter.unusedSimpArgs false
namespace Go.Abs
open Go Go.RowKit Go.ChangeShapes Go.WideShapes

theorem law_args {P : Program} {tbl : FuncId → Option AFun} {ov : CallSem} (h : TableOK P tbl ov) {f : FuncId} {fn : AFun} (hf : tbl f = some fn) {vs args : List Value} {l : Args} {n : Nat} {w : World} {v : Value} (hp : primV v = true)
    (hl : ∀ p ∈ l, p.1 < n ∧ (∀ β, ORel β p.2.1 p.2.2 w.heap[p.2.1.blk]?) ∧ p.2.2.isRo = true)
    (hw : WCall (fun k => call tbl ov k) f vs ⟨l.heap, n⟩ fun u _ => u = v) (ha : LRel l.map' vs args) :
    Calls P f args.toArray w fun e w' => e = .returned v ∧ Below w.heap.size w w' :=
  law_calls h hf hp hw (Args.sim fun p hp => ⟨(hl p hp).2.1 _, (hl p hp).2.2⟩) (Args.ro fun p hp => (hl p hp).2.2) (Args.fresh fun p hp => (hl p hp).1) (Args.wf fun p hp => (hl p hp).1) ha

end Go.Abs


/-
  Loops as Go's 'for' lays them.
-/
set_option linter.unusedVariables false
set_option linter.unusedSimpArgs false
namespace Go.Abs
open Go

def bodyK (x y : Nat) (Q : AExit → Env → St → Prop) (N : Env → St → Prop) (z : AExit) (e : Env) (s : St) : Prop :=
  ((z = .normal ∨ z = .exit y) ∧ N e s) ∨ (z = .exit x ∧ x ≠ y ∧ Q .normal e s) ∨ (z = .ret ∧ Q .ret e s)

theorem wc_for {cs : Nat → CallSem} {live : List Nat} {hd bd inc : ACode} {c x y : Nat} {e : Env} {s : St} {Q : AExit → Env → St → Prop} (I : Nat → Env → St → Prop) (n : Nat) (h0 : I n e s)
    (h : ∀ k e s E, I k e s → (∀ j, j ∈ live → Env.get E j = e.get j) → WCode cs hd E s fun z e1 s1 => z = .normal ∧ ∃ b, e1.get c = some (.bool b) ∧ (b = false → Q .normal e1 s1) ∧
      (b = true → WCode cs bd e1 s1 (bodyK x y Q fun e2 s2 => WCode cs inc e2 s2 fun z e3 s3 => z = .normal ∧ ∃ k', k' < k ∧ I k' e3 s3))) :
    WCode cs (.block x (.loop live (.seq (.seq hd (.cond (.tmp c) .skip (.exit x))) (.seq (.block y bd) inc)))) e s Q := by
  rw [wc_block]
  refine wc_loop I n h0 ?_
  intro k e s hI
  rw [← wc_assoc]
  have h1 := h k e s (restrict live e) hI (fun j hj => restrict_live hj)
  rw [wc_seq]
  refine WCode.mono ?_ h1
  rintro z e1 s1 ⟨rfl, b, hb, hf, ht⟩
  rw [next_normal, sq_apply, wc_seq, wc_cond, rd_tmp, hb, boolV_bool, bindP_some]
  cases b with
  | false =>
    rw [ccond_false, wc_exit, next_exit, next_exit, inBlock_exit, if_pos rfl]
    exact hf rfl
  | true =>
    rw [ccond_true, wc_skip, next_normal, sq_apply, wc_seq, wc_block]
    refine WCode.mono ?_ (ht rfl)
    rintro z e2 s2 (⟨hz, hN⟩ | ⟨rfl, hxy, hQ⟩ | ⟨rfl, hQ⟩)
    · have hN' : next (next (inBlock x Q) fun e s => ∃ m', m' < k ∧ I m' e s) (sq cs inc (next (inBlock x Q) fun e s => ∃ m', m' < k ∧ I m' e s)) .normal e2 s2 := by
        rw [next_normal, sq_apply]
        refine WCode.mono ?_ hN
        rintro z e3 s3 ⟨rfl, hk⟩
        exact hk
      rcases hz with rfl | rfl
      · exact hN'
      · rw [inBlock_exit, if_pos rfl]; exact hN'
    · rw [inBlock_exit, if_neg hxy, next_exit, next_exit, inBlock_exit, if_pos rfl]
      exact hQ
    · exact hQ

theorem wc_if {cs : Nat → CallSem} {r a b : ACode} {c : Nat} {e : Env} {s : St} {Q : AExit → Env → St → Prop}
    (h : WCode cs r e s fun z e1 s1 => z = .normal ∧ ∃ t, e1.get c = some (.bool t) ∧ (t = true → WCode cs a e1 s1 Q) ∧ (t = false → WCode cs b e1 s1 Q)) : WCode cs (.seq r (.cond (.tmp c) a b)) e s Q := by
  rw [wc_seq]
  refine WCode.mono ?_ h
  rintro z e1 s1 ⟨rfl, t, ht, h1, h2⟩
  rw [next_normal, sq_apply, wc_cond, rd_tmp, ht, boolV_bool, bindP_some]
  cases t with
  | false => rw [ccond_false]; exact h2 rfl
  | true => rw [ccond_true]; exact h1 rfl

end Go.Abs
