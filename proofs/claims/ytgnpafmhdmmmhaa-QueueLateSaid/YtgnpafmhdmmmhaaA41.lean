/-
  slices.Insert: the call whose answer is known, whole. And such calls side by side.
-/
import Derived.Test.YtgnpafmhdmmmhaaA40
set_option linter.unusedVariables false
set_option linter.unusedSimpArgs false
set_option maxRecDepth 100000
namespace Go.Abs
open Go Go.Abs.K

theorem sliceOk_ev {sz n c : Nat} {s : St} {a : Option Addr} (h : sliceOk sz s a = true) (hnc : n ≤ c) : ∃ u, evP s.heap.get s.next (.slice (.slice sz) (.slice a n c) (some (.int .i64 (n : Nat))) none none) = some ⟨u, [], s.next⟩ := by
  have hb : boundsV n c (some (.int .i64 (n : Nat))) none none = some (n, n, c) := by simp [boundsV, boundV]
  cases a with
  | none => exact ⟨_, by simp only [evP, hb, Option.bind_some]; rfl⟩
  | some ad =>
    simp only [sliceOk] at h
    split at h
    case h_2 => cases h
    rename_i c' t z ro hg
    simp only [Bool.and_eq_true, decide_eq_true_eq, Bool.or_eq_true, beq_iff_eq] at h
    refine ⟨.slice (some ⟨ad.block, ad.off + n * sz, none⟩) (n - n) (c - n), ?_⟩
    simp only [evP, hb, Option.bind_some, hg]
    rw [if_pos ⟨h.1, h.2.elim .inl fun h => .inr (.inl h), hnc⟩]

theorem insEnd_walk {cs : Nat → CallSem} {e : TypeId} {sz b : Nat} {z : List Value} {kv kr : FuncId} {s : St} {a : Option Addr} {n c yb oy yc : Nat} {r : Value × St} (h : insEnd e sz b s a n c yb oy yc = some r) :
    WCode cs (insCode e sz b z kv kr) (params 0 [.slice a n c, .int .i64 (n : Nat), .slice (some ⟨yb, oy, none⟩) 1 yc]) s (ends [.tmp 6] fun u s' => u = r.1 ∧ s' = r.2) := by
  unfold insEnd at h
  split at h
  case isFalse => cases h
  rename_i hc
  obtain ⟨u, e1⟩ := sliceOk_ev (n := n) hc.2 hc.1
  simp only [Option.map_eq_some_iff] at h
  obtain ⟨res, e2, rfl⟩ := h
  have d0 : (((1 : Nat) : Int) == 0) = false := rfl
  have d1 : ((n : Int) == (n : Int)) = true := by simp
  simp -implicitDefEqProofs only [insCode, params, go_sem, reduceIte, Nat.reduceEqDiff, Nat.reduceAdd, Nat.reduceMul, Nat.reduceLT, Nat.reduceLeDiff, reduceCtorEq, Int.reduceEq, Int.reduceNeg, Nat.reduceSub, Int.reduceLT, Int.reduceLE, Int.reduceGT, Int.reduceGE, Int.reduceAdd, Int.reduceSub, Int.reduceToNat, Int.reduceBNe, Int.reduceBEq, Nat.mul_one, Nat.zero_mul, e1, e2, d0, d1]

theorem insEnd_next {e : TypeId} {sz b : Nat} {s : St} {a : Option Addr} {n c yb oy yc : Nat} {r : Value × St} (hws : WFs s) (h : insEnd e sz b s a n c yb oy yc = some r) : WFs r.2 := by
  unfold insEnd at h
  split at h
  case isFalse => cases h
  simp only [Option.map_eq_some_iff] at h
  obtain ⟨res, he, rfl⟩ := h
  intro id hid
  simp only [get_applyUpd] at hid ⊢
  have hle := evP_next he
  rw [updF_not, hws id (Nat.le_trans hle hid)]
  intro p hp e
  rcases evP_upd he p hp with ⟨_, h2⟩ | ⟨h1, h2⟩
  · rw [e] at h2; exact h2 (hws id (Nat.le_trans hle hid))
  · omega

theorem insMid_wf {e : TypeId} {sz b : Nat} {s : St} {id oo n c k yb oy : Nat} {r : Value × St} (hws : WFs s) (h : insMid e sz b s id oo n c k yb oy = some r) : WFs r.2 := by
  unfold insMid at h
  split at h
  case h_2 => cases h
  rename_i cs t z0 ys ty zy hid hy
  have hid1 : id < s.next := Nat.lt_of_not_le fun hh => by rw [hws id hh] at hid; cases hid
  split at h
  case isFalse => cases h
  simp only [Option.some.injEq] at h
  subst h
  split
  · intro j hj
    simp only at hj ⊢
    rw [Heap.get_put, if_neg (by omega)]
    exact hws j hj
  · intro j hj
    simp only [applyUpd] at hj ⊢
    rw [Heap.get_put, Heap.get_put, if_neg (by omega), if_neg (by omega)]
    exact hws j (by omega)

theorem ins_good {P : Program} {ki kv kr : FuncId} {e : TypeId} {sz b : Nat} {z : List Value} (hm : P.follows .mixedOrders = true) (hf : FunOK P ki (insFun e sz b z kv kr)) (hov : OvlOK P kv) (hkv : ki ≠ kv) (hzl : z.length = sz) :
    GoodCalls P (insSem ki e sz b) ∧ GoodWF (insSem ki e sz b) := by
  have htbl : TableOK P (tblOf [(ki, insFun e sz b z kv kr)]) (ovlSem kv) := tblOf_ok hm (by simpa using hf) (ovl_good hov)
  have htf : tblOf [(ki, insFun e sz b z kv kr)] ki = some (insFun e sz b z kv kr) := by simp [tblOf]
  constructor
  · intro f args s u s' hws hq
    unfold insSem at hq
    split at hq
    case isFalse => cases hq
    rename_i hc
    obtain ⟨rfl, h1, h32⟩ := hc
    split at hq
    case h_2 => cases hq
    rename_i a n c i yb oy yc
    split at hq
    · rename_i hi
      subst hi
      obtain ⟨r, ⟨hr1, hr2⟩, K, hK⟩ := WCall.of (tbl := tblOf [(f, insFun e sz b z kv kr)]) (ov := ovlSem kv) (args := [.slice a n c, .int .i64 (n : Nat), .slice (some ⟨yb, oy, none⟩) 1 yc]) htf rfl (insEnd_walk hq)
      simp only at hr1 hr2
      subst hr1 hr2
      exact .inl (call_ok htbl htf hws (hK (K + 1) (by omega)))
    · split at hq
      case isFalse => cases hq
      rename_i hi
      split at hq
      case h_2 => cases hq
      rename_i id oo
      obtain ⟨k, rfl⟩ : ∃ k : Nat, i = (k : Int) := ⟨i.toNat, by omega⟩
      rw [Int.toNat_natCast] at hq
      refine .inl ⟨?_, ins_mid_ok hm hf hov hkv hzl h1 h32 hws (by omega) hq⟩
      obtain ⟨F, c, hF, hb, hname, _⟩ := hf.ok
      exact ⟨F, hF, by simp [hb], hname⟩
  · intro f args s u s' hq hws
    unfold insSem at hq
    split at hq
    case isFalse => cases hq
    split at hq
    case h_2 => cases hq
    split at hq
    · exact insEnd_next hws hq
    · split at hq
      case isFalse => cases hq
      split at hq
      case h_2 => cases hq
      exact insMid_wf hws hq

/-- The one, or else the other. -/
def orSem (a b : CallSem) : CallSem := fun f args s =>
  match a f args s with
  | some r => some r
  | none => b f args s

theorem or_good {P : Program} {a b : CallSem} (ha : GoodCalls P a ∧ GoodWF a) (hb : GoodCalls P b ∧ GoodWF b) : GoodCalls P (orSem a b) ∧ GoodWF (orSem a b) := by
  refine ⟨fun f args s v s' hws hq => ?_, fun f args s v s' hq hws => ?_⟩
  · unfold orSem at hq
    split at hq
    · rename_i r hr
      cases hq
      exact ha.1 _ _ _ _ _ hws hr
    · exact hb.1 _ _ _ _ _ hws hq
  · unfold orSem at hq
    split at hq
    · rename_i r hr
      cases hq
      exact ha.2 _ _ _ _ _ hr hws
    · exact hb.2 _ _ _ _ _ hq hws

open Go.RowKit Go.ChangeShapes Go.WideShapes in
/-- 'law_calls', where the answer alone is reckoned, with one measure of fuel. -/
theorem law_calls1 {P : Program} {tbl : FuncId → Option AFun} {ov : CallSem} (h : TableOK P tbl ov) {f : FuncId} {fn : AFun} (hf : tbl f = some fn) {vs args : List Value} {s : St} {β : Map} {w : World} {v : Value} (hp : primV v = true)
    (k : Nat) (hw : (call tbl ov (k + 1) f vs s).map (fun r => r.1) = some v) (hs : Sim β s.heap.get w) (hro : ∀ id o, s.heap.get id = some o → o.isRo = true) (hfr : ∀ id, s.next ≤ id → β id = none) (hwf : WFs s) (ha : LRel β vs args) :
    Calls P f args.toArray w fun e w' => e = .returned v ∧ Below w.heap.size w w' := by
  obtain ⟨⟨u, s'⟩, he, rfl⟩ := Option.map_eq_some_iff.1 hw
  obtain ⟨h1, h2, h3⟩ := call_ok h hf hwf he
  refine (h3 β w args hs (fun id h1 _ => hfr id h1) ha).mono ?_
  rintro e w' ⟨v', β', rfl, hv, hs', hst⟩
  refine ⟨by rw [prim_inv hp hv], hst.os, hst.tape, hst.output, hst.size, fun k hk => hst.frame k hk ?_⟩
  rintro ⟨id, r, o, _, ho, hr, _⟩
  rw [hro id o ho] at hr; cases hr

theorem FunOK.gc {P : Program} {f : FuncId} {fn : AFun} (h : FunOK P f fn) (g : Nat) : FunOK P f { fn with gc := g } := ⟨h.ok⟩

end Go.Abs
