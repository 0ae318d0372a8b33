/-
  slices.Insert as a call whose answer is known: the slice's real room does not show.
-/
import Derived.Test.YtgnpafmhdmmmhaaA38
set_option linter.unusedVariables false
set_option linter.unusedSimpArgs false
set_option maxRecDepth 100000
namespace Go.Abs
open Go Go.Abs.K

/-- What is behind a slice is a block of such cells. -/
def sliceOk (sz : Nat) (s : St) : Option Addr → Bool
  | none => true
  | some ad => match s.heap.get ad.block with
    | some (.cells _ _ z ro) => decide (ad.spot = none) && (ro || z == sz)
    | _ => false

def insEnd (e : TypeId) (sz b : Nat) (s : St) (a : Option Addr) (n c yb oy yc : Nat) : Option (Value × St) :=
  if n ≤ c ∧ sliceOk sz s a = true then
    (evP s.heap.get s.next (.append e sz b (.slice a n c) (.slice (some ⟨yb, oy, none⟩) 1 yc))).map fun r => (r.val, ⟨applyUpd s.heap r.upd, r.next⟩)
  else none

def insMid (e : TypeId) (sz b : Nat) (s : St) (id oo n c k yb oy : Nat) : Option (Value × St) :=
  match s.heap.get id, s.heap.get yb with
  | some (.cells cs t z false), some (.cells ys ty zy false) =>
    if id ≠ yb ∧ z = sz ∧ 1 < zy ∧ t = e ∧ cs.all primV = true ∧ ys.all primV = true ∧ oy + sz ≤ ys.length ∧ n ≤ c ∧ oo + c * sz ≤ cs.length ∧ tooBig (n + 1) b = false then
      some (if n + 1 ≤ c then (.slice (some ⟨id, oo, none⟩) (n + 1) c, ⟨s.heap.put id (some (.cells (insPlace cs oo k n sz ((ys.drop oy).take sz)) e sz false)), s.next⟩)
        else (.slice (some ⟨s.next, 0, none⟩) (n + 1) (n + 1), ⟨applyUpd s.heap [(s.next, some (.cells (insGrow cs oo k n sz ((ys.drop oy).take sz)) e sz false)), (id, none)], s.next + 1⟩))
    else none
  | _, _ => none

def insSem (ki : FuncId) (e : TypeId) (sz b : Nat) : CallSem := fun f args s =>
  if f = ki ∧ 1 < sz ∧ sz < 4294967296 then
    match args with
    | [.slice a n c, .int .i64 i, .slice (some ⟨yb, oy, none⟩) 1 yc] =>
      if i = (n : Int) then insEnd e sz b s a n c yb oy yc
      else if 0 ≤ i ∧ i < (n : Int) then
        match a with
        | some ⟨id, oo, none⟩ => insMid e sz b s id oo n c i.toNat yb oy
        | _ => none
      else none
    | _ => none
  else none

/-! ### The world's side -/

theorem prim_get {l : List Value} (h : l.all primV = true) {i : Nat} (hi : i < l.length) : primV l[i] = true := List.all_eq_true.1 h _ (List.getElem_mem hi)

theorem ORel.prim {β β' : Map} {r : Rec} {c : List Value} {t : TypeId} {sz : Nat} {ro : Bool} {q : Option Obj} (h : ORel β r (.cells c t sz ro) q) (hp : c.all primV = true) : ORel β' r (.cells c t sz ro) q := by
  obtain ⟨C, fr, rfl, h1, h2, h3, h4, h5, h6⟩ := h.cells_inv
  refine ⟨rfl, h1, h2, h3, h4, fun i hi => ?_, h6⟩
  obtain ⟨y, hy, hv⟩ := h5 i hi
  exact ⟨y, hy, by rw [prim_inv (prim_get hp hi) hv]; exact .prim _ (prim_get hp hi)⟩

/-- A stretch of a block of plain cells. -/
theorem orel_mid {β β' : Map} {r rn : Rec} {D A B : List Value} {e : TypeId} {z2 sz : Nat} {q : Option Obj} (h : ORel β r (.cells (D ++ A ++ B) e z2 false) q) (hp : (D ++ A ++ B).all primV = true) (hz : 1 < z2)
    (hb : rn.base = r.base + D.length) (hn : rn.n = A.length) (hs : rn.slack ≠ 0 → rn.sz = sz ∧ sz < 4294967296) (hB : rn.slack * rn.sz ≤ B.length) : ORel β' rn (.cells A e sz false) q := by
  obtain ⟨C, fr, rfl, h1, h2, h3, h4, h5, h6, h7⟩ := h.cells_inv
  have hfe : fr.1 = fr.2 := by rcases h6 rfl with h | ⟨h, _⟩ <;> omega
  simp only [List.length_append] at h4 h5
  have key : ∀ i (hi : i < (D ++ A ++ B).length), C[r.base + i]? = some ((D ++ A ++ B)[i]) := fun i hi => by
    obtain ⟨y, hy, hv⟩ := h5 i (by simp only [List.length_append] at hi ⊢; exact hi)
    rw [hy, prim_inv (prim_get hp hi) hv]
  have hlen : (D ++ A ++ B).length = D.length + A.length + B.length := by simp only [List.length_append]
  refine ⟨rfl, hn, by simp, hs, by omega, fun i hi => ?_, fun _ => .inl hfe, fun i hi => ?_⟩
  · have hk := key (D.length + i) (by omega)
    have hx : (D ++ A ++ B)[D.length + i]'(by omega) = A[i] := by
      rw [List.getElem_append_left (by simp; omega), List.getElem_append_right (by omega)]
      congr 1; omega
    rw [hx] at hk
    refine ⟨A[i], by rw [hb, Nat.add_assoc]; exact hk, .prim _ (prim_get (List.all_eq_true.2 fun v hv => List.all_eq_true.1 hp v (by simp [hv])) hi)⟩
  · have hk := key (D.length + A.length + i) (by omega)
    refine ⟨_, by rw [hb, show r.base + D.length + A.length + i = r.base + (D.length + A.length + i) by omega]; exact hk, prim_get hp _⟩

section
variable {β : Map} {h : HF} {w w' : World} {n id yb : Nat} {r ry rn : Rec} {ob oy o' : AObj}
/-- The slice's block goes and there is a new one. -/
theorem ins_kill (hs : Sim β h w) (hn : β n = none) (hb : β id = some r) (ho : h id = some ob) (hro : ob.isRo = false) (hyb : β yb = some ry) (hoy : h yb = some oy) (hroy : oy.isRo = false) (hro' : o'.isRo = false)
    (hk : ∀ k, k < w.heap.size → k ≠ r.blk → k ≠ ry.blk → w'.heap[k]? = w.heap[k]?) (hsz : w.heap.size ≤ w'.heap.size) (h1 : w'.os = w.os) (h2 : w'.tape = w.tape) (h3 : w'.output = w.output)
    (hblk : rn.blk = r.blk ∨ w.heap.size ≤ rn.blk) (hnew : ORel (ext β n rn) rn o' w'.heap[rn.blk]?) (hyy : ORel β ry oy w'.heap[ry.blk]?) :
    Sim (ext β n rn) (fun j => if j = id then none else if j = n then some o' else h j) w' ∧
      Step β h w (ext β n rn) (fun j => if j = id then none else if j = n then some o' else h j) w' n (n + 1) := by
  have hle := ext_le (r := rn) hn
  have hne : id ≠ n := fun e => by subst e; rw [hn] at hb; cases hb
  have hold : ∀ j q x, ext β n rn j = some q → (if j = id then none else if j = n then some o' else h j) = some x → j ≠ n → β j = some q ∧ h j = some x ∧ q.blk ≠ r.blk ∧ q.blk < w.heap.size := by
    intro j q x e f i
    simp only [ext, if_neg i] at e
    by_cases i' : j = id
    · rw [if_pos i'] at f; cases f
    · rw [if_neg i', if_neg i] at f
      refine ⟨e, f, fun g => ?_, hs.lt e f⟩
      rcases hs.inj j id q r x ob e hb f ho g with i2 | ⟨_, i2⟩
      · exact i' i2
      · rw [hro] at i2; cases i2
  have hnb : ∀ j q x, ext β n rn j = some q → (if j = id then none else if j = n then some o' else h j) = some x → j ≠ n → q.blk ≠ rn.blk := by
    intro j q x e f i
    obtain ⟨_, _, c, d⟩ := hold j q x e f i
    rcases hblk with hb | hb
    · rw [hb]; exact c
    · omega
  refine ⟨⟨fun j q x e f => ?_, fun i1 i2 q1 q2 x1 x2 e1 e2 f1 f2 g => ?_⟩, hle, by omega, fun j q e f => ?_, fun k hk' hn' => ?_, hsz, fun k hk' hlt => ?_, fun j q x e f g => ?_, h1, h2, h3⟩
  · by_cases i : j = n
    · subst i
      simp only [ext, if_true, Option.some.injEq] at e
      subst e
      rw [if_neg (Ne.symm hne), if_pos rfl] at f; cases f
      exact hnew
    · obtain ⟨a, b, c, d⟩ := hold j q x e f i
      by_cases iy : j = yb
      · subst iy
        rw [hyb] at a; cases a
        rw [hoy] at b; cases b
        exact hyy.mono hle
      · rw [hk q.blk d c fun g => ?_]
        · exact (hs.obj j q x a b).mono hle
        · rcases hs.inj j yb q ry x oy a hyb b hoy g with i2 | ⟨_, i2⟩
          · exact iy i2
          · rw [hroy] at i2; cases i2
  · by_cases i : i1 = n
    · by_cases j : i2 = n
      · exact .inl (i.trans j.symm)
      · have := hnb i2 q2 x2 e2 f2 j
        subst i
        simp only [ext, if_true, Option.some.injEq] at e1
        subst e1
        exact absurd g.symm this
    · by_cases j : i2 = n
      · have := hnb i1 q1 x1 e1 f1 i
        subst j
        simp only [ext, if_true, Option.some.injEq] at e2
        subst e2
        exact absurd g this
      · obtain ⟨a1, b1, _⟩ := hold i1 q1 x1 e1 f1 i
        obtain ⟨a2, b2, _⟩ := hold i2 q2 x2 e2 f2 j
        exact hs.inj i1 i2 q1 q2 x1 x2 a1 a2 b1 b2 g
  · by_cases i : j = n
    · omega
    · simp only [ext, if_neg i] at e; rw [f] at e; cases e
  · exact hk k hk' (fun e => hn' ⟨id, r, ob, hb, ho, hro, e.symm⟩) fun e => hn' ⟨yb, ry, oy, hyb, hoy, hroy, e.symm⟩
  · obtain ⟨j, q, x, e, f, g, hq⟩ := hk'
    by_cases i : j = n
    · subst i
      simp only [ext, if_true, Option.some.injEq] at e
      subst e
      rcases hblk with hb' | hb'
      · exact ⟨id, r, ob, hb, ho, hro, hb'.symm.trans hq⟩
      · omega
    · obtain ⟨a, b, _⟩ := hold j q x e f i
      exact ⟨j, q, x, a, b, g, hq⟩
  · by_cases i : j = n
    · subst i
      rw [if_neg (Ne.symm hne), if_pos rfl] at f; cases f; rw [hro'] at g; cases g
    · obtain ⟨a, b, _⟩ := hold j q x e f i
      exact ⟨a, b⟩

/-- The slice's block is written. -/
theorem ins_write (hs : Sim β h w) (hb : β id = some r) (ho : h id = some ob) (hro : ob.isRo = false) (hyb : β yb = some ry) (hoy : h yb = some oy) (hroy : oy.isRo = false) (hne : id ≠ yb) (hro' : o'.isRo = false)
    (hk : ∀ k, k < w.heap.size → k ≠ r.blk → k ≠ ry.blk → w'.heap[k]? = w.heap[k]?) (hsz : w.heap.size ≤ w'.heap.size) (h1 : w'.os = w.os) (h2 : w'.tape = w.tape) (h3 : w'.output = w.output)
    (hnew : ORel β r o' w'.heap[r.blk]?) (hyy : ORel β ry oy w'.heap[ry.blk]?) :
    Sim β (fun j => if j = id then some o' else h j) w' ∧ Step β h w β (fun j => if j = id then some o' else h j) w' n n := by
  have hold : ∀ j q x, β j = some q → (if j = id then some o' else h j) = some x → j ≠ id → h j = some x ∧ q.blk ≠ r.blk ∧ q.blk < w.heap.size := by
    intro j q x e f i
    rw [if_neg i] at f
    refine ⟨f, fun g => ?_, hs.lt e f⟩
    rcases hs.inj j id q r x ob e hb f ho g with i' | ⟨_, i'⟩
    · exact i i'
    · rw [hro] at i'; cases i'
  refine ⟨⟨fun j q x e f => ?_, fun i1 i2 q1 q2 x1 x2 e1 e2 f1 f2 g => ?_⟩, Map.le_refl β, Nat.le_refl _, fun j q e f => (by rw [f] at e; cases e), fun k hk' hn => ?_, hsz, fun k hk' _ => ?_, fun j q x e f g => ?_, h1, h2, h3⟩
  · by_cases i : j = id
    · subst i
      rw [hb] at e; cases e
      rw [if_pos rfl] at f; cases f
      exact hnew
    · obtain ⟨a, b, c⟩ := hold j q x e f i
      by_cases iy : j = yb
      · subst iy
        rw [hyb] at e; cases e
        rw [hoy] at a; cases a
        exact hyy
      · rw [hk q.blk c b fun g => ?_]
        · exact hs.obj j q x e a
        · rcases hs.inj j yb q ry x oy e hyb a hoy g with i2 | ⟨_, i2⟩
          · exact iy i2
          · rw [hroy] at i2; cases i2
  · by_cases i : i1 = id
    · by_cases j : i2 = id
      · exact .inl (i.trans j.symm)
      · obtain ⟨_, b, _⟩ := hold i2 q2 x2 e2 f2 j
        subst i; rw [hb] at e1; cases e1
        exact absurd g.symm b
    · by_cases j : i2 = id
      · obtain ⟨_, b, _⟩ := hold i1 q1 x1 e1 f1 i
        subst j; rw [hb] at e2; cases e2
        exact absurd g b
      · exact hs.inj i1 i2 q1 q2 x1 x2 e1 e2 (hold i1 q1 x1 e1 f1 i).1 (hold i2 q2 x2 e2 f2 j).1 g
  · exact hk k hk' (fun e => hn ⟨id, r, ob, hb, ho, hro, e.symm⟩) fun e => hn ⟨yb, ry, oy, hyb, hoy, hroy, e.symm⟩
  · obtain ⟨j, q, x, e, f, g, hq⟩ := hk'
    by_cases i : j = id
    · subst i; rw [hb] at e; cases e
      exact ⟨j, r, ob, hb, ho, hro, hq⟩
    · exact ⟨j, q, x, e, (hold j q x e f i).1, g, hq⟩
  · by_cases i : j = id
    · rw [if_pos i] at f; cases f; rw [hro'] at g; cases g
    · exact ⟨e, (hold j q x e f i).1⟩
end

end Go.Abs
