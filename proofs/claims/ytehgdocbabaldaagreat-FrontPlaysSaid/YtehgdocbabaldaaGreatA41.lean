/-
  slices.Insert as a call whose answer is known: the slice's real room does not show.
-/
import Derived.Test.YtehgdocbabaldaaGreatA38
set_option linter.unusedVariables false
set_option linter.unusedSimpArgs false
set_option maxRecDepth 100000
namespace Go.Abs
open Go Go.Abs.K

def sliceOk (sz : Nat) (s : St) : Option Addr → Bool
  | none => true
  | some ad => match s.heap.get ad.block with
    | some (.cells _ _ z ro) => decide (ad.spot = none) && (ro || z == sz)
    | _ => false

def insEnd (e : TypeId) (sz b : Nat) (s : St) (a : Option Addr) (n c yb oy yc : Nat) : Option (Value × St) :=
  if n ≤ c ∧ sliceOk sz s a = true then
    (evP s.heap.get s.next (.append e sz b (.slice a n c) (.slice (some ⟨yb, oy, none⟩) 1 yc))).map fun r => (r.val, ⟨applyUpd s.heap r.upd, r.next⟩)
  else none

def insMid (e : TypeId) (sz b : Nat) (s : St) (id oo n c k yb oy : Nat) : Option (Value × St) :=
  match s.heap.get id, s.heap.get yb with
  | some (.cells cs t z false), some (.cells ys ty zy false) =>
    if id ≠ yb ∧ z = sz ∧ 1 < zy ∧ t = e ∧ cs.all primV = true ∧ ys.all primV = true ∧ oy + sz ≤ ys.length ∧ n ≤ c ∧ oo + c * sz ≤ cs.length ∧ tooBig (n + 1) b = false then
      some (if n + 1 ≤ c then (.slice (some ⟨id, oo, none⟩) (n + 1) c, ⟨s.heap.put id (some (.cells (insPlace cs oo k n sz ((ys.drop oy).take sz)) e sz false)), s.next⟩)
        else (.slice (some ⟨s.next, 0, none⟩) (n + 1) (n + 1), ⟨applyUpd s.heap [(s.next, some (.cells (insGrow cs oo k n sz ((ys.drop oy).take sz)) e sz false)), (id, none)], s.next + 1⟩))
    else none
  | _, _ => none

def insSem (ki : FuncId) (e : TypeId) (sz b : Nat) : CallSem := fun f args s =>
  if f = ki ∧ 1 < sz ∧ sz < 4294967296 then
    match args with
    | [.slice a n c, .int .i64 i, .slice (some ⟨yb, oy, none⟩) 1 yc] =>
      if i = (n : Int) then insEnd e sz b s a n c yb oy yc
      else if 0 ≤ i ∧ i < (n : Int) then
        match a with
        | some ⟨id, oo, none⟩ => insMid e sz b s id oo n c i.toNat yb oy
        | _ => none
      else none
    | _ => none
  else none

/-! ### The world's side -/

theorem prim_get {l : List Value} (h : l.all primV = true) {i : Nat} (hi : i < l.length) : primV l[i] = true := List.all_eq_true.1 h _ (List.getElem_mem hi)

theorem ORel.prim {β β' : Map} {r : Rec} {c : List Value} {t : TypeId} {sz : Nat} {ro : Bool} {q : Option Obj} (h : ORel β r (.cells c t sz ro) q) (hp : c.all primV = true) : ORel β' r (.cells c t sz ro) q := by
  obtain ⟨C, fr, rfl, h1, h2, h3, h4, h5, h6⟩ := h.cells_inv
  refine ⟨rfl, h1, h2, h3, h4, fun i hi => ?_, h6⟩
  obtain ⟨y, hy, hv⟩ := h5 i hi
  exact ⟨y, hy, by rw [prim_inv (prim_get hp hi) hv]; exact .prim _ (prim_get hp hi)⟩

theorem orel_mid {β β' : Map} {r rn : Rec} {D A B : List Value} {e : TypeId} {z2 sz : Nat} {q : Option Obj} (h : ORel β r (.cells (D ++ A ++ B) e z2 false) q) (hp : (D ++ A ++ B).all primV = true) (hz : 1 < z2)
    (hb : rn.base = r.base + D.length) (hn : rn.n = A.length) (hs : rn.slack ≠ 0 → rn.sz = sz ∧ sz < 4294967296) (hB : rn.slack * rn.sz ≤ B.length) (hs0 : sz ≠ 0) : ORel β' rn (.cells A e sz false) q := by
  obtain ⟨C, fr, rfl, h1, h2, h3, h4, h5, h6, h7⟩ := h.cells_inv
  have hfe : fr.1 = fr.2 := by rcases h6 rfl with h | ⟨h, _⟩ <;> omega
  simp only [List.length_append] at h4 h5
  have key : ∀ i (hi : i < (D ++ A ++ B).length), C[r.base + i]? = some ((D ++ A ++ B)[i]) := fun i hi => by
    obtain ⟨y, hy, hv⟩ := h5 i (by simp only [List.length_append] at hi ⊢; exact hi)
    rw [hy, prim_inv (prim_get hp hi) hv]
  have hlen : (D ++ A ++ B).length = D.length + A.length + B.length := by simp only [List.length_append]
  refine ⟨rfl, hn, by simp, hs, by omega, fun i hi => ?_, fun _ => .inl hfe, fun _ i hi => ?_, fun h => absurd h hs0⟩
  · have hk := key (D.length + i) (by omega)
    have hx : (D ++ A ++ B)[D.length + i]'(by omega) = A[i] := by
      rw [List.getElem_append_left (by simp; omega), List.getElem_append_right (by omega)]
      congr 1; omega
    rw [hx] at hk
    refine ⟨A[i], by rw [hb, Nat.add_assoc]; exact hk, .prim _ (prim_get (List.all_eq_true.2 fun v hv => List.all_eq_true.1 hp v (by simp [hv])) hi)⟩
  · have hk := key (D.length + A.length + i) (by omega)
    refine ⟨_, by rw [hb, show r.base + D.length + A.length + i = r.base + (D.length + A.length + i) by omega]; exact hk, prim_get hp _⟩

section
variable {β : Map} {h : HF} {w w' : World} {n id yb : Nat} {r ry rn : Rec} {ob oy o' : AObj}
theorem ins_kill (hs : Sim β h w) (hn : β n = none) (hb : β id = some r) (ho : h id = some ob) (hro : ob.isRo = false) (hyb : β yb = some ry) (hoy : h yb = some oy) (hroy : oy.isRo = false) (hro' : o'.isRo = false)
    (hk : ∀ k, k < w.heap.size → k ≠ r.blk → k ≠ ry.blk → w'.heap[k]? = w.heap[k]?) (hsz : w.heap.size ≤ w'.heap.size) (h1 : w'.os = w.os) (h2 : w'.tape = w.tape) (h3 : w'.output = w.output)
    (hblk : rn.blk = r.blk ∨ w.heap.size ≤ rn.blk) (hnew : ORel (ext β n rn) rn o' w'.heap[rn.blk]?) (hyy : ORel β ry oy w'.heap[ry.blk]?) :
    Sim (ext β n rn) (fun j => if j = id then none else if j = n then some o' else h j) w' ∧
      Step β h w (ext β n rn) (fun j => if j = id then none else if j = n then some o' else h j) w' n (n + 1) := by
  have hle := ext_le (r := rn) hn
  have hne : id ≠ n := fun e => by subst e; rw [hn] at hb; cases hb
  have hold : ∀ j q x, ext β n rn j = some q → (if j = id then none else if j = n then some o' else h j) = some x → j ≠ n → β j = some q ∧ h j = some x ∧ q.blk ≠ r.blk ∧ q.blk < w.heap.size := by
    intro j q x e f i
    simp only [ext, if_neg i] at e
    by_cases i' : j = id
    · rw [if_pos i'] at f; cases f
    · rw [if_neg i', if_neg i] at f
      refine ⟨e, f, fun g => ?_, hs.lt e f⟩
      rcases hs.inj j id q r x ob e hb f ho g with i2 | ⟨_, i2⟩
      · exact i' i2
      · rw [hro] at i2; cases i2
  have hnb : ∀ j q x, ext β n rn j = some q → (if j = id then none else if j = n then some o' else h j) = some x → j ≠ n → q.blk ≠ rn.blk := by
    intro j q x e f i
    obtain ⟨_, _, c, d⟩ := hold j q x e f i
    rcases hblk with hb | hb
    · rw [hb]; exact c
    · omega
  refine ⟨⟨fun j q x e f => ?_, fun i1 i2 q1 q2 x1 x2 e1 e2 f1 f2 g => ?_⟩, hle, by omega, fun j q e f => ?_, fun k hk' hn' => ?_, hsz, fun k hk' hlt => ?_, fun j q x e f g => ?_, h1, h2, h3⟩
  · by_cases i : j = n
    · subst i
      simp only [ext, if_true, Option.some.injEq] at e
      subst e
      rw [if_neg (Ne.symm hne), if_pos rfl] at f; cases f
      exact hnew
    · obtain ⟨a, b, c, d⟩ := hold j q x e f i
      by_cases iy : j = yb
      · subst iy
        rw [hyb] at a; cases a
        rw [hoy] at b; cases b
        exact hyy.mono hle
      · rw [hk q.blk d c fun g => ?_]
        · exact (hs.obj j q x a b).mono hle
        · rcases hs.inj j yb q ry x oy a hyb b hoy g with i2 | ⟨_, i2⟩
          · exact iy i2
          · rw [hroy] at i2; cases i2
  · by_cases i : i1 = n
    · by_cases j : i2 = n
      · exact .inl (i.trans j.symm)
      · have := hnb i2 q2 x2 e2 f2 j
        subst i
        simp only [ext, if_true, Option.some.injEq] at e1
        subst e1
        exact absurd g.symm this
    · by_cases j : i2 = n
      · have := hnb i1 q1 x1 e1 f1 i
        subst j
        simp only [ext, if_true, Option.some.injEq] at e2
        subst e2
        exact absurd g this
      · obtain ⟨a1, b1, _⟩ := hold i1 q1 x1 e1 f1 i
        obtain ⟨a2, b2, _⟩ := hold i2 q2 x2 e2 f2 j
        exact hs.inj i1 i2 q1 q2 x1 x2 a1 a2 b1 b2 g
  · by_cases i : j = n
    · omega
    · simp only [ext, if_neg i] at e; rw [f] at e; cases e
  · exact hk k hk' (fun e => hn' ⟨id, r, ob, hb, ho, hro, e.symm⟩) fun e => hn' ⟨yb, ry, oy, hyb, hoy, hroy, e.symm⟩
  · obtain ⟨j, q, x, e, f, g, hq⟩ := hk'
    by_cases i : j = n
    · subst i
      simp only [ext, if_true, Option.some.injEq] at e
      subst e
      rcases hblk with hb' | hb'
      · exact ⟨id, r, ob, hb, ho, hro, hb'.symm.trans hq⟩
      · omega
    · obtain ⟨a, b, _⟩ := hold j q x e f i
      exact ⟨j, q, x, a, b, g, hq⟩
  · by_cases i : j = n
    · subst i
      rw [if_neg (Ne.symm hne), if_pos rfl] at f; cases f; rw [hro'] at g; cases g
    · obtain ⟨a, b, _⟩ := hold j q x e f i
      exact ⟨a, b⟩

theorem ins_write (hs : Sim β h w) (hb : β id = some r) (ho : h id = some ob) (hro : ob.isRo = false) (hyb : β yb = some ry) (hoy : h yb = some oy) (hroy : oy.isRo = false) (hne : id ≠ yb) (hro' : o'.isRo = false)
    (hk : ∀ k, k < w.heap.size → k ≠ r.blk → k ≠ ry.blk → w'.heap[k]? = w.heap[k]?) (hsz : w.heap.size ≤ w'.heap.size) (h1 : w'.os = w.os) (h2 : w'.tape = w.tape) (h3 : w'.output = w.output)
    (hnew : ORel β r o' w'.heap[r.blk]?) (hyy : ORel β ry oy w'.heap[ry.blk]?) :
    Sim β (fun j => if j = id then some o' else h j) w' ∧ Step β h w β (fun j => if j = id then some o' else h j) w' n n := by
  have hold : ∀ j q x, β j = some q → (if j = id then some o' else h j) = some x → j ≠ id → h j = some x ∧ q.blk ≠ r.blk ∧ q.blk < w.heap.size := by
    intro j q x e f i
    rw [if_neg i] at f
    refine ⟨f, fun g => ?_, hs.lt e f⟩
    rcases hs.inj j id q r x ob e hb f ho g with i' | ⟨_, i'⟩
    · exact i i'
    · rw [hro] at i'; cases i'
  refine ⟨⟨fun j q x e f => ?_, fun i1 i2 q1 q2 x1 x2 e1 e2 f1 f2 g => ?_⟩, Map.le_refl β, Nat.le_refl _, fun j q e f => (by rw [f] at e; cases e), fun k hk' hn => ?_, hsz, fun k hk' _ => ?_, fun j q x e f g => ?_, h1, h2, h3⟩
  · by_cases i : j = id
    · subst i
      rw [hb] at e; cases e
      rw [if_pos rfl] at f; cases f
      exact hnew
    · obtain ⟨a, b, c⟩ := hold j q x e f i
      by_cases iy : j = yb
      · subst iy
        rw [hyb] at e; cases e
        rw [hoy] at a; cases a
        exact hyy
      · rw [hk q.blk c b fun g => ?_]
        · exact hs.obj j q x e a
        · rcases hs.inj j yb q ry x oy e hyb a hoy g with i2 | ⟨_, i2⟩
          · exact iy i2
          · rw [hroy] at i2; cases i2
  · by_cases i : i1 = id
    · by_cases j : i2 = id
      · exact .inl (i.trans j.symm)
      · obtain ⟨_, b, _⟩ := hold i2 q2 x2 e2 f2 j
        subst i; rw [hb] at e1; cases e1
        exact absurd g.symm b
    · by_cases j : i2 = id
      · obtain ⟨_, b, _⟩ := hold i1 q1 x1 e1 f1 i
        subst j; rw [hb] at e2; cases e2
        exact absurd g b
      · exact hs.inj i1 i2 q1 q2 x1 x2 e1 e2 (hold i1 q1 x1 e1 f1 i).1 (hold i2 q2 x2 e2 f2 j).1 g
  · exact hk k hk' (fun e => hn ⟨id, r, ob, hb, ho, hro, e.symm⟩) fun e => hn ⟨yb, ry, oy, hyb, hoy, hroy, e.symm⟩
  · obtain ⟨j, q, x, e, f, g, hq⟩ := hk'
    by_cases i : j = id
    · subst i; rw [hb] at e; cases e
      exact ⟨j, r, ob, hb, ho, hro, hq⟩
    · exact ⟨j, q, x, e, (hold j q x e f i).1, g, hq⟩
  · by_cases i : j = id
    · rw [if_pos i] at f; cases f; rw [hro'] at g; cases g
    · exact ⟨e, (hold j q x e f i).1⟩
end

end Go.Abs


/-
  slices.Insert as a call whose answer is known.
-/
set_option linter.unusedVariables false
set_option linter.unusedSimpArgs false
set_option maxRecDepth 100000
namespace Go.Abs
open Go Go.Abs.K

theorem insPlace_append (c st : List Value) (o k n sz : Nat) (row : List Value) (hk : k ≤ n) (h : o + (n + 1) * sz ≤ c.length) : insPlace (c ++ st) o k n sz row = insPlace c o k n sz row ++ st := by
  have h1 : k * sz + (n - k) * sz = n * sz := by rw [← Nat.add_mul]; congr 1; omega
  have h2 : (n + 1) * sz = n * sz + sz := by rw [Nat.add_mul, Nat.one_mul]
  unfold insPlace
  rw [List.take_append_of_le_length (by omega), List.drop_append_of_le_length (l₁ := c) (i := o + k * sz) (by omega), List.take_append_of_le_length (by simp; omega), List.drop_append_of_le_length (l₁ := c) (i := o + (n + 1) * sz) (by omega)]
  simp only [List.append_assoc]

theorem insGrow_append (c st : List Value) (o k n sz : Nat) (row : List Value) (hk : k ≤ n) (h : o + n * sz ≤ c.length) : insGrow (c ++ st) o k n sz row = insGrow c o k n sz row := by
  have h1 : k * sz + (n - k) * sz = n * sz := by rw [← Nat.add_mul]; congr 1; omega
  unfold insGrow
  rw [List.drop_append_of_le_length (l₁ := c) (i := o + k * sz) (by omega), List.take_append_of_le_length (by simp; omega), List.drop_append_of_le_length (l₁ := c) (i := o) (by omega), List.take_append_of_le_length (by simp; omega)]

theorem insPlace_eq (c : List Value) (o k n sz : Nat) (row : List Value) (h : o + k * sz ≤ c.length) : insPlace c o k n sz row = c.take o ++ insGrow c o k n sz row ++ c.drop (o + (n + 1) * sz) := by
  unfold insPlace insGrow
  rw [List.take_add]
  simp only [List.append_assoc]

theorem insGrow_length (c : List Value) (o k n sz : Nat) (row : List Value) (hr : row.length = sz) (hk : k ≤ n) (h : o + n * sz ≤ c.length) : (insGrow c o k n sz row).length = (n + 1) * sz := by
  have h1 : k * sz + (n - k) * sz = n * sz := by rw [← Nat.add_mul]; congr 1; omega
  have h2 : (n + 1) * sz = n * sz + sz := by rw [Nat.add_mul, Nat.one_mul]
  unfold insGrow
  simp only [List.length_append, List.length_take, List.length_drop, hr]
  omega

theorem all_mid {p : Value → Bool} {c ys : List Value} {o k n sz : Nat} (hc : c.all p = true) (hy : ys.all p = true) : (insPlace c o k n sz ys).all p = true := by
  simp only [List.all_eq_true] at hc hy ⊢
  intro x hx
  unfold insPlace at hx
  simp only [List.mem_append] at hx
  rcases hx with ((hx | hx) | hx) | hx
  · exact hc _ (List.mem_of_mem_take hx)
  · exact hy _ hx
  · exact hc _ (List.mem_of_mem_drop (List.mem_of_mem_take hx))
  · exact hc _ (List.mem_of_mem_drop hx)
theorem all_grow {p : Value → Bool} {c ys : List Value} {o k n sz : Nat} (hc : c.all p = true) (hy : ys.all p = true) : (insGrow c o k n sz ys).all p = true := by
  simp only [List.all_eq_true] at hc hy ⊢
  intro x hx
  unfold insGrow at hx
  simp only [List.mem_append] at hx
  rcases hx with (hx | hx) | hx
  · exact hc _ (List.mem_of_mem_drop (List.mem_of_mem_take hx))
  · exact hy _ hx
  · exact hc _ (List.mem_of_mem_drop (List.mem_of_mem_take hx))

theorem ins_mid_ok {P : Program} {ki kv kr : FuncId} {e : TypeId} {sz b : Nat} {z : List Value} (hm : P.follows .mixedOrders = true) (hf : FunOK P ki (insFun e sz b z kv kr)) (hov : OvlOK P kv) (hkv : ki ≠ kv) (hzl : z.length = sz) (hsz : 1 < sz) (h32 : sz < 4294967296)
    {s s' : St} {id oo n c k yb oy yc : Nat} {u : Value} (hws : WFs s) (hk : k < n) (hq : insMid e sz b s id oo n c k yb oy = some (u, s')) :
    CallOK P ki [.slice (some ⟨id, oo, none⟩) n c, .int .i64 (k : Nat), .slice (some ⟨yb, oy, none⟩) 1 yc] s u s' := by
  unfold insMid at hq
  split at hq
  case h_2 => cases hq
  rename_i cs t z0 ys ty zy hid hy
  split at hq
  case isFalse => cases hq
  rename_i hc
  obtain ⟨hne, hz0, hzy, rfl, hcp, hyp, hoy, hnc, ho, hbig⟩ := hc
  have hz0 := hz0.symm
  subst hz0
  have hn46 := (tooBig_spec hbig).2
  have hid1 : id < s.next := Nat.lt_of_not_le fun h => by rw [hws id h] at hid; cases hid
  have hy1 : yb < s.next := Nat.lt_of_not_le fun h => by rw [hws yb h] at hy; cases hy
  have hnx : s.next ≤ s'.next := by
    split at hq <;> (simp only [Option.some.injEq, Prod.mk.injEq] at hq; obtain ⟨_, rfl⟩ := hq)
    · exact Nat.le_refl _
    · exact Nat.le_succ _
  refine ⟨hnx, fun β w args' hs hfr ha => ?_⟩
  cases ha with | cons h1 ha => ?_
  cases ha with | cons h2 ha => ?_
  cases ha with | cons h3 ha => ?_
  cases ha
  have hi := prim_inv rfl h2
  subst hi
  cases h1 with
  | prim _ hp => simp [primV] at hp
  | empty _ => omega
  | slice hb hc1 =>
    rename_i c' r
    cases h3 with
    | prim _ hp => simp [primV] at hp
    | slice hyb hc3 =>
      rename_i yc' ry
      have hid2 := hs.obj id r _ hb hid
      have hy2 := hs.obj yb ry _ hyb hy
      obtain ⟨C, fr, hq0, g1, g2, g3, g4, g5, g6, g7⟩ := hid2.cells_inv
      have hfe : fr.1 = fr.2 := by rcases g6 rfl with h | ⟨h, _⟩ <;> omega
      -- what lies behind
      obtain ⟨st, hst, hst1, hst2⟩ : ∃ st : List Value, st.length = r.slack * r.sz ∧ st.all primV = true ∧ ∀ i, (hi : i < st.length) → C[r.base + cs.length + i]? = some st[i] := by
        refine ⟨(C.toList.drop (r.base + cs.length)).take (r.slack * r.sz), by simp; omega, ?_, fun i hi => ?_⟩
        · rw [List.all_eq_true]
          intro x hx
          obtain ⟨i, hi, rfl⟩ := List.mem_iff_getElem.1 hx
          simp only [List.length_take, List.length_drop, Array.length_toList] at hi
          obtain ⟨y, hy, hp⟩ := g7.1 hsz i (by omega)
          simp only [List.getElem_take, List.getElem_drop, Array.getElem_toList]
          rw [Array.getElem?_eq_getElem (by omega)] at hy
          cases hy
          exact hp
        · simp only [List.length_take, List.length_drop, Array.length_toList] at hi
          simp only [List.getElem_take, List.getElem_drop, Array.getElem_toList]
          exact Array.getElem?_eq_getElem (by omega)
      have hmulc : (c + r.slack) * sz = c * sz + r.slack * sz := Nat.add_mul ..
      have ho' : oo + c' * sz ≤ (cs ++ st).length := by
        rw [List.length_append, hst]
        rcases hc1 with rfl | ⟨rfl, he⟩
        · omega
        · by_cases h0 : r.slack = 0
          · rw [h0] at hmulc ⊢; omega
          · rw [(g3 h0).1]; omega
      have hnc' : n ≤ c' := by rcases hc1 with rfl | ⟨rfl, _⟩ <;> omega
      have hnm : n * sz ≤ c * sz := Nat.mul_le_mul_right _ hnc
      have hp2 : (cs ++ st).all primV = true := by rw [List.all_append, hcp, hst1]; rfl
      have hrow : ((ys.drop oy).take sz).length = sz := by simp; omega
      have hrp : ((ys.drop oy).take sz).all primV = true := List.all_eq_true.2 fun v hv => List.all_eq_true.1 hyp v (List.mem_of_mem_drop (List.mem_of_mem_take hv))
      have hnb : r.blk ≠ ry.blk := fun hh => by
        rcases hs.inj id yb r ry _ _ hb hyb hid hy hh with hx | ⟨hx, _⟩
        · exact hne hx
        · cases hx
      -- the small heap
      obtain ⟨r2, hr2⟩ : ∃ r2 : Rec, r2 = ⟨r.blk, r.base, 0, (cs ++ st).length, sz⟩ := ⟨_, rfl⟩
      obtain ⟨β2, hβ2⟩ : ∃ β2 : Map, β2 = fun j => if j = id then some r2 else if j = yb then some ry else none := ⟨_, rfl⟩
      have b1 : β2 id = some r2 := by rw [hβ2]; simp
      have b2 : β2 yb = some ry := by rw [hβ2]; simp [Ne.symm hne]
      have hsim : ∀ (z2 : Nat) (ro2 : Bool), z2 ≠ 0 → Sim β2 (Heap.get [(id, some (.cells (cs ++ st) t z2 ro2)), (yb, some (.cells ys ty zy false))]) w := by
        intro z2 ro2 hz20
        refine ⟨fun j q x e f => ?_, fun i1 i2 q1 q2 x1 x2 e1 e2 f1 f2 g => ?_⟩
        · rw [hβ2] at e
          simp only [Heap.get] at e f
          by_cases h1 : j = id
          · rw [if_pos h1] at e f
            cases e; cases f
            rw [hr2]
            simp only
            rw [hq0]
            refine ⟨rfl, rfl, fun _ => rfl, fun h => absurd rfl h, by simp only [List.length_append, hst]; omega, fun i hi => ?_, fun _ => .inl hfe, fun _ i hi => by simp at hi, fun h => absurd h hz20⟩
            by_cases hlt : i < cs.length
            · obtain ⟨y, hy, hv⟩ := g5 i hlt
              refine ⟨y, hy, ?_⟩
              rw [prim_inv (prim_get hcp hlt) hv, List.getElem_append_left hlt]
              exact .prim _ (prim_get hcp hlt)
            · have hi' : i - cs.length < st.length := by simp only [List.length_append] at hi; omega
              have hx := hst2 (i - cs.length) hi'
              rw [show r.base + cs.length + (i - cs.length) = r.base + i by omega] at hx
              refine ⟨_, hx, ?_⟩
              rw [List.getElem_append_right (by omega)]
              exact .prim _ (prim_get hst1 hi')
          · rw [if_neg h1] at e f
            by_cases h2 : j = yb
            · rw [if_pos h2] at e f
              cases e; cases f
              exact hy2.prim hyp
            · rw [if_neg h2] at e; cases e
        · rw [hβ2] at e1 e2
          simp only at e1 e2
          by_cases h1 : i1 = id
          · by_cases h2 : i2 = id
            · exact .inl (h1.trans h2.symm)
            · rw [if_pos h1] at e1
              rw [if_neg h2] at e2
              by_cases h3 : i2 = yb
              · rw [if_pos h3] at e2
                cases e1; cases e2
                rw [hr2] at g
                exact absurd g hnb
              · rw [if_neg h3] at e2; cases e2
          · rw [if_neg h1] at e1
            by_cases h3 : i1 = yb
            · rw [if_pos h3] at e1
              by_cases h2 : i2 = id
              · rw [if_pos h2] at e2
                cases e1; cases e2
                rw [hr2] at g
                exact absurd g.symm hnb
              · rw [if_neg h2] at e2
                by_cases h4 : i2 = yb
                · exact .inl (h3.trans h4.symm)
                · rw [if_neg h4] at e2; cases e2
            · rw [if_neg h3] at e1; cases e1
      have hfr2 : ∀ m, Fresh β2 s.next m := fun m j hj _ => by
        rw [hβ2]
        simp only
        rw [if_neg (by omega), if_neg (by omega)]
      have hwf2 : ∀ z2 ro2, WFs ⟨[(id, some (.cells (cs ++ st) t z2 ro2)), (yb, some (.cells ys ty zy false))], s.next⟩ := fun z2 ro2 j hj => by
        simp only at hj
        simp only [Heap.get]
        rw [if_neg (by omega), if_neg (by omega)]
      have hargs : LRel β2 [.slice (some ⟨id, oo, none⟩) n c', .int .i64 (k : Nat), .slice (some ⟨yb, oy, none⟩) 1 yc] [.slice (some ⟨r.blk, r.base + oo, none⟩) n c', .int .i64 (k : Nat), .slice (some ⟨ry.blk, ry.base + oy, none⟩) 1 yc'] := by
        refine .cons ?_ (.cons (.prim _ rfl) (.cons (.slice b2 hc3) .nil))
        have := VRel.slice (β := β2) (o := oo) (len := n) (cap := c') b1 (.inl rfl)
        rw [hr2] at this
        exact this
      have htbl : TableOK P (tblOf [(ki, insFun t sz b z kv kr)]) (ovlSem kv) := tblOf_ok hm (by simpa using hf) (ovl_good hov)
      have htf : tblOf [(ki, insFun t sz b z kv kr)] ki = some (insFun t sz b z kv kr) := by simp [tblOf]
      have hown : ∀ z2 ro2 j, Owned β2 (Heap.get [(id, some (.cells (cs ++ st) t z2 ro2)), (yb, some (.cells ys ty zy false))]) j → (j = r.blk ∧ ro2 = false) ∨ j = ry.blk := by
        rintro z2 ro2 j ⟨i, q, x, e, f, g, rfl⟩
        rw [hβ2] at e
        simp only [Heap.get] at e f
        by_cases h1 : i = id
        · rw [if_pos h1] at e f
          cases e; cases f
          rw [hr2]
          exact .inl ⟨rfl, g⟩
        · rw [if_neg h1] at e f
          by_cases h2 : i = yb
          · rw [if_pos h2] at e
            cases e
            exact .inr rfl
          · rw [if_neg h2] at e; cases e
      have hyy : ∀ x : Option AObj, Heap.get [(id, x), (yb, some (.cells ys ty zy false))] yb = some (.cells ys ty zy false) := fun x => by
        simp only [Heap.get]
        rw [if_neg (Ne.symm hne), if_true]
      have hput : ∀ x, (s.heap.put id x).get = fun j => if j = id then x else s.heap.get j := fun x => funext fun j => Heap.get_put ..
      have hkl : ∀ x, (applyUpd s.heap [(s.next, some x), (id, none)]).get = fun j => if j = id then none else if j = s.next then some x else s.heap.get j := fun x => by
        funext j
        simp only [applyUpd]
        rw [Heap.get_put, Heap.get_put]
      by_cases hroom : n + 1 ≤ c'
      · -- there is room
        obtain ⟨⟨u2, s2'⟩, ⟨hu, hn2, hg2, ho2⟩, K, hK⟩ := WCall.of (ov := ovlSem kv) (args := [.slice (some ⟨id, oo, none⟩) n c', .int .i64 (k : Nat), .slice (some ⟨yb, oy, none⟩) 1 yc]) htf rfl
          (ins_place (ki := ki) (e := t) (b := b) (z := z) (kv := kv) (kr := kr) (c := cs ++ st) (t := t) (ys := ys) (ty := ty) (zy := zy) (s := ⟨[(id, some (.cells (cs ++ st) t (sz + 4294967296) false)), (yb, some (.cells ys ty zy false))], s.next⟩) (id := id) (yb := yb) (by simp [Heap.get]) (hyy _) (Ne.symm hne) hkv hk hroom (by omega) hsz hzy hp2 hyp ho' hoy)
        simp only at hu hn2 hg2 ho2
        subst hu
        refine ((call_ok htbl htf (hwf2 _ _) (hK (K + 1) (by omega))).2.2 β2 w _ (hsim _ _ (by omega)) (hfr2 _) hargs).mono ?_
        rintro ex w' ⟨v', β2', rfl, hv, hs', hst'⟩
        have b1' := hst'.le _ _ b1
        have b2' := hst'.le _ _ b2
        have oid := hs'.obj id r2 _ b1' hg2
        have oyb := hs'.obj yb ry (.cells ys ty zy false) b2' (by rw [ho2 yb (Ne.symm hne)]; exact hyy _)
        have hfrm : ∀ j, j < w.heap.size → j ≠ r.blk → j ≠ ry.blk → w'.heap[j]? = w.heap[j]? := fun j hj a b => hst'.frame j hj fun ho => (hown _ _ j ho).elim (fun h => a h.1) b
        have hv' : v' = .slice (some ⟨r.blk, r.base + oo, none⟩) (n + 1) c' := by
          cases hv with
          | prim _ hp => simp [primV] at hp
          | slice hb' hc' =>
            rename_i cc r'
            rw [b1'] at hb'
            cases hb'
            rw [hr2] at hc' ⊢
            rcases hc' with rfl | ⟨rfl, _⟩ <;> rfl
        subst hv'
        split at hq
        · rename_i hnc1
          simp only [Option.some.injEq, Prod.mk.injEq] at hq
          obtain ⟨rfl, rfl⟩ := hq
          have hle : oo + (n + 1) * sz ≤ cs.length := by
            have : (n + 1) * sz ≤ c * sz := Nat.mul_le_mul_right _ hnc1
            omega
          have hnew : ORel β r (.cells (insPlace cs oo k n sz ((ys.drop oy).take sz)) t sz false) w'.heap[r.blk]? := by
            rw [insPlace_append cs st oo k n sz _ (by omega) hle] at oid
            have hx : w'.heap[r2.blk]? = w'.heap[r.blk]? := by rw [hr2]
            rw [hx] at oid
            refine orel_mid (r := r2) (D := []) (B := st) (by simpa using oid) (by rw [List.nil_append, List.all_append, hst1, all_mid hcp hrp]; rfl) (by omega) (by rw [hr2]; rfl) ?_ g3 (by rw [hst]; exact Nat.le_refl _) (by omega)
            rw [g1]
            have hl := insPlace_eq cs oo k n sz ((ys.drop oy).take sz) (by have : k * sz ≤ n * sz := Nat.mul_le_mul_right _ (by omega); omega)
            rw [hl, List.length_append, List.length_append, insGrow_length _ _ _ _ _ _ hrow (by omega) (by omega), List.length_take, List.length_drop]
            omega
          obtain ⟨hS, hT⟩ := ins_write (n := s.next) (o' := .cells (insPlace cs oo k n sz ((ys.drop oy).take sz)) t sz false) hs hb hid rfl hyb hy rfl hne rfl hfrm hst'.size hst'.os hst'.tape hst'.output hnew (oyb.prim hyp)
          refine ⟨_, β, rfl, .slice hb hc1, ?_, ?_⟩
          · simp only [hput]; exact hS
          · simp only [hput]; exact hT
        · rename_i hnc1
          simp only [Option.some.injEq, Prod.mk.injEq] at hq
          obtain ⟨rfl, rfl⟩ := hq
          have hcn : c = n := by omega
          subst hcn
          have hle : oo + c * sz ≤ cs.length := ho
          obtain ⟨rfl, hec⟩ : c' = c + r.slack ∧ oo + c * r.sz = r.n := by
            rcases hc1 with rfl | h
            · omega
            · exact h
          have h0 : r.slack ≠ 0 := by omega
          have hrz := (g3 h0).1
          obtain ⟨rn, hrn⟩ : ∃ rn : Rec, rn = ⟨r.blk, r.base + oo, c + r.slack - (c + 1), (c + 1) * sz, sz⟩ := ⟨_, rfl⟩
          have hnew : ORel (ext β s.next rn) rn (.cells (insGrow cs oo k c sz ((ys.drop oy).take sz)) t sz false) w'.heap[rn.blk]? := by
            have hkc : k * sz ≤ c * sz := Nat.mul_le_mul_right _ (by omega)
            rw [insPlace_eq _ _ _ _ _ _ (by simp only [List.length_append]; omega), insGrow_append cs st oo k c sz _ (by omega) hle] at oid
            have hx : w'.heap[r2.blk]? = w'.heap[rn.blk]? := by rw [hr2, hrn]
            rw [hx] at oid
            have hlen := insGrow_length cs oo k c sz ((ys.drop oy).take sz) hrow (by omega) hle
            have hol : ((cs ++ st).take oo).length = oo := by simp only [List.length_take, List.length_append]; omega
            refine orel_mid oid ?_ (by omega) (by rw [hr2, hrn, hol]) (by rw [hrn, hlen]) (fun _ => ⟨by rw [hrn], h32⟩) ?_ (by omega)
            · rw [List.all_append, List.all_append, all_grow hcp hrp]
              simp only [Bool.and_true, Bool.true_and, Bool.and_eq_true, List.all_eq_true]
              exact ⟨fun v hv => List.all_eq_true.1 hp2 v (List.mem_of_mem_take hv), fun v hv => List.all_eq_true.1 hp2 v (List.mem_of_mem_drop hv)⟩
            · rw [hrn]
              simp only [List.length_drop, List.length_append, hst, hrz]
              rw [Nat.sub_mul, Nat.add_mul c r.slack]
              omega
          obtain ⟨hS, hT⟩ := ins_kill (n := s.next) (o' := .cells (insGrow cs oo k c sz ((ys.drop oy).take sz)) t sz false) hs (hfr s.next (Nat.le_refl _) (Nat.lt_succ_self _)) hb hid rfl hyb hy rfl rfl hfrm hst'.size hst'.os hst'.tape hst'.output (.inl (by rw [hrn])) hnew (oyb.prim hyp)
          refine ⟨_, ext β s.next rn, rfl, ?_, ?_, ?_⟩
          · have hx : ext β s.next rn s.next = some rn := by simp [ext]
            have := VRel.slice (β := ext β s.next rn) (o := 0) (len := c + 1) (cap := c + 1) (cap' := c + r.slack) hx (.inr ⟨by rw [hrn]; simp only; omega, by rw [hrn]; simp only; omega⟩)
            rw [hrn] at this ⊢
            exact this
          · simp only [hkl]; exact hS
          · simp only [hkl]; exact hT
      · -- there is none
        have hcc : c' = n := by omega
        have hcn : c = n := by rcases hc1 with rfl | ⟨h, _⟩ <;> omega
        obtain ⟨⟨u2, s2'⟩, ⟨hu, hn2, hg2, ho2⟩, K, hK⟩ := WCall.of (ov := ovlSem kv) (args := [.slice (some ⟨id, oo, none⟩) n c', .int .i64 (k : Nat), .slice (some ⟨yb, oy, none⟩) 1 yc]) htf rfl
          (ins_grow (ki := ki) (e := t) (b := b) (z := z) (kv := kv) (kr := kr) (c := cs ++ st) (ys := ys) (ty := ty) (zy := zy) (s := ⟨[(id, some (.cells (cs ++ st) t sz true)), (yb, some (.cells ys ty zy false))], s.next⟩) (id := id) (yb := yb) (by simp [Heap.get]) (hyy _) hkv hk (by omega) (by omega) hbig hsz hzl hid1 hy1 hp2 hyp (by rw [List.length_append]; omega) hoy)
        simp only at hu hn2 hg2 ho2
        subst hu
        refine ((call_ok htbl htf (hwf2 _ _) (hK (K + 1) (by omega))).2.2 β2 w _ (hsim _ _ (by omega)) (hfr2 _) hargs).mono ?_
        rintro ex w' ⟨v', β2', rfl, hv, hs', hst'⟩
        have b1' := hst'.le _ _ b1
        have b2' := hst'.le _ _ b2
        have oyb := hs'.obj yb ry (.cells ys ty zy false) b2' (by rw [ho2 yb (by omega)]; exact hyy _)
        rw [if_neg (by omega)] at hq
        simp only [Option.some.injEq, Prod.mk.injEq] at hq
        obtain ⟨rfl, rfl⟩ := hq
        have hfrm : ∀ j, j < w.heap.size → j ≠ r.blk → j ≠ ry.blk → w'.heap[j]? = w.heap[j]? := fun j hj a b => hst'.frame j hj fun ho => (hown _ _ j ho).elim (fun h => a h.1) b
        cases hv with
        | prim _ hp => simp [primV] at hp
        | slice hb' hc' =>
          rename_i cc rx
          have ox := hs'.obj s.next rx _ hb' hg2
          rw [insGrow_append cs st oo k n sz _ (by omega) (by omega)] at ox
          have hbl : w.heap.size ≤ rx.blk := Nat.le_of_not_lt fun hlt => by
            have hxo : Owned β2' s2'.heap.get rx.blk := ⟨s.next, rx, _, hb', hg2, rfl, rfl⟩
            rcases hown _ _ _ (hst'.img _ hxo hlt) with ⟨_, h⟩ | h
            · cases h
            · rcases hs'.inj s.next yb rx ry _ (.cells ys ty zy false) hb' b2' hg2 (by rw [ho2 yb (by omega)]; exact hyy _) h with h | ⟨h, _⟩
              · omega
              · cases h
          obtain ⟨hS, hT⟩ := ins_kill (n := s.next) (rn := rx) (o' := .cells (insGrow cs oo k n sz ((ys.drop oy).take sz)) t sz false) hs (hfr s.next (Nat.le_refl _) (Nat.lt_succ_self _)) hb hid rfl hyb hy rfl rfl hfrm hst'.size hst'.os hst'.tape hst'.output (.inr hbl) (ox.prim (all_grow hcp hrp)) (oyb.prim hyp)
          refine ⟨_, ext β s.next rx, rfl, .slice (by simp [ext]) hc', ?_, ?_⟩
          · simp only [hkl]; exact hS
          · simp only [hkl]; exact hT
end Go.Abs


/-
  slices.Insert: the call whose answer is known, whole. And such calls side by side.
-/
set_option linter.unusedVariables false
set_option linter.unusedSimpArgs false
set_option maxRecDepth 100000
namespace Go.Abs
open Go Go.Abs.K

theorem sliceOk_ev {sz n c : Nat} {s : St} {a : Option Addr} (h : sliceOk sz s a = true) (hnc : n ≤ c) : ∃ u, evP s.heap.get s.next (.slice (.slice sz) (.slice a n c) (some (.int .i64 (n : Nat))) none none) = some ⟨u, [], s.next⟩ := by
  have hb : boundsV n c (some (.int .i64 (n : Nat))) none none = some (n, n, c) := by simp [boundsV, boundV]
  cases a with
  | none => exact ⟨_, by simp only [evP, hb, Option.bind_some]; rfl⟩
  | some ad =>
    simp only [sliceOk] at h
    split at h
    case h_2 => cases h
    rename_i c' t z ro hg
    simp only [Bool.and_eq_true, decide_eq_true_eq, Bool.or_eq_true, beq_iff_eq] at h
    refine ⟨.slice (some ⟨ad.block, ad.off + n * sz, none⟩) (n - n) (c - n), ?_⟩
    simp only [evP, hb, Option.bind_some, hg]
    rw [if_pos ⟨h.1, h.2.elim .inl fun h => .inr (.inl h), hnc⟩]

theorem insEnd_walk {cs : Nat → CallSem} {e : TypeId} {sz b : Nat} {z : List Value} {kv kr : FuncId} {s : St} {a : Option Addr} {n c yb oy yc : Nat} {r : Value × St} (h : insEnd e sz b s a n c yb oy yc = some r) :
    WCode cs (insCode e sz b z kv kr) (params 0 [.slice a n c, .int .i64 (n : Nat), .slice (some ⟨yb, oy, none⟩) 1 yc]) s (ends [.tmp 6] fun u s' => u = r.1 ∧ s' = r.2) := by
  unfold insEnd at h
  split at h
  case isFalse => cases h
  rename_i hc
  obtain ⟨u, e1⟩ := sliceOk_ev (n := n) hc.2 hc.1
  simp only [Option.map_eq_some_iff] at h
  obtain ⟨res, e2, rfl⟩ := h
  have d0 : (((1 : Nat) : Int) == 0) = false := rfl
  have d1 : ((n : Int) == (n : Int)) = true := by simp
  simp -implicitDefEqProofs only [insCode, params, go_sem, e1, e2, d0, d1]

theorem insEnd_next {e : TypeId} {sz b : Nat} {s : St} {a : Option Addr} {n c yb oy yc : Nat} {r : Value × St} (hws : WFs s) (h : insEnd e sz b s a n c yb oy yc = some r) : WFs r.2 := by
  unfold insEnd at h
  split at h
  case isFalse => cases h
  simp only [Option.map_eq_some_iff] at h
  obtain ⟨res, he, rfl⟩ := h
  intro id hid
  simp only [get_applyUpd] at hid ⊢
  have hle := evP_next he
  rw [updF_not, hws id (Nat.le_trans hle hid)]
  intro p hp e
  rcases evP_upd he p hp with ⟨_, h2⟩ | ⟨h1, h2⟩
  · rw [e] at h2; exact h2 (hws id (Nat.le_trans hle hid))
  · omega

theorem insMid_wf {e : TypeId} {sz b : Nat} {s : St} {id oo n c k yb oy : Nat} {r : Value × St} (hws : WFs s) (h : insMid e sz b s id oo n c k yb oy = some r) : WFs r.2 := by
  unfold insMid at h
  split at h
  case h_2 => cases h
  rename_i cs t z0 ys ty zy hid hy
  have hid1 : id < s.next := Nat.lt_of_not_le fun hh => by rw [hws id hh] at hid; cases hid
  split at h
  case isFalse => cases h
  simp only [Option.some.injEq] at h
  subst h
  split
  · intro j hj
    simp only at hj ⊢
    rw [Heap.get_put, if_neg (by omega)]
    exact hws j hj
  · intro j hj
    simp only [applyUpd] at hj ⊢
    rw [Heap.get_put, Heap.get_put, if_neg (by omega), if_neg (by omega)]
    exact hws j (by omega)

theorem ins_good {P : Program} {ki kv kr : FuncId} {e : TypeId} {sz b : Nat} {z : List Value} (hm : P.follows .mixedOrders = true) (hf : FunOK P ki (insFun e sz b z kv kr)) (hov : OvlOK P kv) (hkv : ki ≠ kv) (hzl : z.length = sz) :
    GoodCalls P (insSem ki e sz b) ∧ GoodWF (insSem ki e sz b) := by
  have htbl : TableOK P (tblOf [(ki, insFun e sz b z kv kr)]) (ovlSem kv) := tblOf_ok hm (by simpa using hf) (ovl_good hov)
  have htf : tblOf [(ki, insFun e sz b z kv kr)] ki = some (insFun e sz b z kv kr) := by simp [tblOf]
  constructor
  · intro f args s u s' hws hq
    unfold insSem at hq
    split at hq
    case isFalse => cases hq
    rename_i hc
    obtain ⟨rfl, h1, h32⟩ := hc
    split at hq
    case h_2 => cases hq
    rename_i a n c i yb oy yc
    split at hq
    · rename_i hi
      subst hi
      obtain ⟨r, ⟨hr1, hr2⟩, K, hK⟩ := WCall.of (tbl := tblOf [(f, insFun e sz b z kv kr)]) (ov := ovlSem kv) (args := [.slice a n c, .int .i64 (n : Nat), .slice (some ⟨yb, oy, none⟩) 1 yc]) htf rfl (insEnd_walk hq)
      simp only at hr1 hr2
      subst hr1 hr2
      exact .inl (call_ok htbl htf hws (hK (K + 1) (by omega)))
    · split at hq
      case isFalse => cases hq
      rename_i hi
      split at hq
      case h_2 => cases hq
      rename_i id oo
      obtain ⟨k, rfl⟩ : ∃ k : Nat, i = (k : Int) := ⟨i.toNat, by omega⟩
      rw [Int.toNat_natCast] at hq
      refine .inl ⟨?_, ins_mid_ok hm hf hov hkv hzl h1 h32 hws (by omega) hq⟩
      obtain ⟨F, c, hF, hb, hname, _⟩ := hf.ok
      exact ⟨F, hF, by simp [hb], hname⟩
  · intro f args s u s' hq hws
    unfold insSem at hq
    split at hq
    case isFalse => cases hq
    split at hq
    case h_2 => cases hq
    split at hq
    · exact insEnd_next hws hq
    · split at hq
      case isFalse => cases hq
      split at hq
      case h_2 => cases hq
      exact insMid_wf hws hq

def orSem (a b : CallSem) : CallSem := fun f args s =>
  match a f args s with
  | some r => some r
  | none => b f args s

theorem or_good {P : Program} {a b : CallSem} (ha : GoodCalls P a ∧ GoodWF a) (hb : GoodCalls P b ∧ GoodWF b) : GoodCalls P (orSem a b) ∧ GoodWF (orSem a b) := by
  refine ⟨fun f args s v s' hws hq => ?_, fun f args s v s' hq hws => ?_⟩
  · unfold orSem at hq
    split at hq
    · rename_i r hr
      cases hq
      exact ha.1 _ _ _ _ _ hws hr
    · exact hb.1 _ _ _ _ _ hws hq
  · unfold orSem at hq
    split at hq
    · rename_i r hr
      cases hq
      exact ha.2 _ _ _ _ _ hr hws
    · exact hb.2 _ _ _ _ _ hq hws

open Go.RowKit Go.ChangeShapes Go.WideShapes in
theorem law_calls1 {P : Program} {tbl : FuncId → Option AFun} {ov : CallSem} (h : TableOK P tbl ov) {f : FuncId} {fn : AFun} (hf : tbl f = some fn) {vs args : List Value} {s : St} {β : Map} {w : World} {v : Value} (hp : primV v = true)
    (k : Nat) (hw : (call tbl ov (k + 1) f vs s).map (fun r => r.1) = some v) (hs : Sim β s.heap.get w) (hro : ∀ id o, s.heap.get id = some o → o.isRo = true) (hfr : ∀ id, s.next ≤ id → β id = none) (hwf : WFs s) (ha : LRel β vs args) :
    Calls P f args.toArray w fun e w' => e = .returned v ∧ Below w.heap.size w w' := by
  obtain ⟨⟨u, s'⟩, he, rfl⟩ := Option.map_eq_some_iff.1 hw
  obtain ⟨h1, h2, h3⟩ := call_ok h hf hwf he
  refine (h3 β w args hs (fun id h1 _ => hfr id h1) ha).mono ?_
  rintro e w' ⟨v', β', rfl, hv, hs', hst⟩
  refine ⟨by rw [prim_inv hp hv], hst.os, hst.tape, hst.output, hst.size, fun k hk => hst.frame k hk ?_⟩
  rintro ⟨id, r, o, _, ho, hr, _⟩
  rw [hro id o ho] at hr; cases hr

theorem FunOK.gc {P : Program} {f : FuncId} {fn : AFun} (h : FunOK P f fn) (g : Nat) : FunOK P f { fn with gc := g } := ⟨h.ok⟩

end Go.Abs
