/-
  A slice of records as a law's argument, where a record's cells may be slices of numbers.
-/
import Derived.Test.YtgnpafmhdmmmhaaA43
import Derived.Test.YtgnpafmhdmmmhaaA44
set_option linter.unusedVariables false
set_option linter.unusedSimpArgs false
set_option maxRecDepth 100000
namespace Go.Abs
open Go Go.RowKit Go.ChangeShapes Go.WideShapes

/-- What a cell is: a plain value, or a slice of such numbers. -/
inductive CellSpec where
  | prim (v : Value)
  | ints (k : IntKind) (bs : List Int)

/-- A slice value that is only read, and the numbers that it holds. -/
def IntsS (k : IntKind) (s : St) (v : Value) (bs : List Int) : Prop :=
  (v = .slice none 0 0 ∧ bs = []) ∨ ∃ (id o cap : Nat) (c : List Value) (T : TypeId) (z : Nat), v = .slice (some ⟨id, o, none⟩) bs.length cap ∧ bs.length ≤ cap ∧ id < s.next ∧ s.heap.get id = some (.cells c T z true) ∧ o + bs.length ≤ c.length ∧ (c.drop o).take bs.length = bs.map (.int k)

def CellS (s : St) : CellSpec → Value → Prop
  | .prim v, u => u = v
  | .ints k bs, u => IntsS k s u bs ∧ ∀ n ∈ bs, (Lit.int k n).wf = true

def CellW (w : World) : CellSpec → Value → Prop
  | .prim v, y => y = v ∧ primV v = true
  | .ints k bs, y => (∀ n ∈ bs, (Lit.int k n).wf = true) ∧ ((y = .slice none 0 0 ∧ bs = []) ∨ (∃ a, y = .slice (some a) 0 0 ∧ bs = []) ∨
      ∃ (b o cap : Nat) (zs : List Int) (C : Array Value) (T : TypeId) (fr : Nat × Nat), y = .slice (some ⟨b, o, none⟩) bs.length cap ∧ zs.length = cap ∧ bs = zs.take bs.length ∧ bs.length ≤ cap ∧ w.heap[b]? = some (.cells C T fr) ∧ (∀ i, i < cap → C[o + i]? = some (.int k (zs.getD i 0))) ∧ 0 < cap)

theorem CellW.of_trod {H : Type} {enc : TypeId × Value → H} {P : Program} {w : World} {t e : TypeId} {k : IntKind} {n : Nat} {y : Value} {x : DataW H × List MemPlace} (ht : P.underlying t = some (.slice e)) (he : P.underlying e = some (.int k)) (hc : P.cellsOf e = 1)
    (h : DataW.trod enc P w 0 (fun _ => true) true n t [y] = some x) : ∃ bs, CellW w (.ints k bs) y := by
  rcases open_ints ht he hc h with ⟨hcs, _⟩ | ⟨a, len, cap, zs, hcs, _, hl, hm, hz, _, hcell, hwf⟩
  · simp only [List.cons.injEq, and_true] at hcs
    exact ⟨[], by simp, .inl ⟨hcs, rfl⟩⟩
  · simp only [List.cons.injEq, and_true] at hcs
    simp only [if_true] at hz
    subst hcs
    by_cases h0 : cap = 0
    · have : len = 0 := by omega
      subst h0; subst this
      exact ⟨[], by simp, .inr (.inl ⟨a, rfl, rfl⟩)⟩
    · have hbl : (zs.take len).length = len := by rw [List.length_take]; omega
      have h1 := hcell 0 (by omega)
      have ha0 : a.add 0 = a := by simp [Addr.add]
      rw [ha0] at h1
      obtain ⟨C, T, fr, hC, hs⟩ : ∃ C T fr, w.heap[a.block]? = some (.cells C T fr) ∧ a.spot = none := by
        unfold World.cell? at h1
        split at h1
        · rename_i C T fr hq
          split at h1
          · cases h1
          · rename_i hsp
            exact ⟨C, T, fr, hq, by cases hx : a.spot with
              | none => rfl
              | some z => rw [hx] at hsp; simp at hsp⟩
        · cases h1
      obtain ⟨b, o, sp⟩ := a
      simp only at hs hC
      subst hs
      refine ⟨zs.take len, fun n hn => hwf n (List.mem_of_mem_take hn), .inr (.inr ⟨b, o, cap, zs, C, T, fr, by rw [hbl], hz, by rw [hbl], by omega, hC, fun i hi => ?_, by omega⟩)⟩
      have := hcell i (by omega)
      rw [add_mk] at this
      simpa [World.cell?, hC] using this

/-- A cell of the world as an abstract value: its block, if it has one, bears the name id. -/
theorem cell_abs {w : World} {sp : CellSpec} {y : Value} (hc : CellW w sp y) (id : Nat) :
    ∃ (av : Value) (l : Args), (∀ p ∈ l, p.1 = id ∧ (∀ β, ORel β p.2.1 p.2.2 w.heap[p.2.1.blk]?) ∧ p.2.2.isRo = true) ∧ l.length ≤ 1 ∧ isCell av = true ∧
      (∀ β : Map, (∀ p ∈ l, β p.1 = some p.2.1) → (∃ r, β 0 = some r) → VRel β av y) ∧
      (∀ s : St, (∀ p ∈ l, s.heap.get p.1 = some p.2.2 ∧ p.1 < s.next) → (∃ c T z, s.heap.get 0 = some (.cells c T z true)) → 0 < s.next → CellS s sp av) := by
  cases sp with
  | prim v =>
    obtain ⟨rfl, hp⟩ := hc
    exact ⟨y, [], by simp, by simp, prim_cell hp, fun β _ _ => .prim _ hp, fun s _ _ _ => rfl⟩
  | ints k bs =>
    obtain ⟨hwf, ⟨rfl, rfl⟩ | ⟨a, rfl, rfl⟩ | ⟨b, o, cap, zs, C, T, fr, rfl, hz, hbs, hl, hC, hcell, h0⟩⟩ := hc
    · exact ⟨.slice none 0 0, [], by simp, by simp, rfl, fun β _ _ => .prim _ rfl, fun s _ _ _ => ⟨.inl ⟨rfl, rfl⟩, by simp⟩⟩
    · exact ⟨.slice (some ⟨0, 0, none⟩) 0 0, [], by simp, by simp, rfl, fun β _ ⟨r, hr⟩ => .empty hr, fun s _ ⟨c, T, z, h⟩ hn => ⟨.inr ⟨0, 0, 0, c, T, z, rfl, by simp, hn, h, by simp, by simp⟩, by simp⟩⟩
    · refine ⟨.slice (some ⟨id, 0, none⟩) bs.length cap, [(id, ⟨b, o, 0, cap, 1⟩, .cells (zs.map (.int k)) T 1 true)], ?_, by simp, rfl, fun β hβ _ => ?_, fun s hs _ _ => ⟨.inr ⟨id, 0, cap, zs.map (.int k), T, 1, rfl, hl, (hs _ (List.mem_singleton.2 rfl)).2, (hs _ (List.mem_singleton.2 rfl)).1, ?_, ?_⟩, hwf⟩⟩
      · intro p hp
        simp only [List.mem_singleton] at hp
        subst hp
        refine ⟨rfl, fun β => ?_, rfl⟩
        show ORel β ⟨b, o, 0, cap, 1⟩ (.cells (zs.map (.int k)) T 1 true) w.heap[b]?
        rw [hC]
        have hlast := hcell (cap - 1) (by omega)
        have hlt := (Array.getElem?_eq_some_iff.1 hlast).1
        refine ⟨rfl, by simp [hz], fun _ => rfl, fun h => absurd rfl h, by simp only [List.length_map, hz]; omega, fun i hi => ?_, fun h => (by cases h), fun _ i hi => by simp at hi, fun _ hr => by cases hr⟩
        simp only [List.length_map, hz] at hi
        refine ⟨_, hcell i hi, ?_⟩
        simp only [List.getElem_map]
        rw [List.getD_eq_getElem?_getD, List.getElem?_eq_getElem (by omega), Option.getD_some]
        exact .prim _ rfl
      · have := hβ _ (List.mem_singleton.2 rfl)
        exact VRel.slice this (.inl rfl)
      · simp only [List.length_map, hz]; omega
      · rw [List.drop_zero, ← List.map_take, ← hbs]

theorem cells_abs {w : World} : ∀ {ss : List CellSpec} {ys : List Value}, All2 (CellW w) ss ys → ∀ id0, 0 < id0 →
    ∃ (avs : List Value) (l : Args), (∀ p ∈ l, (id0 ≤ p.1 ∧ p.1 < id0 + ys.length) ∧ (∀ β, ORel β p.2.1 p.2.2 w.heap[p.2.1.blk]?) ∧ p.2.2.isRo = true) ∧ l.Pairwise (fun p q => p.1 ≠ q.1) ∧ avs.length = ys.length ∧ avs.all isCell = true ∧
      (∀ β : Map, (∀ p ∈ l, β p.1 = some p.2.1) → (∃ r, β 0 = some r) → LRel β avs ys) ∧
      (∀ s : St, (∀ p ∈ l, s.heap.get p.1 = some p.2.2 ∧ p.1 < s.next) → (∃ c T z, s.heap.get 0 = some (.cells c T z true)) → 0 < s.next → All2 (CellS s) ss avs) := by
  intro ss ys h
  induction h with
  | nil => intro id0 _; exact ⟨[], [], by simp, .nil, rfl, rfl, fun _ _ _ => .nil, fun _ _ _ _ => .nil⟩
  | cons h _ ih =>
    intro id0 h0
    obtain ⟨av, l1, a1, a2, a3, a4, a5⟩ := cell_abs h id0
    obtain ⟨avs, l2, b1, b2, b3, b4, b5, b6⟩ := ih (id0 + 1) (by omega)
    refine ⟨av :: avs, l1 ++ l2, fun p hp => ?_, ?_, by simp [b3], by simp [a3, b4], fun β hβ h0 => .cons (a4 β (fun p hp => hβ p (List.mem_append_left _ hp)) h0) (b5 β (fun p hp => hβ p (List.mem_append_right _ hp)) h0),
      fun s hs h1 h2 => .cons (a5 s (fun p hp => hs p (List.mem_append_left _ hp)) h1 h2) (b6 s (fun p hp => hs p (List.mem_append_right _ hp)) h1 h2)⟩
    · rcases List.mem_append.1 hp with hp | hp
      · obtain ⟨c1, c2⟩ := a1 p hp
        exact ⟨⟨by omega, by simp only [List.length_cons]; omega⟩, c2⟩
      · obtain ⟨⟨c1, c2⟩, c3⟩ := b1 p hp
        exact ⟨⟨by omega, by simp only [List.length_cons]; omega⟩, c3⟩
    · refine List.pairwise_append.2 ⟨?_, b2, fun p hp q hq => ?_⟩
      · match l1, a2 with
        | [], _ => exact .nil
        | [_], _ => exact List.pairwise_singleton ..
      · have := (a1 p hp).1
        have := (b1 q hq).1.1
        omega

theorem Args.map_mem {l : Args} (h : l.Pairwise (fun p q => p.1 ≠ q.1)) {p : Nat × Rec × AObj} (hp : p ∈ l) : l.map' p.1 = some p.2.1 ∧ Heap.get l.heap p.1 = some p.2.2 := by
  have : l.find? (fun q => q.1 == p.1) = some p := by
    induction l with
    | nil => cases hp
    | cons q l ih =>
      have h2 := List.pairwise_cons.1 h
      rw [List.find?_cons]
      rcases List.mem_cons.1 hp with rfl | hp
      · simp
      · have := h2.1 p hp
        rw [show (q.1 == p.1) = false by simpa using this]
        exact ih h2.2 hp
  rw [Args.heap_get, Args.map', this]
  exact ⟨rfl, rfl⟩

theorem all2_chunks {α β γ : Type} {R : β → γ → Prop} {f : α → List β} : ∀ {M : List α} {ys : List γ}, All2 R (M.map f).flatten ys → ∃ rows : List (List γ), ys = rows.flatten ∧ All2 (fun m row => All2 R (f m) row) M rows := by
  intro M
  induction M with
  | nil => intro ys h; cases h; exact ⟨[], rfl, .nil⟩
  | cons m M ih =>
    intro ys h
    have split : ∀ (a b : List β) (ys : List γ), All2 R (a ++ b) ys → ∃ y1 y2, ys = y1 ++ y2 ∧ All2 R a y1 ∧ All2 R b y2 := by
      intro a
      induction a with
      | nil => intro b ys h; exact ⟨[], ys, rfl, .nil, h⟩
      | cons x a ih =>
        intro b ys h
        cases h with
        | cons h1 h2 =>
          obtain ⟨y1, y2, rfl, h3, h4⟩ := ih _ _ h2
          exact ⟨_ :: y1, y2, rfl, .cons h1 h3, h4⟩
    rw [List.map_cons, List.flatten_cons] at h
    obtain ⟨y1, y2, rfl, h1, h2⟩ := split _ _ _ h
    obtain ⟨rows, rfl, h3⟩ := ih h2
    exact ⟨y1 :: rows, rfl, .cons h1 h3⟩

theorem All2.len {α γ : Type} {R : α → γ → Prop} {l : List α} {l' : List γ} (h : All2 R l l') : l.length = l'.length := by
  induction h with
  | nil => rfl
  | cons _ _ ih => simp [ih]
theorem All2.get {α γ : Type} {R : α → γ → Prop} {l : List α} {l' : List γ} (h : All2 R l l') : ∀ {i : Nat} {a : α} {b : γ}, l[i]? = some a → l'[i]? = some b → R a b := by
  induction h with
  | nil => intro i a b h; simp at h
  | cons h0 _ ih =>
    intro i a b h1 h2
    cases i with
    | zero => simp only [List.getElem?_cons_zero, Option.some.injEq] at h1 h2; subst h1 h2; exact h0
    | succ i => exact ih (by simpa using h1) (by simpa using h2)
theorem All2.take' {α γ : Type} {R : α → γ → Prop} {l : List α} {l' : List γ} (h : All2 R l l') : ∀ n, All2 R (l.take n) (l'.take n) := by
  induction h with
  | nil => intro n; simpa using All2.nil
  | cons h0 _ ih => intro n; cases n with
    | zero => exact .nil
    | succ n => exact .cons h0 (ih n)
theorem All2.append' {α γ : Type} {R : α → γ → Prop} {l k : List α} {l' k' : List γ} (h : All2 R l l') (h2 : All2 R k k') : All2 R (l ++ k) (l' ++ k') := by
  induction h with
  | nil => exact h2
  | cons h _ ih => exact .cons h ih

/-- The outer slice as it stands in the world. -/
theorem open_outer {H : Type} {enc : TypeId × Value → H} {P : Program} {w : World} {base : Nat} {t e : TypeId} {c : Nat} {v : Value} {d : DataW H} {ps : List MemPlace} (ht : P.underlying t = some (.slice e)) (hc : P.cellsOf e = c) (hc0 : 0 < c)
    (hval : Value.okWide P w .any base t v) (h : DataW.Trod enc P w 0 (fun _ => true) true t v d ps) :
    v = .slice none 0 0 ∨ ∃ (b o len cap : Nat) (zs : List Value) (C : Array Value) (T : TypeId) (fr : Nat × Nat), v = .slice (some ⟨b, o, none⟩) len cap ∧ len ≤ cap ∧ cap ≤ maxLen ∧ zs.length = cap * c ∧ w.heap[b]? = some (.cells C T fr) ∧
      (0 < cap → o + cap * c ≤ C.size) ∧ (∀ k, k < cap * c → C[o + k]? = zs[k]?) ∧ ∀ i, i < cap → ∃ n x, DataW.trod enc P w 0 (fun _ => true) true n e ((zs.drop (i * c)).take c) = some x := by
  obtain ⟨fuel, hf⟩ := h
  rcases DataW.trod_slice ht hf with ⟨hcs, _⟩ | ⟨a, len, cap, elems, rest, n, _, hcs, _, _, hl, hm, hlen, hel, hsp, _⟩
  · left
    cases v <;> simp [Value.cells] at hcs
    · simpa using hcs
    · simp [Value.okWide, ht, Cell.okWide, Cell.ok] at hval
  · right
    have hv : v = .slice (some a) len cap := by
      cases v <;> simp [Value.cells] at hcs
      · simpa using hcs
      · simp [Value.okWide, ht, Cell.okWide, Cell.ok] at hval
    subst hv
    obtain ⟨hrl, hr⟩ := hsp rfl
    have hhas : w.has P .any base a e cap := by
      have := hval
      simp only [Value.okWide, ht, Cell.okWide, Cell.ok] at this
      exact this.2.2
    obtain ⟨_, hspot, row, cells, hshape, _⟩ := hhas
    obtain ⟨C, T, fr, hC⟩ : ∃ C T fr, w.heap[a.block]? = some (.cells C T fr) := by
      unfold World.shape? at hshape
      split at hshape
      · rename_i c e' f hq; exact ⟨c, e', f, hq⟩
      · cases hshape
    obtain ⟨b, o, sp⟩ := a
    simp only at hspot hC
    subst hspot
    have helem : ∀ i, i < cap → ∃ cs, w.cells? 0 (Addr.add ⟨b, o, none⟩ (i * c)) c = some cs ∧ cs.length = c ∧ ∃ n x, DataW.trod enc P w 0 (fun _ => true) true n e cs = some x := by
      intro i hi
      have hb : ∃ y, (w.cells? 0 (Addr.add ⟨b, o, none⟩ (i * P.cellsOf e)) (P.cellsOf e)).bind (DataW.trod enc P w 0 (fun _ => true) true n e) = some y := by
        by_cases h1 : i < len
        · rw [hel i h1]; exact ⟨_, List.getElem?_eq_getElem (by omega)⟩
        · have := hr (i - len) (by omega)
          rw [show len + (i - len) = i by omega] at this
          rw [this]; exact ⟨_, List.getElem?_eq_getElem (by omega)⟩
      obtain ⟨y, hy⟩ := hb
      rw [hc, Option.bind_eq_some_iff] at hy
      obtain ⟨cs, h1, h2⟩ := hy
      exact ⟨cs, h1, (World.cells?_some h1).2.1, n, y, h2⟩
    have hcell : ∀ i cs, w.cells? 0 (Addr.add ⟨b, o, none⟩ (i * c)) c = some cs → ∀ j, j < c → C[o + (i * c + j)]? = cs[j]? := by
      intro i cs h1 j hj
      have := (World.cells?_some h1).2.2 j hj
      rw [add_mk, add_mk] at this
      rw [← this]
      simp [World.cell?, hC, Nat.add_assoc]
    have hsz : 0 < cap → o + cap * c ≤ C.size := by
      intro h0
      obtain ⟨cs, h1, h2, _⟩ := helem (cap - 1) (by omega)
      have := hcell _ _ h1 (c - 1) (by omega)
      rw [List.getElem?_eq_getElem (by omega)] at this
      have := (Array.getElem?_eq_some_iff.1 this).1
      have e1 : cap * c = (cap - 1) * c + c := by
        conv => lhs; rw [show cap = (cap - 1) + 1 by omega, Nat.add_mul, Nat.one_mul]
      omega
    refine ⟨b, o, len, cap, (C.toList.drop o).take (cap * c), C, T, fr, rfl, hl, hm, ?_, hC, hsz, fun k hk => ?_, fun i hi => ?_⟩
    · rcases Nat.eq_zero_or_pos cap with h0 | h0
      · subst h0; simp
      · have := hsz h0
        simp only [List.length_take, List.length_drop, Array.length_toList]; omega
    · simp only [List.getElem?_take, List.getElem?_drop, if_pos hk, Array.getElem?_toList]
    · obtain ⟨cs, h1, h2, h3⟩ := helem i hi
      have : (((C.toList.drop o).take (cap * c)).drop (i * c)).take c = cs := by
        apply List.ext_getElem?
        intro j
        rw [List.getElem?_take, List.getElem?_drop]
        by_cases hj : j < c
        · have hlt : i * c + j < cap * c := by
            have : (i + 1) * c ≤ cap * c := Nat.mul_le_mul_right _ hi
            rw [Nat.add_mul, Nat.one_mul] at this
            omega
          rw [if_pos hj, List.getElem?_take, if_pos hlt, List.getElem?_drop, Array.getElem?_toList]
          exact hcell i cs h1 j hj
        · rw [if_neg hj, List.getElem?_eq_none (by omega)]
      rw [this]; exact h3

theorem specs_of {α : Type} {w : World} {specs : α → List CellSpec} {R : α → Prop} {c : Nat} {zs : List Value} {cap : Nat} (hz : zs.length = cap * c) (h : ∀ i, i < cap → ∃ r, All2 (CellW w) (specs r) ((zs.drop (i * c)).take c) ∧ R r) :
    ∀ n, n ≤ cap → ∃ M : List α, M.length = n ∧ All2 (CellW w) (M.map specs).flatten (zs.take (n * c)) ∧ ∀ r ∈ M, R r := by
  intro n
  induction n with
  | zero => intro _; exact ⟨[], rfl, by simpa using All2.nil, by simp⟩
  | succ n ih =>
    intro hn
    obtain ⟨M, h1, h2, h3⟩ := ih (by omega)
    obtain ⟨r, h4, h5⟩ := h n (by omega)
    refine ⟨M ++ [r], by rw [List.length_append, h1]; rfl, ?_, fun x hx => ?_⟩
    · rw [Nat.add_mul, Nat.one_mul, List.take_add, List.map_append, List.flatten_append, List.map_cons, List.map_nil, List.flatten_cons, List.flatten_nil, List.append_nil]
      exact h2.append' h4
    · rcases List.mem_append.1 hx with hx | hx
      · exact h3 x hx
      · rw [List.mem_singleton.1 hx]; exact h5

theorem flatten_take {c : Nat} : ∀ {rows : List (List Value)}, (∀ r ∈ rows, r.length = c) → ∀ n, rows.flatten.take (n * c) = (rows.take n).flatten := by
  intro rows
  induction rows with
  | nil => intro _ n; simp
  | cons r rows ih =>
    intro h n
    have hr := h r (List.mem_cons_self ..)
    cases n with
    | zero => simp
    | succ n =>
      rw [List.flatten_cons, List.take_succ_cons, List.flatten_cons, Nat.add_mul, Nat.one_mul, Nat.add_comm, ← hr, List.take_length_add_append, hr, ih (fun x hx => h x (List.mem_cons_of_mem _ hx))]

/-- A slice of records. -/
theorem open_nest {α : Type} (specs : α → List CellSpec) (R : α → Prop) {H : Type} {enc : TypeId × Value → H} {P : Program} {w : World} {base : Nat} {t e : TypeId} {c : Nat} {v : Value} {d : DataW H} {ps : List MemPlace} (ht : P.underlying t = some (.slice e)) (hc : P.cellsOf e = c) (hc0 : 0 < c)
    (hQ : ∀ n cs x, DataW.trod enc P w 0 (fun _ => true) true n e cs = some x → cs.length = c → ∃ r, All2 (CellW w) (specs r) cs ∧ R r)
    (hval : Value.okWide P w .any base t v) (h : DataW.Trod enc P w 0 (fun _ => true) true t v d ps) :
    ∃ (av : Value) (l : Args) (n : Nat) (M : List α) (rows : List (List Value)), RowV c ⟨Args.heap l, n⟩ av rows ∧ All2 (fun r row => All2 (CellS ⟨Args.heap l, n⟩) (specs r) row) M rows ∧ (∀ r ∈ M, R r) ∧ M.length ≤ maxLen ∧
      (∀ p ∈ l, p.1 < n ∧ ORel (Args.map' l) p.2.1 p.2.2 w.heap[p.2.1.blk]? ∧ p.2.2.isRo = true) ∧ VRel (Args.map' l) av v := by
  rcases open_outer ht hc hc0 hval h with rfl | ⟨b, o, len, cap, zs, C, T, fr, rfl, hl, hm, hzl, hC, hsz, hz, htr⟩
  · exact ⟨.slice none 0 0, [], 0, [], [], ⟨by simp, .inl ⟨rfl, rfl⟩⟩, .nil, by simp, by simp, by simp, .prim _ rfl⟩
  · have hrow : ∀ i, i < cap → ∃ r, All2 (CellW w) (specs r) ((zs.drop (i * c)).take c) ∧ (R r ∧ (specs r).length = c) := fun i hi => by
      obtain ⟨n, x, hx⟩ := htr i hi
      have hlen : ((zs.drop (i * c)).take c).length = c := by
        have : (i + 1) * c ≤ cap * c := Nat.mul_le_mul_right _ hi
        rw [Nat.add_mul, Nat.one_mul] at this
        simp only [List.length_take, List.length_drop]; omega
      obtain ⟨r, h1, h2⟩ := hQ n _ x hx hlen
      exact ⟨r, h1, h2, by rw [h1.len, hlen]⟩
    obtain ⟨M, hM, hMz, hMR⟩ := specs_of hzl hrow cap (Nat.le_refl _)
    rw [List.take_of_length_le (by omega)] at hMz
    obtain ⟨avs, l, a1, a2, a3, a4, a5, a6⟩ := cells_abs hMz 1 Nat.zero_lt_one
    obtain ⟨r0, hr0⟩ : ∃ r0 : Rec, r0 = ⟨b, if cap = 0 then 0 else o, 0, cap * c, c⟩ := ⟨_, rfl⟩
    obtain ⟨L, hL⟩ : ∃ L : Args, L = (0, r0, .cells avs T c true) :: l := ⟨_, rfl⟩
    have hp : L.Pairwise (fun p q => p.1 ≠ q.1) := by
      rw [hL]
      exact List.pairwise_cons.2 ⟨fun q hq => by have := (a1 q hq).1.1; simp only; omega, a2⟩
    have hmem : ∀ p ∈ l, p ∈ L := fun p hp => by rw [hL]; exact List.mem_cons_of_mem _ hp
    have h0 : (0, r0, AObj.cells avs T c true) ∈ L := by rw [hL]; exact List.mem_cons_self ..
    obtain ⟨m0, g0⟩ := Args.map_mem hp h0
    simp only at m0 g0
    have hlr := a5 (Args.map' L) (fun p hp' => (Args.map_mem hp (hmem p hp')).1) ⟨r0, m0⟩
    have hcs := a6 ⟨Args.heap L, 1 + zs.length⟩ (fun p hp' => ⟨(Args.map_mem hp (hmem p hp')).2, (a1 p hp').1.2⟩) ⟨avs, T, c, g0⟩ (by simp only; omega)
    obtain ⟨rows, hrows, hMr⟩ := all2_chunks hcs
    have hrl : ∀ row ∈ rows, row.length = c ∧ row.all isCell = true := by
      intro row hrow'
      obtain ⟨i, hi, rfl⟩ := List.mem_iff_getElem.1 hrow'
      have hiM : i < M.length := by rw [hMr.len]; exact hi
      have hR := hMr.get (List.getElem?_eq_getElem hiM) (List.getElem?_eq_getElem hi)
      constructor
      · rw [← hR.len]; exact (hMR _ (List.getElem_mem hiM)).2
      · rw [hrows] at a4
        rw [List.all_eq_true] at a4 ⊢
        exact fun x hx => a4 x (List.mem_flatten.2 ⟨_, hrow', hx⟩)
    have hrn : rows.length = cap := by rw [← hMr.len, hM]
    have hlc : len * c ≤ cap * c := Nat.mul_le_mul_right _ hl
    refine ⟨.slice (some ⟨0, 0, none⟩) len cap, L, 1 + zs.length, M.take len, rows.take len, ⟨fun r hr => hrl r (List.mem_of_mem_take hr), .inr ⟨0, 0, cap, avs, T, true, by rw [List.length_take, hrn, Nat.min_eq_left hl], by rw [List.length_take, hrn]; omega, by simp only; omega, g0, ?_, ?_⟩⟩, hMr.take' len,
      fun r hr => (hMR r (List.mem_of_mem_take hr)).1, by rw [List.length_take]; omega, fun p hp' => ?_, ?_⟩
    · rw [List.length_take, hrn, Nat.min_eq_left hl, a3, hzl]; omega
    · rw [List.length_take, hrn, Nat.min_eq_left hl, List.drop_zero, hrows, flatten_take fun r hr => (hrl r hr).1]
    · rw [hL] at hp'
      rcases List.mem_cons.1 hp' with rfl | hp'
      · refine ⟨by simp only; omega, ?_, rfl⟩
        simp only
        rw [hr0]
        simp only
        rw [hC]
        refine ⟨rfl, by simp only; omega, fun _ => rfl, fun h => absurd rfl h, ?_, fun i hi => ?_, fun h => (by cases h), fun _ i hi => by simp at hi, fun _ hr => by cases hr⟩
        · simp only [Nat.zero_mul, Nat.add_zero]
          by_cases hc0 : cap = 0
          · rw [if_pos hc0, a3, hzl, hc0]; simp
          · rw [if_neg hc0, a3, hzl]; exact hsz (by omega)
        · have hi2 : i < cap * c := by rw [a3, hzl] at hi; exact hi
          have hc0 : cap ≠ 0 := fun h => by rw [h] at hi2; simp at hi2
          obtain ⟨y, hy, hv⟩ := hlr.get (List.getElem?_eq_getElem hi)
          refine ⟨y, ?_, hv⟩
          simp only [if_neg hc0]
          rw [hz i hi2, hy]
      · obtain ⟨⟨c1, c2⟩, c3, c4⟩ := a1 p hp'
        exact ⟨c2, c3 _, c4⟩
    · by_cases hc0 : cap = 0
      · have : len = 0 := by omega
        subst hc0; subst this
        exact .empty m0
      · have := VRel.slice (β := Args.map' L) (id := 0) (o := 0) (len := len) (cap := cap) (cap' := cap) m0 (.inl rfl)
        rw [hr0] at this
        simpa [hc0] using this

/-- A law with such an argument. -/
theorem law_nest {P : Program} {tbl : FuncId → Option AFun} {ov : CallSem} (h : TableOK P tbl ov) {f : FuncId} {fn : AFun} (hf : tbl f = some fn) {vs args : List Value} {l : Args} {n : Nat} {w : World} {v : Value} (hp : primV v = true)
    (hl : ∀ p ∈ l, p.1 < n ∧ ORel (Args.map' l) p.2.1 p.2.2 w.heap[p.2.1.blk]? ∧ p.2.2.isRo = true)
    (hw : WCall (fun k => call tbl ov k) f vs ⟨l.heap, n⟩ fun u _ => u = v) (ha : LRel l.map' vs args) :
    Calls P f args.toArray w fun e w' => e = .returned v ∧ Below w.heap.size w w' :=
  law_calls h hf hp hw (Args.sim fun p hp => (hl p hp).2) (Args.ro fun p hp => (hl p hp).2.2) (Args.fresh fun p hp => (hl p hp).1) (Args.wf fun p hp => (hl p hp).1) ha
end Go.Abs
