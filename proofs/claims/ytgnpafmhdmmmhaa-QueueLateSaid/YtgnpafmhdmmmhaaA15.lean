/-
  What an operation reads and writes.
-/
import Derived.Test.YtgnpafmhdmmmhaaA14
set_option linter.unusedVariables false
set_option linter.unusedSimpArgs false
namespace Go.Abs
open Go


/-- An operation asks of the heap no more than its foot. -/
theorem evP_local {g g' : HF} {n : Nat} {av : AOp Value} (h : ∀ id, id ∈ (footOf av).1 ∨ id ∈ (footOf av).2 → g' id = g id) : evP g' n av = evP g n av := by
  cases av with
  | load k a =>
    cases a <;> try rfl
    rename_i a
    cases a with
    | none => rfl
    | some a =>
      obtain ⟨id, o, sp⟩ := a
      have := h id (by simp [footOf])
      cases sp <;> cases k <;> simp only [evP, cellsAt, this]
  | store k a x =>
    cases a <;> try rfl
    rename_i a
    cases a with
    | none => rfl
    | some a =>
      obtain ⟨id, o, sp⟩ := a
      have := h id (by simp [footOf])
      cases sp <;> simp only [evP, this]
  | conv k x =>
    cases k <;> cases x <;> try rfl
    all_goals
      rename_i a l c
      cases a with
      | none => rfl
      | some a =>
        obtain ⟨id, o, sp⟩ := a
        have := h id (by simp [footOf])
        cases sp <;> simp only [evP, cellsAt, this]
  | clear sz z x =>
    cases x <;> try rfl
    rename_i a l c
    cases a with
    | none => rfl
    | some a =>
      obtain ⟨id, o, sp⟩ := a
      have := h id (by simp [footOf])
      cases sp <;> simp only [evP, this]
  | slice k x lo hi mx =>
    cases k <;> cases x <;> try rfl
    rename_i a l c
    cases a with
    | none => rfl
    | some a =>
      have := h a.block (by simp [footOf])
      simp only [evP, this]
  | lookup kk z ok x k =>
    cases x <;> try rfl
    rename_i r
    cases r with
    | none => rfl
    | some r =>
      have := h r (by simp [footOf])
      simp only [evP, entriesOf, this]
  | mapUpdate kk m k v =>
    cases m <;> try rfl
    rename_i r
    cases r with
    | none => rfl
    | some r =>
      have := h r (by simp [footOf])
      simp only [evP, this]
  | mapEntry kk z m k =>
    cases m <;> try rfl
    rename_i r
    cases r with
    | none => rfl
    | some r =>
      have := h r (by simp [footOf])
      simp only [evP, this]
  | entryStore m k v =>
    cases m <;> try rfl
    rename_i r
    cases r with
    | none => rfl
    | some r =>
      have := h r (by simp [footOf])
      cases k <;> try rfl
      rename_i kk b
      cases kk <;> simp only [evP, this]
  | delete kk m k =>
    cases m <;> try rfl
    rename_i r
    cases r with
    | none => rfl
    | some r =>
      have := h r (by simp [footOf])
      simp only [evP, this]
  | len k x =>
    cases k <;> cases x <;> try rfl
    rename_i r
    cases r with
    | none => rfl
    | some r =>
      have := h r (by simp [footOf])
      simp only [evP, this]
  | append e sz b x y =>
    have hy : ∀ m, firstL g' sz m y = firstL g sz m y := by
      intro m
      cases y <;> try rfl
      rename_i a l c
      cases a with
      | none => rfl
      | some a =>
        obtain ⟨id, o, sp⟩ := a
        have := h id (by simp [footOf])
        cases sp <;> simp only [firstL, cellsAt, this]
    cases x <;> try rfl
    rename_i a l c
    cases a with
    | none => simp only [evP, hy]
    | some a =>
      obtain ⟨id, o, sp⟩ := a
      have := h id (by simp [footOf])
      cases sp <;> simp only [evP, hy, this]
  | copy sz x y =>
    have hy : ∀ m, firstL g' sz m y = firstL g sz m y := by
      intro m
      cases y <;> try rfl
      rename_i a l c
      cases a with
      | none => rfl
      | some a =>
        obtain ⟨id, o, sp⟩ := a
        have := h id (by simp [footOf])
        cases sp <;> simp only [firstL, cellsAt, this]
    cases x <;> try rfl
    rename_i a l c
    cases a with
    | none => simp only [evP, hy]
    | some a =>
      obtain ⟨id, o, sp⟩ := a
      have := h id (by simp [footOf])
      cases sp <;> simp only [evP, hy, this]
  | cap x =>
    cases x <;> try rfl
    rename_i a l c
    cases a with
    | none => rfl
    | some a =>
      obtain ⟨id, o, sp⟩ := a
      have := h id (by simp [footOf])
      cases sp <;> simp only [evP, this]
  | appendMake e sz b z x k =>
    cases x <;> try rfl
    rename_i a l c
    cases a with
    | none => cases l <;> cases c <;> (cases k <;> first | rfl | (rename_i kk m; cases kk <;> rfl))
    | some a =>
      obtain ⟨id, o, sp⟩ := a
      have := h id (by simp [footOf])
      cases k <;> first | (cases sp <;> rfl) | (rename_i kk m; cases kk <;> first | (cases sp <;> rfl) | (cases sp <;> first | rfl | simp only [evP, this]))
  | _ => rfl

/-- What it writes: its foot, and new names. -/
theorem evP_upd {g : HF} {n : Nat} {av : AOp Value} {res : Res} (he : evP g n av = some res) : ∀ p ∈ res.upd, (p.1 ∈ (footOf av).2 ∧ g p.1 ≠ none) ∨ (n ≤ p.1 ∧ p.1 < res.next) := by
  cases av with
  | store k a x =>
    simp only [evP] at he
    split at he
    case h_2 => cases he
    split at he
    case h_2 => cases he
    rename_i id o _ c t sz ho
    split at he
    case isFalse => cases he
    cases he
    intro p hp
    simp only [List.mem_singleton] at hp
    subst hp
    exact .inl ⟨by simp [footOf], by rw [ho]; simp⟩
  | mapUpdate kk m k v =>
    simp only [evP] at he
    split at he
    case h_2 => cases he
    split at he
    case h_2 => cases he
    rename_i r _ es clock ho
    split at he
    case isFalse => cases he
    simp only [Option.map_eq_some_iff] at he
    obtain ⟨f, _, rfl⟩ := he
    intro p hp
    cases f <;>
    · simp only [List.mem_singleton] at hp
      subst hp
      exact .inl ⟨by simp [footOf], by rw [ho]; simp⟩
  | mapEntry kk z m k =>
    simp only [evP] at he
    split at he
    case h_2 => cases he
    split at he
    case h_2 => cases he
    rename_i r _ es clock ho
    split at he
    case isFalse => cases he
    simp only [Option.map_eq_some_iff] at he
    obtain ⟨f, _, rfl⟩ := he
    intro p hp
    cases f <;>
    · simp only [List.mem_singleton] at hp
      subst hp
      exact .inl ⟨by simp [footOf], by rw [ho]; simp⟩
  | entryStore m k v =>
    simp only [evP] at he
    split at he
    case h_2 => cases he
    split at he
    case h_2 => cases he
    rename_i r b _ es clock ho
    simp only [Option.map_eq_some_iff] at he
    obtain ⟨f, _, rfl⟩ := he
    intro p hp
    simp only [List.mem_singleton] at hp
    subst hp
    exact .inl ⟨by simp [footOf], by rw [ho]; simp⟩
  | delete kk m k =>
    simp only [evP] at he
    split at he
    · split at he
      · cases he; intro p hp; simp at hp
      · cases he
    · split at he
      case h_2 => cases he
      rename_i r _ es clock ho
      split at he
      case isFalse => cases he
      simp only [Option.map_eq_some_iff] at he
      obtain ⟨f, _, rfl⟩ := he
      intro p hp
      cases f <;>
      · simp only [List.mem_singleton] at hp
        subst hp
        exact .inl ⟨by simp [footOf], by rw [ho]; simp⟩
    · cases he
  | append e sz b x y =>
    simp only [evP] at he
    split at he
    case h_2 => cases he
    rename_i a sl sc
    simp only [Option.bind_eq_some_iff] at he
    obtain ⟨m, _, new, _, he⟩ := he
    split at he
    · cases he
    split at he
    · split at he
      · cases he; intro p hp; simp at hp
      · split at he
        case h_2 => cases he
        rename_i id o _ c t z ho
        split at he
        case isFalse => cases he
        cases he
        intro p hp
        simp only [List.mem_singleton] at hp
        subst hp
        exact .inl ⟨by simp [footOf], by rw [ho]; simp⟩
      · cases he
    · split at he
      · cases he
      split at he
      · split at he
        case isFalse => cases he
        cases he
        intro p hp
        simp only [List.mem_singleton] at hp
        subst hp
        exact .inr ⟨Nat.le_refl _, Nat.lt_succ_self _⟩
      · split at he
        case h_2 => cases he
        rename_i id o _ c t z ro ho
        split at he
        case isFalse => cases he
        cases he
        intro p hp
        simp only [List.mem_cons] at hp
        rcases hp with rfl | hp
        · exact .inr ⟨Nat.le_refl _, Nat.lt_succ_self _⟩
        · cases ro with
          | true => simp at hp
          | false =>
            simp only [Bool.false_eq_true, if_false, List.mem_singleton] at hp
            subst hp
            exact .inl ⟨by simp [footOf], by rw [ho]; simp⟩
      · cases he
  | clear sz z x =>
    simp only [evP] at he
    split at he
    · cases he; intro p hp; simp at hp
    · split at he
      · cases he
      rename_i id o _ _ _ ob ho
      split at he
      · cases he; intro p hp; simp at hp
      · split at he
        case h_2 => cases he
        split at he
        case isFalse => cases he
        cases he
        intro p hp
        simp only [List.mem_singleton] at hp
        subst hp
        exact .inl ⟨by simp [footOf], by rw [ho]; simp⟩
    · cases he
  | copy sz x y =>
    simp only [evP] at he
    split at he
    case h_2 => cases he
    simp only [Option.bind_eq_some_iff] at he
    obtain ⟨m, _, new, _, he⟩ := he
    split at he
    · cases he
    split at he
    · cases he; intro p hp; simp at hp
    · split at he
      case h_2 => cases he
      rename_i id o _ c t z ho
      split at he
      case isFalse => cases he
      cases he
      intro p hp
      simp only [List.mem_singleton] at hp
      subst hp
      exact .inl ⟨by simp [footOf], by rw [ho]; simp⟩
    · cases he
  | _ =>
    simp only [evP] at he
    repeat' (split at he)
    all_goals (try simp only [Option.some.injEq, reduceCtorEq, Option.map_eq_some_iff, Option.bind_eq_some_iff] at he)
    all_goals (first
      | (subst he; intro p hp; simp at hp; done)
      | (subst he; intro p hp; simp only [List.mem_singleton] at hp; subst hp; exact .inr ⟨Nat.le_refl _, Nat.lt_succ_self _⟩)
      | (obtain ⟨_, _, rfl⟩ := he; intro p hp; simp at hp; done)
      | (obtain ⟨_, _, rfl⟩ := he; intro p hp; simp only [List.mem_singleton] at hp; subst hp; exact .inr ⟨Nat.le_refl _, Nat.lt_succ_self _⟩)
      | (obtain ⟨_, _, _, _, rfl⟩ := he; intro p hp; simp at hp; done)
      | (obtain ⟨_, _, he⟩ := he; split at he <;> cases he; intro p hp; simp at hp; done)
      | (obtain ⟨_, _, he⟩ := he; exact he.elim)
      | trace_state)

theorem mapParts_congr {α β : Type} {f g : α → Option β} : ∀ {ps : List (Nat × Nat × α)}, (∀ x ∈ ps.map (·.2.2), f x = g x) → mapParts f ps = mapParts g ps := by
  intro ps
  induction ps with
  | nil => intro _; rfl
  | cons p ps ih =>
    intro h
    obtain ⟨i, n, x⟩ := p
    simp only [mapParts, h x (by simp), ih (fun y hy => h y (by simp only [List.map_cons, List.mem_cons]; exact .inr hy))]

theorem mapList_congr {α β : Type} {f g : α → Option β} : ∀ {xs : List α}, (∀ x ∈ xs, f x = g x) → mapList f xs = mapList g xs := by
  intro xs
  induction xs with
  | nil => intro _; rfl
  | cons x xs ih =>
    intro h
    simp only [mapList, h x (by simp), ih (fun y hy => h y (List.mem_cons_of_mem _ hy))]

theorem mapOpt_congr {α β : Type} {f g : α → Option β} {x : Option α} (h : ∀ y, x = some y → f y = g y) : mapOpt f x = mapOpt g x := by
  cases x with
  | none => rfl
  | some x => simp only [mapOpt, h x rfl]

theorem vals_congr {α β : Type} {f g : α → Option β} {op : AOp α} (h : ∀ x ∈ op.ops, f x = g x) : op.vals f = op.vals g := by
  cases op <;> simp only [AOp.ops, List.mem_cons, List.not_mem_nil, or_false, forall_eq_or_imp, forall_eq] at h <;> simp only [AOp.vals]
  case build => rw [mapParts_congr h]
  case buildSlice => rw [mapParts_congr h]
  case mkFunc => rw [mapList_congr fun x hx => h x (List.mem_append.2 (.inl hx)), mapList_congr fun x hx => h x (List.mem_append.2 (.inr hx))]
  case mkMap => rw [mapOpt_congr fun y hy => h y (by rw [hy]; simp)]
  case slice =>
    rw [h.1, mapOpt_congr fun y hy => h.2 y (by rw [hy]; simp), mapOpt_congr fun y hy => h.2 y (by rw [hy]; simp), mapOpt_congr fun y hy => h.2 y (by rw [hy]; simp)]
  case minmax => rw [mapList_congr h]
  case call => rw [h.1, mapList_congr h.2]
  all_goals (first | rfl | (rw [h]; done) | (rw [h.1, h.2]; done) | (rw [h.1, h.2.1, h.2.2]; done))

/-- Names that values speak of are names that are known. -/
def Knows (β : Map) : Value → Prop
  | .pointer (some a) => β a.block ≠ none
  | .slice (some a) _ _ => β a.block ≠ none
  | .map (some r) => β r ≠ none
  | _ => True

theorem VRel.knows {β : Map} {v v' : Value} (h : VRel β v v') : Knows β v := by
  cases h with
  | prim v h => unfold Knows; split <;> simp_all [primV]
  | ptr h => simp [Knows, h]
  | slice h _ => simp [Knows, h]
  | empty h => simp [Knows, h]
  | map h => simp [Knows, h]
  | _ => trivial

/-- Its foot is met among its operands. -/
theorem foot_known {β : Map} {av : AOp Value} (h : ∀ v ∈ av.ops, Knows β v) : ∀ id, id ∈ (footOf av).1 ∨ id ∈ (footOf av).2 → β id ≠ none := by
  intro id hid
  unfold footOf at hid
  split at hid <;> simp only [List.mem_singleton, List.not_mem_nil, or_false, false_or] at hid
  all_goals (try (subst hid; exact h _ (List.Mem.head _)))
  all_goals (first
    | (rcases hid with hid | hid
       · split at hid
         · simp only [List.mem_singleton] at hid; subst hid; exact h _ (List.Mem.tail _ (List.Mem.head _))
         · simp at hid
       · split at hid
         · simp only [List.mem_singleton] at hid; subst hid; exact h _ (List.Mem.head _)
         · simp at hid)
    | (split at hid
       · simp only [List.mem_singleton] at hid; subst hid; exact h _ (List.Mem.head _)
       · simp at hid))


theorem mapList_mem {α β : Type} {f : α → Option β} : ∀ {xs : List α} {vs : List β}, mapList f xs = some vs → ∀ v ∈ vs, ∃ x ∈ xs, f x = some v := by
  intro xs
  induction xs with
  | nil => intro vs h v hv; simp only [mapList, Option.some.injEq] at h; subst h; simp at hv
  | cons x xs ih =>
    intro vs h v hv
    simp only [mapList, Option.bind_eq_some_iff, Option.map_eq_some_iff] at h
    obtain ⟨u, hu, r, hr, rfl⟩ := h
    rcases List.mem_cons.1 hv with rfl | hv
    · exact ⟨x, List.mem_cons_self .., hu⟩
    · obtain ⟨y, hy, e⟩ := ih hr v hv
      exact ⟨y, List.mem_cons_of_mem _ hy, e⟩

theorem mapParts_mem {α β : Type} {f : α → Option β} : ∀ {xs : List (Nat × Nat × α)} {vs : List (Nat × Nat × β)}, mapParts f xs = some vs → ∀ v ∈ vs.map (·.2.2), ∃ x ∈ xs.map (·.2.2), f x = some v := by
  intro xs
  induction xs with
  | nil => intro vs h v hv; simp only [mapParts, Option.some.injEq] at h; subst h; simp at hv
  | cons p xs ih =>
    intro vs h v hv
    obtain ⟨i, n, x⟩ := p
    simp only [mapParts, Option.bind_eq_some_iff, Option.map_eq_some_iff] at h
    obtain ⟨u, hu, r, hr, rfl⟩ := h
    simp only [List.map_cons, List.mem_cons] at hv ⊢
    rcases hv with rfl | hv
    · exact ⟨x, .inl rfl, hu⟩
    · obtain ⟨y, hy, e⟩ := ih hr v hv
      exact ⟨y, .inr hy, e⟩

theorem mapOpt_mem {α β : Type} {f : α → Option β} {x : Option α} {v : Option β} (h : mapOpt f x = some v) : ∀ u ∈ v.toList, ∃ y ∈ x.toList, f y = some u := by
  intro u hu
  cases x with
  | none => simp only [mapOpt, Option.some.injEq] at h; subst h; simp at hu
  | some x =>
    simp only [mapOpt, Option.map_eq_some_iff] at h
    obtain ⟨w, hw, rfl⟩ := h
    simp at hu
    subst hu
    exact ⟨x, by simp, hw⟩

theorem vals_mem {α β : Type} {f : α → Option β} {op : AOp α} {av : AOp β} (h : op.vals f = some av) : ∀ v ∈ av.ops, ∃ x ∈ op.ops, f x = some v := by
  cases op <;> simp only [AOp.vals, Option.bind_eq_some_iff, Option.map_eq_some_iff, Option.some.injEq] at h
  case build z ps => obtain ⟨q, hq, rfl⟩ := h; exact mapParts_mem hq
  case buildSlice e s l z ps => obtain ⟨q, hq, rfl⟩ := h; exact mapParts_mem hq
  case mkFunc fn a b =>
    obtain ⟨p, hp, q, hq, rfl⟩ := h
    intro v hv
    rcases List.mem_append.1 hv with hv | hv
    · obtain ⟨x, hx, e⟩ := mapList_mem hp v hv; exact ⟨x, List.mem_append.2 (.inl hx), e⟩
    · obtain ⟨x, hx, e⟩ := mapList_mem hq v hv; exact ⟨x, List.mem_append.2 (.inr hx), e⟩
  case mkMap r => obtain ⟨q, hq, rfl⟩ := h; exact mapOpt_mem hq
  case slice k x lo hi mx =>
    obtain ⟨p, hp, q1, h1, q2, h2, q3, h3, rfl⟩ := h
    intro v hv
    rcases List.mem_cons.1 hv with rfl | hv
    · exact ⟨x, List.mem_cons_self .., hp⟩
    · rcases List.mem_append.1 hv with hv | hv
      · rcases List.mem_append.1 hv with hv | hv
        · obtain ⟨y, hy, e⟩ := mapOpt_mem h1 v hv; exact ⟨y, List.mem_cons_of_mem _ (List.mem_append.2 (.inl (List.mem_append.2 (.inl hy)))), e⟩
        · obtain ⟨y, hy, e⟩ := mapOpt_mem h2 v hv; exact ⟨y, List.mem_cons_of_mem _ (List.mem_append.2 (.inl (List.mem_append.2 (.inr hy)))), e⟩
      · obtain ⟨y, hy, e⟩ := mapOpt_mem h3 v hv; exact ⟨y, List.mem_cons_of_mem _ (List.mem_append.2 (.inr hy)), e⟩
  case minmax b xs => obtain ⟨q, hq, rfl⟩ := h; exact mapList_mem hq
  case call g as =>
    obtain ⟨p, hp, q, hq, rfl⟩ := h
    intro v hv
    rcases List.mem_cons.1 hv with rfl | hv
    · exact ⟨g, List.mem_cons_self .., hp⟩
    · obtain ⟨x, hx, e⟩ := mapList_mem hq v hv; exact ⟨x, List.mem_cons_of_mem _ hx, e⟩
  case alloc e z => subst h; intro v hv; simp [AOp.ops] at hv
  all_goals (first
    | (obtain ⟨p, hp, rfl⟩ := h
       intro v hv
       simp only [AOp.ops, List.mem_cons, List.not_mem_nil, or_false] at hv
       subst hv
       exact ⟨_, List.mem_cons_self .., hp⟩)
    | (obtain ⟨p, hp, q, hq, rfl⟩ := h
       intro v hv
       simp only [AOp.ops, List.mem_cons, List.not_mem_nil, or_false] at hv
       rcases hv with rfl | rfl
       · exact ⟨_, List.mem_cons_self .., hp⟩
       · exact ⟨_, List.mem_cons_of_mem _ (List.mem_cons_self ..), hq⟩)
    | (obtain ⟨p, hp, q, hq, r, hr, rfl⟩ := h
       intro v hv
       simp only [AOp.ops, List.mem_cons, List.not_mem_nil, or_false] at hv
       rcases hv with rfl | rfl | rfl
       · exact ⟨_, List.mem_cons_self .., hp⟩
       · exact ⟨_, List.mem_cons_of_mem _ (List.mem_cons_self ..), hq⟩
       · exact ⟨_, List.mem_cons_of_mem _ (List.mem_cons_of_mem _ (List.mem_cons_self ..)), hr⟩))

end Go.Abs
