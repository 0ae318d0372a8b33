/-
  A region that draws its order: the theorem.
-/
import Derived.Test.YtoiedaegnhifpaaDoorA17
set_option linter.unusedVariables false
set_option linter.unusedSimpArgs false
namespace Go.Abs
open Go

def GoodWF (cs : CallSem) : Prop := ∀ f args s v s', cs f args s = some (v, s') → WFs s → WFs s'

theorem updF_not {us : List (Nat × Option AObj)} : ∀ {h : HF} {id : Nat}, (∀ p ∈ us, p.1 ≠ id) → updF h us id = h id := by
  induction us with
  | nil => intro h id _; rfl
  | cons p us ih =>
    intro h id hp
    obtain ⟨i, o⟩ := p
    simp only [updF]
    rw [ih (fun q hq => hp q (List.mem_cons_of_mem _ hq)), if_neg (Ne.symm (hp (i, o) (List.mem_cons_self ..)))]

theorem updF_same {us : List (Nat × Option AObj)} : ∀ {h h' : HF} {id : Nat}, (∃ p ∈ us, p.1 = id) → updF h us id = updF h' us id := by
  induction us with
  | nil => intro h h' id ⟨p, hp, _⟩; simp at hp
  | cons p us ih =>
    intro h h' id ⟨q, hq, he⟩
    obtain ⟨i, o⟩ := p
    simp only [updF]
    by_cases hin : ∃ q ∈ us, q.1 = id
    · exact ih hin
    · have hno : ∀ q ∈ us, q.1 ≠ id := fun q hq e => hin ⟨q, hq, e⟩
      rw [updF_not hno, updF_not hno]
      simp only [List.mem_cons] at hq
      rcases hq with rfl | hq
      · simp only at he; simp [he]
      · exact absurd he (hno q hq)

structure Chg (al : List AOper) (fs : List Foot) (S : Nat → St) (i : Nat) : Prop where
  next : (S i).next ≤ (S (i + 1)).next
  chg : ∀ ao f id, al[i]? = some ao → fs[i]? = some f → (S (i + 1)).heap.get id ≠ (S i).heap.get id →
    (kindOf ao.op = .writer ∧ id ∈ f.wr) ∨ (kindOf ao.op ≠ .pure ∧ kindOf ao.op ≠ .call ∧ (S i).next ≤ id ∧ id < (S (i + 1)).next) ∨ kindOf ao.op = .call

theorem step_prim {cs : CallSem} {op : AOp Operand} {e : Env} {s s1 : St} {v : Value} {av : AOp Value} (hav : op.vals e.rd = some av) (hk : kindOf op ≠ .call) (hev : evOper cs op e s = some (v, s1)) :
    ∃ res, evP s.heap.get s.next av = some res ∧ v = res.val ∧ s1 = ⟨applyUpd s.heap res.upd, res.next⟩ ∧ ∀ f as, av ≠ .call f as := by
  unfold evOper at hev
  rw [hav, Option.bind_some] at hev
  have hk2 := kindOf_vals hav
  cases av
  case call f as => rw [← hk2] at hk; exact absurd rfl hk
  all_goals
    simp only [Option.map_eq_some_iff, Prod.mk.injEq] at hev
    obtain ⟨res, hres, rfl, rfl⟩ := hev
    exact ⟨res, hres, rfl, rfl, fun f as hq => by cases hq⟩

theorem step_call {cs : CallSem} {op : AOp Operand} {e : Env} {s s1 : St} {v : Value} (hk : kindOf op = .call) (hev : evOper cs op e s = some (v, s1)) : ∃ f as, cs f as s = some (v, s1) := by
  unfold evOper at hev
  simp only [Option.bind_eq_some_iff] at hev
  obtain ⟨av, hav, hev⟩ := hev
  have hk2 := kindOf_vals hav
  rw [hk] at hk2
  cases av
  case call f as =>
    simp only [Option.bind_eq_some_iff] at hev
    obtain ⟨p, _, hp⟩ := hev
    exact ⟨_, _, hp⟩
  case conv k x => cases k <;> simp [kindOf] at hk2
  case slice k x lo hi mx => cases k <;> simp [kindOf] at hk2
  case len k x => cases k <;> simp [kindOf] at hk2
  all_goals (simp [kindOf] at hk2)

theorem chg_of {P : Program} {cs : CallSem} (hg : GoodCalls P cs) {al : List AOper} {fs : List Foot} {E : Nat → Env} {S : Nat → St} {V : Nat → Value}
    (h : ∀ i ao, al[i]? = some ao → ∃ f, fs[i]? = some f ∧ StepAt cs ao (E i) (S i) (V i) (E (i + 1)) (S (i + 1)) f) {i : Nat} (hi : i < al.length) (hwS : WFs (S i)) : Chg al fs S i := by
  obtain ⟨f, hf, _, hst⟩ := h i _ (List.getElem?_eq_getElem hi)
  rcases hst with ⟨hw, av, hav, hev, rfl⟩ | ⟨_, _, hs, rfl⟩
  · by_cases hk : kindOf al[i].op = .call
    · obtain ⟨fid, as, hq⟩ := step_call hk hev
      refine ⟨?_, fun ao f id h1 h2 _ => ?_⟩
      · rcases hg _ _ _ _ _ hwS hq with ⟨_, h, _⟩ | ⟨h, _⟩ <;> exact h
      · rw [List.getElem?_eq_getElem hi] at h1; cases h1; exact .inr (.inr hk)
    · obtain ⟨res, hres, hv, hs1, _⟩ := step_prim hav hk hev
      refine ⟨by rw [hs1]; exact evP_next hres, fun ao f id h1 h2 hne => ?_⟩
      rw [List.getElem?_eq_getElem hi] at h1; cases h1
      rw [hf] at h2; cases h2
      have hne' : updF (S i).heap.get res.upd id ≠ (S i).heap.get id := by rw [hs1] at hne; rwa [get_applyUpd] at hne
      have hin : ∃ p ∈ res.upd, p.1 = id := by
        refine Classical.byContradiction fun hno => hne' (updF_not fun p hp e => hno ⟨p, hp, e⟩)
      obtain ⟨p, hp, rfl⟩ := hin
      have hkv := kindOf_vals hav
      rcases evP_upd hres p hp with ⟨h1, _⟩ | ⟨h1, h2⟩
      · exact .inl ⟨by rw [← hkv]; exact wr_kind h1, h1⟩
      · refine .inr (.inl ⟨fun hp0 => ?_, hk, h1, by rw [hs1]; exact h2⟩)
        rw [← hkv] at hp0
        obtain ⟨hu, _⟩ := pure_kind hres hp0
        rw [hu] at hp; simp at hp
  · refine ⟨by rw [hs]; exact Nat.le_refl _, fun ao f id h1 h2 hne => ?_⟩
    rw [hs] at hne; exact absurd rfl hne

theorem wf_step {P : Program} {cs : CallSem} (hwf : GoodWF cs) {op : AOp Operand} {e : Env} {s s1 : St} {v : Value} {av : AOp Value} (hav : op.vals e.rd = some av) (hev : evOper cs op e s = some (v, s1)) (hs : WFs s) : WFs s1 := by
  by_cases hk : kindOf op = .call
  · obtain ⟨fid, as, hq⟩ := step_call hk hev
    exact hwf _ _ _ _ _ hq hs
  · obtain ⟨res, hres, hv, hs1, _⟩ := step_prim hav hk hev
    subst hs1
    intro id hid
    simp only [get_applyUpd] at hid ⊢
    have hle := evP_next hres
    rw [updF_not, hs id (Nat.le_trans hle hid)]
    intro p hp e
    rcases evP_upd hres p hp with ⟨_, h2⟩ | ⟨h1, h2⟩
    · rw [e] at h2; exact h2 (hs id (Nat.le_trans hle hid))
    · omega

theorem apart_spec {x y : AOper} (h : apartA x y = true) {d : Nat} (hd : x.dst = some d) : d ∉ looks y ∧ y.dst ≠ some d := by
  unfold apartA at h
  rw [hd] at h
  simp only [Bool.and_eq_true, Bool.not_eq_true', List.contains_eq_mem, decide_eq_false_iff_not, bne_iff_ne, ne_eq] at h
  exact h

theorem disj_spec {a b : List Nat} (h : disj a b = true) {x : Nat} (ha : x ∈ a) (hb : x ∈ b) : False := by
  simp only [disj, List.all_eq_true, decide_eq_true_eq] at h
  exact h x ha x hb rfl

def cnt (f : Nat → Bool) : Nat → Nat
  | 0 => 0
  | k + 1 => cnt f k + (if f k then 0 else 1)

theorem cnt_zero {f : Nat → Bool} : ∀ {n : Nat}, cnt f n = 0 → ∀ i, i < n → f i = true := by
  intro n
  induction n with
  | zero => intro _ i h; omega
  | succ n ih =>
    intro h i hi
    simp only [cnt] at h
    have h1 : cnt f n = 0 := by omega
    cases hq : f n with
    | false => rw [hq] at h; simp at h
    | true =>
      by_cases e : i = n
      · subst e; exact hq
      · exact ih h1 i (by omega)

theorem cnt_set {f f' : Nat → Bool} {j : Nat} (hf : f j = false) (h' : ∀ i, f' i = (f i || decide (i = j))) : ∀ {n : Nat}, (n ≤ j → cnt f' n = cnt f n) ∧ (j < n → cnt f' n + 1 = cnt f n) := by
  intro n
  induction n with
  | zero => exact ⟨fun _ => rfl, fun h => by omega⟩
  | succ n ih =>
    refine ⟨fun h => ?_, fun h => ?_⟩
    · simp only [cnt]
      rw [ih.1 (by omega), h' n]
      have : n ≠ j := by omega
      simp [this]
    · simp only [cnt]
      by_cases e : n = j
      · subst e
        rw [ih.1 (Nat.le_refl _), h' n, hf]; simp
      · have := ih.2 (by omega)
        rw [h' n]
        simp only [e, decide_false, Bool.or_false]
        omega

theorem draw_region {P : Program} {N : Nat} {cs : CallSem} (hg : GoodCalls P cs) (hwf : GoodWF cs) (hm : P.follows .mixedOrders = true) {Q : Exit → Act → World → Prop} {id0 : Nat} {l : List Oper} {al : List AOper} {d : Draw} (hl : l.map (compOper P N l.toArray) = al.map some)
    (hd : drawOk l al d = true) {β0 : Map} {e e' : Env} {a0 : Act} {s s' : St} {w0 : World} (hr0 : EnvRel β0 e a0) (hN0 : a0.tmps.size = N) (hs0 : Sim β0 s.heap.get w0) (hf0 : Fresh β0 s.next s'.next) (hwfs : WFs s) (he : evDraw cs al d e s = some (e', s'))
    (hK : After β0 s.heap.get w0 s.next N e' s'.heap.get s'.next (Q .normal)) : (Code.region id0 l.toArray true).wp P Q a0 w0 := by
  -- the run in the order of the text
  obtain ⟨fs, hq, hpairs, hquiet, hapart⟩ := evDraw_spec he
  clear he
  obtain ⟨E, S, V, hE0, hS0, hEn, hSn, hfl, hstep⟩ := run_steps hq
  have hlen : l.length = al.length := by have := congrArg List.length hl; simpa using this
  have hcomp : ∀ (i : Nat) (o : Oper) (ao : AOper), l[i]? = some o → al[i]? = some ao → compOper P N l.toArray o = some ao := by
    intro i o ao h1 h2
    have := congrArg (fun k => k[i]?) hl
    simp only [List.getElem?_map, h1, h2, Option.map_some, Option.some.injEq] at this
    exact this
  have hwfS : ∀ i, i ≤ al.length → WFs (S i) := by
    intro i
    induction i with
    | zero => intro _; rw [hS0]; exact hwfs
    | succ i ih =>
      intro hi
      obtain ⟨f, _, _, hst⟩ := hstep i _ (List.getElem?_eq_getElem (by omega : i < al.length))
      rcases hst with ⟨_, av, hav, hev, _⟩ | ⟨_, _, hs, _⟩
      · exact wf_step (P := P) hwf hav hev (ih (by omega))
      · rw [hs]; exact ih (by omega)
  have hchg : ∀ i, i < al.length → Chg al fs S i := fun i hi => chg_of hg hstep hi (hwfS i (by omega))
  have hmono : ∀ i j, i ≤ j → j ≤ al.length → (S i).next ≤ (S j).next := by
    intro i j hij
    induction j with
    | zero => intro _; have : i = 0 := by omega
              subst this; exact Nat.le_refl _
    | succ j ih =>
      intro hj
      by_cases e : i = j + 1
      · subst e; exact Nat.le_refl _
      · exact Nat.le_trans (ih (by omega) (by omega)) (hchg j (by omega)).next
  unfold drawOk at hd
  simp only [Bool.and_eq_true, List.all_eq_true, Bool.or_eq_true, decide_eq_true_eq, Bool.not_eq_true'] at hd
  obtain ⟨hd1, hd2⟩ := hd
  have hbefore : ∀ (j : Nat) (o : Oper), l[j]? = some o → ∀ e ∈ o.after, Region.binds .any e = true → e.on < j := by
    intro j o ho e hmem hb
    rcases hd1 (o, j) (by rw [List.mem_zipIdx_iff_getElem?]; simpa using ho) e (by simpa using hmem) with h | h
    · rw [hb] at h; cases h
    · exact h
  -- two operations: one waits for the other, or they are free
  have hpair : ∀ (i j : Nat) (ai aj : AOper), al[i]? = some ai → al[j]? = some aj → i ≠ j → Ord l i j ∨ Ord l j i ∨ (freeOk d i j ai aj = true ∧ freeOk d j i aj ai = true) := by
    intro i j ai aj h1 h2 hne
    have m1 : (ai, i) ∈ al.zipIdx := by rw [List.mem_zipIdx_iff_getElem?]; simpa using h1
    have m2 : (aj, j) ∈ al.zipIdx := by rw [List.mem_zipIdx_iff_getElem?]; simpa using h2
    rcases Nat.lt_or_ge i j with h | h
    · rcases hd2 (aj, j) m2 (ai, i) m1 with (h' | h') | h'
      · simp only at h'; omega
      · exact .inl ⟨h, h'⟩
      · exact .inr (.inr h')
    · rcases hd2 (ai, i) m1 (aj, j) m2 with (h' | h') | h'
      · simp only at h'; omega
      · exact .inr (.inl ⟨by omega, h'⟩)
      · exact .inr (.inr ⟨h'.2, h'.1⟩)
  have hwrk : ∀ (i : Nat) (ai : AOper) (fi : Foot) (id : Nat), al[i]? = some ai → fs[i]? = some fi → id ∈ fi.wr → kindOf ai.op = .writer := by
    intro i ai fi id h1 g1 hin
    obtain ⟨f, hf, _, hst⟩ := hstep i ai h1
    rw [g1] at hf; cases hf
    rcases hst with ⟨_, av, hav, _, rfl⟩ | ⟨_, _, _, rfl⟩
    · rw [← kindOf_vals hav]; exact wr_kind hin
    · simp at hin
  have hfoot : ∀ (i : Nat) (ai : AOper) (fi : Foot), al[i]? = some ai → fs[i]? = some fi → fi.before = S i ∧ fi.after = S (i + 1) := by
    intro i ai fi h1 g1
    obtain ⟨f, hf, _, hst⟩ := hstep i ai h1
    rw [g1] at hf; cases hf
    rcases hst with ⟨_, av, hav, _, rfl⟩ | ⟨_, _, hs, rfl⟩
    · exact ⟨rfl, rfl⟩
    · exact ⟨rfl, hs.symm⟩
  have hpok : ∀ (i j : Nat) (ai aj : AOper) (fi fj : Foot) (id : Nat), al[i]? = some ai → al[j]? = some aj → fs[i]? = some fi → fs[j]? = some fj → (i, j) ∈ d.pairs → id ∈ fi.wr → id ∉ fj.rd ∧ id ∉ fj.wr ∧ ¬ ((S j).next ≤ id ∧ id < (S (j + 1)).next) := by
    intro i j ai aj fi fj id h1 h2 g1 g2 hp hw
    have := (List.all_eq_true.1 hpairs) (i, j) hp
    simp only [pairOk, g1, g2, Bool.and_eq_true] at this
    obtain ⟨⟨p1, p2⟩, p3⟩ := this
    obtain ⟨b1, b2⟩ := hfoot j aj fj h2 g2
    refine ⟨fun h => disj_spec p1 hw h, fun h => disj_spec p2 hw h, fun h => disj_spec p3 hw ?_⟩
    rw [b1, b2, List.mem_range'_1]
    omega
  -- a change of block id by i, seen from a free j
  have hfree : ∀ (i j : Nat) (ai aj : AOper) (fi fj : Foot) (id : Nat), al[i]? = some ai → al[j]? = some aj → fs[i]? = some fi → fs[j]? = some fj → freeOk d i j ai aj = true → freeOk d j i aj ai = true →
      (S (i + 1)).heap.get id ≠ (S i).heap.get id → kindOf aj.op ≠ .pure →
      (((S i).next ≤ id ∧ id < (S (i + 1)).next) ∧ id ∉ fj.wr) ∨ (kindOf aj.op ≠ .call ∧ id ∉ fj.rd ∧ id ∉ fj.wr ∧ ¬ ((S j).next ≤ id ∧ id < (S (j + 1)).next)) := by
    intro i j ai aj fi fj id h1 h2 g1 g2 f1 f2 hne hnp
    have hi : i < al.length := (List.getElem?_eq_some_iff.1 h1).1
    simp only [freeOk, Bool.and_eq_true] at f1 f2
    obtain ⟨_, f1⟩ := f1
    obtain ⟨_, f2⟩ := f2
    rcases (hchg i hi).chg ai fi id h1 g1 hne with ⟨hk, hw⟩ | ⟨hk1, hk2, hlo, hhi⟩ | hk
    · right
      rw [hk] at f1
      cases hkj : kindOf aj.op with
      | pure => exact absurd hkj hnp
      | call => rw [hkj] at f1; cases f1
      | act => rw [hkj] at f1; exact ⟨by simp, hpok i j ai aj fi fj id h1 h2 g1 g2 (by simpa using f1) hw⟩
      | writer => rw [hkj] at f1; exact ⟨by simp, hpok i j ai aj fi fj id h1 h2 g1 g2 (by simpa using f1) hw⟩
    · left
      refine ⟨⟨hlo, hhi⟩, fun hw => ?_⟩
      have hkj := hwrk j aj fj id h2 g2 hw
      rw [hkj] at f2
      have hin : (j, i) ∈ d.pairs := by
        cases hki : kindOf ai.op with
        | pure => exact absurd hki hk1
        | call => exact absurd hki hk2
        | act => rw [hki] at f2; simpa using f2
        | writer => rw [hki] at f2; simpa using f2
      exact (hpok j i aj ai fj fi id h2 h1 g2 g1 hin hw).2.2 ⟨hlo, hhi⟩
    · rw [hk] at f1
      have hqi : i ∈ d.quiet ∨ (kindOf aj.op = .act ∧ (i, j) ∈ d.apart) := by
        cases hkj : kindOf aj.op with
        | pure => exact absurd hkj hnp
        | act => rw [hkj] at f1; simp only [Bool.or_eq_true, List.contains_eq_mem, decide_eq_true_eq] at f1; exact f1.imp (fun h => h) fun h => ⟨rfl, h⟩
        | _ => rw [hkj] at f1; left; simpa using f1
      rcases hqi with hqi | ⟨hkj, hin⟩
      rotate_left
      · right
        obtain ⟨b1, b2⟩ := hfoot i ai fi h1 g1
        obtain ⟨b3, b4⟩ := hfoot j aj fj h2 g2
        have hA := hapart (i, j) hin fi fj g1 g2 id
        rw [b1, b2, b3, b4] at hA
        refine ⟨by rw [hkj]; simp, fun h => hne (hA (.inl h)), fun hw => ?_, fun h => hne (hA (.inr h))⟩
        have := hwrk j aj fj id h2 g2 hw
        rw [hkj] at this; cases this
      left
      have hQ := hquiet i hqi fi g1
      obtain ⟨b1, b2⟩ := hfoot i ai fi h1 g1
      rw [b1, b2] at hQ
      refine ⟨?_, fun hw => ?_⟩
      · refine Classical.byContradiction fun hno => hne (hQ id ?_)
        omega
      · have hkj := hwrk j aj fj id h2 g2 hw
        rw [hkj, hk] at f2
        cases f2
  have hdisj : ∀ (i j id : Nat), i < al.length → j < al.length → i ≠ j → (S i).next ≤ id → id < (S (i + 1)).next → (S j).next ≤ id → id < (S (j + 1)).next → False := by
    intro i j id hi hj hne h1 h2 h3 h4
    rcases Nat.lt_or_ge i j with h | h
    · have := hmono (i + 1) j (by omega) (by omega); omega
    · have := hmono (j + 1) i (by omega) (by omega); omega
  have hopl : ∀ j : Nat, l.toArray[j]? = l[j]? := fun j => by simp
  -- every state that an order comes to
  have main : ∀ (fuel : Nat) (listed : Array Bool) (a : Act) (w : World) (β : Map) (g : HF) (ee : Nat → Option Value), listed.size = al.length → cnt (fun i => listed.getD i false) al.length ≤ fuel →
      Closed l (fun i => listed.getD i false) → Inv al.length (fun i => (S i).heap.get) (fun i => listed.getD i false) g → Inv al.length (fun i => (E i).get) (fun i => listed.getD i false) ee →
      EnvF β ee a → a.tmps.size = N → Sim β g w → (∀ id r, β id = some r → β0 id = none → ∃ i, i < al.length ∧ listed.getD i false = true ∧ (S i).next ≤ id ∧ id < (S (i + 1)).next) → StepC β0 s.heap.get w0 β g w →
      wpAny P .any l.toArray Q fuel listed a w := by
    have hfin : ∀ (listed : Array Bool) (a : Act) (w : World) (β : Map) (g : HF) (ee : Nat → Option Value), cnt (fun i => listed.getD i false) al.length = 0 →
        Inv al.length (fun i => (S i).heap.get) (fun i => listed.getD i false) g → Inv al.length (fun i => (E i).get) (fun i => listed.getD i false) ee →
        EnvF β ee a → a.tmps.size = N → Sim β g w → (∀ id r, β id = some r → β0 id = none → ∃ i, i < al.length ∧ listed.getD i false = true ∧ (S i).next ≤ id ∧ id < (S (i + 1)).next) → StepC β0 s.heap.get w0 β g w → Q .normal a w := by
      intro listed a w β g ee hc hIH hIE henv hN hsim hnew hst
      have hall := cnt_zero hc
      have hg2 : g = s'.heap.get := by
        funext id
        rw [hIH.all hall id]
        simp only [hSn]
      have he2 : ∀ t, ee t = e'.get t := fun t => by rw [hIE.all hall t]; simp only [hEn]
      subst hg2
      refine hK a w β ⟨fun t v h => henv.rel t v (by rw [he2]; exact h), henv.defers⟩ hN hsim ?_
      refine ⟨hst.le, ?_, fun id r h1 h2 => ?_, hst.frame, hst.size, hst.img, hst.ro, hst.os, hst.tape, hst.output⟩
      · rw [← hS0, ← hSn]; exact hmono 0 _ (by omega) (Nat.le_refl _)
      · obtain ⟨i, hi, _, h3, h4⟩ := hnew id r h1 h2
        have a1 := hmono 0 i (by omega) (by omega)
        have a2 := hmono (i + 1) al.length (by omega) (Nat.le_refl _)
        rw [hS0] at a1; rw [hSn] at a2
        omega
    intro fuel
    induction fuel with
    | zero =>
      intro listed a w β g ee hsz hc hcl hIH hIE henv hN hsim hnew hst
      refine ⟨?_, hfin listed a w β g ee (by omega) hIH hIE henv hN hsim hnew hst⟩
      have hall := cnt_zero (Nat.le_zero.1 hc)
      refine List.eq_nil_iff_forall_not_mem.2 fun j hj => ?_
      obtain ⟨h1, o, ho, _⟩ := mem_ready.1 hj
      rw [hopl] at ho
      have hlt := (List.getElem?_eq_some_iff.1 ho).1
      have := hall j (by omega)
      simp only [Array.getD, hsz, show j < al.length by omega, dif_pos] at this h1
      rw [this] at h1; cases h1
    | succ fuel ih =>
      intro listed a w β g ee hsz hc hcl hIH hIE henv hN hsim hnew hst
      have hgd : ∀ j, j < al.length → listed.getD j true = listed.getD j false := fun j hj => by simp [Array.getD, hsz, hj]
      refine ⟨fun hr => ?_, fun j hj => ?_⟩
      · -- nothing is ready: all has come up
        refine hfin listed a w β g ee ?_ hIH hIE henv hN hsim hnew hst
        have hall : ∀ k, k ≤ al.length → ∀ i, i < k → listed.getD i false = true := by
          intro k
          induction k with
          | zero => intro _ i h; omega
          | succ k ihk =>
            intro hk i hi
            have hprev := ihk (by omega)
            by_cases e : i = k
            · subst e
              refine Classical.byContradiction fun hno => ?_
              have hno' : listed.getD i false = false := by cases hq : listed.getD i false with
                | false => rfl
                | true => exact absurd hq hno
              have hil : i < l.length := by omega
              have : i ∈ Region.ready .any l.toArray listed := mem_ready.2 ⟨by rw [hgd i (by omega)]; exact hno', l[i], by rw [hopl]; exact List.getElem?_eq_getElem hil, fun e he hb => hprev e.on (hbefore i _ (List.getElem?_eq_getElem hil) e he hb)⟩
              rw [hr] at this; cases this
            · exact hprev i (by omega)
        have hz : ∀ k, k ≤ al.length → cnt (fun i => listed.getD i false) k = 0 := by
          intro k
          induction k with
          | zero => intro _; rfl
          | succ k ihk =>
            intro hk
            have h := hall al.length (Nat.le_refl _) k (by omega)
            simp only [cnt]
            rw [ihk (by omega)]
            show 0 + (if listed.getD k false = true then 0 else 1) = 0
            rw [if_pos h]
        exact hz al.length (Nat.le_refl _)
      · -- j comes up
        obtain ⟨h1, o, ho, hdir⟩ := mem_ready.1 hj
        rw [hopl] at ho
        have hjl := (List.getElem?_eq_some_iff.1 ho).1
        have hja : j < al.length := by omega
        have hao : al[j]? = some al[j] := List.getElem?_eq_getElem hja
        generalize hAO : al[j] = ao at hao
        have hco := hcomp j o ao ho hao
        have hcs := compOper_spec hco
        have hlj : listed.getD j false = false := by rw [← hgd j hja]; exact h1
        have hready : ∀ i, Ord l i j → listed.getD i false = true := fun i hi => anc_listed hbefore hcl j o ho hdir i hi.2
        have hdown : ∀ i k, Ord l i k → listed.getD k false = true → listed.getD i false = true := by
          intro i k hik hk
          have hkl : k < al.length := by
            refine Classical.byContradiction fun hno => ?_
            simp only [Array.getD, hsz] at hk
            rw [dif_neg hno] at hk; cases hk
          have hkl2 : k < l.length := by omega
          exact anc_listed hbefore hcl k _ (List.getElem?_eq_getElem hkl2) (hcl k _ (List.getElem?_eq_getElem hkl2) hk) i hik.2
        obtain ⟨fj, hfj, hEj, hcase⟩ := hstep j ao hao
        have hget : ∀ i, (listed.setIfInBounds j true).getD i false = (listed.getD i false || decide (i = j)) := by
          intro i
          simp only [Array.getD_eq_getD_getElem?, Array.getElem?_setIfInBounds]
          by_cases e : j = i
          · subst e
            have hjs : j < listed.size := by omega
            simp [hjs]
          · have e' : ¬ i = j := fun h => e h.symm
            simp [e, e']
        -- the temporaries that j looks at are as in the order of the text
        have htmp : ∀ t ∈ looks ao, ee t = (E j).get t := by
          intro t ht
          refine hIE.at (Nat.le_of_lt hja) fun i hi hne => ?_
          have hai := List.getElem?_eq_getElem hi
          obtain ⟨_, _, hEi, _⟩ := hstep i _ hai
          have hdst : al[i].dst = some t := by
            refine Classical.byContradiction fun hno => hne ?_
            simp only [hEi]
            cases hd : al[i].dst with
            | none => rfl
            | some d =>
              have : t ≠ d := fun e => hno (by rw [hd, e])
              simp [setE, Env.get, this]
          by_cases e : i = j
          · subst e; constructor
            · intro h; omega
            · intro h; rw [hlj] at h; cases h
          · rcases hpair i j _ _ hai hao e with h | h | ⟨hf1, _⟩
            · exact ⟨fun _ => hready i h, fun _ => h.1⟩
            · have hlt := h.1
              constructor
              · intro _; omega
              · intro hli
                have := hdown j i h hli
                rw [hlj] at this; cases this
            · simp only [freeOk, Bool.and_eq_true] at hf1
              exact absurd ht (apart_spec hf1.1 hdst).1
        have henvR : EnvRel β (restrict (looks ao) (E j)) a := by
          refine ⟨fun t v hv => ?_, henv.defers⟩
          rw [restrict_get] at hv
          split at hv
          · rename_i hin
            exact henv.rel t v (by rw [htmp t hin]; exact hv)
          · cases hv
        have hvals : ao.op.vals (restrict (looks ao) (E j)).rd = ao.op.vals (E j).rd := by
          refine vals_congr fun x hx => ?_
          cases x with
          | tmp t =>
            have : t ∈ looks ao := by
              simp only [looks, List.mem_append, tmpsOf, List.mem_filterMap]
              exact .inl ⟨.tmp t, hx, rfl⟩
            simp only [Env.rd, restrict_get, if_pos this]
          | _ => rfl
        have hwantE : wantedA ao (restrict (looks ao) (E j)) = wantedA ao (E j) := by
          unfold wantedA
          split
          · rfl
          · rename_i t want hgd
            have : t ∈ looks ao := by simp [looks, hgd]
            simp only [restrict_get, if_pos this]
        -- what stands behind j
        have hnext : ∀ (v' : Value) (w' : World) (β' : Map) (g' : HF), VRel β' (V j) v' → Sim β' g' w' → StepC β g w β' g' w' → (∀ id r, β' id = some r → β id = none → (S j).next ≤ id ∧ id < (S (j + 1)).next) →
            (∃ W : Nat → Prop, (∀ id, W id → g' id = (S (j + 1)).heap.get id ∧ ∀ i, i < al.length → (S (i + 1)).heap.get id ≠ (S i).heap.get id → i = j ∨ Ord l i j ∨ Ord l j i) ∧ (∀ id, ¬ W id → g' id = g id ∧ (S (j + 1)).heap.get id = (S j).heap.get id)) →
            wpAny P .any l.toArray Q fuel (listed.setIfInBounds j true) (a.put o.dst v') w' := by
          intro v' w' β' g' hv hs' hst' hnew' ⟨W, hW1, hW2⟩
          have hdn : ∀ t, o.dst = some t → t < a.tmps.size := fun t ht => by rw [hN]; exact hcs.2.2.2.1 t ht
          refine ih _ _ w' β' g' (fun t => if o.dst = some t then some (V j) else ee t) (by simp [hsz]) ?_ ?_ ?_ ?_ ?_ ?_ hs' ?_ (hst.trans hst')
          · have := (cnt_set (f := fun i => listed.getD i false) (f' := fun i => (listed.setIfInBounds j true).getD i false) hlj hget (n := al.length)).2 hja
            omega
          · intro k ok hok hlk e he hb
            simp only [hget, Bool.or_eq_true, decide_eq_true_eq] at hlk ⊢
            rcases hlk with hlk | rfl
            · exact .inl (hcl k ok hok hlk e he hb)
            · rw [ho] at hok; cases hok
              exact .inl (hdir e he hb)
          · exact hIH.step hja hlj hget (fun i k h => h.1) hready hdown W hW1 hW2
          · refine hIE.step hja hlj hget (fun i k h => h.1) hready hdown (fun t => o.dst = some t) (fun t ht => ⟨?_, fun i hi hne => ?_⟩) (fun t ht => ⟨?_, ?_⟩)
            · rw [hEj, if_pos ht, hcs.2.2.1, ht]
              simp [setE, Env.get]
            · have hai := List.getElem?_eq_getElem hi
              obtain ⟨_, _, hEi, _⟩ := hstep i _ hai
              have hdst : al[i].dst = some t := by
                refine Classical.byContradiction fun hno => hne ?_
                simp only [hEi]
                cases hd : al[i].dst with
                | none => rfl
                | some d =>
                  have : t ≠ d := fun e => hno (by rw [hd, e])
                  simp [setE, Env.get, this]
              by_cases e : i = j
              · exact .inl e
              · rcases hpair i j _ _ hai hao e with h | h | ⟨hf1, _⟩
                · exact .inr (.inl h)
                · exact .inr (.inr h)
                · simp only [freeOk, Bool.and_eq_true] at hf1
                  exact absurd (hcs.2.2.1.trans ht) (apart_spec hf1.1 hdst).2
            · rw [if_neg ht]
            · rw [hEj, hcs.2.2.1]
              cases hd : o.dst with
              | none => rfl
              | some d =>
                have : t ≠ d := fun e => ht (by rw [hd, e])
                simp [setE, Env.get, this]
          · refine ⟨fun t u hu => ?_, by cases o.dst <;> exact henv.defers⟩
            by_cases hd : o.dst = some t
            · rw [if_pos hd] at hu; cases hu
              have := hdn t hd
              rw [hd]
              simp only [Act.put, Array.size_setIfInBounds]
              exact ⟨this, by simp [Array.getD, this, hv]⟩
            · rw [if_neg hd] at hu
              obtain ⟨p1, p2⟩ := henv.rel t u hu
              cases hod : o.dst with
              | none => simp only [Act.put]; exact ⟨p1, p2.mono hst'.le⟩
              | some d =>
                have hne : d ≠ t := fun e => hd (by rw [hod, e])
                simp only [Act.put, Array.size_setIfInBounds]
                refine ⟨p1, ?_⟩
                have : (a.tmps.setIfInBounds d v').getD t undef = a.tmps.getD t undef := by simp [Array.getD, p1, hne]
                rw [this]; exact p2.mono hst'.le
          · cases o.dst <;> simp [Act.put, hN]
          · intro id r h1 h2
            cases hb : β id with
            | none =>
              obtain ⟨p1, p2⟩ := hnew' id r h1 hb
              exact ⟨j, hja, by rw [hget]; simp, p1, p2⟩
            | some r' =>
              obtain ⟨i, hi, hli, p⟩ := hnew id r' hb h2
              exact ⟨i, hi, by rw [hget, hli]; rfl, p⟩
        -- what j looks at lies as in the order of the text
        have hrange : ∀ id, (S j).next ≤ id → id < (S (j + 1)).next → β0 id = none := fun id h2 h3 => by
          refine hf0 id ?_ ?_
          · have := hmono 0 j (by omega) (by omega); rw [hS0] at this; omega
          · have := hmono (j + 1) al.length (by omega) (Nat.le_refl _); rw [hSn] at this; omega
        have hrange' : ∀ i id, i < al.length → (S i).next ≤ id → id < (S (i + 1)).next → β0 id = none := fun i id hi h2 h3 => by
          refine hf0 id ?_ ?_
          · have := hmono 0 i (by omega) (by omega); rw [hS0] at this; omega
          · have := hmono (i + 1) al.length (by omega) (Nat.le_refl _); rw [hSn] at this; omega
        have hfreshj : Fresh β (S j).next (S (j + 1)).next := by
          intro id h2 h3
          cases hb : β id with
          | none => rfl
          | some r =>
            obtain ⟨i, hi, hli, p1, p2⟩ := hnew id r hb (hrange id h2 h3)
            by_cases e : i = j
            · subst e; rw [hlj] at hli; cases hli
            · exact (hdisj i j id hi hja e p1 p2 h2 h3).elim
        have hagree : ∀ id, β id ≠ none → (S j).heap.get id ≠ none → kindOf ao.op ≠ .pure → (kindOf ao.op = .call ∨ id ∈ fj.rd ∨ id ∈ fj.wr) → g id = (S j).heap.get id := by
          intro id hbid hsome hnp hwhy
          refine hIH.at (Nat.le_of_lt hja) fun i hi hne => ?_
          have hai := List.getElem?_eq_getElem hi
          by_cases e : i = j
          · subst e; constructor
            · intro h; omega
            · intro h; rw [hlj] at h; cases h
          · rcases hpair i j _ _ hai hao e with h | h | ⟨hf1, hf2⟩
            · exact ⟨fun _ => hready i h, fun _ => h.1⟩
            · have hlt := h.1
              constructor
              · intro _; omega
              · intro hli
                have := hdown j i h hli
                rw [hlj] at this; cases this
            · obtain ⟨fi, hfi, _⟩ := hstep i _ hai
              rcases hfree i j _ _ fi fj id hai hao hfi hfj hf1 hf2 hne hnp with ⟨⟨q1, q2⟩, _⟩ | ⟨q1, q2, q3, _⟩
              · have hli : listed.getD i false = true := by
                  cases hb : β id with
                  | none => exact absurd hb hbid
                  | some r =>
                    obtain ⟨i', hi', hli', p1, p2⟩ := hnew id r hb (hrange' i id hi q1 q2)
                    by_cases e' : i' = i
                    · subst e'; exact hli'
                    · exact (hdisj i' i id hi' hi e' p1 p2 q1 q2).elim
                refine ⟨fun _ => hli, fun _ => ?_⟩
                refine Classical.byContradiction fun hno => hsome (hwfS j (by omega) id ?_)
                have := hmono j i (by omega) (by omega); omega
              · rcases hwhy with h | h | h
                · exact absurd h q1
                · exact absurd h q2
                · exact absurd h q3
        unfold wpOp
        rw [hopl, ho]
        simp only
        rcases hcase with ⟨hw, av, hav, hev, hfeq⟩ | ⟨hw, hVj, hSj, hfeq⟩
        · have hwd := wanted_eq hco henvR (by rw [hwantE]; exact hw)
          rw [if_pos hwd]
          left
          by_cases hk : kindOf ao.op = .call
          · -- a call
            have hnp : kindOf ao.op ≠ .pure := by rw [hk]; simp
            have hin : ∀ id r o, β id = some r → (S j).heap.get id = some o → g id = some o := fun id r o h2 h3 => by
              rw [hagree id (by rw [h2]; simp) (by rw [h3]; simp) hnp (.inl hk)]; exact h3
            have hsimS : Sim β (S j).heap.get w := ⟨fun id r o h2 h3 => hsim.obj id r o h2 (hin id r o h2 h3), fun i1 i2 r1 r2 o1 o2 h2 h3 h4 h5 h6 => hsim.inj i1 i2 r1 r2 o1 o2 h2 h3 (hin _ _ _ h2 h4) (hin _ _ _ h3 h5) h6, hsim.tot⟩
            have hev' : evOper cs ao.op (restrict (looks ao) (E j)) (S j) = some (V j, S (j + 1)) := by
              unfold evOper; rw [hvals]; exact hev
            refine oper_does hg hco henvR hsimS (hwfS j (by omega)) hev' hfreshj _ _ ?_
            intro v' w' β' hv hs' hst'
            have hch : ∀ (g' : HF), (∀ id, ((S (j + 1)).heap.get id ≠ (S j).heap.get id ∨ ((S j).next ≤ id ∧ id < (S (j + 1)).next)) → g' id = (S (j + 1)).heap.get id) →
                (∀ id, ¬ ((S (j + 1)).heap.get id ≠ (S j).heap.get id ∨ ((S j).next ≤ id ∧ id < (S (j + 1)).next)) → g' id = g id) →
                wpAny P .any l.toArray Q fuel (listed.setIfInBounds j true) (a.put o.dst v') w' := by
              intro g' hg1 hg2
              obtain ⟨hsim', hstc⟩ := widen (g' := g') hsim hs' hst'.core hin (fun id r o h2 h3 => by
                by_cases hc : (S (j + 1)).heap.get id ≠ (S j).heap.get id ∨ ((S j).next ≤ id ∧ id < (S (j + 1)).next)
                · left; rw [← hg1 id hc]; exact h3
                · rw [hg2 id hc] at h3
                  cases hb : β id with
                  | none =>
                    exact absurd (.inr (hst'.new id r h2 hb)) hc
                  | some r' =>
                    have hrr : r' = r := by
                      have := hst'.le id r' hb
                      rw [h2] at this; exact (Option.some.inj this).symm
                    subst hrr
                    have hsame : (S (j + 1)).heap.get id = (S j).heap.get id := Classical.byContradiction fun hno => hc (.inl hno)
                    cases hsj : (S j).heap.get id with
                    | none => exact .inr ⟨rfl, h3, rfl⟩
                    | some o2 =>
                      left
                      have := hin id r' o2 hb hsj
                      rw [h3] at this
                      rw [hsame, hsj]; exact this.symm)
              refine hnext v' w' β' g' hv hsim' hstc (fun id r h2 h3 => hst'.new id r h2 h3) ⟨fun id => (S (j + 1)).heap.get id ≠ (S j).heap.get id ∨ ((S j).next ≤ id ∧ id < (S (j + 1)).next), fun id hc => ⟨hg1 id hc, fun i hi hne => ?_⟩, fun id hc => ⟨hg2 id hc, Classical.byContradiction fun hno => hc (.inl hno)⟩⟩
              have hai := List.getElem?_eq_getElem hi
              by_cases e : i = j
              · exact .inl e
              · rcases hpair i j _ _ hai hao e with h | h | ⟨hf1, hf2⟩
                · exact .inr (.inl h)
                · exact .inr (.inr h)
                · exfalso
                  obtain ⟨fi, hfi, _⟩ := hstep i _ hai
                  rcases hfree i j _ _ fi fj id hai hao hfi hfj hf1 hf2 hne hnp with ⟨⟨q1, q2⟩, _⟩ | ⟨q1, _⟩
                  · rcases hc with hc | ⟨c1, c2⟩
                    · have hki : kindOf al[i].op ≠ .pure := by
                        intro hp
                        rcases (hchg i hi).chg _ fi id hai hfi hne with ⟨hk2, _⟩ | ⟨hk2, _⟩ | hk2
                        · rw [hp] at hk2; cases hk2
                        · exact hk2 hp
                        · rw [hp] at hk2; cases hk2
                      rcases hfree j i _ _ fj fi id hao hai hfj hfi hf2 hf1 hc hki with ⟨⟨c1, c2⟩, _⟩ | ⟨_, _, _, c⟩
                      · exact hdisj i j id hi hja e q1 q2 c1 c2
                      · exact c ⟨q1, q2⟩
                    · exact hdisj i j id hi hja e q1 q2 c1 c2
                  · exact q1 hk
            open Classical in
            exact hch (fun id => if (S (j + 1)).heap.get id ≠ (S j).heap.get id ∨ ((S j).next ≤ id ∧ id < (S (j + 1)).next) then (S (j + 1)).heap.get id else g id) (fun id hc => if_pos hc) (fun id hc => if_neg hc)
          · -- an operation of its own
            obtain ⟨res, hres, hVr, hSr, hnc⟩ := step_prim hav hk hev
            have hkv := kindOf_vals hav
            have hknow : ∀ v ∈ av.ops, Knows β v := by
              intro v hv
              rw [← hvals] at hav
              obtain ⟨x, hx, hxv⟩ := vals_mem hav v hv
              exact (henvR.rd (fun c hc => by have := hcs.2.2.2.2.1 x hx; subst hc; exact this) hxv).knows
            have hloc : evP g (S j).next av = some res := by
              rw [← hres]
              refine evP_local fun id hid => ?_
              refine hagree id (foot_known hknow id hid) (fun hn => rd_live hres hid hn) ?_ ?_
              · rw [← hkv]; exact (rd_kind hid).1
              · rw [hfeq]; exact .inr hid
            have hav' : ao.op.vals (restrict (looks ao) (E j)).rd = some av := by rw [hvals]; exact hav
            have hfr : Fresh β (S j).next res.next := by rw [hSr] at hfreshj; exact hfreshj
            have hdo := (op_sim hcs.1 hcs.2.1 henvR hav' hnc hsim hloc hfr).does
            refine hdo _ _ ?_
            intro v' w' β' hv hs' hst'
            rw [← hVr] at hv
            refine hnext v' w' β' _ hv hs' hst'.core (fun id r h2 h3 => by have := hst'.new id r h2 h3; rw [hSr]; exact this) ⟨fun id => ∃ p ∈ res.upd, p.1 = id, fun id hc => ⟨?_, fun i hi hne => ?_⟩, fun id hc => ⟨?_, ?_⟩⟩
            · rw [hSr]; simp only [get_applyUpd]; exact updF_same hc
            · have hai := List.getElem?_eq_getElem hi
              by_cases e : i = j
              · exact .inl e
              · rcases hpair i j _ _ hai hao e with h | h | ⟨hf1, hf2⟩
                · exact .inr (.inl h)
                · exact .inr (.inr h)
                · exfalso
                  obtain ⟨fi, hfi, _⟩ := hstep i _ hai
                  obtain ⟨p, hp, rfl⟩ := hc
                  have hnp : kindOf ao.op ≠ .pure := by
                    intro hpu
                    rw [← hkv] at hpu
                    have := (pure_kind hres hpu).1
                    rw [this] at hp; simp at hp
                  have hwf : p.1 ∈ fj.wr ∨ ((S j).next ≤ p.1 ∧ p.1 < (S (j + 1)).next) := by
                    rcases evP_upd hres p hp with ⟨h, _⟩ | h
                    · rw [hfeq]; exact .inl h
                    · rw [hSr]; exact .inr h
                  rcases hfree i j _ _ fi fj p.1 hai hao hfi hfj hf1 hf2 hne hnp with ⟨⟨q1, q2⟩, q3⟩ | ⟨_, _, q3, q4⟩
                  · rcases hwf with h | ⟨c1, c2⟩
                    · exact q3 h
                    · exact hdisj i j p.1 hi hja e q1 q2 c1 c2
                  · rcases hwf with h | h
                    · exact q3 h
                    · exact q4 h
            · exact updF_not fun p hp e => hc ⟨p, hp, e⟩
            · rw [hSr]; simp only [get_applyUpd]; exact updF_not fun p hp e => hc ⟨p, hp, e⟩
        · have hwd := wanted_eq hco henvR (by rw [hwantE]; exact hw)
          rw [if_neg (by rw [hwd]; simp)]
          refine hnext undef w β g (by rw [hVj]; exact undefV_rel β) hsim (Step.refl β g w 0).core (fun id r h2 h3 => by rw [h3] at h2; cases h2) ⟨fun _ => False, fun _ h => h.elim, fun id _ => ⟨rfl, by rw [hSj]⟩⟩
  -- the first state
  refine wp_region_any hm ?_
  have hst0 : StepC β0 s.heap.get w0 β0 s.heap.get { w0 with drawn := w0.drawn + 1 } := ⟨Map.le_refl _, fun _ _ _ => rfl, Nat.le_refl _, fun _ h _ => h, fun _ _ _ h1 h2 _ => ⟨h1, h2⟩, rfl, rfl, rfl⟩
  have hrep : ∀ i, (Array.replicate l.toArray.size false).getD i false = false := fun i => by simp [Array.getD]
  have hcle : ∀ (f : Nat → Bool) (k : Nat), cnt f k ≤ k := by
    intro f k
    induction k with
    | zero => exact Nat.le_refl _
    | succ k ih => simp only [cnt]; split <;> omega
  refine main l.toArray.size _ a0 _ β0 s.heap.get e.get (by simp [hlen]) ?_ ?_ ?_ ?_ ⟨fun t v h => hr0.rel t v h, hr0.defers⟩ hN0 (hs0.drawn rfl) (fun id r h1 h2 => by rw [h2] at h1; cases h1) hst0
  · have := hcle (fun i => (Array.replicate l.toArray.size false).getD i false) al.length
    simp only [List.size_toArray, hlen]
    simpa [hlen] using this
  · intro j o _ hj
    have hj2 : (Array.replicate l.toArray.size false).getD j false = true := hj
    rw [hrep] at hj2; cases hj2
  · have := Inv.start (n := al.length) (val := fun i => (S i).heap.get) hrep
    simpa only [hS0] using this
  · have := Inv.start (n := al.length) (val := fun i => (E i).get) hrep
    simpa only [hE0] using this

end Go.Abs
