/-
  A front: keep (the whole).
-/
import Derived.Test.YtehgdocbabaldaaGreatFT4
set_option maxRecDepth 100000
set_option linter.unusedVariables false
set_option linter.unusedSimpArgs false
namespace Go.Proofs.YtehgdocbabaldaaGreat
open Go Go.Abs Go.Abs.K

section
variable {tbl : FuncId → Option AFun} {ov : CallSem} {s : St} (T : FTbl tbl)
include T

theorem mid32_spec {f l : Nat} {M : FM} {O : List Nat} {e : Env} (h : FRep s f l M O) (hn : M.row.length < 2 ^ 20) (h0 : M.row ≠ []) (g0 : e.get 0 = some (ptr f)) :
    WCode (fun k => call tbl ov k) mid32 e s fun x e' s' => x = .normal ∧ e'.get 0 = e.get 0 ∧ e'.get 4 = e.get 4 ∧ FRep s' f l (cutP M) O ∧ Kept O s s' := by
  have hh0 := h
  obtain ⟨mq, mh, mp, rv, SR, eq, cq, eh, ch, ep, cp, h1, rfl, h2, h3, h4, h5, h6, h7, h8, h9, h10, h11, h12, h13, h14⟩ := h
  have hfl := h3 f (by simp)
  have hpl := h3 mp (by simp)
  have hnd := h2
  simp only [List.nodup_cons, List.mem_cons, List.mem_append, not_or] at hnd
  obtain ⟨⟨a1, a2, a3, a4, a5⟩, ⟨b1, b2, b3, b4⟩, ⟨c1, c2, c3⟩, ⟨d1, d2⟩, _⟩ := hnd
  obtain ⟨z, zs, hz⟩ : ∃ z zs, M.row = z :: zs := by
    cases hr : M.row with
    | nil => exact absurd hr h0
    | cons z zs => exact ⟨z, zs, rfl⟩
  have hlen : 0 < M.row.length := by rw [hz]; simp
  obtain ⟨id, o, cap, c, T', ro, hv, hid, hg, hc⟩ := row1_at h13.toV hlen (z := z) (by rw [hz]; rfl)
  have hidm : id ∈ SR := by
    obtain ⟨_, ⟨e1, _⟩ | ⟨id', o', cap', c', e1, e2, _⟩⟩ := h13
    · rw [hv] at e1; cases e1
    · rw [hv] at e1
      simp only [Value.slice.injEq, Option.some.injEq, Addr.mk.injEq] at e1
      rw [e2, e1.1.1]; simp
  have hidp : ¬ id = mp := fun e => d1 (e ▸ hidm)
  subst hv
  have eD : ∀ g nx, g mp = some (.map ep cp) → evP g nx (.delete .int (.map (some mp)) (i64 z)) = some ⟨.tuple #[], [(mp, some (.map (mdel ep (i64 z)) cp))], nx⟩ := fun g nx h => ev_delete kindI h11 h ⟨_, rfl⟩
  obtain ⟨s1, hs1⟩ : ∃ s1 : St, s1 = ⟨s.heap.put mp (some (.map (mdel ep (i64 z)) cp)), s.next⟩ := ⟨_, rfl⟩
  have hk1 : Kept [mp] s s1 := by rw [hs1]; exact kept_put1 (Nat.le_refl _)
  have hR1 := h13.kept hk1 fun x hx hx' => d1 (by rw [← List.mem_singleton.1 hx']; exact hx)
  have h54 : WCall (fun k => call tbl ov k) 54 [.slice (some ⟨id, o, none⟩) M.row.length cap, i64 0, i64 1] s1 fun u s' => RowsP 3 1 s' u ((intsR M.row).take 0 ++ (intsR M.row).drop 1) SR ∧ Kept SR s1 s' := r54 T (k := 0) hR1 (by simpa using hlen) (by simpa using hn)
  have hix : 0 < (M.row.length : Int) := by omega
  have n1 : ¬ f = mp := a3
  have hb0 : c[o + 0]? = some (i64 z) := hc
  rw [Nat.add_zero] at hb0
  rw [hs1] at h54
  simp -implicitDefEqProofs only [mid32, code32, go_sem, g0, h1, h10, hix, hg, hb0, hidp, n1, eD, Nat.add_zero]
  refine WCall.mono h54 ?_
  rw [← hs1]
  rintro u s2 ⟨hR2, hk2⟩
  have hf2 : s2.heap.get f = some (.cells [i64 M.per, i64 M.mem, ptr l, .map (some mq), .map (some mh), .map (some mp), .slice (some ⟨id, o, none⟩) M.row.length cap] 80 0 false) := by
    rw [hk2.2 f (Nat.lt_of_lt_of_le hfl hk1.1) a4, hk1.2 f hfl (by simpa using a3)]; exact h1
  have hvs : ∃ va vn vc, u = .slice va vn vc := by
    obtain ⟨va, vc, hval⟩ := hR2.toV.len
    exact ⟨va, _, vc, hval⟩
  obtain ⟨va, vn, vc, rfl⟩ := hvs
  have hrow : (intsR M.row).take 0 ++ (intsR M.row).drop 1 = intsR (M.row.drop 1) := by simp [intsR]
  rw [hrow] at hR2
  simp -implicitDefEqProofs only [go_sem, hf2]
  obtain ⟨s3, hs3⟩ : ∃ s3 : St, s3 = ⟨s2.heap.put f (some (.cells [i64 M.per, i64 M.mem, ptr l, .map (some mq), .map (some mh), .map (some mp), .slice va vn vc] 80 0 false)), s2.next⟩ := ⟨_, rfl⟩
  have hk3 : Kept [f] s2 s3 := by rw [hs3]; exact kept_put1 (Nat.le_refl _)
  have hkall : Kept (f :: mp :: SR) s s3 := by
    refine ⟨Nat.le_trans hk1.1 (Nat.le_trans hk2.1 hk3.1), fun j hj hn => ?_⟩
    simp only [List.mem_cons, not_or] at hn
    have l1 := Nat.lt_of_lt_of_le hj hk1.1
    rw [hk3.2 j (Nat.lt_of_lt_of_le l1 hk2.1) (by simpa using hn.1), hk2.2 j l1 hn.2.2, hk1.2 j hj (by simpa using hn.2.1)]
  have hhead : M.row.headD 0 = z := by rw [hz]; rfl
  have hmp2 : s2.heap.get mp = some (.map (mdel ep (i64 z)) cp) := by
    rw [hk2.2 mp (Nat.lt_of_lt_of_le hpl hk1.1) d1, hs1]; simp only [Heap.get_put, if_true]
  have hfin : FRep s3 f l (cutP M) (f :: mq :: mh :: mp :: (SR ++ ownQ M.qs)) := by
    have := FRep.write hh0 hkall h1 h13 (rv' := .slice va vn vc) (by rw [hs3]; simp only [Heap.get_put, if_true]) (es := mdel ep (i64 z)) (c := cp) (by rw [hk3.2 mp (Nat.lt_of_lt_of_le (Nat.lt_of_lt_of_le hpl hk1.1) hk2.1) (by simpa using fun e => a3 e.symm)]; exact hmp2) (h11.sub (mdel_sub _ _)) (gr_del keyG_int h12 z) (hR2.kept hk3 fun x hx hx' => a4 (by rw [← List.mem_singleton.1 hx']; exact hx)) (RowsP.nodup hR2) fun x hx => .inl hx
    rw [← hhead] at this
    exact this
  rw [hs3] at hfin hkall
  refine ⟨g0, hfin, hkall.1, fun j hj hn => hkall.2 j hj fun hx => hn ?_⟩
  simp only [List.mem_cons, List.mem_append] at hx ⊢
  rcases hx with h | h | h
  · exact .inl h
  · exact .inr (.inr (.inr (.inl h)))
  · exact .inr (.inr (.inr (.inr (.inl h))))

theorem r32 {f l : Nat} {M : FM} {O : List Nat} {r : RQ} {need : Bool} (h : FRep s f l M O) (hn : M.row.length < 2 ^ 19) (hm : 1 ≤ M.mem) :
    WCall (fun k => call tbl ov k) 32 [ptr f, r.val, .bool need] s fun u s' => u = .tuple #[] ∧ ∃ O', FRep s' f l (keepM M r need) O' ∧ Kept O s s' ∧ ∀ x ∈ O', x ∈ O ∨ s.next ≤ x := by
  refine WCall.of T.t32 rfl ?_
  obtain ⟨q1, q2, q3, q4, q5, q6, q7⟩ := cells_facts r
  have hlt := h.lt
  obtain ⟨sA, hsA⟩ : ∃ sA : St, sA = ⟨s.heap.put s.next (some (.cells r.cells 34 0 false)), s.next + 1⟩ := ⟨_, rfl⟩
  have hkA : Kept [] s sA := by rw [hsA]; exact ⟨Nat.le_succ _, fun j hj _ => by simp only [Heap.get_put]; rw [if_neg (by omega)]⟩
  have hA := h.kept hkA (by simp)
  have hA0 := hA
  obtain ⟨mq, mh, mp, rv, SR, eq, cq, eh, ch, ep, cp, h1, hOe, h2, h3, h4, h5, h6, h7, h8, h9, h10, h11, h12, h13, h14⟩ := hA
  obtain ⟨a, cap, hlv⟩ := h13.toV.len
  rw [List.length_map] at hlv
  subst hlv
  have hbA : sA.heap.get s.next = some (.cells r.cells 34 0 false) := by rw [hsA]; simp only [Heap.get_put, if_true]
  have hbO : s.next ∉ O := fun hx => by have := hlt _ hx; omega
  have hfun : fun32.body = _ := code32_eq
  rw [hfun]
  have fin : ∀ (s2 : St) (M2 : FM) (e : Env), FRep s2 f l M2 O → Kept O sA s2 → M2.row.length < 2 ^ 20 → e.get 0 = some (ptr f) → e.get 4 = some (ptr s.next) →
      WCode (fun k => call tbl ov k) tail32 e s2 (ends [] fun u s' => u = .tuple #[] ∧ ∃ O', FRep s' f l (putP M2 r) O' ∧ Kept O s s' ∧ ∀ x ∈ O', x ∈ O ∨ s.next ≤ x) := by
    intro s2 M2 e hF hk hl g0 g4
    have hn1 := hkA.1; have hn2 := hk.1
    have hsl : s.next < sA.next := by rw [hsA]; exact Nat.lt_succ_self _
    refine WCode.mono ?_ (tail32_spec (ov := ov) T (r := r) hF hl (b := s.next) (by rw [hk.2 s.next hsl hbO]; exact hbA) (by omega) hbO g0 g4)
    rintro x e' s' ⟨rfl, O', hF', hk', hO'⟩
    exact ⟨rfl, O', hF', ⟨by have := hk'.1; omega, fun j hj hn => by rw [hk'.2 j (by omega) hn, hk.2 j (by omega) hn, hkA.2 j hj (by simp)]⟩, fun x hx => (hO' x hx).imp_right fun h => by omega⟩
  have hres : fun32.res = [] := rfl
  have hkA' := hkA
  rw [hsA] at h1 fin hA0 hkA'
  cases hfull : decide ((M.row.length : Int) ≥ M.mem)
  · have hk : keepM M r need = putP M r := by simp only [keepM]; rw [if_neg (of_decide_eq_false hfull)]
    rw [hk]
    simp -implicitDefEqProofs only [params, go_sem, q1, q2, q3, q4, h1, hfull, hres]
    exact fin _ M _ hA0 (Kept.refl _ _) (by omega) rfl rfl
  · cases need
    · have hk : keepM M r false = M := by simp only [keepM]; rw [if_pos (of_decide_eq_true hfull)]; rfl
      rw [hk]
      simp -implicitDefEqProofs only [params, go_sem, q1, q2, q3, q4, h1, hfull, hres]
      exact ⟨O, hA0, ⟨hkA'.1, fun j hj hn => hkA'.2 j hj (by simp)⟩, fun x hx => .inl hx⟩
    · have hk : keepM M r true = putP (cutP M) r := by simp only [keepM]; rw [if_pos (of_decide_eq_true hfull)]; rfl
      rw [hk]
      simp -implicitDefEqProofs only [params, go_sem, q1, q2, q3, q4, h1, hfull, hres]
      have hne : M.row ≠ [] := fun e => by rw [e] at hfull; have := of_decide_eq_true hfull; simp at this; omega
      refine WCode.mono ?_ (mid32_spec T hA0 (by omega) hne rfl)
      rintro x e' s' ⟨rfl, g0, g4, hF, hk⟩
      simp -implicitDefEqProofs only [go_sem]
      refine fin s' (cutP M) e' hF hk ?_ (g0.trans rfl) (g4.trans rfl)
      simp only [cutP, List.length_drop]; omega
end
end Go.Proofs.YtehgdocbabaldaaGreat


/-
  A front: a host's queue is written.
-/
set_option maxRecDepth 100000
set_option linter.unusedVariables false
set_option linter.unusedSimpArgs false
namespace Go.Proofs.YtehgdocbabaldaaGreat
open Go Go.Abs Go.Abs.K

theorem setG_split {υ : Type} {k : Int} {v : υ} : ∀ {F : List (Int × υ)}, lookG F k = some v → ∃ A B, F = A ++ (k, v) :: B ∧ ∀ w, setG F k w = A ++ (k, w) :: B := by
  intro F
  induction F with
  | nil => intro h; cases h
  | cons p F ih =>
    intro h
    simp only [lookG] at h
    by_cases hp : p.1 = k
    · rw [if_pos hp] at h
      cases h
      subst hp
      exact ⟨[], F, rfl, fun w => by simp [setG]⟩
    · rw [if_neg hp] at h
      obtain ⟨A, B, h1, h2⟩ := ih h
      exact ⟨p :: A, B, by rw [h1]; rfl, fun w => by simp only [setG, if_neg hp, h2 w, List.cons_append]⟩

theorem all2_swap {α β : Type} {R : α → β → Prop} {x y : β} (hxy : ∀ a, R a x → R a y) : ∀ {A B : List β} {es : List α}, All2 R es (A ++ x :: B) → All2 R es (A ++ y :: B) := by
  intro A
  induction A with
  | nil =>
    intro B es h
    cases h with
    | cons h1 h2 => exact .cons (hxy _ h1) h2
  | cons a A ih =>
    intro B es h
    cases h with
    | cons h1 h2 => exact .cons h1 (ih h2)

theorem FRep.setQ {s s' : St} {f l : Nat} {M : FM} {O : List Nat} {k : Int} {n : QN} {L' : List RQ} {S' : List Nat} (h : FRep s f l M O) (hl : lookG M.qs k = some n) (hk : Kept (n.q :: n.S) s s')
    (hQ : Q.QRep s' n.q M.per (L'.map bareQ) S') (hS : ∀ x ∈ S', x ∈ n.S ∨ s.next ≤ x) (hSn : S'.Nodup) (hqS : n.q ∉ S') :
    ∃ O', FRep s' f l { M with qs := setG M.qs k ⟨n.q, L', S'⟩ } O' ∧ Kept O s s' ∧ ∀ x ∈ O', x ∈ O ∨ s.next ≤ x := by
  obtain ⟨mq, mh, mp, rv, SR, eq, cq, eh, ch, ep, cp, h1, rfl, h2, h3, h4, h5, h6, h7, h8, h9, h10, h11, h12, h13, h14⟩ := h
  obtain ⟨A, B, hAB, hset⟩ := setG_split hl
  have hS2 := hset ⟨n.q, L', S'⟩
  have hown : ownQ M.qs = ownQ A ++ (n.q :: (n.S ++ ownQ B)) := by rw [hAB]; simp [ownQ]
  have hown2 : ownQ (setG M.qs k ⟨n.q, L', S'⟩) = ownQ A ++ (n.q :: (S' ++ ownQ B)) := by rw [hS2]; simp [ownQ]
  obtain ⟨P, hP⟩ : ∃ P, P = f :: mq :: mh :: mp :: (SR ++ ownQ A) := ⟨_, rfl⟩
  have hO : f :: mq :: mh :: mp :: (SR ++ ownQ M.qs) = P ++ (n.q :: (n.S ++ ownQ B)) := by rw [hown, hP]; simp
  have hO2 : f :: mq :: mh :: mp :: (SR ++ ownQ (setG M.qs k ⟨n.q, L', S'⟩)) = P ++ (n.q :: (S' ++ ownQ B)) := by rw [hown2, hP]; simp
  rw [hO] at h2 h3 ⊢
  rw [List.nodup_append, List.nodup_cons, List.nodup_append] at h2
  obtain ⟨p1, ⟨p2, p3, p4, p5⟩, p6⟩ := h2
  simp only [List.mem_append, not_or] at p2
  have hPn : ∀ x ∈ P, x ∉ n.q :: n.S := fun x hx hx' => by
    rcases List.mem_cons.1 hx' with e | e
    · exact p6 x hx n.q (by simp) e
    · exact p6 x hx x (by simp [e]) rfl
  have hPl : ∀ x ∈ P, x < s.next := fun x hx => h3 x (by simp [hx])
  have hBl : ∀ x ∈ ownQ B, x < s.next := fun x hx => h3 x (by simp [hx])
  have hBn : ∀ x ∈ ownQ B, x ∉ n.q :: n.S := fun x hx hx' => by
    rcases List.mem_cons.1 hx' with e | e
    · exact p2.2 (e ▸ hx)
    · exact p5 x e x hx rfl
  have hql : n.q < s.next := h3 n.q (by simp)
  have hlt := hQ.lt
  have same : ∀ x ∈ P, s'.heap.get x = s.heap.get x := fun x hx => hk.2 x (hPl x hx) (hPn x hx)
  have inA : ∀ e ∈ A, ∀ x, x = e.2.q ∨ x ∈ e.2.S → x ∈ P := fun e he x hx => by
    rw [hP]
    simp only [List.mem_cons, List.mem_append, ownQ, List.mem_flatMap]
    exact .inr (.inr (.inr (.inr (.inr ⟨e, he, hx⟩))))
  have inB : ∀ e ∈ B, ∀ x, x = e.2.q ∨ x ∈ e.2.S → x ∈ ownQ B := fun e he x hx => by
    simp only [ownQ, List.mem_flatMap, List.mem_cons]
    exact ⟨e, he, hx⟩
  refine ⟨P ++ (n.q :: (S' ++ ownQ B)), ⟨mq, mh, mp, rv, SR, eq, cq, eh, ch, ep, cp, ?_, hO2.symm, ?_, ?_, ?_, h5, ?_, ?_, h8, h9, ?_, h11, h12, h13.kept hk fun x hx => hPn x (by rw [hP]; simp [hx]), ?_⟩, ⟨hk.1, fun j hj hn => hk.2 j hj fun hx => hn ?_⟩, ?_⟩
  · rw [same f (by rw [hP]; simp)]; exact h1
  · rw [List.nodup_append, List.nodup_cons, List.nodup_append]
    refine ⟨p1, ⟨by simp only [List.mem_append, not_or]; exact ⟨hqS, p2.2⟩, hSn, p4, fun a ha b hb e => ?_⟩, fun a ha b hb e => ?_⟩
    · rcases hS a ha with h | h
      · exact p5 a h b hb e
      · have := hBl b hb; omega
    · subst e
      simp only [List.mem_cons, List.mem_append] at hb
      rcases hb with hb | hb | hb
      · exact p6 a ha n.q (by simp) hb
      · rcases hS a hb with h | h
        · exact p6 a ha a (by simp [h]) rfl
        · have := hPl a ha; omega
      · exact p6 a ha a (by simp [hb]) rfl
  · intro x hx
    simp only [List.mem_cons, List.mem_append] at hx
    rcases hx with hx | hx | hx | hx
    · exact Nat.lt_of_lt_of_le (hPl x hx) hk.1
    · subst hx; exact hlt.1
    · exact hlt.2 x hx
    · exact Nat.lt_of_lt_of_le (hBl x hx) hk.1
  · rw [same mq (by rw [hP]; simp)]; exact h4
  · show GR ekI (fun n : QN => ptr n.q) eq (setG M.qs k ⟨n.q, L', S'⟩)
    rw [hS2]
    rw [hAB] at h6
    exact all2_swap (R := fun (e : MapEntry) (q : Int × QN) => e.key = ekI q.1 ∧ e.val = ptr q.2.q) (x := (k, n)) (y := (k, ⟨n.q, L', S'⟩)) (fun a h => h) h6
  · rw [same mh (by rw [hP]; simp)]; exact h7
  · rw [same mp (by rw [hP]; simp)]; exact h10
  · intro e he
    rw [show (({ M with qs := setG M.qs k ⟨n.q, L', S'⟩ } : FM)).qs = A ++ (k, ⟨n.q, L', S'⟩) :: B from hS2] at he
    rw [hAB] at h14
    rcases List.mem_append.1 he with he | he
    · exact (h14 e (by simp [he])).kept hk (hPn _ (inA e he _ (.inl rfl))) fun x hx => hPn x (inA e he x (.inr hx))
    · rcases List.mem_cons.1 he with rfl | he
      · exact hQ
      · exact (h14 e (by simp [he])).kept hk (hBn _ (inB e he _ (.inl rfl))) fun x hx => hBn x (inB e he x (.inr hx))
  · simp only [List.mem_cons, List.mem_append] at hx ⊢
    rcases hx with h | h
    · exact .inr (.inl h)
    · exact .inr (.inr (.inl h))
  · intro x hx
    simp only [List.mem_cons, List.mem_append] at hx ⊢
    rcases hx with h | h | h | h
    · exact .inl (.inl h)
    · exact .inl (.inr (.inl h))
    · exact (hS x h).imp_left fun h => .inr (.inr (.inl h))
    · exact .inl (.inr (.inr (.inr h)))
end Go.Proofs.YtehgdocbabaldaaGreat


/-
  A front: Back.
-/
set_option maxRecDepth 100000
set_option linter.unusedVariables false
set_option linter.unusedSimpArgs false
namespace Go.Proofs.YtehgdocbabaldaaGreat
open Go Go.Abs Go.Abs.K

def insR (r : RQ) (L : List RQ) : List RQ := L.take (Q.insI (bareQ r) (L.map bareQ)) ++ r :: L.drop (Q.insI (bareQ r) (L.map bareQ))
theorem insR_bare (r : RQ) (L : List RQ) : (insR r L).map bareQ = Q.insL (bareQ r) (L.map bareQ) := by
  simp only [insR, Q.insL, List.map_append, List.map_cons, List.map_take, List.map_drop]

theorem FRep.setHost {s : St} {f l mq mh mp : Nat} {M : FM} {O : List Nat} {rv : Value} {k x : Int} (h : FRep s f l M O) (h1 : s.heap.get f = some (.cells [i64 M.per, i64 M.mem, ptr l, .map (some mq), .map (some mh), .map (some mp), rv] 80 0 false)) :
    ∃ es c, s.heap.get mh = some (.map es c) ∧ MOK KInt es c ∧ GR ekI ekI es M.host ∧ mh ∈ O ∧
      ∀ es' c' H, MOK KInt es' c' → GR ekI ekI es' H → FRep ⟨s.heap.put mh (some (.map es' c')), s.next⟩ f l { M with host := H } O ∧ Kept [mh] s ⟨s.heap.put mh (some (.map es' c')), s.next⟩ := by
  have h0 := h
  obtain ⟨mq', mh', mp', rv', SR, eq, cq, eh, ch, ep, cp, g1, rfl, g2, g3, g4, g5, g6, g7, g8, g9, g10, g11, g12, g13, g14⟩ := h
  rw [h1] at g1
  simp only [Option.some.injEq, AObj.cells.injEq, List.cons.injEq, Value.map.injEq, and_true, true_and] at g1
  obtain ⟨rfl, rfl, rfl, rfl⟩ := g1
  refine ⟨eh, ch, g7, g8, g9, by simp, fun es' c' H k1 k2 => ?_⟩
  have hk : Kept [mh] s ⟨s.heap.put mh (some (.map es' c')), s.next⟩ := kept_put1 (Nat.le_refl _)
  refine ⟨?_, hk⟩
  have hnd := g2
  simp only [List.nodup_cons, List.mem_cons, List.mem_append, not_or] at hnd
  obtain ⟨⟨a1, a2, a3, a4, a5⟩, ⟨b1, b2, b3, b4⟩, ⟨c1, c2, c3⟩, ⟨d1, d2⟩, _⟩ := hnd
  refine ⟨mq, mh, mp, rv, SR, eq, cq, es', c', ep, cp, ?_, rfl, g2, g3, ?_, g5, g6, ?_, k1, k2, ?_, g11, g12, g13.kept hk fun x hx hx' => c2 (by rw [← List.mem_singleton.1 hx']; exact hx), fun e he => ?_⟩
  · rw [hk.2 f (g3 f (by simp)) (by simpa using a2)]; exact h1
  · rw [hk.2 mq (g3 mq (by simp)) (by simpa using b1)]; exact g4
  · simp only [Heap.get_put, if_true]
  · rw [hk.2 mp (g3 mp (by simp)) (by simpa using fun e => c1 e.symm)]; exact g10
  · have hin : ∀ x, x = e.2.q ∨ x ∈ e.2.S → x ∉ [mh] := fun x hx hx' => by
      have := List.mem_singleton.1 hx'
      subst this
      refine c3 ?_
      simp only [ownQ, List.mem_flatMap, List.mem_cons]
      exact ⟨e, he, hx⟩
    exact (g14 e he).kept hk (hin _ (.inl rfl)) fun x hx => hin x (.inr hx)

section
variable {tbl : FuncId → Option AFun} {ov : CallSem} {s : St} (T : FTbl tbl)
include T

theorem r29s {f l : Nat} {M : FM} {O : List Nat} (h : FRep s f l M O) {k : Int} {n : QN} (hx : lookG M.qs k = some n) (K : Value → St → Prop) :
    WCall (fun k => call tbl ov k) 29 [ptr f, i64 k] s K = K (ptr n.q) s := by
  obtain ⟨mq, mh, mp, rv, SR, eq, cq, eh, ch, ep, cp, h1, rfl, h2, h3, h4, h5, h6, h7, h8, h9, h10, h11, h12, h13, h14⟩ := h
  refine WCall.eq (WCall.of T.t29 rfl ?_) K
  have el : ∀ g nx, g mq = some (.map eq cq) → evP g nx (.lookup .int (.pointer none) false (.map (some mq)) (i64 k)) = some ⟨ptr n.q, [], nx⟩ := fun g nx hg => by
    rw [ev_lookup kindI h5 hg ⟨_, rfl⟩, gr_get keyG_int h6 k, hx]
    rfl
  simp -implicitDefEqProofs only [fun29, code29, params, go_sem, h1, h4, el]

theorem r17 (TQ : Q.QTbl tbl) (ho : Q.OvOK ov) {f l : Nat} {M : FM} {O : List Nat} {r : RQ} {k : Int} (h : FRep s f l M O) (hp : 0 ≤ M.per) (hm : 1 ≤ M.mem) (hn : M.row.length < 2 ^ 19)
    (hl : (rowsQ M.qs k).length < 2 ^ 19) (hs : Q.SortedR ((rowsQ M.qs k).map bareQ)) (hpos : Q.posL r.id ((rowsQ M.qs k).map bareQ) = none) (hno : lookG M.host r.id = none) :
    WCall (fun k => call tbl ov k) 17 [ptr f, i64 k, r.val] s fun u s' => u = .tuple #[] ∧ ∃ O' qs', FRep s' f l (keepM { M with qs := qs', host := putG M.host r.id k } r false) O' ∧ (∀ j, rowsQ qs' j = if j = k then insR r (rowsQ M.qs k) else rowsQ M.qs j) ∧ Kept O s s' ∧ ∀ x ∈ O', x ∈ O ∨ s.next ≤ x := by
  refine WCall.of T.t17 rfl ?_
  obtain ⟨q1, q2, q3, q4, q5, q6, q7⟩ := cells_facts r
  obtain ⟨d1, d2, d3, d4, d5, d6, d7⟩ := cells_facts ({ r with path := ⟨#[]⟩ } : RQ)
  have hlt := h.lt
  obtain ⟨sA, hsA⟩ : ∃ sA : St, sA = ⟨(((s.heap.put s.next (some (.cells r.cells 34 0 false))).put (s.next + 1) (some (.cells [in64 0, .string ⟨#[]⟩, .string ⟨#[]⟩, in64 0, in64 0] 34 0 false))).put (s.next + 1) (some (.cells r.cells 34 0 false))).put (s.next + 1) (some (.cells ({ r with path := ⟨#[]⟩ } : RQ).cells 34 0 false)), s.next + 1 + 1⟩ := ⟨_, rfl⟩
  have hkA : Kept [] s sA := by
    rw [hsA]
    exact ⟨by simp only; omega, fun j hj _ => by simp only [Heap.get_put]; repeat rw [if_neg (by omega)]⟩
  have hA := h.kept hkA (by simp)
  have h0 := h
  obtain ⟨mq, mh, mp, rv, SR, eq, cq, eh, ch, ep, cp, h1, hOe, h2, h3, h4, h5, h6, h7, h8, h9, h10, h11, h12, h13, h14⟩ := h
  have hfl := h3 f (by rw [hOe]; simp)
  have hhl := h3 mh (by rw [hOe]; simp)
  have n1 : ¬ f = s.next := by omega
  have n2 : ¬ mh = s.next := by omega
  have n3 : ¬ s.next = s.next + 1 := by omega
  have n4 : ¬ s.next + 1 = s.next := by omega
  have n5 : ¬ f = s.next + 1 := by omega
  have n6 : ¬ mh = s.next + 1 := by omega
  have el : ∀ g nx, g mh = some (.map eh ch) → evP g nx (.lookup .int (in64 0) true (.map (some mh)) (i64 r.id)) = some ⟨.tuple #[i64 0, .bool false], [], nx⟩ := fun g nx hg => by
    rw [ev_lookup kindI h8 hg ⟨_, rfl⟩, gr_get keyG_int h9 r.id, hno]
    rfl
  simp -implicitDefEqProofs only [fun17, code17, params, go_sem, h1, h7, el, n1, n2, n3, n4, n5, n6, q1, q2, q3, q4, q5, q6, q7, fillL, List.drop_zero]
  rw [← hsA]
  refine WCall.mono (r29 T TQ hA hp k) ?_
  rintro u s1 ⟨n, O1, qs1, rfl, hF1, hl1, hr1, ⟨hk1, _⟩, hO1⟩
  have hsn : s.next + 1 < sA.next := by rw [hsA]; exact Nat.lt_succ_self _
  have hbO : ∀ x, s.next ≤ x → x ∉ O := fun x hx hx' => by have := hlt x hx'; omega
  have hb1 : s1.heap.get s.next = some (.cells r.cells 34 0 false) := by
    rw [hk1.2 s.next (by omega) (hbO _ (Nat.le_refl _)), hsA]; simp only [Heap.get_put, n3, if_true, if_false]
  have hb2 : s1.heap.get (s.next + 1) = some (.cells ({ r with path := ⟨#[]⟩ } : RQ).cells 34 0 false) := by
    rw [hk1.2 (s.next + 1) hsn (hbO _ (Nat.le_succ _)), hsA]; simp only [Heap.get_put, if_true]
  simp -implicitDefEqProofs only [go_sem, hb2, d1, d2, d3, List.drop_zero]
  have hF1q : Q.QRep s1 n.q M.per (n.L.map bareQ) n.S ∧ n.q ∈ O1 := by
    obtain ⟨mq', mh', mp', rv', SR', eq', cq', eh', ch', ep', cp', g1, rfl, g2, g3, g4, g5, g6, g7, g8, g9, g10, g11, g12, g13, g14⟩ := hF1
    refine ⟨g14 _ (lookG_mem hl1), ?_⟩
    simp only [List.mem_cons, List.mem_append, ownQ, List.mem_flatMap]
    exact .inr (.inr (.inr (.inr (.inr ⟨_, lookG_mem hl1, .inl rfl⟩))))
  have hrl : rowsQ M.qs k = n.L := by rw [← hr1 k, rowsQ, hl1]; rfl
  rw [hrl] at hs hpos hl
  refine WCall.mono (Q.p36 (ov := ov) TQ (r := bareQ r) ho hF1q.1 hs (by rw [List.length_map]; omega) hpos) ?_
  rintro u s2 ⟨rfl, S', hQ2, hk2, hS2⟩
  rw [← insR_bare] at hQ2
  have hSn : S'.Nodup ∧ n.q ∉ S' := by
    obtain ⟨lv, _, hR, hq, _⟩ := hQ2
    exact ⟨RowsP.nodup hR, hq⟩
  obtain ⟨O2, hF2, hk2', hO2⟩ := hF1.setQ hl1 hk2 hQ2 hS2 hSn.1 hSn.2
  have hf2 : ∃ mq2 mh2 mp2 rv2, s2.heap.get f = some (.cells [i64 M.per, i64 M.mem, ptr l, .map (some mq2), .map (some mh2), .map (some mp2), rv2] 80 0 false) ∧ f ∈ O2 := by
    obtain ⟨mq', mh', mp', rv', SR', eq', cq', eh', ch', ep', cp', g1, rfl, _⟩ := hF2
    exact ⟨_, _, _, _, g1, by simp⟩
  obtain ⟨mq2, mh2, mp2, rv2, f1, f2⟩ := hf2
  obtain ⟨es2, cc2, m1, m2, m3, m4, m5⟩ := hF2.setHost (k := k) (x := r.id) f1
  have eU : ∀ g nx, g mh2 = some (.map es2 cc2) → evP g nx (.mapUpdate .int (.map (some mh2)) (i64 r.id) (i64 k)) = some ⟨undefV, [(mh2, some (.map (mput es2 cc2 (i64 r.id) (i64 k)) (mclock es2 cc2 (i64 r.id))))], nx⟩ := fun g nx h => ev_mapUpdate kindI m2 h ⟨_, rfl⟩
  obtain ⟨hF3, hk3⟩ := m5 _ _ (putG M.host r.id k) (m2.mput kindI ⟨_, rfl⟩ (i64 k)) (gr_put keyG_int m3 r.id k)
  have hb12 : s2.heap.get s.next = some (.cells r.cells 34 0 false) := by
    rw [hk2'.2 s.next (by have := hk1.1; omega) (fun hx => by rcases hO1 _ hx with h | h; exact hbO _ (Nat.le_refl _) h; omega)]; exact hb1
  have x1 : ¬ s.next = mh2 := fun e => by
    rcases hO2 _ m4 with h | h
    · rcases hO1 _ h with h | h
      · exact hbO mh2 (by omega) h
      · omega
    · have := hk1.1; omega
  have x2 : ¬ f = mh2 := fun e => by
    subst e
    rw [f1] at m1; cases m1
  simp -implicitDefEqProofs only [go_sem, f1, hb12, q1, q2, q3, q5, m1, eU, x1, x2, List.drop_zero]
  refine ⟨fun y hy => ?_, ?_⟩
  · rw [List.mem_singleton.1 hy]
    exact apart_one rfl rfl rfl fun id' hid' => by
      rw [List.mem_singleton.1 hid']
      exact hk1.2 (s.next + 1) hsn (hbO _ (Nat.le_succ _))
  · refine WCall.mono (r32 T (r := r) (need := false) hF3 hn hm) ?_
    rintro u s4 ⟨rfl, O4, hF4, hk4, hO4⟩
    simp -implicitDefEqProofs only [go_sem]
    have l1 := hkA.1; have l2 := hk1.1; have l3 := hk2'.1; have l4 := hk4.1
    simp only at l4
    have gO : ∀ x ∈ O2, x ∈ O ∨ s.next ≤ x := fun x hx => by
      rcases hO2 x hx with h | h
      · rcases hO1 x h with h | h
        · exact .inl h
        · exact .inr (by omega)
      · exact .inr (by omega)
    refine ⟨O4, _, hF4, fun j => ?_, ⟨by omega, fun j hj hn => ?_⟩, fun x hx => ?_⟩
    · by_cases hjk : j = k
      · subst hjk
        rw [if_pos rfl, hrl]
        have : lookG (setG qs1 j ⟨n.q, insR r n.L, S'⟩) j = some ⟨n.q, insR r n.L, S'⟩ := by rw [lookG_set, if_pos rfl, hl1]; rfl
        rw [rowsQ, this]; rfl
      · rw [if_neg hjk, rowsQ, lookG_set, if_neg hjk]
        exact hr1 j
    · have c1 : j ∉ O1 := fun hx => by rcases hO1 j hx with h | h; exact hn h; omega
      have c2 : j ∉ O2 := fun hx => by rcases gO j hx with h | h; exact hn h; omega
      have e4 := hk4.2 j (by simp only; omega) c2
      have e3 := hk3.2 j (by omega) (fun hx => c2 (by rw [List.mem_singleton.1 hx]; exact m4))
      rw [e4, e3, hk2'.2 j (by omega) c1, hk1.2 j (by omega) hn, hkA.2 j hj (by simp)]
    · rcases hO4 x hx with h | h
      · exact gO x h
      · exact .inr (by simp only at h; omega)
end
end Go.Proofs.YtehgdocbabaldaaGreat
