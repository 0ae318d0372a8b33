/-
  The reference's disk: Append.
-/
import Derived.Test.YtgnpafmhdmmmhaaD13
set_option maxRecDepth 100000
set_option linter.unusedVariables false
set_option linter.unusedSimpArgs false
namespace Go.Proofs.Ytgnpafmhdmmmhaa
open Go Go.Abs Go.Abs.K

/-- Where a segment comes in. -/
def insI (n : Int) : List (Int × List (Int × Int)) → Nat
  | [] => 0
  | p :: L => if p.1 < n then insI n L + 1 else 0
theorem insI_le (n : Int) (L : List (Int × List (Int × Int))) : insI n L ≤ L.length := by
  induction L with
  | nil => exact Nat.le_refl _
  | cons p L ih => simp only [insI]; split <;> simp; omega
theorem insI_eq {n : Int} : ∀ {L : List (Int × List (Int × Int))} {i : Nat}, i ≤ L.length → (∀ k p, k < i → L[k]? = some p → p.1 < n) → (∀ p, L[i]? = some p → ¬ p.1 < n) → i = insI n L := by
  intro L
  induction L with
  | nil => intro i hi _ _; simp at hi; subst hi; rfl
  | cons p L ih =>
    intro i hi hb ha
    cases i with
    | zero =>
      have := ha p rfl
      simp only [insI, if_neg this]
    | succ i =>
      have h0 := hb 0 p (by omega) rfl
      simp only [insI, if_pos h0]
      rw [← ih (i := i) (by simpa using hi) (fun k p hk hp => hb (k + 1) p (by omega) (by simpa using hp)) (fun p hp => ha p (by simpa using hp))]

/-- Bytes with their marks. -/
def markB : List Int → Int → List (Int × Int)
  | [], _ => []
  | b :: r, nx => (b, nx) :: markB r (nx + 1)
theorem markB_length (bs : List Int) (nx : Int) : (markB bs nx).length = bs.length := by
  induction bs generalizing nx with
  | nil => rfl
  | cons b r ih => simp [markB, ih]
theorem markB_get (bs : List Int) (nx : Int) (k : Nat) (h : k < bs.length) : (markB bs nx)[k]? = some (bs.getD k 0, nx + k) := by
  induction bs generalizing nx k with
  | nil => simp at h
  | cons b r ih =>
    cases k with
    | zero => simp [markB]
    | succ k =>
      simp only [markB, List.getElem?_cons_succ, List.getD_cons_succ]
      rw [ih _ _ (by simpa using h)]
      congr 2; omega

def rFull (R : RM) (n : Int) (k : Nat) : Bool := if (idxS n R.segs).isSome then decide (((rBytes R n).length : Int) + k > 2048) else decide ((R.segs.length : Int) ≥ R.most) || decide ((k : Int) > 2048)
def rAppE (R : RM) (n : Int) (k : Nat) : Int := if n < 0 then 1 else if rFull R n k then 5 else if wB R.first R.fails then 0 else 7
/-- The segments with one for n. -/
def rSegs (R : RM) (n : Int) : List (Int × List (Int × Int)) := if (idxS n R.segs).isSome then R.segs else R.segs.take (insI n R.segs) ++ (n, []) :: R.segs.drop (insI n R.segs)
def rIdx (R : RM) (n : Int) : Nat := match idxS n R.segs with | some i => i | none => insI n R.segs
def rAppR (R : RM) (n : Int) (bs : List Int) : RM := if n < 0 then R else if rFull R n bs.length then R else if wB R.first R.fails then { wR R with segs := (rSegs R n).set (rIdx R n) (n, rBytes R n ++ markB bs R.next), next := R.next + bs.length } else wR R

section
variable {s : St} {q : Nat} {R : RM} {O : List Nat} {sv : Value} {S : List Nat} {rows : List (List Value)} {L : Nat → List Nat}

/-- A segment's bytes have grown. -/
theorem RAt.regrow (h : RAt s q R O sv S rows L) {i : Nat} {n : Int} {bs : List (Int × Int)} (hi : R.segs[i]? = some (n, bs)) {bs' : List (Int × Int)} {s2 : St} (hk : Kept (L i) s s2) {val : Value} {S' : List Nat} (hv : RowsO 97 2 s2 val (bs'.map rowB) S')
    (hS' : ∀ x ∈ S', x ∈ L i ∨ s.next ≤ x) (hl : bs'.length ≤ 2048) (hz : ∀ z ∈ bs', 0 ≤ z.1 ∧ z.1 ≤ 255) (hc : isCell val = true) :
    ∃ id o cap c, sv = .slice (some ⟨id, o, none⟩) R.segs.length cap ∧ id ∈ S ∧ s2.heap.get id = some (.cells c 73 2 false) ∧ o + i * 2 + 2 ≤ c.length ∧
      RAt ⟨s2.heap.put id (some (.cells (c.set (o + i * 2 + 1) val) 73 2 false)), s2.next⟩ q { R with segs := R.segs.set i (n, bs') } (O ++ S') sv S (rows.set i [i64 n, val]) (fun j => if j = i then S' else L j) ∧
      Kept O s ⟨s2.heap.put id (some (.cells (c.set (o + i * 2 + 1) val) 73 2 false)), s2.next⟩ := by
  have hil := (List.getElem?_eq_some_iff.1 hi).1
  obtain ⟨bv, hbv, hB⟩ := h.inner i n bs hi
  have hO2 := RowsO.kept' h.outer hk fun x hx hx' => (h.apart i x hil hx').2 hx
  obtain ⟨id, o, cap, c, hsv, hSe, hg, hle, hw, hkw⟩ := hO2.write (i := i) (j := 1) (by rw [h.len]; exact hil) (by decide) hc
  have hrow : (rows.getD i []).set 1 val = [i64 n, val] := by rw [List.getD_eq_getElem?_getD, hbv]; rfl
  rw [hrow] at hw
  have hidS : id ∈ S := by rw [hSe]; exact List.mem_singleton.2 rfl
  have hS'lt : ∀ x ∈ S', x < s2.next := by
    intro x hx
    obtain ⟨_, ⟨_, _, hh⟩ | ⟨id', o', cap', c', _, hh, _, hlt, _⟩⟩ := hv
    · rw [hh] at hx; cases hx
    · rw [hh] at hx; rw [List.mem_singleton.1 hx]; exact hlt
  have hS'S : ∀ x ∈ S', x ∉ S ∧ x ≠ q := fun x hx => by
    rcases hS' x hx with hx | hx
    · exact ⟨(h.apart i x hil hx).2, (h.apart i x hil hx).1⟩
    · refine ⟨fun h' => ?_, fun h' => ?_⟩
      · have := h.lt x (h.SO x h'); omega
      · have := h.lt q h.qO; omega
  have hS'L : ∀ x ∈ S', ∀ j, j < R.segs.length → j ≠ i → x ∉ L j := fun x hx j hj hne hx' => by
    rcases hS' x hx with hx | hx
    · exact h.apart2 i j x hil hj (Ne.symm hne) hx hx'
    · have := h.lt x (h.LO j x hj hx'); omega
  have hqid : q ≠ id := fun e => h.qS (e ▸ hidS)
  have hnn := hk.1
  obtain ⟨s3, hs3⟩ : ∃ s3 : St, s3 = ⟨s2.heap.put id (some (.cells (c.set (o + i * 2 + 1) val) 73 2 false)), s2.next⟩ := ⟨_, rfl⟩
  rw [← hs3] at hw hkw
  have hn3 : s3.next = s2.next := by rw [hs3]
  refine ⟨id, o, cap, c, by rw [hsv, h.len], hidS, hg, hle, ?_⟩
  rw [← hs3]
  refine ⟨⟨?_, hw, by simp only [List.length_set]; exact h.len, fun j n2 bs2 hj => ?_, h.qS, fun j x hj hx => ?_, fun j k x hj hk' hne hx => ?_, List.mem_append_left _ h.qO, fun x hx => List.mem_append_left _ (h.SO x hx), fun j x hj hx => ?_, fun x hx => ?_, ⟨h.rw.first, h.rw.fails, h.rw.next, by simpa using h.rw.len, fun j n2 bs2 hj => ?_⟩⟩, ⟨by omega, fun j hj hn => ?_⟩⟩
  · rw [hkw.2 q (by have := h.lt q h.qO; omega) h.qS, hk.2 q (h.lt q h.qO) fun hx => (h.apart i q hil hx).1 rfl]; exact h.cell
  · simp only [List.getElem?_set] at hj ⊢
    by_cases he : i = j
    · subst he
      rw [if_pos rfl, if_pos hil] at hj
      cases hj
      rw [if_pos rfl, if_pos (by rw [h.len]; exact hil), if_pos rfl]
      exact ⟨val, rfl, RowsO.kept' hv hkw fun x hx => (hS'S x hx).1⟩
    · rw [if_neg he] at hj
      obtain ⟨bv2, h1, h2⟩ := h.inner j n2 bs2 hj
      have hjl := (List.getElem?_eq_some_iff.1 hj).1
      rw [if_neg he, if_neg (Ne.symm he)]
      exact ⟨bv2, h1, RowsO.kept' (RowsO.kept' h2 hk fun x hx => h.apart2 j i x hjl hil (Ne.symm he) hx) hkw fun x hx => (h.apart j x hjl hx).2⟩
  · simp only [List.length_set] at hj
    by_cases he : j = i
    · rw [if_pos he] at hx
      exact ⟨(hS'S x hx).2, (hS'S x hx).1⟩
    · rw [if_neg he] at hx
      exact h.apart j x hj hx
  · simp only [List.length_set] at hj hk'
    by_cases he : j = i
    · rw [if_pos he] at hx
      rw [if_neg (fun e => hne (he.trans e.symm))]
      exact hS'L x hx k hk' (fun e => hne (he.trans e.symm))
    · rw [if_neg he] at hx
      by_cases he2 : k = i
      · rw [if_pos he2]
        exact fun hx' => hS'L x hx' j hj he hx
      · rw [if_neg he2]
        exact h.apart2 j k x hj hk' hne hx
  · simp only [List.length_set] at hj
    by_cases he : j = i
    · rw [if_pos he] at hx
      exact List.mem_append_right _ hx
    · rw [if_neg he] at hx
      exact List.mem_append_left _ (h.LO j x hj hx)
  · rw [hn3]
    rcases List.mem_append.1 hx with hx | hx
    · exact Nat.lt_of_lt_of_le (h.lt x hx) hnn
    · exact hS'lt x hx
  · simp only [List.getElem?_set] at hj
    by_cases he : i = j
    · subst he
      rw [if_pos rfl, if_pos hil] at hj
      cases hj
      exact ⟨hl, hz⟩
    · rw [if_neg he] at hj
      exact h.rw.bytes j n2 bs2 hj
  · rw [hkw.2 j (by omega) fun hx => hn (h.SO j hx), hk.2 j hj fun hx => hn (h.LO i j hil hx)]
end

/-- The text of Append from the loop on. -/
def tail32 : ACode :=
 (.seq (.seq (R [o 8 (.mov (i 0))])
  (.block 2 (.loop [0, 2, 7, 8] (.seq (.seq (R [o 103 (.mov (v 8)), o 104 (.mov (v 2)), o 105 (.len .slice (v 104)), o 106 (.bin .lss (v 103) (v 105))])
     (.cond (v 106) (.skip)
     (.exit 2)))
    (.seq (.block 3 (.seq (D [o 109 (.mov (v 0)), o 110 (.nilCheck (v 109)), o 111 (.fieldAddr 1 (v 110)), o 112 (.load none (v 111)), o 113 (.mov (v 7)), o 114 (.mov (v 0)), o 115 (.nilCheck (v 114)), o 116 (.fieldAddr 1 (v 115)), o 117 (.load none (v 116)), o 118 (.mov (v 7)), o 119 (.indexAddr 2 (v 117) (v 118)), o 120 (.fieldAddr 1 (v 119)), o 121 (.load none (v 120)), o 122 (.mov (v 2)), o 123 (.mov (v 8)), o 124 (.indexAddr 1 (v 122) (v 123)), o 125 (.load none (v 124)), o 126 (.mov (v 0)), o 127 (.nilCheck (v 126)), o 128 (.fieldAddr 2 (v 127)), o 129 (.load none (v 128)), o 130 (.build [(.int .u8 0), (.int .i64 0)] [(0, 1, (v 125)), (1, 1, (v 129))]), o 131 (.buildSlice 97 2 1 [(.int .u8 0), (.int .i64 0)] [(0, 2, (v 130))]), o 132 (.append 97 2 16 (v 121) (v 131)), o 133 (.indexAddr 2 (v 112) (v 113)), o 134 (.fieldAddr 1 (v 133)), on (.store 1 (v 134) (v 132))] ⟨[(23, 3)], [], []⟩)
      (R [o 135 (.mov (v 0)), o 136 (.nilCheck (v 135)), o 137 (.fieldAddr 2 (v 136)), o 138 (.load none (v 137)), o 139 (.bin .add (v 138) (i 1)), o 140 (.nilCheck (v 135)), o 141 (.fieldAddr 2 (v 140)), on (.store 1 (v 141) (v 139))])))
    (R [o 107 (.mov (v 8)), o 108 (.bin .add (v 107) (i 1)), o 8 (.mov (v 108))]))))))
 (.seq (R [o 6 (.mov (i 0))])
 (.ret)))
def head32 : ACode :=
 .seq (R [o 6 (.mov (i 0))])
 (.seq (.seq (R [o 9 (.mov (v 1)), o 10 (.bin .lss (v 9) (i 0))])
  (.cond (v 10) (.seq (R [o 6 (.mov (i 1))])
   (.ret))
  (.skip)))
 (.seq (R [o 11 (.mov (v 0)), o 12 (.mov (v 1)), o 13 (.call (.func 51) [(v 11), (v 12)]), o 7 (.mov (v 13))])
 (.seq (.seq (R [o 14 (.mov (v 7)), o 15 (.bin .lss (v 14) (i 0)), o 16 (.mov (v 15)), ot 16 17 (.mov (v 0)), ot 16 18 (.nilCheck (v 17)), ot 16 19 (.fieldAddr 1 (v 18)), ot 16 20 (.load none (v 19)), ot 16 21 (.len .slice (v 20)), ot 16 22 (.mov (v 0)), ot 16 23 (.nilCheck (v 22)), ot 16 24 (.fieldAddr 0 (v 23)), ot 16 25 (.load none (v 24)), ot 16 26 (.bin .geq (v 21) (v 25)), o 27 (.pick (v 16) (v 26) ff), o 28 (.mov (v 27)), of 28 29 (.mov (v 7)), of 28 30 (.bin .lss (v 29) (i 0)), of 28 31 (.mov (v 30)), ot 31 32 (.mov (v 2)), ot 31 33 (.len .slice (v 32)), ot 31 34 (.bin .gtr (v 33) (i 2048)), of 28 35 (.pick (v 31) (v 34) ff), o 36 (.pick (v 28) tt (v 35)), o 37 (.mov (v 36)), of 37 38 (.mov (v 7)), of 37 39 (.bin .geq (v 38) (i 0)), of 37 40 (.mov (v 39)), ot 40 41 (.mov (v 0)), ot 40 42 (.nilCheck (v 41)), ot 40 43 (.fieldAddr 1 (v 42)), ot 40 44 (.load none (v 43)), ot 40 45 (.mov (v 7)), ot 40 46 (.indexAddr 2 (v 44) (v 45)), ot 40 47 (.fieldAddr 1 (v 46)), ot 40 48 (.load none (v 47)), ot 40 49 (.len .slice (v 48)), ot 40 50 (.mov (v 2)), ot 40 51 (.len .slice (v 50)), ot 40 52 (.bin .add (v 49) (v 51)), ot 40 53 (.bin .gtr (v 52) (i 2048)), of 37 54 (.pick (v 40) (v 53) ff), o 55 (.pick (v 37) tt (v 54))])
  (.cond (v 55) (.seq (R [o 6 (.mov (i 5))])
   (.ret))
  (.skip)))
 (.seq (.seq (R [o 56 (.mov (v 0)), o 57 (.call (.func 52) [(v 56)])])
  (.cond (v 57) (.seq (R [o 6 (.mov (i 7))])
   (.ret))
  (.skip)))
 (.seq (.seq (R [o 58 (.mov (v 7)), o 59 (.bin .lss (v 58) (i 0))])
  (.cond (v 59) (.seq (R [o 7 (.mov (i 0))])
   (.seq (.block 0 (.loop [0, 1, 2, 7] (.seq (.seq (R [o 60 (.mov (v 7)), o 61 (.mov (v 0)), o 62 (.nilCheck (v 61)), o 63 (.fieldAddr 1 (v 62)), o 64 (.load none (v 63)), o 65 (.len .slice (v 64)), o 66 (.bin .lss (v 60) (v 65)), o 67 (.mov (v 66)), ot 67 68 (.mov (v 0)), ot 67 69 (.nilCheck (v 68)), ot 67 70 (.fieldAddr 1 (v 69)), ot 67 71 (.load none (v 70)), ot 67 72 (.mov (v 7)), ot 67 73 (.indexAddr 2 (v 71) (v 72)), ot 67 74 (.fieldAddr 0 (v 73)), ot 67 75 (.load none (v 74)), ot 67 76 (.mov (v 1)), ot 67 77 (.bin .lss (v 75) (v 76)), o 78 (.pick (v 67) (v 77) ff)])
       (.cond (v 78) (.skip)
       (.exit 0)))
      (.block 1 (R [o 79 (.mov (v 7)), o 80 (.bin .add (v 79) (i 1)), o 7 (.mov (v 80))])))))
   (D [o 81 (.mov (v 0)), o 82 (.buildSlice 73 2 0 [] []), o 83 (.mov (v 0)), o 84 (.nilCheck (v 83)), o 85 (.fieldAddr 1 (v 84)), o 86 (.load none (v 85)), o 87 (.mov (v 7)), o 88 (.slice (.slice 2) (v 86) none (some (v 87)) none), o 89 (.append 73 2 32 (v 82) (v 88)), o 90 (.mov (v 1)), o 91 (.build [(.int .i64 0), (.slice none 0 0)] [(0, 1, (v 90))]), o 92 (.buildSlice 73 2 1 [(.int .i64 0), (.slice none 0 0)] [(0, 2, (v 91))]), o 93 (.append 73 2 32 (v 89) (v 92)), o 94 (.mov (v 0)), o 95 (.nilCheck (v 94)), o 96 (.fieldAddr 1 (v 95)), o 97 (.load none (v 96)), o 98 (.mov (v 7)), o 99 (.slice (.slice 2) (v 97) (some (v 98)) none none), o 100 (.append 73 2 32 (v 93) (v 99)), o 101 (.nilCheck (v 81)), o 102 (.fieldAddr 1 (v 101)), on (.store 1 (v 102) (v 100))] ⟨[(8, 11), (8, 16), (12, 16), (8, 18), (12, 18)], [], []⟩)))
  (.skip)))
 tail32)))))
theorem code32_eq : code32 = head32 := rfl

section
variable {tbl : FuncId → Option AFun} {ov : CallSem} {s : St} (T : DTbl tbl)
include T

omit T in
/-- The loop that appends. -/
theorem app_tail {q i : Nat} {R : RM} {O : List Nat} {n : Int} {bs0 : List (Int × Int)} {ba : Option Addr} {bc : Nat} {bs : List Int} {e : Env} {P : Value → St → Prop} (h : RRep s q R O) (hi : R.segs[i]? = some (n, bs0)) (hb : BytesV s (.slice ba bs.length bc) bs)
    (hbO : ∀ id o l c, Value.slice ba bs.length bc = .slice (some ⟨id, o, none⟩) l c → id ∉ O) (hlen : bs0.length + bs.length ≤ 2048) (hnext : R.next + bs.length < 2 ^ 40)
    (h0 : e.get 0 = some (ptr q)) (h2 : e.get 2 = some (.slice ba bs.length bc)) (h7 : e.get 7 = some (i64 (i : Nat)))
    (hQ : ∀ s' O', Kept O s s' → RRep s' q { R with segs := R.segs.set i (n, bs0 ++ markB bs R.next), next := R.next + bs.length } O' → (∀ x ∈ O', x ∈ O ∨ s.next ≤ x) → P (i64 0) s') :
    WCode (fun k => call tbl ov k) tail32 e s (ends [.tmp 6] P) := by
  obtain ⟨sv0, S0, rows0, L0, hA0⟩ := h.at
  have hil := (List.getElem?_eq_some_iff.1 hi).1
  have h16 := hA0.rw.len
  have hnx0 := hA0.rw.next
  simp -implicitDefEqProofs only [tail32, go_sem, reduceIte, Nat.reduceEqDiff, Nat.reduceAdd, Nat.reduceMul, Nat.reduceLT, Nat.reduceLeDiff, reduceCtorEq, Int.reduceEq, Int.reduceNeg, Nat.reduceSub, Int.reduceLT, Int.reduceLE, Int.reduceGT, Int.reduceGE, Int.reduceAdd, Int.reduceSub, Int.reduceToNat, Int.reduceBNe, Int.reduceBEq, Nat.mul_one, Nat.zero_mul]
  obtain ⟨I, hI⟩ : ∃ I : Nat → List Value → St → Prop, I = fun m vs s' => Kept O s s' ∧ ∃ (k : Nat) (O' : List Nat), k ≤ bs.length ∧ m = bs.length - k ∧ vs = [ptr q, .slice ba bs.length bc, i64 (i : Nat), i64 (k : Nat)] ∧
    RRep s' q { R with segs := R.segs.set i (n, bs0 ++ (markB bs R.next).take k), next := R.next + k } O' ∧ ∀ x ∈ O', x ∈ O ∨ s.next ≤ x := ⟨_, rfl⟩
  refine wc_loopV I bs.length ?_ ?_
  · simp -implicitDefEqProofs only [go_sem, reduceIte, Nat.reduceEqDiff, Nat.reduceAdd, Nat.reduceMul, Nat.reduceLT, Nat.reduceLeDiff, reduceCtorEq, Int.reduceEq, Int.reduceNeg, Nat.reduceSub, Int.reduceLT, Int.reduceLE, Int.reduceGT, Int.reduceGE, Int.reduceAdd, Int.reduceSub, Int.reduceToNat, Int.reduceBNe, Int.reduceBEq, Nat.mul_one, Nat.zero_mul, h0, h2, h7]
    rw [hI]
    refine ⟨Kept.refl _ _, 0, O, by omega, by omega, rfl, ?_, fun x hx => .inl hx⟩
    have : R.segs.set i (n, bs0 ++ (markB bs R.next).take 0) = R.segs := by
      rw [List.take_zero, List.append_nil]
      apply List.ext_getElem?
      intro j
      rw [List.getElem?_set]
      by_cases he : i = j
      · subst he; rw [if_pos rfl, if_pos hil, hi]
      · rw [if_neg he]
    rw [this]
    have h3 : R.next + ((0 : Nat) : Int) = R.next := by simp
    rw [h3]
    exact h
  · intro m vs s1 hx _
    rw [hI] at hx
    obtain ⟨hk1, k, O', hkl, rfl, rfl, hR1, hO1⟩ := hx
    have hnn := hk1.1
    cases hlt : decide ((k : Int) < (bs.length : Int))
    · have hke : k = bs.length := by have := of_decide_eq_false hlt; omega
      subst hke
      rw [List.take_of_length_le (by rw [markB_length]; exact Nat.le_refl _)] at hR1
      simp -implicitDefEqProofs only [go_sem, reduceIte, Nat.reduceEqDiff, Nat.reduceAdd, Nat.reduceMul, Nat.reduceLT, Nat.reduceLeDiff, reduceCtorEq, Int.reduceEq, Int.reduceNeg, Nat.reduceSub, Int.reduceLT, Int.reduceLE, Int.reduceGT, Int.reduceGE, Int.reduceAdd, Int.reduceSub, Int.reduceToNat, Int.reduceBNe, Int.reduceBEq, Nat.mul_one, Nat.zero_mul, hlt]
      exact hQ s1 O' hk1 hR1 hO1
    · have hkN : k < bs.length := by have := of_decide_eq_true hlt; omega
      obtain ⟨sv, S, rows, L, hA⟩ := hR1.at
      obtain ⟨bsk, hbsk⟩ : ∃ bsk, bsk = bs0 ++ (markB bs R.next).take k := ⟨_, rfl⟩
      rw [← hbsk] at hA hR1
      have hbl : bsk.length = bs0.length + k := by rw [hbsk, List.length_append, List.length_take, markB_length]; omega
      have hsegl : (R.segs.set i (n, bsk)).length = R.segs.length := List.length_set
      have hsi : (R.segs.set i (n, bsk))[i]? = some (n, bsk) := by rw [List.getElem?_set, if_pos rfl, if_pos hil]
      obtain ⟨n', bs', bv, id, o, cap, c, T', ro, hw, hrow, hB, hsv, hid, hidS, hgo, hle, hc0, hcb⟩ := hA.seg (i := i) (by simp only [hsegl]; exact hil)
      simp only at hw hsv
      rw [hsi] at hw
      cases hw
      rw [hsegl] at hsv
      have hcq := hA.cell
      simp only at hcq
      rw [hsv] at hcq
      -- the byte
      have hbs1 := BytesV.kept' (t := 0) (w := undefV) (zs := bs) (ws := []) hb hk1 hbO
      obtain ⟨ib, ob, capb, cb, Tb, szb, rob, hvb, _, hidb, hgb, _, hcell⟩ := hbs1.row (by omega)
      cases hvb
      have hck := hcell k hkN
      have hbr : 0 ≤ bs.getD k 0 ∧ bs.getD k 0 ≤ 255 := hb.1 _ (by rw [List.getD_eq_getElem?_getD, List.getElem?_eq_getElem hkN, Option.getD_some]; exact List.getElem_mem hkN)
      obtain ⟨b, hbb⟩ : ∃ b, b = bs.getD k 0 := ⟨_, rfl⟩
      rw [← hbb] at hck hbr
      have hixi : 0 ≤ (i : Int) ∧ (i : Int) < (R.segs.length : Int) := by omega
      have hixk : 0 ≤ (k : Int) ∧ (k : Int) < (bs.length : Int) := by omega
      have w4 : IntKind.i64.wrap ((k : Int) + 1) = ((k + 1 : Nat) : Int) := by rw [IntKind.wrap_i64]; omega
      have w5 : IntKind.i64.wrap (R.next + (k : Int) + 1) = R.next + ((k + 1 : Nat) : Int) := by rw [IntKind.wrap_i64]; omega
      -- the append
      obtain ⟨sx, hsx⟩ : ∃ sx : St, sx = ⟨s1.heap.put s1.next (some (.cells [.int .u8 b, i64 (R.next + k)] 97 2 false)), s1.next + 1⟩ := ⟨_, rfl⟩
      have hkx : ∀ T, Kept T s1 sx := fun T => by rw [hsx]; exact (kept_put_nil (Nat.le_refl _) (Nat.le_succ _)).sub (by simp)
      have hy : RowV 2 sx (.slice (some ⟨s1.next, 0, none⟩) 1 1) [rowB (b, R.next + k)] :=
        ⟨fun c hc => by rw [List.mem_singleton.1 hc]; exact ⟨rfl, rfl⟩, .inr ⟨s1.next, 0, 1, [.int .u8 b, i64 (R.next + k)], 97, false, rfl, Nat.le_refl _, by rw [hsx]; exact Nat.lt_succ_self _, by rw [hsx]; simp only [Heap.get_put, if_true], by simp, by simp⟩⟩
      have htb : ∀ m, m < 2 ^ 30 → tooBig m 16 = false := fun m hm => by simp only [tooBig, Bool.or_eq_false_iff, decide_eq_false_iff_not]; omega
      obtain ⟨val, upd, nx, S', he, hR2, hk2, hS2, _⟩ := (RowsO.kept' hB (hkx []) (by simp)).append (b := 16) hy (htb _ (by simp only [List.length_map, List.length_cons, List.length_nil]; omega)) (fun m _ h => htb _ (by simp only [List.length_cons, List.length_nil] at h; omega))
      have hR2' : RowsO 97 2 ⟨applyUpd sx.heap upd, nx⟩ val ((bsk ++ [(b, R.next + k)]).map rowB) S' := by rw [List.map_append]; exact hR2
      have hk12 : Kept (L i) s1 ⟨applyUpd sx.heap upd, nx⟩ := (hkx _).trans hk2
      obtain ⟨va, vc, hval⟩ := rowsO_slice hR2
      obtain ⟨id2, o2, cap2, c2, hsv2, hidS2, hg2, hle2, hA3, hk3⟩ := hA.regrow (bs' := bsk ++ [(b, R.next + k)]) (s2 := ⟨applyUpd sx.heap upd, nx⟩) hsi hk12 hR2' (fun x hx => by
        rcases hS2 x hx with h | h
        · exact .inl h
        · right; rw [hsx] at h; simp only at h; omega) (by simp only [List.length_append, List.length_cons, List.length_nil]; omega) (fun y hy => by
        rcases List.mem_append.1 hy with hy | hy
        · exact (hA.rw.bytes i n bsk hsi).2 y hy
        · rw [List.mem_singleton.1 hy]; exact hbr) (by rw [hval]; rfl)
      rw [hsv, hsegl] at hsv2
      simp only [Value.slice.injEq, Option.some.injEq, Addr.mk.injEq, true_and, and_true] at hsv2
      obtain ⟨⟨rfl, rfl⟩, rfl⟩ := hsv2
      have hset : (R.segs.set i (n, bsk)).set i (n, bsk ++ [(b, R.next + k)]) = R.segs.set i (n, bsk ++ [(b, R.next + k)]) := List.set_set _
      simp only at hA3
      rw [hset] at hA3
      obtain ⟨s3, hs3⟩ : ∃ s3 : St, s3 = ⟨(applyUpd sx.heap upd).put id (some (.cells (c2.set (o + i * 2 + 1) val) 73 2 false)), nx⟩ := ⟨_, rfl⟩
      simp only at hk3
      rw [← hs3] at hA3 hk3
      have hcq3 := hA3.cell
      simp only at hcq3
      rw [hsv] at hcq3
      have hk4 : Kept [q] s3 ⟨s3.heap.put q (some (.cells [i64 R.most, sv, i64 (R.next + ((k + 1 : Nat) : Int)), i64 R.first, i64 R.fails] 68 0 false)), s3.next⟩ := kept_put1 (Nat.le_refl _)
      have hA4 := hA3.nums (a := R.next + ((k + 1 : Nat) : Int)) (f := R.first) (g := R.fails) hk4 (by simp only [Heap.get_put, if_true]) hA0.rw.first hA0.rw.fails (by omega)
      simp only at hA4
      have hfin : ∃ m', m' < bs.length - k ∧ I m' [ptr q, .slice (some ⟨ib, ob, none⟩) bs.length bc, i64 (i : Nat), i64 ((k + 1 : Nat) : Int)] ⟨s3.heap.put q (some (.cells [i64 R.most, sv, i64 (R.next + ((k + 1 : Nat) : Int)), i64 R.first, i64 R.fails] 68 0 false)), s3.next⟩ := by
        refine ⟨bs.length - (k + 1), by omega, ?_⟩
        rw [hI]
        have hk14 : Kept O' s1 ⟨s3.heap.put q (some (.cells [i64 R.most, sv, i64 (R.next + ((k + 1 : Nat) : Int)), i64 R.first, i64 R.fails] 68 0 false)), s3.next⟩ := hk3.trans (hk4.sub fun x hx => by rw [List.mem_singleton.1 hx]; exact hA.qO)
        refine ⟨hk1.comp hk14 hO1, k + 1, O' ++ S', by omega, rfl, rfl, ?_, fun x hx => ?_⟩
        · have : bs0 ++ (markB bs R.next).take (k + 1) = bsk ++ [(b, R.next + k)] := by
            rw [List.take_add_one, markB_get bs R.next k hkN, hbsk, List.append_assoc, ← hbb]; rfl
          rw [this]
          exact hA4.rep
        · rcases List.mem_append.1 hx with hx | hx
          · exact hO1 x hx
          · rcases hS2 x hx with h | h
            · exact hO1 x (hA.LO i x (by simp only [hsegl]; exact hil) h)
            · right; rw [hsx] at h; simp only at h; omega
      rw [hs3, hsv] at hfin
      rw [hs3] at hcq3
      rw [hsx] at hfin he hg2 hcq3
      simp only at he hg2 hfin hcq3
      have hwv := wrOf_rowsO hB
      have z1 : ((wrOf bv).all fun x => decide ¬x = q) = true := by
        rw [List.all_eq_true]
        intro x hx
        rw [hwv] at hx
        simpa using (hA.apart i x (by simp only [hsegl]; exact hil) hx).1
      subst hval
      have hqx : (q = s1.next) = False := by have := hA.lt q hA.qO; simp; omega
      have hidx : (id = s1.next) = False := by simp; omega
      simp -implicitDefEqProofs only [↓foot_append, ↓foot_slice, go_sem, reduceIte, Nat.reduceEqDiff, Nat.reduceAdd, Nat.reduceMul, Nat.reduceLT, Nat.reduceLeDiff, reduceCtorEq, Int.reduceEq, Int.reduceNeg, Nat.reduceSub, Int.reduceLT, Int.reduceLE, Int.reduceGT, Int.reduceGE, Int.reduceAdd, Int.reduceSub, Int.reduceToNat, Int.reduceBNe, Int.reduceBEq, Nat.mul_one, Nat.zero_mul, hlt, hcq, hixi, hixk, hgo, hcb, hgb, hck, ev_buildSlice, fillL, he, hg2, hle2, hcq3, w4, w5]
      exact ⟨by simp only [z1, all_tt, Bool.and_true], hfin⟩

omit T in
theorem rIdx_get {R : RM} {n : Int} : (rSegs R n)[rIdx R n]? = some (n, rBytes R n) := by
  unfold rSegs rIdx rBytes
  cases hx : idxS n R.segs with
  | none =>
    simp only [Option.isSome_none, Bool.false_eq_true, if_false]
    rw [get_ins (insI_le n R.segs), if_neg (Nat.lt_irrefl _), if_pos rfl]
  | some i =>
    simp only [Option.isSome_some, if_true]
    obtain ⟨bs, hbs⟩ := idxS_some hx
    rw [hbs]

theorem p32 {q : Nat} {R : RM} {O : List Nat} {n : Int} {bv : Value} {bs : List Int} (h : RRep s q R O) (hb : BytesV s bv bs) (hbO : ∀ id o l c, bv = .slice (some ⟨id, o, none⟩) l c → id ∉ O) (hn : W64 n) (hbl : bs.length ≤ 2500) (hnext : R.next + bs.length < 2 ^ 40) (hmost : R.most ≤ 16) :
    WCall (fun k => call tbl ov k) 32 [ptr q, i64 n, bv] s fun u s' => u = i64 (rAppE R n bs.length) ∧ Kept O s s' ∧ ∃ O', RRep s' q (rAppR R n bs) O' ∧ ∀ x ∈ O', x ∈ O ∨ s.next ≤ x := by
  refine WCall.of T.t32 rfl ?_
  have hcode : fun32.body = head32 := code32_eq
  rw [hcode]
  have e51 := fun K => p51 (ov := ov) T (n := n) h K
  have h0 := h
  obtain ⟨sv, S, rows, L, hA⟩ := h.at
  obtain ⟨ba, bc, hbv⟩ := hb.len
  subst hbv
  obtain ⟨sa, scap, hsv⟩ := hA.slice
  subst hsv
  have hcq := hA.cell
  have h16 := hA.rw.len
  by_cases hneg : n < 0
  · have d1 : decide (n < 0) = true := by simpa using hneg
    simp -implicitDefEqProofs only [fun32, head32, params, go_sem, reduceIte, Nat.reduceEqDiff, Nat.reduceAdd, Nat.reduceMul, Nat.reduceLT, Nat.reduceLeDiff, reduceCtorEq, Int.reduceEq, Int.reduceNeg, Nat.reduceSub, Int.reduceLT, Int.reduceLE, Int.reduceGT, Int.reduceGE, Int.reduceAdd, Int.reduceSub, Int.reduceToNat, Int.reduceBNe, Int.reduceBEq, Nat.mul_one, Nat.zero_mul, d1, rAppE, rAppR, hneg]
    exact ⟨Kept.refl _ _, O, h0, fun x hx => .inl hx⟩
  have d1 : decide (n < 0) = false := by simpa using hneg
  have hfullE : rFull R n bs.length = true → i64 5 = i64 (rAppE R n bs.length) ∧ Kept O s s ∧ ∃ O', RRep s q (rAppR R n bs) O' ∧ ∀ x ∈ O', x ∈ O ∨ s.next ≤ x := fun hf =>
    ⟨by simp only [rAppE, hneg, hf, if_false, if_true], Kept.refl _ _, O, by simp only [rAppR, hneg, hf, if_false, if_true]; exact h0, fun x hx => .inl hx⟩
  have h52 := p52 (ov := ov) T hA.cell hA.rw.first hA.rw.fails
  -- behind the question whether it fails
  have hfail : ∀ s1 : St, Kept [q] s s1 → RAt s1 q (wR R) O (.slice sa R.segs.length scap) S rows L → rFull R n bs.length = false → wB R.first R.fails = false → i64 7 = i64 (rAppE R n bs.length) ∧ Kept O s s1 ∧ ∃ O', RRep s1 q (rAppR R n bs) O' ∧ ∀ x ∈ O', x ∈ O ∨ s.next ≤ x := fun s1 hk hA1 hf hw =>
    ⟨by simp only [rAppE, hneg, hf, hw, if_false, Bool.false_eq_true], hk.sub (fun x hx => by rw [List.mem_singleton.1 hx]; exact hA.qO), O, by simp only [rAppR, hneg, hf, hw, if_false, Bool.false_eq_true]; exact hA1.rep, fun x hx => .inl hx⟩
  have hdone : ∀ (s2 s3 : St) (O2 O3 : List Nat), Kept O s s2 → (∀ x ∈ O2, x ∈ O ∨ s.next ≤ x) → Kept O2 s2 s3 → RRep s3 q { wR R with segs := (rSegs R n).set (rIdx R n) (n, rBytes R n ++ markB bs R.next), next := R.next + bs.length } O3 → (∀ x ∈ O3, x ∈ O2 ∨ s2.next ≤ x) → rFull R n bs.length = false → wB R.first R.fails = true →
      i64 0 = i64 (rAppE R n bs.length) ∧ Kept O s s3 ∧ ∃ O', RRep s3 q (rAppR R n bs) O' ∧ ∀ x ∈ O', x ∈ O ∨ s.next ≤ x := fun s2 s3 O2 O3 hk2 hO2 hk3 hR3 hO3 hf hw =>
    ⟨by simp only [rAppE, hneg, hf, hw, if_false, if_true, Bool.false_eq_true], hk2.comp hk3 hO2, O3, by simp only [rAppR, hneg, hf, hw, if_false, if_true, Bool.false_eq_true]; exact hR3, fun x hx => by
      rcases hO3 x hx with h | h
      · exact hO2 x h
      · right; have := hk2.1; omega⟩
  have hb0 : BytesV s (.slice ba bs.length bc) bs := hb
  have hqlt := hA.lt q hA.qO
  cases hix : idxS n R.segs with
  | some i =>
    rw [hix] at e51
    obtain ⟨bs0, hbs⟩ := idxS_some hix
    have hiL := (List.getElem?_eq_some_iff.1 hbs).1
    have hrb : rBytes R n = bs0 := by unfold rBytes; rw [hix]; simp only [hbs]
    have d0 : decide (((i : Nat) : Int) < 0) = false := by simp
    have d2 : decide (((i : Nat) : Int) ≥ 0) = true := by simp
    obtain ⟨n', bs', bvi, id, o, cap', c, T', ro, hw, hrow, hB, hsv, hid, hidS, hgo, hle, hc0, hcb⟩ := hA.seg hiL
    rw [hbs] at hw
    cases hw
    cases hsv
    obtain ⟨ia, ic, hie⟩ := hB.toV.len
    rw [List.length_map] at hie
    subst hie
    have hixi : 0 ≤ (i : Int) ∧ (i : Int) < (R.segs.length : Int) := by omega
    have hb20 := (hA.rw.bytes i n bs0 hbs).1
    have w1 : IntKind.i64.wrap ((bs0.length : Int) + (bs.length : Int)) = (bs0.length : Int) + (bs.length : Int) := by rw [IntKind.wrap_i64]; omega
    have hff : rFull R n bs.length = decide (((bs0.length : Int)) + (bs.length : Int) > 2048) := by simp only [rFull, hix, Option.isSome_some, if_true, hrb]
    cases hfull : decide (((bs0.length : Int)) + (bs.length : Int) > 2048)
    · rw [hfull] at hff
      simp -implicitDefEqProofs only [head32, params, go_sem, reduceIte, Nat.reduceEqDiff, Nat.reduceAdd, Nat.reduceMul, Nat.reduceLT, Nat.reduceLeDiff, reduceCtorEq, Int.reduceEq, Int.reduceNeg, Nat.reduceSub, Int.reduceLT, Int.reduceLE, Int.reduceGT, Int.reduceGE, Int.reduceAdd, Int.reduceSub, Int.reduceToNat, Int.reduceBNe, Int.reduceBEq, Nat.mul_one, Nat.zero_mul, d1, e51, posV, d0, d2, hcq, hixi, hgo, hcb, w1, hfull]
      refine WCall.mono h52 ?_
      rintro u s1 ⟨rfl, hn1, hc1, ho1⟩
      have hkq : Kept [q] s s1 := ⟨by omega, fun j _ hj => ho1 j (by simpa using hj)⟩
      have hA1 := hA.nums hkq hc1 (wF_range hA.rw.first) (wG_range (f := R.first) hA.rw.fails) hA.rw.next
      cases hbw : wB R.first R.fails
      · simp -implicitDefEqProofs only [go_sem, reduceIte, Nat.reduceEqDiff, Nat.reduceAdd, Nat.reduceMul, Nat.reduceLT, Nat.reduceLeDiff, reduceCtorEq, Int.reduceEq, Int.reduceNeg, Nat.reduceSub, Int.reduceLT, Int.reduceLE, Int.reduceGT, Int.reduceGE, Int.reduceAdd, Int.reduceSub, Int.reduceToNat, Int.reduceBNe, Int.reduceBEq, Nat.mul_one, Nat.zero_mul, Bool.not_false]
        exact hfail s1 hkq hA1 hff hbw
      · simp -implicitDefEqProofs only [go_sem, reduceIte, Nat.reduceEqDiff, Nat.reduceAdd, Nat.reduceMul, Nat.reduceLT, Nat.reduceLeDiff, reduceCtorEq, Int.reduceEq, Int.reduceNeg, Nat.reduceSub, Int.reduceLT, Int.reduceLE, Int.reduceGT, Int.reduceGE, Int.reduceAdd, Int.reduceSub, Int.reduceToNat, Int.reduceBNe, Int.reduceBEq, Nat.mul_one, Nat.zero_mul, Bool.not_true, d0]
        have hkO : Kept O s s1 := hkq.sub (fun x hx => by rw [List.mem_singleton.1 hx]; exact hA.qO)
        refine app_tail (i := i) (R := wR R) (O := O) (n := n) (bs0 := bs0) hA1.rep hbs (BytesV.kept' (t := 0) (w := undefV) (zs := bs) (ws := []) hb0 hkO hbO) hbO (by have := of_decide_eq_false hfull; omega) hnext rfl rfl rfl fun s3 O3 hk3 hR3 hO3 => ?_
        have hsI : rSegs R n = R.segs := by simp only [rSegs, hix, Option.isSome_some, if_true]
        have hiI : rIdx R n = i := by simp only [rIdx, hix]
        exact hdone s1 s3 O O3 hkO (fun x hx => .inl hx) hk3 (by rw [hsI, hiI, hrb]; exact hR3) hO3 hff hbw
    · rw [hfull] at hff
      simp -implicitDefEqProofs only [head32, params, go_sem, reduceIte, Nat.reduceEqDiff, Nat.reduceAdd, Nat.reduceMul, Nat.reduceLT, Nat.reduceLeDiff, reduceCtorEq, Int.reduceEq, Int.reduceNeg, Nat.reduceSub, Int.reduceLT, Int.reduceLE, Int.reduceGT, Int.reduceGE, Int.reduceAdd, Int.reduceSub, Int.reduceToNat, Int.reduceBNe, Int.reduceBEq, Nat.mul_one, Nat.zero_mul, d1, e51, posV, d0, d2, hcq, hixi, hgo, hcb, w1, hfull]
      exact hfullE hff
  | none =>
    rw [hix] at e51
    have d0 : decide ((-1 : Int) < 0) = true := rfl
    have d2 : decide ((-1 : Int) ≥ 0) = false := rfl
    have hff : rFull R n bs.length = (decide ((R.segs.length : Int) ≥ R.most) || decide ((bs.length : Int) > 2048)) := by simp only [rFull, hix, Option.isSome_none, Bool.false_eq_true, if_false]
    cases hfull1 : decide ((R.segs.length : Int) ≥ R.most)
    · cases hfull2 : decide ((bs.length : Int) > 2048)
      · rw [hfull1, hfull2] at hff
        simp -implicitDefEqProofs only [head32, params, go_sem, reduceIte, Nat.reduceEqDiff, Nat.reduceAdd, Nat.reduceMul, Nat.reduceLT, Nat.reduceLeDiff, reduceCtorEq, Int.reduceEq, Int.reduceNeg, Nat.reduceSub, Int.reduceLT, Int.reduceLE, Int.reduceGT, Int.reduceGE, Int.reduceAdd, Int.reduceSub, Int.reduceToNat, Int.reduceBNe, Int.reduceBEq, Nat.mul_one, Nat.zero_mul, d1, e51, posV, d0, d2, hcq, hfull1, hfull2]
        refine WCall.mono h52 ?_
        rintro u s1 ⟨rfl, hn1, hc1, ho1⟩
        have hkq : Kept [q] s s1 := ⟨by omega, fun j _ hj => ho1 j (by simpa using hj)⟩
        have hA1 := hA.nums hkq hc1 (wF_range hA.rw.first) (wG_range (f := R.first) hA.rw.fails) hA.rw.next
        cases hbw : wB R.first R.fails
        · simp -implicitDefEqProofs only [go_sem, reduceIte, Nat.reduceEqDiff, Nat.reduceAdd, Nat.reduceMul, Nat.reduceLT, Nat.reduceLeDiff, reduceCtorEq, Int.reduceEq, Int.reduceNeg, Nat.reduceSub, Int.reduceLT, Int.reduceLE, Int.reduceGT, Int.reduceGE, Int.reduceAdd, Int.reduceSub, Int.reduceToNat, Int.reduceBNe, Int.reduceBEq, Nat.mul_one, Nat.zero_mul, Bool.not_false]
          exact hfail s1 hkq hA1 hff hbw
        simp -implicitDefEqProofs only [go_sem, reduceIte, Nat.reduceEqDiff, Nat.reduceAdd, Nat.reduceMul, Nat.reduceLT, Nat.reduceLeDiff, reduceCtorEq, Int.reduceEq, Int.reduceNeg, Nat.reduceSub, Int.reduceLT, Int.reduceLE, Int.reduceGT, Int.reduceGE, Int.reduceAdd, Int.reduceSub, Int.reduceToNat, Int.reduceBNe, Int.reduceBEq, Nat.mul_one, Nat.zero_mul, Bool.not_true, d0]
        have hkO : Kept O s s1 := hkq.sub (fun x hx => by rw [List.mem_singleton.1 hx]; exact hA.qO)
        have hq1 := hA1.cell
        simp only at hq1
        have hqlt1 := hA1.lt q hA1.qO
        obtain ⟨J, hJ⟩ : ∃ J : Nat → List Value → St → Prop, J = fun m vs s' => s' = s1 ∧ ∃ (i : Nat), i ≤ R.segs.length ∧ m = R.segs.length - i ∧ vs = [ptr q, i64 n, .slice ba bs.length bc, i64 (i : Nat)] ∧ ∀ k p, k < i → R.segs[k]? = some p → p.1 < n := ⟨_, rfl⟩
        refine wc_loopV J R.segs.length ?_ ?_
        · simp -implicitDefEqProofs only [go_sem, reduceIte, Nat.reduceEqDiff, Nat.reduceAdd, Nat.reduceMul, Nat.reduceLT, Nat.reduceLeDiff, reduceCtorEq, Int.reduceEq, Int.reduceNeg, Nat.reduceSub, Int.reduceLT, Int.reduceLE, Int.reduceGT, Int.reduceGE, Int.reduceAdd, Int.reduceSub, Int.reduceToNat, Int.reduceBNe, Int.reduceBEq, Nat.mul_one, Nat.zero_mul]
          rw [hJ]
          exact ⟨rfl, 0, by omega, by omega, rfl, fun k p hk => by omega⟩
        · intro m vs s2 hx _
          rw [hJ] at hx
          obtain ⟨rfl, i, hil, rfl, rfl, hbef⟩ := hx
          have w1 : IntKind.i64.wrap ((i : Int) + 1) = ((i + 1 : Nat) : Int) := by rw [IntKind.wrap_i64]; omega
          -- where it comes in
          have hexit : (decide ((i : Int) < (R.segs.length : Int)) = false) ∨ (decide ((i : Int) < (R.segs.length : Int)) = true ∧ ∃ p, R.segs[i]? = some p ∧ decide (p.1 < n) = false) ∨ (decide ((i : Int) < (R.segs.length : Int)) = true ∧ ∃ p, R.segs[i]? = some p ∧ decide (p.1 < n) = true) := by
            cases hlt : decide ((i : Int) < (R.segs.length : Int))
            · exact .inl rfl
            · have hiN : i < R.segs.length := by have := of_decide_eq_true hlt; omega
              right
              cases hp : decide (R.segs[i].1 < n)
              · exact .inl ⟨rfl, _, List.getElem?_eq_getElem hiN, hp⟩
              · exact .inr ⟨rfl, _, List.getElem?_eq_getElem hiN, hp⟩
          have hseg : i < R.segs.length → ∃ id o cap c T' ro n', R.segs[i]? = some n' ∧ (.slice sa R.segs.length scap : Value) = .slice (some ⟨id, o, none⟩) R.segs.length cap ∧ s2.heap.get id = some (.cells c T' 2 ro) ∧ c[o + i * 2]? = some (i64 n'.1) := fun hiN => by
            obtain ⟨n', bs', bvi, id, o, cap', c, T', ro, hw, hrow, hB, hsv, hid, hidS, hgo, hle, hc0, hcb⟩ := hA1.seg (i := i) hiN
            exact ⟨id, o, cap', c, T', ro, _, hw, hsv, hgo, hc0⟩
          rcases hexit with d3 | ⟨d3, p, hp, d4⟩ | ⟨d3, p, hp, d4⟩
          rotate_left 2
          · -- one further
            have hiN : i < R.segs.length := by have := of_decide_eq_true d3; omega
            obtain ⟨id, o, cap, c, T', ro, n', hw, hsv, hgo, hc0⟩ := hseg hiN
            rw [hp] at hw
            cases hw
            cases hsv
            have hixi : 0 ≤ (i : Int) ∧ (i : Int) < (R.segs.length : Int) := by omega
            simp -implicitDefEqProofs only [go_sem, reduceIte, Nat.reduceEqDiff, Nat.reduceAdd, Nat.reduceMul, Nat.reduceLT, Nat.reduceLeDiff, reduceCtorEq, Int.reduceEq, Int.reduceNeg, Nat.reduceSub, Int.reduceLT, Int.reduceLE, Int.reduceGT, Int.reduceGE, Int.reduceAdd, Int.reduceSub, Int.reduceToNat, Int.reduceBNe, Int.reduceBEq, Nat.mul_one, Nat.zero_mul, hq1, d3, hixi, hgo, Nat.add_zero, hc0, d4, w1]
            refine ⟨R.segs.length - (i + 1), by omega, ?_⟩
            rw [hJ]
            refine ⟨rfl, i + 1, by omega, rfl, rfl, fun k p' hk hp' => ?_⟩
            by_cases hki : k = i
            · subst hki; rw [hp] at hp'; cases hp'; exact of_decide_eq_true d4
            · exact hbef k p' (by omega) hp'
          all_goals
            have hi : i = insI n R.segs := insI_eq hil hbef (fun p' hp' => by
              first
                | (rw [hp] at hp'; cases hp'; exact of_decide_eq_false d4)
                | (have := (List.getElem?_eq_some_iff.1 hp').1; have := of_decide_eq_false d3; omega))
            obtain ⟨v1, val1, upd1, nx1, val2, upd2, nx2, v2, a3, n3, c3, upd3, nx3, S3, e1, e2, e3, e4, e5, hR3, hk3, hS3, hlt1, hold1, hw1, hold2⟩ := app3 (t := 73) (b := 32) hA1.outer.toV (i := i) (by rw [hA.len]; exact hil) (fun n hn => big32 (by have := hA.rw.len; have := hA.len; omega)) (row := [i64 n, .slice none 0 0]) ⟨rfl, rfl⟩
            have hqx : (q = s2.next) = False := by simp; omega
            have hq2 := (hold2 q hqlt1).trans hq1
            have hq3 := (hk3.2 q hqlt1 (by simp)).trans hq1
            simp only at hq3
            have hlv := wrOf_rowV hA1.outer.toV
            have hw2 : wrOf (.slice (some ⟨s2.next, 0, none⟩) 0 0) = [s2.next] := rfl
            have z1 : disj [s2.next] (List.range' nx1 (nx1 + 1 - nx1)) = true := disj_of fun x hx y hy => by
              rw [List.mem_singleton.1 hx]
              have := List.mem_range'_1.1 hy
              omega
            have z2 : disj [s2.next] (wrOf (.slice sa R.segs.length scap)) = true := disj_of fun x hx y hy => by
              rw [List.mem_singleton.1 hx]
              have := hlv y hy
              omega
            have z3 : disj (wrOf val1) (wrOf (.slice sa R.segs.length scap)) = true := disj_of fun x hx y hy => by
              have := hlv y hy
              have := hw1 x hx
              omega
            have z4 : ([s2.next].all fun x => decide ¬x = q) = true := by simp; omega
            have z5 : ((wrOf val1).all fun x => decide ¬x = q) = true := by
              rw [List.all_eq_true]
              intro x hx
              have := hw1 x hx
              simp; omega
            simp only [disj, ne_eq] at z1 z2 z3
            -- the state behind
            obtain ⟨s8, hs8⟩ : ∃ s8 : St, s8 = ⟨(applyUpd (applyUpd ((applyUpd (s2.heap.put s2.next (some (.cells [] 73 2 false))) upd1).put nx1 (some (.cells [i64 n, .slice none 0 0] 73 2 false))) upd2) upd3).put q (some (.cells [i64 R.most, .slice a3 n3 c3, i64 R.next, i64 (wF R.first), i64 (wG R.first R.fails)] 68 0 false)), nx3⟩ := ⟨_, rfl⟩
            have hk8 : Kept [q] ⟨applyUpd (applyUpd ((applyUpd (s2.heap.put s2.next (some (.cells [] 73 2 false))) upd1).put nx1 (some (.cells [i64 n, .slice none 0 0] 73 2 false))) upd2) upd3, nx3⟩ s8 := by rw [hs8]; exact kept_put1 (Nat.le_refl _)
            have hk18 : Kept [q] s2 s8 := (hk3.sub (by simp)).trans hk8
            have hnx : s8.next = nx3 := by rw [hs8]
            have hO3 := RowsO.kept' hR3 hk8 (fun x hx => by simp only [List.mem_singleton]; have := hS3 x hx; omega)
            have hS3lt : ∀ x ∈ S3, x < nx3 := by
              intro x hx
              obtain ⟨_, ⟨_, _, hh⟩ | ⟨id', o', cap', c', _, hh, _, hlt, _⟩⟩ := hR3
              · rw [hh] at hx; cases hx
              · rw [hh] at hx; rw [List.mem_singleton.1 hx]; exact hlt
            have hlen : (R.segs.take i ++ (n, []) :: R.segs.drop i).length = R.segs.length + 1 := by simp only [List.length_append, List.length_take, List.length_drop, List.length_cons]; omega
            have hlenr : (rows.take i ++ [i64 n, .slice none 0 0] :: rows.drop i).length = R.segs.length + 1 := by have := hA.len; simp only [List.length_append, List.length_take, List.length_drop, List.length_cons]; omega
            have hmm := of_decide_eq_false hfull1
            have hnew := hA1.remap (fun j => if j < i then some j else if j = i then none else some (j - 1)) (n0 := n) (segs' := R.segs.take i ++ (n, []) :: R.segs.drop i) (rows' := rows.take i ++ [i64 n, .slice none 0 0] :: rows.drop i) (sv' := .slice a3 n3 c3) (S' := S3) hk18 (by rw [hs8]; simp only [Heap.get_put, if_true]) hO3 (by rw [hlen, hlenr]) (by rw [hlen]; omega)
              (fun j _ => by (try simp only); rw [get_ins hil]; split <;> (try rfl) <;> split <;> rfl) (fun j _ => by (try simp only); rw [get_ins (by rw [hA.len]; exact hil)]; split <;> (try rfl) <;> split <;> rfl)
              (fun i1 j1 k _ _ h1 h2 => by
                split at h1 <;> split at h2 <;> (try split at h1) <;> (try split at h2) <;> (first | (cases h1; done) | (cases h2; done) | (have e1 := Option.some.inj h1; have e2 := Option.some.inj h2; omega))) (fun x hx => ⟨hS3 x hx, by rw [hnx]; exact hS3lt x hx⟩)
            have hk28 : Kept O s s8 := hkO.trans (hk18.sub fun x hx => by rw [List.mem_singleton.1 hx]; exact hA.qO)
            have hO8 : ∀ x ∈ O ++ S3, x ∈ O ∨ s.next ≤ x := fun x hx => by
              rcases List.mem_append.1 hx with hx | hx
              · exact .inl hx
              · right; have := hS3 x hx; omega
            have hb8 : BytesV s8 (.slice ba bs.length bc) bs := BytesV.kept' (t := 0) (w := undefV) (zs := bs) (ws := []) hb0 hk28 hbO
            have hbO8 : ∀ id o l c, Value.slice ba bs.length bc = .slice (some ⟨id, o, none⟩) l c → id ∉ O ++ S3 := fun id o l c e hx => by
              rcases List.mem_append.1 hx with hx | hx
              · exact hbO id o l c e hx
              · obtain ⟨_, ⟨hx2, _⟩ | ⟨id2, o2, c2, cc2, t2, sz2, ro2, hx2, _, hx3, _⟩⟩ := hb0
                · rw [hx2] at e; cases e
                · rw [hx2] at e
                  simp only [Value.slice.injEq, Option.some.injEq, Addr.mk.injEq] at e
                  have := hS3 id hx
                  have := e.1.1
                  omega
            have hfin : ∀ e : Env, e.get 0 = some (ptr q) → e.get 2 = some (.slice ba bs.length bc) → e.get 7 = some (i64 (i : Nat)) → WCode (fun k => call tbl ov k) tail32 e s8 (ends [.tmp 6] fun u s' => u = i64 (rAppE R n bs.length) ∧ Kept O s s' ∧ ∃ O', RRep s' q (rAppR R n bs) O' ∧ ∀ x ∈ O', x ∈ O ∨ s.next ≤ x) := fun e g0 g2 g7 => by
              refine app_tail (i := i) (O := O ++ S3) (n := n) (bs0 := []) hnew.rep (by simp only; rw [get_ins hil, if_neg (Nat.lt_irrefl _), if_pos rfl]) hb8 hbO8 (by have := of_decide_eq_false hfull2; simp only [List.length_nil]; omega) hnext g0 g2 g7 fun s3 O3 hk3 hR3 hO3 => ?_
              have hsI : rSegs R n = R.segs.take i ++ (n, []) :: R.segs.drop i := by simp only [rSegs, hix, Option.isSome_none, Bool.false_eq_true, if_false, hi]
              have hiI : rIdx R n = i := by simp only [rIdx, hix]; exact hi.symm
              have hrb : rBytes R n = [] := by unfold rBytes; rw [hix]
              exact hdone s8 s3 (O ++ S3) O3 hk28 hO8 hk3 (by rw [hsI, hiI, hrb]; exact hR3) hO3 (by rw [hff]; rfl) hbw
            rw [hs8] at hfin
          · simp -implicitDefEqProofs only [↓foot_append, ↓foot_slice, go_sem, reduceIte, Nat.reduceEqDiff, Nat.reduceAdd, Nat.reduceMul, Nat.reduceLT, Nat.reduceLeDiff, reduceCtorEq, Int.reduceEq, Int.reduceNeg, Nat.reduceSub, Int.reduceLT, Int.reduceLE, Int.reduceGT, Int.reduceGE, Int.reduceAdd, Int.reduceSub, Int.reduceToNat, Int.reduceBNe, Int.reduceBEq, Nat.mul_one, Nat.zero_mul, hq1, d3, hqx, hq2, hq3, ev_buildSlice, fillL, e1, e2, e3, e4, e5]
            exact ⟨by simp only [hw2, z1, z2, z3, z4, z5, all_tt, Bool.and_true], hfin _ rfl rfl rfl⟩
          · have hiN : i < R.segs.length := by have := of_decide_eq_true d3; omega
            obtain ⟨id, o, cap, c, T', ro, n', hw, hsv, hgo, hc0⟩ := hseg hiN
            rw [hp] at hw
            cases hw
            cases hsv
            have hixi : 0 ≤ (i : Int) ∧ (i : Int) < (R.segs.length : Int) := by omega
            simp -implicitDefEqProofs only [↓foot_append, ↓foot_slice, go_sem, reduceIte, Nat.reduceEqDiff, Nat.reduceAdd, Nat.reduceMul, Nat.reduceLT, Nat.reduceLeDiff, reduceCtorEq, Int.reduceEq, Int.reduceNeg, Nat.reduceSub, Int.reduceLT, Int.reduceLE, Int.reduceGT, Int.reduceGE, Int.reduceAdd, Int.reduceSub, Int.reduceToNat, Int.reduceBNe, Int.reduceBEq, Nat.mul_one, Nat.zero_mul, hq1, d3, hixi, hgo, Nat.add_zero, hc0, d4, hqx, hq2, hq3, ev_buildSlice, fillL, e1, e2, e3, e4, e5]
            exact ⟨by simp only [hw2, z1, z2, z3, z4, z5, all_tt, Bool.and_true], hfin _ rfl rfl rfl⟩
      · rw [hfull1, hfull2] at hff
        simp -implicitDefEqProofs only [head32, params, go_sem, reduceIte, Nat.reduceEqDiff, Nat.reduceAdd, Nat.reduceMul, Nat.reduceLT, Nat.reduceLeDiff, reduceCtorEq, Int.reduceEq, Int.reduceNeg, Nat.reduceSub, Int.reduceLT, Int.reduceLE, Int.reduceGT, Int.reduceGE, Int.reduceAdd, Int.reduceSub, Int.reduceToNat, Int.reduceBNe, Int.reduceBEq, Nat.mul_one, Nat.zero_mul, d1, e51, posV, d0, d2, hcq, hfull1, hfull2]
        exact hfullE hff
    · rw [hfull1] at hff
      simp -implicitDefEqProofs only [head32, params, go_sem, reduceIte, Nat.reduceEqDiff, Nat.reduceAdd, Nat.reduceMul, Nat.reduceLT, Nat.reduceLeDiff, reduceCtorEq, Int.reduceEq, Int.reduceNeg, Nat.reduceSub, Int.reduceLT, Int.reduceLE, Int.reduceGT, Int.reduceGE, Int.reduceAdd, Int.reduceSub, Int.reduceToNat, Int.reduceBNe, Int.reduceBEq, Nat.mul_one, Nat.zero_mul, d1, e51, posV, d0, d2, hcq, hfull1]
      exact hfullE (by rw [hff]; rfl)
end

end Go.Proofs.Ytgnpafmhdmmmhaa
