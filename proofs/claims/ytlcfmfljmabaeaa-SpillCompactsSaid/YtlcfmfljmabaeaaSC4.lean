/-
  SpillCompacts: the law's walk.
-/
import Derived.Test.YtlcfmfljmabaeaaSC2
import Derived.Test.YtlcfmfljmabaeaaSA7
set_option maxRecDepth 100000
set_option linter.unusedVariables false
set_option linter.unusedSimpArgs false
namespace Go.Proofs.Ytlcfmfljmabaeaa
open Go Go.Abs Go.Abs.K

def rest7 : ACode :=
 (.seq (.seq (R [o 119 (.mov (v 10)), o 120 (.call (.func 17) [(v 119)]), o 121 (.mov (v 14)), o 122 (.call (.func 24) [(v 120), (v 121)]), o 123 (.un .not (v 122)), o 124 (.mov (v 123)), of 124 125 (.mov (v 10)), of 124 126 (.call (.func 18) [(v 125), (.const (.string ⟨#[104, 116, 116, 112, 58, 47, 47, 97]⟩))]), of 124 127 (.mov (v 15)), of 124 128 (.bin .neq (v 126) (v 127)), o 129 (.pick (v 124) tt (v 128)), o 130 (.mov (v 129)), of 130 131 (.mov (v 10)), of 130 132 (.call (.func 10) [(v 131)]), of 130 133 (.mov (v 16)), of 130 134 (.bin .neq (v 132) (v 133)), o 135 (.pick (v 130) tt (v 134))])
  (.cond (v 135) (.seq (R [o 8 (.mov ff)])
   (.ret))
  (.skip)))
 (.seq (R [o 136 (.mov (v 9)), o 137 (.mov (v 3)), o 138 (.call (.func 20) [(v 136), (v 137)])])
 (.seq (R [o 140 (.mov (v 9)), o 141 (.call (.func 9) [(v 140), (i 7)]), o 139 (.mov (v 141)), o 142 (.extract (v 139) 0), o 143 (.extract (v 139) 1), o 18 (.mov (v 142)), o 19 (.mov (v 143))])
 (.seq (R [o 144 (.call (.func 14) []), o 145 (.mov (v 144)), ot 145 146 (.mov (v 19)), ot 145 147 (.bin .eql (v 146) (i 0)), o 148 (.pick (v 145) (v 147) ff), o 149 (.mov (v 148)), ot 149 150 (.mov (v 18)), ot 149 151 (.eq true .pointer (v 150) (.const (.pointer none))), o 152 (.pick (v 149) (v 151) ff), o 153 (.mov (v 152)), ot 153 154 (.mov (v 18)), ot 153 155 (.call (.func 17) [(v 154)]), ot 153 156 (.mov (v 14)), ot 153 157 (.call (.func 24) [(v 155), (v 156)]), o 158 (.pick (v 153) (v 157) ff), o 159 (.mov (v 158)), ot 159 160 (.mov (v 18)), ot 159 161 (.call (.func 18) [(v 160), (.const (.string ⟨#[104, 116, 116, 112, 58, 47, 47, 97]⟩))]), ot 159 162 (.mov (v 15)), ot 159 163 (.bin .eql (v 161) (v 162)), o 164 (.pick (v 159) (v 163) ff), o 165 (.mov (v 164)), ot 165 166 (.mov (v 18)), ot 165 167 (.call (.func 10) [(v 166)]), ot 165 168 (.mov (v 16)), ot 165 169 (.bin .eql (v 167) (v 168)), o 170 (.pick (v 165) (v 169) ff), o 8 (.mov (v 170))])
 (.ret)))))
def tail7 : ACode :=
 (.seq (R [o 88 (.mov (v 10)), o 89 (.call (.func 17) [(v 88)]), o 90 (.mov (v 10)), o 91 (.call (.func 18) [(v 90), (.const (.string ⟨#[104, 116, 116, 112, 58, 47, 47, 97]⟩))]), o 92 (.mov (v 10)), o 93 (.call (.func 10) [(v 92)]), o 14 (.mov (v 89)), o 15 (.mov (v 91)), o 16 (.mov (v 93))])
 (.seq (R [o 94 (.mov (v 9)), o 95 (.mov (v 1)), o 96 (.bin .rem (v 95) (.const (.int .u8 12))), o 97 (.conv (.int .i64) (v 96)), o 98 (.mov (v 2)), o 99 (.bin .rem (v 98) (.const (.int .u8 4))), o 100 (.conv (.int .i64) (v 99)), o 101 (.call (.func 22) [(v 94), (v 97), (v 100)])])
 (.seq (R [o 102 (.mov (v 10)), o 103 (.call (.func 13) [(v 102)]), o 17 (.mov (v 103))])
 (.seq (.seq (R [o 104 (.mov (v 17)), o 105 (.bin .neq (v 104) (i 0)), o 106 (.mov (v 105)), ot 106 107 (.mov (v 17)), ot 106 108 (.bin .neq (v 107) (i 7)), o 109 (.pick (v 106) (v 108) ff), o 110 (.mov (v 109)), of 110 111 (.mov (v 17)), of 110 112 (.bin .eql (v 111) (i 7)), of 110 113 (.mov (v 112)), ot 113 114 (.mov (v 2)), ot 113 115 (.bin .rem (v 114) (.const (.int .u8 4))), ot 113 116 (.bin .eql (v 115) (.const (.int .u8 0))), of 110 117 (.pick (v 113) (v 116) ff), o 118 (.pick (v 110) tt (v 117))])
  (.cond (v 118) (.seq (R [o 8 (.mov ff)])
   (.ret))
  (.skip)))
 rest7))))
theorem code7_eq : code7 =
 .seq (R [o 8 (.mov ff)])
 (.seq (R [o 20 (.call (.func 8) [(i 16)]), o 9 (.mov (v 20))])
 (.seq (R [o 22 (.mov (v 9)), o 23 (.call (.func 9) [(v 22), (i 7)]), o 21 (.mov (v 23)), o 24 (.extract (v 21) 0), o 25 (.extract (v 21) 1), o 10 (.mov (v 24)), o 11 (.mov (v 25))])
 (.seq (.seq (R [o 26 (.mov (v 11)), o 27 (.bin .neq (v 26) (i 0)), o 28 (.mov (v 27)), of 28 29 (.mov (v 10)), of 28 30 (.eq false .pointer (v 29) (.const (.pointer none))), o 31 (.pick (v 28) tt (v 30))])
  (.cond (v 31) (.seq (R [o 8 (.mov ff)])
   (.ret))
  (.skip)))
 (.seq (.seq (R [o 12 (.mov (i 0))])
  (.block 0 (.loop [0, 1, 2, 3, 9, 10, 12] (.seq (.seq (R [o 32 (.mov (v 12)), o 33 (.mov (v 0)), o 34 (.len .slice (v 33)), o 35 (.bin .lss (v 32) (v 34)), o 36 (.mov (v 35)), ot 36 37 (.mov (v 12)), ot 36 38 (.bin .lss (v 37) (i 25)), o 39 (.pick (v 36) (v 38) ff)])
     (.cond (v 39) (.skip)
     (.exit 0)))
    (.seq (.block 1 (.seq (R [o 42 (.mov (v 0)), o 43 (.mov (v 12)), o 44 (.indexAddr 9 (v 42) (v 43)), o 45 (.load (some 9) (v 44)), o 13 (.alloc 52 [(.int .i64 0), (.int .i64 0), (.int .i64 0), (.int .i64 0), (.string ⟨#[]⟩), (.string ⟨#[]⟩), (.int .i64 0), (.int .i64 0), (.string ⟨#[]⟩)]), on (.store 9 (v 13) (v 45))])
      (.seq (.seq (R [o 46 (.fieldAddr 3 (v 13)), o 47 (.fieldAddr 1 (v 46)), o 48 (.load none (v 47)), o 49 (.len .string (v 48)), o 50 (.fieldAddr 3 (v 13)), o 51 (.fieldAddr 2 (v 50)), o 52 (.load none (v 51)), o 53 (.len .string (v 52)), o 54 (.bin .add (v 49) (v 53)), o 55 (.bin .gtr (v 54) (i 150)), o 56 (.mov (v 55)), of 56 57 (.fieldAddr 8 (v 13)), of 56 58 (.load none (v 57)), of 56 59 (.len .string (v 58)), of 56 60 (.bin .gtr (v 59) (i 100)), o 61 (.pick (v 56) tt (v 60))])
       (.cond (v 61) (.exit 1)
       (.skip)))
      (.seq (R [o 62 (.fieldAddr 0 (v 13)), o 63 (.load none (v 62))])
      (.block 2 (.seq (R [o 65 (.bin .eql (v 63) (i 0)), o 64 (.mov (v 65))])
       (.cond (v 64) (.seq (R [o 66 (.mov (v 10)), o 67 (.call (.func 10) [(v 66)]), o 68 (.fieldAddr 3 (v 13)), o 69 (.fieldAddr 0 (v 68)), on (.store 1 (v 69) (v 67))])
        (R [o 70 (.mov (v 10)), o 71 (.fieldAddr 3 (v 13)), o 72 (.load (some 5) (v 71)), o 73 (.call (.func 11) [(v 70), (v 72)])]))
       (.seq (R [o 75 (.bin .eql (v 63) (i 1)), o 74 (.mov (v 75))])
        (.cond (v 74) (R [o 76 (.mov (v 10)), o 77 (.fieldAddr 1 (v 13)), o 78 (.load none (v 77)), o 79 (.call (.func 12) [(v 76), (v 78)])])
        (.seq (R [o 81 (.bin .eql (v 63) (i 2)), o 80 (.mov (v 81))])
         (.cond (v 80) (R [o 82 (.mov (v 10)), o 83 (.fieldAddr 8 (v 13)), o 84 (.load none (v 83)), o 85 (.fieldAddr 1 (v 13)), o 86 (.load none (v 85)), o 87 (.call (.func 16) [(v 82), (v 84), (v 86)])])
         (.skip))))))))))))
    (R [o 40 (.mov (v 12)), o 41 (.bin .add (v 40) (i 1)), o 12 (.mov (v 41))]))))))
 tail7)))) := rfl

abbrev hostA : ByteArray := ⟨#[104, 116, 116, 112, 58, 47, 47, 97]⟩

section
variable {tbl : FuncId → Option AFun} {ov : CallSem} {s : St} (T : STbl tbl)
include T

theorem tail7_spec (t24 : tbl 24 = some fun24) (ho : OvS ov) {e : Env} {D : DM} {L : LM} {E : List Ent} {TT : Int → List Int} {i l p : Nat} {keep f1 f2 : Int} {O OD V : List Nat} (hS : SRep s l p D L O OD V) (hN : N7 D L E TT i) (hi : i ≤ 25) (hkp : W64 keep) (hf1 : 0 ≤ f1 ∧ f1 ≤ 255) (hf2 : 0 ≤ f2 ∧ f2 ≤ 255)
    (g1 : e.get 1 = some (.int .u8 f1)) (g2 : e.get 2 = some (.int .u8 f2)) (g3 : e.get 3 = some (i64 keep)) (g9 : e.get 9 = some (ptr p)) (g10 : e.get 10 = some (ptr l)) :
    WCode (fun k => call tbl ov k) tail7 e s (ends [.tmp 8] fun u _ => u = .bool true) := by
  have e14 := fun s K => e14b (ov := ov) T ho s K
  have hRm := hN.room hi
  have hcL := hN.cL
  have hlg := hN.lg
  have hhi := hlg.hi
  simp -implicitDefEqProofs only [tail7, go_sem, reduceIte, Nat.reduceEqDiff, Nat.reduceAdd, Nat.reduceMul, Nat.reduceLT, Nat.reduceLeDiff, reduceCtorEq, Int.reduceEq, Int.reduceNeg, Nat.reduceSub, Int.reduceLT, Int.reduceLE, Int.reduceGT, Int.reduceGE, Int.reduceAdd, Int.reduceSub, Int.reduceToNat, Int.reduceBNe, Int.reduceBEq, Nat.mul_one, Nat.zero_mul, g10]
  refine WCall.mono (q17 (ov := ov) T ho hS.l (by omega)) ?_
  rintro bv s1 ⟨hrb, hk1, hnb⟩
  have hlb := wrOf_rowV hrb
  have hS1 := hS.kept hk1 (by simp) (by simp) (by simp)
  have e18 := fun b K => q18 (ov := ov) (b := b) T hS1.l K
  have e10 := fun K => q10 (ov := ov) T hS1.l K
  have er1 : binV .rem (.int .u8 f1) (.int .u8 12) = some (.int .u8 (f1.tmod 12)) := rfl
  have er2 : binV .rem (.int .u8 f2) (.int .u8 4) = some (.int .u8 (f2.tmod 4)) := rfl
  have m1 : 0 ≤ f1.tmod 12 ∧ f1.tmod 12 ≤ 255 := by rw [Int.tmod_eq_emod_of_nonneg hf1.1]; omega
  have m2 : 0 ≤ f2.tmod 4 ∧ f2.tmod 4 ≤ 255 := by rw [Int.tmod_eq_emod_of_nonneg hf2.1]; omega
  have w1 : IntKind.i64.wrap (f1.tmod 12) = f1.tmod 12 := by rw [IntKind.wrap_i64]; omega
  have w2 : IntKind.i64.wrap (f2.tmod 4) = f2.tmod 4 := by rw [IntKind.wrap_i64]; omega
  simp -implicitDefEqProofs only [go_sem, reduceIte, Nat.reduceEqDiff, Nat.reduceAdd, Nat.reduceMul, Nat.reduceLT, Nat.reduceLeDiff, reduceCtorEq, Int.reduceEq, Int.reduceNeg, Nat.reduceSub, Int.reduceLT, Int.reduceLE, Int.reduceGT, Int.reduceGE, Int.reduceAdd, Int.reduceSub, Int.reduceToNat, Int.reduceBNe, Int.reduceBEq, Nat.mul_one, Nat.zero_mul, g10, e18, e10, g9, g1, g2, er1, er2, w1, w2]
  refine WCall.mono (p22 (ov := ov) T.d hS1.d (a := f1.tmod 12) (b := f2.tmod 4) (by unfold W64; omega) (by unfold W64; omega)) ?_
  rintro u s2 ⟨hk2, hd2⟩
  obtain ⟨D1, hD1⟩ : ∃ D1 : DM, D1 = { D with first := max (f1.tmod 12) 0, fails := max (f2.tmod 4) 0 } := ⟨_, rfl⟩
  rw [← hD1] at hd2
  have hS2 : SRep s2 l p D1 L O OD V := ⟨hS1.l.kept hk2 fun x hx => (hS.dis x hx).1, hd2, hS.dis⟩
  obtain ⟨c1, c2, E', m', T', c3, c4, c5⟩ := n7_compact (f := max (f1.tmod 12) 0) (g := max (f2.tmod 4) 0) hN hi (by omega) hD1
  have hlo := hS.d.lt
  have hnO : ∀ x ∈ wrOf bv, x ∉ O ∧ x ∉ OD := fun x hx => ⟨fun h => by have := hnb x hx; have := hS.l.lt x h; omega, fun h => by have := hnb x hx; have := hlo.1 x h; omega⟩
  have hD1l : D1.loose.length < 2 ^ 18 := by rw [hD1]; simp only; rw [holds_loose0 hN.ld.h]; simp
  simp -implicitDefEqProofs only [go_sem, reduceIte, Nat.reduceEqDiff, Nat.reduceAdd, Nat.reduceMul, Nat.reduceLT, Nat.reduceLeDiff, reduceCtorEq, Int.reduceEq, Int.reduceNeg, Nat.reduceSub, Int.reduceLT, Int.reduceLE, Int.reduceGT, Int.reduceGE, Int.reduceAdd, Int.reduceSub, Int.reduceToNat, Int.reduceBNe, Int.reduceBEq, Nat.mul_one, Nat.zero_mul, g10]
  refine WCall.mono (q13 (ov := ov) T ho hS2 hRm.next (by have := hRm.live; omega) (by have := hRm.wait; omega) hD1l (by have := hRm.last; omega)) ?_
  rintro u s3 ⟨rfl, OD3, V3, hS3, hG3⟩
  have hcf := compactM_facts D1 L
  have hrl := recsL_len L
  obtain ⟨b1, b2, b3, b4⟩ := lm_last hcf.1
  obtain ⟨X, hX⟩ : ∃ X, X = compactM D1 L := ⟨_, rfl⟩
  rw [← hX] at c1 c2 c3 c5 hS3 hcf b1 b2 b3 b4 ⊢
  have hrb3 : RowV 5 s3 bv (rqsR (pendL L)) := (hrb.keptT hk2 fun x hx => (hnO x hx).2).keptT hG3.k fun x hx hx' => (List.mem_append.1 hx').elim (hnO x hx).1 (hnO x hx).2
  have hpend : pendL X.2.1 = pendL L := by rw [hcf.1]; rfl
  have hn1 := hk1.1; have hn2 := hk2.1; have hn3 := hG3.k.1
  have hnO3 : ∀ x ∈ wrOf bv, x ∉ OD3 := fun x hx h => by
    rcases hG3.o x h with h | h
    · exact (hnO x hx).2 h
    · have := hlb x hx; omega
  have hb0 : ((0 : Int) != 0) = false := rfl
  have hbn : ∀ x : Int, (x != x) = false := fun x => by simp
  have hbe : ∀ x : Int, (x == x) = true := fun x => by simp
  -- the later part
  have rest : ∀ {e : Env}, e.get 3 = some (i64 keep) → e.get 9 = some (ptr p) → e.get 10 = some (ptr l) → e.get 14 = some bv → e.get 15 = some (i64 ((lookG L.wait hostA).getD 0)) → e.get 16 = some (i64 L.next) →
      WCode (fun k => call tbl ov k) rest7 e s3 (ends [.tmp 8] fun u _ => u = .bool true) := by
    intro e g3 g9 g10 g14 g15 g16
    simp -implicitDefEqProofs only [rest7, go_sem, reduceIte, Nat.reduceEqDiff, Nat.reduceAdd, Nat.reduceMul, Nat.reduceLT, Nat.reduceLeDiff, reduceCtorEq, Int.reduceEq, Int.reduceNeg, Nat.reduceSub, Int.reduceLT, Int.reduceLE, Int.reduceGT, Int.reduceGE, Int.reduceAdd, Int.reduceSub, Int.reduceToNat, Int.reduceBNe, Int.reduceBEq, Nat.mul_one, Nat.zero_mul, g10]
    refine WCall.mono (q17 (ov := ov) T ho hS3.l (by rw [b2]; omega)) ?_
    rintro pv s4 ⟨hrp, hk4, _⟩
    rw [hpend] at hrp
    have hS4 := hS3.kept hk4 (by simp) (by simp) (by simp)
    have hrb4 := hrb3.kept hk4
    have hpl : (pendL L).length < 2 ^ 40 := by rw [pendL, List.length_map, idsL_len]; omega
    have e24 := fun K => q24 (ov := ov) t24 hrp hrb4 hpl rfl K
    have e18 := fun b K => q18 (ov := ov) (b := b) T hS4.l K
    have e10 := fun K => q10 (ov := ov) T hS4.l K
    rw [b3] at e18
    rw [b1] at e10
    simp -implicitDefEqProofs only [go_sem, reduceIte, Nat.reduceEqDiff, Nat.reduceAdd, Nat.reduceMul, Nat.reduceLT, Nat.reduceLeDiff, reduceCtorEq, Int.reduceEq, Int.reduceNeg, Nat.reduceSub, Int.reduceLT, Int.reduceLE, Int.reduceGT, Int.reduceGE, Int.reduceAdd, Int.reduceSub, Int.reduceToNat, Int.reduceBNe, Int.reduceBEq, Nat.mul_one, Nat.zero_mul, g9, g10, g14, g15, g16, g3, e24, e18, e10, hbn]
    refine WCall.mono (p20 (ov := ov) T.d hS4.d hkp c3.h.looseOK (by have := hcf.2.2.2; omega)) ?_
    rintro u s5 ⟨rfl, hk5, OD5, hD5, hO5⟩
    obtain ⟨D2, hD2⟩ : ∃ D2 : DM, D2 = ⟨X.1.most, 0, 0, crashF X.1.loose (max keep 0) X.1.F, []⟩ := ⟨_, rfl⟩
    rw [← hD2] at hD5
    obtain ⟨d1, d2, d3, d4, d5⟩ := n7_crash hN.dup (by omega) c3 c4 c5 (by omega) hD2
    have hfew := few_recs c3.h hS3.d.dw
    simp -implicitDefEqProofs only [go_sem, reduceIte, Nat.reduceEqDiff, Nat.reduceAdd, Nat.reduceMul, Nat.reduceLT, Nat.reduceLeDiff, reduceCtorEq, Int.reduceEq, Int.reduceNeg, Nat.reduceSub, Int.reduceLT, Int.reduceLE, Int.reduceGT, Int.reduceGE, Int.reduceAdd, Int.reduceSub, Int.reduceToNat, Int.reduceBNe, Int.reduceBEq, Nat.mul_one, Nat.zero_mul, g9]
    refine WCall.mono (q9 (ov := ov) (segs := 7) T ho hD5 (by unfold W64; omega) d1) ?_
    rintro u s6 ⟨l2, O2, rfl, hS6, hk6, hO6⟩
    have hrb6 := (hrb4.keptT hk5 hnO3).kept hk6
    obtain ⟨L2, hL2⟩ : ∃ L2, L2 = openM D2 7 := ⟨_, rfl⟩
    rw [← hL2] at hS6 d2 d3 d4 d5
    have e18b := fun b K => q18 (ov := ov) (b := b) T hS6.l K
    simp -implicitDefEqProofs only [go_sem, reduceIte, Nat.reduceEqDiff, Nat.reduceAdd, Nat.reduceMul, Nat.reduceLT, Nat.reduceLeDiff, reduceCtorEq, Int.reduceEq, Int.reduceNeg, Nat.reduceSub, Int.reduceLT, Int.reduceLE, Int.reduceGT, Int.reduceGE, Int.reduceAdd, Int.reduceSub, Int.reduceToNat, Int.reduceBNe, Int.reduceBEq, Nat.mul_one, Nat.zero_mul, e14, hbe, Option.isNone_some]
    refine WCall.mono (q17 (ov := ov) T ho hS6.l (by omega)) ?_
    rintro pv2 s7 ⟨hrp2, hk7, _⟩
    rw [d2] at hrp2
    have hS7 := hS6.kept hk7 (by simp) (by simp) (by simp)
    have e24b := fun K => q24 (ov := ov) t24 hrp2 (hrb6.kept hk7) hpl rfl K
    have e18b := fun b K => q18 (ov := ov) (b := b) T hS7.l K
    have e10b := fun K => q10 (ov := ov) T hS7.l K
    rw [d4] at e10b
    simp -implicitDefEqProofs only [go_sem, reduceIte, Nat.reduceEqDiff, Nat.reduceAdd, Nat.reduceMul, Nat.reduceLT, Nat.reduceLeDiff, reduceCtorEq, Int.reduceEq, Int.reduceNeg, Nat.reduceSub, Int.reduceLT, Int.reduceLE, Int.reduceGT, Int.reduceGE, Int.reduceAdd, Int.reduceSub, Int.reduceToNat, Int.reduceBNe, Int.reduceBEq, Nat.mul_one, Nat.zero_mul, g14, g15, g16, e24b, e18b, d3, e10b, hbe]
  rcases c1 with h0 | h7
  · have e07 : ((0 : Int) == 7) = false := rfl
    rw [h0]
    simp -implicitDefEqProofs only [go_sem, reduceIte, Nat.reduceEqDiff, Nat.reduceAdd, Nat.reduceMul, Nat.reduceLT, Nat.reduceLeDiff, reduceCtorEq, Int.reduceEq, Int.reduceNeg, Nat.reduceSub, Int.reduceLT, Int.reduceLE, Int.reduceGT, Int.reduceGE, Int.reduceAdd, Int.reduceSub, Int.reduceToNat, Int.reduceBNe, Int.reduceBEq, Nat.mul_one, Nat.zero_mul, hb0, e07]
    exact rest g3 g9 g10 rfl rfl rfl
  · have e70 : ((7 : Int) != 0) = true := rfl
    have hne : (f2.tmod 4 == 0) = false := by
      cases hx : (f2.tmod 4 == 0)
      · rfl
      · have h0 : f2.tmod 4 = 0 := by simpa using hx
        have := c2 (by rw [h0]; rfl)
        rw [this] at h7; cases h7
    rw [h7]
    simp -implicitDefEqProofs only [go_sem, reduceIte, Nat.reduceEqDiff, Nat.reduceAdd, Nat.reduceMul, Nat.reduceLT, Nat.reduceLeDiff, reduceCtorEq, Int.reduceEq, Int.reduceNeg, Nat.reduceSub, Int.reduceLT, Int.reduceLE, Int.reduceGT, Int.reduceGE, Int.reduceAdd, Int.reduceSub, Int.reduceToNat, Int.reduceBNe, Int.reduceBEq, Nat.mul_one, Nat.zero_mul, e70, hbn, hbe, g2, er2, hne]
    exact rest g3 g9 g10 rfl rfl rfl
end
end Go.Proofs.Ytlcfmfljmabaeaa


/-
  SpillCompacts: the law's loop.
-/
set_option maxRecDepth 100000
set_option linter.unusedVariables false
set_option linter.unusedSimpArgs false
namespace Go.Proofs.Ytlcfmfljmabaeaa
open Go Go.Abs Go.Abs.K

section
variable {tbl : FuncId → Option AFun} {ov : CallSem} {s : St} (T : STbl tbl)
include T

set_option maxHeartbeats 4000000 in
theorem law7 (t7 : tbl 7 = some fun7) (t24 : tbl 24 = some fun24) (ho : OvS ov) {av : Value} {M : List SAct} {keep f1 f2 : Int} (hr : RowV 9 s av (M.map SAct.cells)) (hW : ∀ a ∈ M, a.Wide) (hkp : W64 keep) (hf1 : 0 ≤ f1 ∧ f1 ≤ 255) (hf2 : 0 ≤ f2 ∧ f2 ≤ 255) :
    WCall (fun k => call tbl ov k) 7 [av, .int .u8 f1, .int .u8 f2, i64 keep] s fun u _ => u = .bool true := by
  refine WCall.of t7 rfl ?_
  obtain ⟨aa, ac, hav⟩ := hr.len
  rw [List.length_map] at hav
  subst hav
  rw [show fun7.body = _ from code7_eq, show fun7.res = [.tmp 8] from rfl]
  simp -implicitDefEqProofs only [params, go_sem, reduceIte, Nat.reduceEqDiff, Nat.reduceAdd, Nat.reduceMul, Nat.reduceLT, Nat.reduceLeDiff, reduceCtorEq, Int.reduceEq, Int.reduceNeg, Nat.reduceSub, Int.reduceLT, Int.reduceLE, Int.reduceGT, Int.reduceGE, Int.reduceAdd, Int.reduceSub, Int.reduceToNat, Int.reduceBNe, Int.reduceBEq, Nat.mul_one, Nat.zero_mul]
  refine WCall.mono (p8 (ov := ov) (n := 16) T.d (by unfold W64; omega)) ?_
  rintro u s1 ⟨rfl, hD1, hk1⟩
  obtain ⟨p, hp⟩ : ∃ p, p = s.next + 1 := ⟨_, rfl⟩
  rw [← hp] at hD1
  have hm : max 0 (min (16 : Int) 16) = 16 := by decide
  rw [hm] at hD1
  simp -implicitDefEqProofs only [go_sem, reduceIte, Nat.reduceEqDiff, Nat.reduceAdd, Nat.reduceMul, Nat.reduceLT, Nat.reduceLeDiff, reduceCtorEq, Int.reduceEq, Int.reduceNeg, Nat.reduceSub, Int.reduceLT, Int.reduceLE, Int.reduceGT, Int.reduceGE, Int.reduceAdd, Int.reduceSub, Int.reduceToNat, Int.reduceBNe, Int.reduceBEq, Nat.mul_one, Nat.zero_mul, ← hp]
  refine WCall.mono (q9 (ov := ov) (segs := 7) T ho hD1 (by unfold W64; omega) (by simp [keysF, sortZ])) ?_
  rintro u s2 ⟨l, O, rfl, hS2, hk2, hO2⟩
  have hn1 := hk1.1
  have hn2 := hk2.1
  have h00 : ((0 : Int) != 0) = false := rfl
  simp -implicitDefEqProofs only [go_sem, reduceIte, Nat.reduceEqDiff, Nat.reduceAdd, Nat.reduceMul, Nat.reduceLT, Nat.reduceLeDiff, reduceCtorEq, Int.reduceEq, Int.reduceNeg, Nat.reduceSub, Int.reduceLT, Int.reduceLE, Int.reduceGT, Int.reduceGE, Int.reduceAdd, Int.reduceSub, Int.reduceToNat, Int.reduceBNe, Int.reduceBEq, Nat.mul_one, Nat.zero_mul, Option.isNone_some, h00]
  obtain ⟨I, hI⟩ : ∃ I : Nat → List Value → St → Prop, I = fun m vs s' => Kept [] s s' ∧ ∃ (i : Nat) (D : DM) (L : LM) (E : List Ent) (TT : Int → List Int) (OD V : List Nat), i ≤ M.length ∧ i ≤ 25 ∧ m = M.length - i ∧ vs = [.slice aa M.length ac, .int .u8 f1, .int .u8 f2, i64 keep, ptr p, ptr l, i64 (i : Nat)] ∧
    SRep s' l p D L O OD V ∧ N7 D L E TT i ∧ (∀ x ∈ OD, s.next ≤ x) := ⟨_, rfl⟩
  refine wc_loopV I M.length ?_ ?_
  · simp -implicitDefEqProofs only [go_sem, reduceIte, Nat.reduceEqDiff, Nat.reduceAdd, Nat.reduceMul, Nat.reduceLT, Nat.reduceLeDiff, reduceCtorEq, Int.reduceEq, Int.reduceNeg, Nat.reduceSub, Int.reduceLT, Int.reduceLE, Int.reduceGT, Int.reduceGE, Int.reduceAdd, Int.reduceSub, Int.reduceToNat, Int.reduceBNe, Int.reduceBEq, Nat.mul_one, Nat.zero_mul]
    rw [hI]
    refine ⟨hk1.trans hk2, 0, _, _, _, _, _, _, by omega, by omega, by omega, rfl, hS2, n7_zero, fun x hx => ?_⟩
    simp only [List.mem_cons, List.not_mem_nil, or_false] at hx; omega
  · intro m vs s4 hi _
    rw [hI] at hi
    obtain ⟨hk4, i, D, L, E, TT, OD, V, hil, hi25, rfl, rfl, hS, hN, hOD⟩ := hi
    have hO : ∀ x ∈ O, s.next ≤ x := fun x hx => by have := hO2 x hx; omega
    have stop : (decide ((i : Int) < (M.length : Int)) = false ∨ (decide ((i : Int) < (M.length : Int)) = true ∧ decide ((i : Int) < 25) = false)) ∨ (decide ((i : Int) < (M.length : Int)) = true ∧ decide ((i : Int) < 25) = true) := by
      cases decide ((i : Int) < (M.length : Int)) <;> cases decide ((i : Int) < 25) <;> simp
    rcases stop with (d1 | ⟨d1, d2⟩) | ⟨d1, d2⟩
    · simp -implicitDefEqProofs only [go_sem, reduceIte, Nat.reduceEqDiff, Nat.reduceAdd, Nat.reduceMul, Nat.reduceLT, Nat.reduceLeDiff, reduceCtorEq, Int.reduceEq, Int.reduceNeg, Nat.reduceSub, Int.reduceLT, Int.reduceLE, Int.reduceGT, Int.reduceGE, Int.reduceAdd, Int.reduceSub, Int.reduceToNat, Int.reduceBNe, Int.reduceBEq, Nat.mul_one, Nat.zero_mul, d1]
      exact tail7_spec T t24 ho hS hN hi25 hkp hf1 hf2 rfl rfl rfl rfl rfl
    · simp -implicitDefEqProofs only [go_sem, reduceIte, Nat.reduceEqDiff, Nat.reduceAdd, Nat.reduceMul, Nat.reduceLT, Nat.reduceLeDiff, reduceCtorEq, Int.reduceEq, Int.reduceNeg, Nat.reduceSub, Int.reduceLT, Int.reduceLE, Int.reduceGT, Int.reduceGE, Int.reduceAdd, Int.reduceSub, Int.reduceToNat, Int.reduceBNe, Int.reduceBEq, Nat.mul_one, Nat.zero_mul, d1, d2]
      exact tail7_spec T t24 ho hS hN hi25 hkp hf1 hf2 rfl rfl rfl rfl rfl
    · have hiN : i < M.length := by have := of_decide_eq_true d1; omega
      have hi25' : i < 25 := by have := of_decide_eq_true d2; omega
      obtain ⟨a, ha⟩ : ∃ a, M[i]? = some a := ⟨_, List.getElem?_eq_getElem hiN⟩
      have haW := hW a (List.mem_of_getElem? ha)
      obtain ⟨id, o, cap, c, T', ro, hv, hid, hg, hle, hrw, hgi⟩ := row_one (hr.kept hk4) hiN ha
      cases hv
      have n1 : ¬ id = s4.next := by omega
      have hix : 0 ≤ (i : Int) ∧ (i : Int) < (M.length : Int) := by omega
      have w4 : IntKind.i64.wrap ((i : Int) + 1) = ((i + 1 : Nat) : Int) := by rw [IntKind.wrap_i64]; omega
      have c1 : a.cells.length = 9 := rfl
      have c2 : a.cells.all isCell = true := rfl
      have c3 : storeL [i64 0, i64 0, i64 0, i64 0, .string ⟨#[]⟩, .string ⟨#[]⟩, i64 0, i64 0, .string ⟨#[]⟩] 0 a.cells = a.cells := rfl
      have c4 : a.cells.take 9 = a.cells := rfl
      have k0 : a.cells[0]? = some (i64 a.what) := rfl
      have k1 : a.cells[1]? = some (i64 a.n) := rfl
      have k4 : a.cells[4]? = some (.string a.r.host) := rfl
      have k5 : a.cells[5]? = some (.string a.r.path) := rfl
      have k8 : a.cells[8]? = some (.string a.host) := rfl
      obtain ⟨A, hA⟩ : ∃ A, A = s4.next := ⟨_, rfl⟩
      obtain ⟨s5, hs5⟩ : ∃ s5 : St, s5 = ⟨(s4.heap.put s4.next (some (.cells [i64 0, i64 0, i64 0, i64 0, .string ⟨#[]⟩, .string ⟨#[]⟩, i64 0, i64 0, .string ⟨#[]⟩] 52 0 false))).put s4.next (some (.cells a.cells 52 0 false)), s4.next + 1⟩ := ⟨_, rfl⟩
      have hk5 : Kept [] s4 s5 := by
        rw [hs5]
        exact ⟨Nat.le_succ _, fun j hj _ => by have : ¬ j = s4.next := by omega
                                               simp only [Heap.get_put, this, if_false]⟩
      have hp5 : s5.heap.get s4.next = some (.cells a.cells 52 0 false) := by rw [hs5]; simp only [Heap.get_put, if_true]
      have hn5 : s5.next = s4.next + 1 := by rw [hs5]
      have hS5 := hS.kept hk5 (by simp) (by simp) (by simp)
      have hRm := hN.room hi25
      have same : ∃ m', m' < M.length - i ∧ I m' [.slice (some ⟨id, o, none⟩) M.length ac, .int .u8 f1, .int .u8 f2, i64 keep, ptr p, ptr l, i64 ((i + 1 : Nat) : Int)] s5 := by
        rw [hI]
        exact ⟨M.length - (i + 1), by omega, hk4.trans hk5, i + 1, D, L, E, TT, OD, V, by omega, by omega, rfl, rfl, hS5, hN.step, hOD⟩
      have clo : ∀ {s5' s' : St} {D' : DM} {L' : LM} {E' : List Ent} {OD' V' : List Nat}, Kept [] s s5' → SRep s' l p D' L' O OD' V' → GrownS s5' s' O OD V OD' V' → N7 D' L' E' TT (i + 1) → ∃ m', m' < M.length - i ∧ I m' [.slice (some ⟨id, o, none⟩) M.length ac, .int .u8 f1, .int .u8 f2, i64 keep, ptr p, ptr l, i64 ((i + 1 : Nat) : Int)] s' := by
        intro s5' s' D' L' E' OD' V' hk hS' hG hN'
        rw [hI]
        have := hk.1
        exact ⟨M.length - (i + 1), by omega, hk.comp hG.k fun x hx => (List.mem_append.1 hx).elim (fun h => .inr (hO x h)) fun h => .inr (hOD x h), i + 1, D', L', E', TT, OD', V', by omega, by omega, rfl, rfl, hS', hN', fun x hx => (hG.o x hx).elim (hOD x) fun h => by omega⟩
      obtain ⟨w, hw⟩ : ∃ w, w = IntKind.i64.wrap ((a.r.host.size : Int) + (a.r.path.size : Int)) := ⟨_, rfl⟩
      simp -implicitDefEqProofs only [go_sem, reduceIte, Nat.reduceEqDiff, Nat.reduceAdd, Nat.reduceMul, Nat.reduceLT, Nat.reduceLeDiff, reduceCtorEq, Int.reduceEq, Int.reduceNeg, Nat.reduceSub, Int.reduceLT, Int.reduceLE, Int.reduceGT, Int.reduceGE, Int.reduceAdd, Int.reduceSub, Int.reduceToNat, Int.reduceBNe, Int.reduceBEq, Nat.mul_one, Nat.zero_mul, d1, d2, hix, hg, hle, hrw, n1, Nat.add_zero, c1, c2, c3, c4, List.drop_zero, ← hs5, hp5, k4, k5, ← hw]
      cases hgt : decide (w > 150)
      · cases hh : decide ((a.host.size : Int) > 100)
        · have hsmall : (a.r.toF 1).sound = true → a.r.host.size + a.r.path.size ≤ 150 := fun hs => by
            obtain ⟨z1, z2, _⟩ := FRec.of_sound hs
            simp only [RQ.toF] at z1 z2
            have := of_decide_eq_false hgt
            rw [hw, IntKind.wrap_i64] at this
            omega
          have hhs : a.host.size ≤ 100 := by have := of_decide_eq_false hh; omega
          cases w0 : (a.what == 0)
          · cases w1 : (a.what == 1)
            · cases w2 : (a.what == 2)
              · simp -implicitDefEqProofs only [go_sem, reduceIte, Nat.reduceEqDiff, Nat.reduceAdd, Nat.reduceMul, Nat.reduceLT, Nat.reduceLeDiff, reduceCtorEq, Int.reduceEq, Int.reduceNeg, Nat.reduceSub, Int.reduceLT, Int.reduceLE, Int.reduceGT, Int.reduceGE, Int.reduceAdd, Int.reduceSub, Int.reduceToNat, Int.reduceBNe, Int.reduceBEq, Nat.mul_one, Nat.zero_mul, hp5, Nat.add_zero, k0, k8, hh, w0, w1, w2, w4]
                exact same
              · simp -implicitDefEqProofs only [go_sem, reduceIte, Nat.reduceEqDiff, Nat.reduceAdd, Nat.reduceMul, Nat.reduceLT, Nat.reduceLeDiff, reduceCtorEq, Int.reduceEq, Int.reduceNeg, Nat.reduceSub, Int.reduceLT, Int.reduceLE, Int.reduceGT, Int.reduceGE, Int.reduceAdd, Int.reduceSub, Int.reduceToNat, Int.reduceBNe, Int.reduceBEq, Nat.mul_one, Nat.zero_mul, hp5, Nat.add_zero, k0, k1, k8, hh, w0, w1, w2]
                obtain ⟨E7, hN7⟩ := n7_wait (b := a.host) hN hi25' haW.n hhs
                have hal := apply_len L (waitF a.host a.n)
                have hcL := hN.cL
                refine WCall.mono (q16 (ov := ov) (b := a.host) (t := a.n) T ho hS5 ⟨by have := hRm.next; simp only [applyL, waitF, if_true]; exact this, by omega, by omega, hRm.loose, hRm.last⟩ haW.n) ?_
                rintro u s7 ⟨rfl, OD7, V7, hS7, hG7⟩
                simp -implicitDefEqProofs only [go_sem, reduceIte, Nat.reduceEqDiff, Nat.reduceAdd, Nat.reduceMul, Nat.reduceLT, Nat.reduceLeDiff, reduceCtorEq, Int.reduceEq, Int.reduceNeg, Nat.reduceSub, Int.reduceLT, Int.reduceLE, Int.reduceGT, Int.reduceGE, Int.reduceAdd, Int.reduceSub, Int.reduceToNat, Int.reduceBNe, Int.reduceBEq, Nat.mul_one, Nat.zero_mul, w4]
                exact clo (hk4.trans hk5) hS7 hG7 hN7
            · simp -implicitDefEqProofs only [go_sem, reduceIte, Nat.reduceEqDiff, Nat.reduceAdd, Nat.reduceMul, Nat.reduceLT, Nat.reduceLeDiff, reduceCtorEq, Int.reduceEq, Int.reduceNeg, Nat.reduceSub, Int.reduceLT, Int.reduceLE, Int.reduceGT, Int.reduceGE, Int.reduceAdd, Int.reduceSub, Int.reduceToNat, Int.reduceBNe, Int.reduceBEq, Nat.mul_one, Nat.zero_mul, hp5, Nat.add_zero, k0, k1, k8, hh, w0, w1]
              obtain ⟨E7, hN7⟩ := n7_done (n := a.n) hN hi25'
              refine WCall.mono (q12 (ov := ov) T ho hS5 hRm haW.n) ?_
              rintro u s7 ⟨rfl, OD7, V7, hS7, hG7⟩
              simp -implicitDefEqProofs only [go_sem, reduceIte, Nat.reduceEqDiff, Nat.reduceAdd, Nat.reduceMul, Nat.reduceLT, Nat.reduceLeDiff, reduceCtorEq, Int.reduceEq, Int.reduceNeg, Nat.reduceSub, Int.reduceLT, Int.reduceLE, Int.reduceGT, Int.reduceGE, Int.reduceAdd, Int.reduceSub, Int.reduceToNat, Int.reduceBNe, Int.reduceBEq, Nat.mul_one, Nat.zero_mul, w4]
              exact clo (hk4.trans hk5) hS7 hG7 hN7
          · obtain ⟨r', hr'⟩ : ∃ r' : RQ, r' = { a.r with id := L.next } := ⟨_, rfl⟩
            obtain ⟨a', ha'⟩ : ∃ a' : SAct, a' = { a with r := r' } := ⟨_, rfl⟩
            have hset : a.cells.set 3 (i64 L.next) = a'.cells := by rw [ha', hr']; rfl
            obtain ⟨s6, hs6⟩ : ∃ s6 : St, s6 = ⟨s5.heap.put s4.next (some (.cells a'.cells 52 0 false)), s5.next⟩ := ⟨_, rfl⟩
            have hk6 : Kept [] s4 s6 := by
              rw [hs6]
              refine ⟨by simp only; omega, fun j hj hn => ?_⟩
              have : ¬ j = s4.next := by omega
              simp only [Heap.get_put, this, if_false]
              exact hk5.2 j hj hn
            have hp6 : s6.heap.get s4.next = some (.cells a'.cells 52 0 false) := by rw [hs6]; simp only [Heap.get_put, if_true]
            have hS6 := hS.kept hk6 (by simp) (by simp) (by simp)
            have e10 := fun K => q10 (ov := ov) T hS5.l K
            have q6 : 3 + 1 ≤ a.cells.length := by rw [c1]; omega
            have q7 : 3 + 5 ≤ a'.cells.length := by rw [ha']; exact Nat.le_of_ble_eq_true rfl
            have q8 : (a'.cells.drop 3).take 5 = r'.cells := by rw [ha']; rfl
            have erv : (Value.agg r'.cells.toArray) = r'.val := rfl
            have hLW := hS.l.wide.next
            have hlo := hN.lg.lo; have hhi := hN.lg.hi
            simp -implicitDefEqProofs only [go_sem, reduceIte, Nat.reduceEqDiff, Nat.reduceAdd, Nat.reduceMul, Nat.reduceLT, Nat.reduceLeDiff, reduceCtorEq, Int.reduceEq, Int.reduceNeg, Nat.reduceSub, Int.reduceLT, Int.reduceLE, Int.reduceGT, Int.reduceGE, Int.reduceAdd, Int.reduceSub, Int.reduceToNat, Int.reduceBNe, Int.reduceBEq, Nat.mul_one, Nat.zero_mul, hp5, Nat.add_zero, k0, k8, hh, w0, e10, hset, q6, ← hs6, hp6, q7, q8, erv]
            have hrW : r'.Wide := by rw [hr']; exact ⟨by simp only; exact hLW, haW.r.prio, haW.r.till⟩
            have hrid : r'.id = L.next := by rw [hr']
            obtain ⟨E7, hN7⟩ := n7_put (r := r') hN hi25' hrid hrW (fun hs => by
              have hs2 := hs
              obtain ⟨z1, z2, _⟩ := FRec.of_sound hs
              rw [hr'] at z1 z2 ⊢
              simp only [RQ.toF] at z1 z2 ⊢
              have := of_decide_eq_false hgt
              rw [hw, IntKind.wrap_i64] at this
              omega)
            refine WCall.mono (q11 (ov := ov) (r := r') T ho hS6 hRm hrW (by omega)) ?_
            rintro u s7 ⟨rfl, OD7, V7, hS7, hG7⟩
            simp -implicitDefEqProofs only [go_sem, reduceIte, Nat.reduceEqDiff, Nat.reduceAdd, Nat.reduceMul, Nat.reduceLT, Nat.reduceLeDiff, reduceCtorEq, Int.reduceEq, Int.reduceNeg, Nat.reduceSub, Int.reduceLT, Int.reduceLE, Int.reduceGT, Int.reduceGE, Int.reduceAdd, Int.reduceSub, Int.reduceToNat, Int.reduceBNe, Int.reduceBEq, Nat.mul_one, Nat.zero_mul, w4]
            exact clo (hk4.trans hk6) hS7 hG7 hN7
        · simp -implicitDefEqProofs only [go_sem, reduceIte, Nat.reduceEqDiff, Nat.reduceAdd, Nat.reduceMul, Nat.reduceLT, Nat.reduceLeDiff, reduceCtorEq, Int.reduceEq, Int.reduceNeg, Nat.reduceSub, Int.reduceLT, Int.reduceLE, Int.reduceGT, Int.reduceGE, Int.reduceAdd, Int.reduceSub, Int.reduceToNat, Int.reduceBNe, Int.reduceBEq, Nat.mul_one, Nat.zero_mul, hp5, Nat.add_zero, k8, hh, w4]
          exact same
      · simp -implicitDefEqProofs only [go_sem, reduceIte, Nat.reduceEqDiff, Nat.reduceAdd, Nat.reduceMul, Nat.reduceLT, Nat.reduceLeDiff, reduceCtorEq, Int.reduceEq, Int.reduceNeg, Nat.reduceSub, Int.reduceLT, Int.reduceLE, Int.reduceGT, Int.reduceGE, Int.reduceAdd, Int.reduceSub, Int.reduceToNat, Int.reduceBNe, Int.reduceBEq, Nat.mul_one, Nat.zero_mul, w4]
        exact same
end
end Go.Proofs.Ytlcfmfljmabaeaa
