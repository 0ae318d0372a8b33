/-
  FrontOrder: the law's second half.
-/
import Derived.Test.YtehgdocbabaldaaGreatFW2
import Derived.Test.YtehgdocbabaldaaGreatFQ11
set_option maxRecDepth 100000
set_option linter.unusedVariables false
set_option linter.unusedSimpArgs false
namespace Go.Proofs.YtehgdocbabaldaaGreat
open Go Go.Abs Go.Abs.K

def end3 : ACode :=
 (.seq (R [o 152 (.call (.func 9) []), o 153 (.mov (v 152)), ot 153 154 (.mov (v 10)), ot 153 155 (.call (.func 16) [(v 154)]), ot 153 156 (.bin .eql (v 155) (i 0)), o 157 (.pick (v 153) (v 156) ff), o 158 (.mov (v 157)), ot 158 159 (.mov (v 10)), ot 158 160 (.call (.func 14) [(v 159)]), ot 158 161 (.bin .eql (v 160) (i 0)), o 162 (.pick (v 158) (v 161) ff), o 6 (.mov (v 162))])
 (.ret))
def tail3 : ACode :=
 (.seq (R [o 84 (.build [(.int .i64 0), (.string ⟨#[]⟩), (.string ⟨#[]⟩), (.int .i64 0), (.int .i64 0)] [(3, 1, (i (-1)))]), o 14 (.alloc 34 [(.int .i64 0), (.string ⟨#[]⟩), (.string ⟨#[]⟩), (.int .i64 0), (.int .i64 0)]), on (.store 5 (v 14) (v 84))])
 (.seq (.seq (R [o 15 (.mov (i 0))])
  (.block 2 (.loop [1, 2, 9, 10, 11, 14, 15] (.seq (.seq (R [o 85 (.mov (v 15)), o 86 (.mov (v 11)), o 87 (.bin .lss (v 85) (v 86))])
     (.cond (v 87) (.skip)
     (.exit 2)))
    (.seq (.block 3 (.seq (R [o 91 (.mov (v 10)), o 92 (.call (.func 12) [(v 91), (i 0)]), o 90 (.mov (v 92)), o 93 (.extract (v 90) 0), o 94 (.extract (v 90) 1), o 16 (.alloc 34 [(.int .i64 0), (.string ⟨#[]⟩), (.string ⟨#[]⟩), (.int .i64 0), (.int .i64 0)]), on (.store 5 (v 16) (v 93)), o 17 (.mov (v 94))])
      (.seq (.seq (R [o 95 (.mov (v 17)), o 96 (.un .not (v 95)), o 97 (.mov (v 96)), of 97 98 (.fieldAddr 0 (v 16)), of 97 99 (.load none (v 98)), of 97 100 (.bin .lss (v 99) (i 1)), o 101 (.pick (v 97) tt (v 100)), o 102 (.mov (v 101)), of 102 103 (.fieldAddr 0 (v 16)), of 102 104 (.load none (v 103)), of 102 105 (.mov (v 11)), of 102 106 (.bin .gtr (v 104) (v 105)), o 107 (.pick (v 102) tt (v 106)), o 108 (.mov (v 107)), of 108 109 (.fieldAddr 2 (v 16)), of 108 110 (.load none (v 109)), of 108 111 (.mov (v 1)), of 108 112 (.fieldAddr 0 (v 16)), of 108 113 (.load none (v 112)), of 108 114 (.bin .sub (v 113) (i 1)), of 108 115 (.indexAddr 1 (v 111) (v 114)), of 108 116 (.load none (v 115)), of 108 117 (.bin .neq (v 110) (v 116)), o 118 (.pick (v 108) tt (v 117)), o 119 (.mov (v 118)), of 119 120 (.fieldAddr 3 (v 16)), of 119 121 (.load none (v 120)), of 119 122 (.mov (v 2)), of 119 123 (.fieldAddr 0 (v 16)), of 119 124 (.load none (v 123)), of 119 125 (.bin .sub (v 124) (i 1)), of 119 126 (.indexAddr 1 (v 122) (v 125)), of 119 127 (.load none (v 126)), of 119 128 (.bin .rem (v 127) (.const (.int .u8 8))), of 119 129 (.conv (.int .i64) (v 128)), of 119 130 (.bin .neq (v 121) (v 129)), o 131 (.pick (v 119) tt (v 130)), o 132 (.mov (v 131)), of 132 133 (.load (some 5) (v 14)), of 132 134 (.load (some 5) (v 16)), of 132 135 (.call (.func 13) [(v 133), (v 134)]), of 132 136 (.un .not (v 135)), o 137 (.pick (v 132) tt (v 136)), o 138 (.mov (v 137)), of 138 139 (.mov (v 10)), of 138 140 (.call (.func 14) [(v 139)]), of 138 141 (.mov (v 9)), of 138 142 (.bin .gtr (v 140) (v 141)), o 143 (.pick (v 138) tt (v 142)), o 144 (.mov (v 143)), of 144 145 (.mov (v 10)), of 144 146 (.fieldAddr 0 (v 16)), of 144 147 (.load none (v 146)), of 144 148 (.call (.func 15) [(v 145), (v 147)]), of 144 149 (.un .not (v 148)), o 150 (.pick (v 144) tt (v 149))])
       (.cond (v 150) (.seq (R [o 6 (.mov ff)])
        (.ret))
       (.skip)))
      (R [o 151 (.load (some 5) (v 16)), on (.store 5 (v 14) (v 151))]))))
    (R [o 88 (.mov (v 15)), o 89 (.bin .add (v 88) (i 1)), o 15 (.mov (v 89))]))))))
 end3))
theorem code3_eq : code3 =
 .seq (R [o 6 (.mov ff)])
 (.seq (R [o 19 (.call (.func 7) [(i 16)]), o 20 (.call (.func 6) [(v 19), (i 7)]), o 18 (.mov (v 20)), o 21 (.extract (v 18) 0), o 22 (.extract (v 18) 1), o 7 (.mov (v 21)), o 8 (.mov (v 22))])
 (.seq (.seq (R [o 23 (.mov (v 8)), o 24 (.bin .neq (v 23) (i 0)), o 25 (.mov (v 24)), of 25 26 (.mov (v 7)), of 25 27 (.eq false .pointer (v 26) (.const (.pointer none))), o 28 (.pick (v 25) tt (v 27))])
  (.cond (v 28) (.seq (R [o 6 (.mov ff)])
   (.ret))
  (.skip)))
 (.seq (R [o 29 (.mov (v 0)), o 30 (.bin .rem (v 29) (.const (.int .u8 6))), o 31 (.conv (.int .i64) (v 30)), o 32 (.bin .add (v 31) (i 1)), o 9 (.mov (v 32))])
 (.seq (R [o 33 (.mov (v 9)), o 34 (.mov (v 7)), o 35 (.call (.func 8) [(i 100), (v 33), (v 34)]), o 10 (.mov (v 35))])
 (.seq (R [o 11 (.mov (i 0))])
 (.seq (.seq (R [o 12 (.mov (i 0))])
  (.block 0 (.loop [1, 2, 7, 9, 10, 11, 12] (.seq (.seq (R [o 36 (.mov (v 12)), o 37 (.mov (v 1)), o 38 (.len .slice (v 37)), o 39 (.bin .lss (v 36) (v 38)), o 40 (.mov (v 39)), ot 40 41 (.mov (v 12)), ot 40 42 (.mov (v 2)), ot 40 43 (.len .slice (v 42)), ot 40 44 (.bin .lss (v 41) (v 43)), o 45 (.pick (v 40) (v 44) ff), o 46 (.mov (v 45)), ot 46 47 (.mov (v 12)), ot 46 48 (.bin .lss (v 47) (i 25)), o 49 (.pick (v 46) (v 48) ff)])
     (.cond (v 49) (.skip)
     (.exit 0)))
    (.seq (.block 1 (.seq (.seq (R [o 52 (.mov (v 1)), o 53 (.mov (v 12)), o 54 (.indexAddr 1 (v 52) (v 53)), o 55 (.load none (v 54)), o 56 (.len .string (v 55)), o 57 (.bin .gtr (v 56) (i 100))])
       (.cond (v 57) (.seq (R [o 58 (.call (.func 9) []), o 6 (.mov (v 58))])
        (.ret))
       (.skip)))
      (.seq (R [o 59 (.mov (v 12)), o 60 (.bin .add (v 59) (i 1)), o 61 (.mov (v 1)), o 62 (.mov (v 12)), o 63 (.indexAddr 1 (v 61) (v 62)), o 64 (.load none (v 63)), o 65 (.mov (v 2)), o 66 (.mov (v 12)), o 67 (.indexAddr 1 (v 65) (v 66)), o 68 (.load none (v 67)), o 69 (.bin .rem (v 68) (.const (.int .u8 8))), o 70 (.conv (.int .i64) (v 69)), o 71 (.build [(.int .i64 0), (.string ⟨#[]⟩), (.string ⟨#[]⟩), (.int .i64 0), (.int .i64 0)] [(0, 1, (v 60)), (1, 1, (.const (.string ⟨#[104]⟩))), (2, 1, (v 64)), (3, 1, (v 70))]), o 13 (.alloc 34 [(.int .i64 0), (.string ⟨#[]⟩), (.string ⟨#[]⟩), (.int .i64 0), (.int .i64 0)]), on (.store 5 (v 13) (v 71))])
      (.seq (.seq (R [o 72 (.mov (v 7)), o 73 (.load (some 5) (v 13)), o 74 (.call (.func 10) [(v 72), (v 73)]), o 75 (.bin .neq (v 74) (i 0)), o 76 (.mov (v 75)), of 76 77 (.mov (v 10)), of 76 78 (.load (some 5) (v 13)), of 76 79 (.call (.func 11) [(v 77), (i 0), (v 78)]), of 76 80 (.bin .neq (v 79) (i 0)), o 81 (.pick (v 76) tt (v 80))])
       (.cond (v 81) (.seq (R [o 6 (.mov ff)])
        (.ret))
       (.skip)))
      (R [o 82 (.mov (v 11)), o 83 (.bin .add (v 82) (i 1)), o 11 (.mov (v 83))])))))
    (R [o 50 (.mov (v 12)), o 51 (.bin .add (v 50) (i 1)), o 12 (.mov (v 51))]))))))
 tail3)))))) := rfl

def fullQ (r : RQ) : Q.QReq := ⟨r.id, r.host, r.path, r.prio, r.till⟩
def RQm : RQ := ⟨0, ⟨#[]⟩, ⟨#[]⟩, -1, 0⟩

theorem before_full (a b : RQ) : Q.beforeR (fullQ a) (fullQ b) = Q.beforeR (bareQ a) (bareQ b) := rfl

section
variable {tbl : FuncId → Option AFun} {ov : CallSem} {s : St} (T : FTbl tbl)
include T

set_option maxHeartbeats 2000000 in
theorem tail3_spec (TQ : Q.QTbl tbl) (TS : STbl tbl) (ho : OvS ov) {s0 : St} {pv zv : Value} {ps : List ByteArray} {zs : List Int} {l p f : Nat} {D : DM} {L : LM} {M : FM} {O OD V OF : List Nat} {room : Int} {n : Nat} {e : Env}
    (hp : RowV 1 s0 pv (strsR ps)) (hz : BytesV s0 zv zs) (hk0 : Kept [] s0 s) (h : Duo s l p f D L M O OD V OF) (hF : FO M L ps zs room n n) (hn : n ≤ 25) (hnp : n ≤ ps.length) (hnz : n ≤ zs.length) (hr1 : 1 ≤ room) (hr6 : room ≤ 6)
    (hlow : ∀ x ∈ OF, s0.next ≤ x) (g1 : e.get 1 = some pv) (g2 : e.get 2 = some zv) (g9 : e.get 9 = some (i64 room)) (g10 : e.get 10 = some (ptr f)) (g11 : e.get 11 = some (i64 (n : Nat))) :
    WCode (fun k => call tbl ov k) tail3 e s (ends [.tmp 6] fun u _ => u = .bool true) := by
  have e9 := fun s K => e9b (ov := ov) TS ho s K
  obtain ⟨pa, pc, hpv⟩ := hp.len
  rw [strsR, List.length_map] at hpv
  subst hpv
  obtain ⟨za, zc, hzv⟩ := hz.len
  subst hzv
  obtain ⟨b, hb⟩ : ∃ b, b = s.next := ⟨_, rfl⟩
  have hlO := h.ltS
  have hlF := h.fr.lt
  have hm1 : RQm.cells = [in64 0, .string ⟨#[]⟩, .string ⟨#[]⟩, i64 (-1), in64 0] := rfl
  have ef : fillL [in64 0, .string ⟨#[]⟩, .string ⟨#[]⟩, in64 0, in64 0] [(3, 1, in64 (-1))] = some RQm.cells := rfl
  obtain ⟨c1, c2, c3, c4, c5, c6, c7⟩ := cells_facts RQm
  obtain ⟨s1, hs1⟩ : ∃ s1 : St, s1 = ⟨(s.heap.put b (some (.cells [in64 0, .string ⟨#[]⟩, .string ⟨#[]⟩, in64 0, in64 0] 34 0 false))).put b (some (.cells RQm.cells 34 0 false)), b + 1⟩ := ⟨_, rfl⟩
  have hk1 : Kept [] s s1 := by
    rw [hs1, hb]
    exact ⟨Nat.le_succ _, fun j hj _ => by simp only [Heap.get_put]; rw [if_neg (by omega), if_neg (by omega)]⟩
  have hn0 := hk0.1
  have fin : ∀ (s' : St) (M : FM) (OF : List Nat) (e : Env), Duo s' l p f D L M O OD V OF → FO M L ps zs room n 0 → e.get 10 = some (ptr f) → WCode (fun k => call tbl ov k) end3 e s' (ends [.tmp 6] fun u _ => u = .bool true) := by
    intro s' M OF e hD hF g10
    obtain ⟨h1, h2⟩ := hF.over
    have e16 := fun K => r16 (ov := ov) T hD.fr K
    have e14 := fun K => r14 (ov := ov) T hD.fr K
    rw [h1] at e14
    rw [h2] at e16
    have z0 : (((0 : Nat) : Int) == 0) = true := rfl
    simp -implicitDefEqProofs only [end3, go_sem, e9, g10, e16, e14, z0, List.length_nil]
  simp -implicitDefEqProofs only [tail3, go_sem, ef, c1, c2, c3, c4, ← hb]
  rw [← hs1]
  obtain ⟨I, hI⟩ : ∃ I : Nat → List Value → St → Prop, I = fun m vs s' => Kept [] s0 s' ∧ ∃ (i : Nat) (M : FM) (OF : List Nat) (last : RQ), i ≤ n ∧ m = n - i ∧ vs = [.slice pa ps.length pc, .slice za zs.length zc, i64 room, ptr f, i64 (n : Nat), ptr b, i64 (i : Nat)] ∧
    Duo s' l p f D L M O OD V OF ∧ FO M L ps zs room n (n - i) ∧ (∀ x ∈ OF, s0.next ≤ x) ∧ s'.heap.get b = some (.cells last.cells 34 0 false) ∧ b < s'.next ∧ b ∉ OF ∧ ∀ r ∈ rowsQ M.qs 0, Q.beforeR (bareQ last) (bareQ r) = true := ⟨_, rfl⟩
  refine wc_loopV I n ?_ ?_
  · simp -implicitDefEqProofs only [go_sem, g1, g2, g9, g10, g11]
    rw [hI]
    refine ⟨hk0.trans hk1, 0, M, OF, RQm, by omega, by omega, rfl, h.kept hk1 (by simp), hF, hlow, by rw [hs1]; simp only [Heap.get_put, if_true], by rw [hs1]; exact Nat.lt_succ_self _, fun hx => by have := hlF _ hx; omega, fun r hr => ?_⟩
    obtain ⟨j, hj, rfl⟩ := hF.ids r hr
    rw [Q.before_iff]
    left
    simp only [bareQ, RQm, rqF]
    omega
  · intro m vs s3 hi _
    rw [hI] at hi
    obtain ⟨hk3, i, M, OF, last, hin, rfl, rfl, hD, hF, hlow, hbl, hbn, hbO, hlast⟩ := hi
    cases hlt : decide ((i : Int) < (n : Int))
    · have hie : i = n := by have := of_decide_eq_false hlt; omega
      subst hie
      rw [Nat.sub_self] at hF
      simp -implicitDefEqProofs only [go_sem, hlt]
      exact fin _ M OF _ hD hF rfl
    · have hiN : i < n := by have := of_decide_eq_true hlt; omega
      obtain ⟨r, rs, hrr⟩ : ∃ r rs, rowsQ M.qs 0 = r :: rs := by
        cases hx : rowsQ M.qs 0 with
        | nil => have := hF.cnt; rw [hx] at this; simp at this; omega
        | cons r rs => exact ⟨r, rs, rfl⟩
      have hrm : r ∈ rowsQ M.qs 0 := by rw [hrr]; exact List.mem_cons_self ..
      have hrow := hF.fi.len
      rw [hF.mem] at hrow
      simp -implicitDefEqProofs only [go_sem, hlt]
      refine WCall.mono (r12 (ov := ov) T TQ hD.fr hD.sr.l (fun x hx hx' => (hD.dis x hx').1 hx) (by rw [hF.per]; omega) (by rw [hF.mem]; exact hr1) (by omega) hrr (hF.fi.whole hrm)) ?_
      rintro u s4 ⟨rfl, O4, qs4, hF4, hl4, hr4, hk4, hO4⟩
      have hrr4 : rowsQ qs4 0 = r :: rs := by rw [hr4, hrr]
      have hFO4 : FO (firstM { M with qs := qs4 } r) L ps zs room n (n - i) := FO.first (hF.qs hr4) (by rw [hrr4]; exact List.mem_cons_self ..) hr1
      have hD4 := hD.front hF4 hk4 hO4
      have hkO4 : Kept [] s0 s4 := hk3.comp hk4 fun x hx => .inr (hlow x hx)
      have hlow4 : ∀ x ∈ O4, s0.next ≤ x := fun x hx => by
        rcases hO4 x hx with h' | h'
        · exact hlow x h'
        · have := hk3.1; omega
      have hl4 := hkO4.1; have hl3 := hk4.1; have h30 := hk3.1
      have hb4 : s4.heap.get b = some (.cells last.cells 34 0 false) := by rw [hk4.2 b hbn hbO]; exact hbl
      have hbO4 : b ∉ O4 := fun hx => by
        rcases hO4 b hx with h' | h'
        · exact hbO h'
        · omega
      have hbn4 : b < s4.next := by omega
      obtain ⟨j, hj, hrj⟩ := hF.ids r hrm
      have hjid : r.id = ((j + 1 : Nat) : Int) := by rw [hrj]; rfl
      have d1 : decide (r.id < 1) = false := by rw [hjid]; exact decide_eq_false (by omega)
      have d2 : decide (r.id > (n : Int)) = false := by rw [hjid]; exact decide_eq_false (by omega)
      have w1 : IntKind.i64.wrap (r.id - 1) = (j : Int) := by rw [hjid, IntKind.wrap_i64]; omega
      have w2 : IntKind.i64.wrap ((i : Int) + 1) = ((i + 1 : Nat) : Int) := by rw [IntKind.wrap_i64]; omega
      obtain ⟨q1, q2, q3, q4, q5, q6, q7⟩ := cells_facts r
      obtain ⟨y1, y2, y3, y4, y5, y6, y7⟩ := cells_facts last
      have q8 : r.cells[3]? = some (i64 r.prio) := rfl
      have hjp : j < ps.length := by omega
      have hjz : j < zs.length := by omega
      obtain ⟨pid, po, pcap, pcc, pT, pro, phv, phid, phg, phle, phrw, phgi⟩ := row_one (hp.kept hkO4) hjp (z := ps[j]) (List.getElem?_eq_getElem hjp)
      have phc : pcc[po + j * 1]? = some (.string ps[j]) := by have := phgi 0 (by omega); rw [Nat.add_zero] at this; exact this
      obtain ⟨zid, zo, zcap, zcc, zT, zsz, zro, zhv, _, zhid, zhg, _, zgi⟩ := (hz.kept hkO4).row (by omega)
      have zgi := zgi j hjz
      rw [Nat.mul_one] at phc
      cases phv
      cases zhv
      obtain ⟨z, hz'⟩ : ∃ z, z = zs.getD j 0 := ⟨_, rfl⟩
      rw [← hz'] at zgi
      have hz0 : 0 ≤ z ∧ z ≤ 255 := hz.1 z (by rw [hz', List.getD_eq_getElem?_getD, List.getElem?_eq_getElem hjz, Option.getD_some]; exact List.getElem_mem hjz)
      have eneq : binV .neq (.string r.path) (.string ps[j]) = some (.bool false) := by
        have : r.path = ps[j] := by rw [hrj]; simp only [rqF, List.getD_eq_getElem?_getD, List.getElem?_eq_getElem hjp, Option.getD_some]
        rw [this]
        simp [binV]
      have er : binV .rem (.int .u8 z) (.int .u8 8) = some (.int .u8 (z.tmod 8)) := rfl
      have htm : z.tmod 8 = z % 8 := Int.tmod_eq_emod_of_nonneg hz0.1
      have w3 : IntKind.i64.wrap (z.tmod 8) = r.prio := by
        have : r.prio = z % 8 := by rw [hrj, hz']; rfl
        rw [htm, IntKind.wrap_i64, this]; omega
      have hbn1 : ∀ x : Int, (x != x) = false := fun x => by simp
      have hix : 0 ≤ (j : Int) ∧ (j : Int) < (ps.length : Int) := by omega
      have hiz : 0 ≤ (j : Int) ∧ (j : Int) < (zs.length : Int) := by omega
      have n1 : ¬ pid = s4.next := by omega
      have n2 : ¬ zid = s4.next := by omega
      have n3 : ¬ b = s4.next := by omega
      have n4 : ¬ s4.next = b := by omega
      -- the block of the one that is found
      obtain ⟨s5, hs5⟩ : ∃ s5 : St, s5 = ⟨(s4.heap.put s4.next (some (.cells [in64 0, .string ⟨#[]⟩, .string ⟨#[]⟩, in64 0, in64 0] 34 0 false))).put s4.next (some (.cells r.cells 34 0 false)), s4.next + 1⟩ := ⟨_, rfl⟩
      have hk5 : Kept [] s4 s5 := by
        rw [hs5]
        exact ⟨Nat.le_succ _, fun j hj _ => by simp only [Heap.get_put]; rw [if_neg (by omega), if_neg (by omega)]⟩
      have h13 := Q.p13 (ov := ov) (s := s5) TQ (a := fullQ last) (b := fullQ r)
      rw [before_full, hlast r hrm] at h13
      have e13 := fun K => WCall.pureEq h13 K
      have nn := nxt_le (fun k => call tbl ov k) 13 [(fullQ last).val, (fullQ r).val] s5
      generalize nxt (fun k => call tbl ov k) 13 [(fullQ last).val, (fullQ r).val] s5 = n6 at e13 nn
      obtain ⟨s6, hs6⟩ : ∃ s6 : St, s6 = ⟨s5.heap, n6⟩ := ⟨_, rfl⟩
      have hk6 : Kept [] s5 s6 := by rw [hs6]; exact ⟨nn, fun _ _ _ => rfl⟩
      have hD6 := (hD4.kept hk5 (by simp)).kept hk6 (by simp)
      have e14 := fun K => r14 (ov := ov) T hD6.fr K
      have hrow4 := hFO4.fi.len
      rw [hFO4.mem] at hrow4
      have d3 : decide (((firstM { M with qs := qs4 } r).row.length : Int) > room) = false := decide_eq_false (by omega)
      rw [show (fullQ last).val = last.val from rfl, show (fullQ r).val = r.val from rfl] at e13
      have hs6' : s6 = ⟨(s4.heap.put s4.next (some (.cells [in64 0, .string ⟨#[]⟩, .string ⟨#[]⟩, in64 0, in64 0] 34 0 false))).put s4.next (some (.cells r.cells 34 0 false)), n6⟩ := by rw [hs6, hs5]
      rw [hs6'] at e14
      rw [hs5] at e13
      simp -implicitDefEqProofs only [go_sem, d1, d2, w1, q1, q2, q3, q4, q5, q6, q8, y1, y2, y3, phg, phc, zhg, zgi, eneq, er, w3, hbn1, hix, hiz, n1, n2, n3, n4, hb4, e13, e14, d3, List.drop_zero]
      rw [← hs6']
      obtain ⟨k1, k2, k3, k4⟩ := firstM_qs { M with qs := qs4 } r
      have hrr6 : rowsQ (firstM { M with qs := qs4 } r).qs 0 = r :: rs := by rw [k1]; exact hrr4
      have hni : n - i = (n - (i + 1)) + 1 := by omega
      have hFO4' := hFO4
      rw [hni] at hFO4'
      have hh4 : lookG (firstM { M with qs := qs4 } r).host r.id = some 0 := (hFO4.fi.hst _ _).2 ⟨r, by rw [hrr6]; exact List.mem_cons_self .., rfl⟩
      have hp4 : Q.posL r.id ((rowsQ (firstM { M with qs := qs4 } r).qs 0).map bareQ) = some 0 := by
        rw [hrr6]
        simp only [List.map_cons, Q.posL, bare_id, if_true]
      refine WCall.mono (r15 (ov := ov) T hD6.fr (by omega) (by have := hFO4.cnt; omega) hp4 hh4 TQ) ?_
      rintro u s7 ⟨rfl, O7, qs7, hF7, hr7, hk7, hO7⟩
      obtain ⟨_, _, hFO7, hrs7⟩ := hFO4'.drop hrr6 hr7
      have hD7 := hD6.front hF7 hk7 hO7
      have l5 := hk5.1; have l6 := hk6.1; have l7 := hk7.1
      have hlt4 := hD4.fr.lt
      have hbs6 : s6.heap.get s4.next = some (.cells r.cells 34 0 false) := by rw [hs6']; simp only [Heap.get_put, if_true]
      have l45 : s4.next < s5.next := by rw [hs5]; exact Nat.lt_succ_self _
      have hnO4 : s4.next ∉ O4 := fun hx => by have := hlt4 _ hx; omega
      have hbs7 : s7.heap.get s4.next = some (.cells r.cells 34 0 false) := by rw [hk7.2 _ (by omega) hnO4]; exact hbs6
      have hb7 : s7.heap.get b = some (.cells last.cells 34 0 false) := by rw [hk7.2 b (by omega) hbO4, hk6.2 b (by omega) (by simp), hk5.2 b hbn4 (by simp)]; exact hb4
      have hst : storeL last.cells 0 r.cells = r.cells := rfl
      simp -implicitDefEqProofs only [go_sem, hbs7, hb7, q1, q2, q3, y1, hst, w2, List.drop_zero]
      rw [hI]
      have hbO7 : b ∉ O7 := fun hx => by
        rcases hO7 b hx with h' | h'
        · exact hbO4 h'
        · omega
      have hk8 : Kept [b] s7 ⟨s7.heap.put b (some (.cells r.cells 34 0 false)), s7.next⟩ := kept_put1 (Nat.le_refl _)
      have hbD : b ∉ O ∧ b ∉ OD ∧ b ∉ V := ⟨fun hx => by have := hlO b (.inl hx); omega, fun hx => by have := hlO b (.inr (.inl hx)); omega, fun hx => by have := hlO b (.inr (.inr hx)); omega⟩
      refine ⟨n - (i + 1), by omega, ⟨by simp only; omega, fun x hx _ => ?_⟩, i + 1, _, O7, r, by omega, rfl, rfl, hD7.kept hk8 (fun x hx => ?_), hFO7, fun x hx => ?_, by simp only [Heap.get_put, if_true], by simp only; omega, hbO7, fun q hq => ?_⟩
      · have e1 : ¬ x = b := by omega
        have hxO : x ∉ O4 := fun hx' => by have := hlow4 x hx'; omega
        simp only [Heap.get_put, e1, if_false]
        rw [hk7.2 x (by omega) hxO, hk6.2 x (by omega) (by simp), hk5.2 x (by omega) (by simp), hkO4.2 x hx (by simp)]
      · rw [List.mem_singleton.1 hx]
        exact ⟨hbD.1, hbD.2.1, hbD.2.2, hbO7⟩
      · rcases hO7 x hx with h' | h'
        · exact hlow4 x h'
        · omega
      · have hs := hFO4.fi.srt 0
        rw [hrr6, List.map_cons] at hs
        rw [show (dropM (firstM { M with qs := qs4 } r) qs7 r.id).qs = qs7 from rfl, hrs7] at hq
        exact (List.pairwise_cons.1 hs).1 _ (List.mem_map_of_mem hq)
end
end Go.Proofs.YtehgdocbabaldaaGreat


/-
  FrontOrder: the law.
-/
set_option maxRecDepth 100000
set_option linter.unusedVariables false
set_option linter.unusedSimpArgs false
namespace Go.Proofs.YtehgdocbabaldaaGreat
open Go Go.Abs Go.Abs.K

theorem rqF_sound {ps : List ByteArray} {zs : List Int} {j : Nat} (h : (ps.getD j ⟨#[]⟩).size ≤ 100) (hz : 0 ≤ zs.getD j 0) : ((rqF ps zs j).toF 1).sound = true := by
  have h2 : (⟨#[104]⟩ : ByteArray).size = 1 := rfl
  simp only [FRec.sound, FRec.small, RQ.toF, rqF, h2, Bool.and_eq_true, decide_eq_true_eq]
  and_intros <;> first | omega | exact decide_eq_true (by omega)

section
variable {tbl : FuncId → Option AFun} {ov : CallSem} {s : St} (T : FTbl tbl)
include T

set_option maxHeartbeats 2000000 in
theorem law3 (t3 : tbl 3 = some fun3) (TQ : Q.QTbl tbl) (TS : STbl tbl) (ho : OvS ov) (hoQ : Q.OvOK ov) {mm : Int} {pv zv : Value} {ps : List ByteArray} {zs : List Int} (hm : 0 ≤ mm ∧ mm ≤ 255) (hp : RowV 1 s pv (strsR ps)) (hz : BytesV s zv zs) :
    WCall (fun k => call tbl ov k) 3 [.int .u8 mm, pv, zv] s fun u _ => u = .bool true := by
  refine WCall.of t3 rfl ?_
  have e9 := fun s K => e9b (ov := ov) TS ho s K
  obtain ⟨pa, pc, hpv⟩ := hp.len
  rw [List.length_map] at hpv
  subst hpv
  obtain ⟨za, zc, hzv⟩ := hz.len
  subst hzv
  have er : binV .rem (.int .u8 mm) (.int .u8 6) = some (.int .u8 (mm.tmod 6)) := rfl
  have htm : mm.tmod 6 = mm % 6 := Int.tmod_eq_emod_of_nonneg hm.1
  have w0 : IntKind.i64.wrap (mm.tmod 6) = mm % 6 := by rw [htm, IntKind.wrap_i64]; omega
  obtain ⟨room, hroom⟩ : ∃ room, room = mm % 6 + 1 := ⟨_, rfl⟩
  have w1 : IntKind.i64.wrap (mm % 6 + 1) = room := by rw [IntKind.wrap_i64]; omega
  have hr1 : 1 ≤ room := by omega
  have hr6 : room ≤ 6 := by omega
  rw [show fun3.body = _ from code3_eq, show fun3.res = [.tmp 6] from rfl]
  simp -implicitDefEqProofs only [params, go_sem]
  refine WCall.mono (p7 (ov := ov) (n := 16) TS.d (by unfold W64; omega)) ?_
  rintro u s1 ⟨rfl, hD1, hk1⟩
  obtain ⟨p, hpp⟩ : ∃ p, p = s.next + 1 := ⟨_, rfl⟩
  rw [← hpp] at hD1
  have hmm : max 0 (min (16 : Int) 16) = 16 := by decide
  rw [hmm] at hD1
  simp -implicitDefEqProofs only [go_sem, ← hpp]
  refine WCall.mono (q6 (ov := ov) (segs := 7) TS ho hD1 (by unfold W64; omega) (by simp [keysF, sortZ])) ?_
  rintro u s2 ⟨l, O, rfl, hS2, hk2, hO2⟩
  have h00 : ((0 : Int) != 0) = false := rfl
  simp -implicitDefEqProofs only [go_sem, Option.isNone_some, h00, er, w0, w1]
  refine WCall.mono (r8 (ov := ov) T (per := 100) (mem := room) (l := l)) ?_
  rintro u s3 ⟨f, OF, rfl, hF3, hk3, hO3⟩
  rw [show max (100 : Int) 0 = 100 from rfl, show max room 1 = room from by omega] at hF3
  have n1 := hk1.1; have n2 := hk2.1; have n3 := hk3.1
  have hlO : ∀ x, x ∈ O ∨ x ∈ [p, s.next] ∨ x ∈ ([] : List Nat) → x < s2.next := by
    rintro x (hx | hx | hx)
    · exact hS2.l.lt x hx
    · exact hS2.d.lt.1 x hx
    · cases hx
  have hDuo : Duo s3 l p f _ _ _ O [p, s.next] [] OF := ⟨hS2.kept hk3 (by simp) (by simp) (by simp), hF3, fun x hx => ⟨fun e => by have := hlO x (.inl e); have := hO3 x hx; omega, fun e => by have := hlO x (.inr (.inl e)); have := hO3 x hx; omega, by simp⟩⟩
  simp -implicitDefEqProofs only [go_sem]
  obtain ⟨I, hI⟩ : ∃ I : Nat → List Value → St → Prop, I = fun m vs s' => Kept [] s s' ∧ ∃ (i : Nat) (D : DM) (L : LM) (M : FM) (OD V OF : List Nat), i ≤ ps.length ∧ i ≤ zs.length ∧ i ≤ 25 ∧ m = 25 - i ∧ vs = [.slice pa ps.length pc, .slice za zs.length zc, ptr l, i64 room, ptr f, i64 (i : Nat), i64 (i : Nat)] ∧
    Duo s' l p f D L M O OD V OF ∧ Zed D L i ∧ FO M L ps zs room i i ∧ (∀ x ∈ OF, s.next ≤ x) ∧ (∀ x ∈ OD, s.next ≤ x) := ⟨_, rfl⟩
  have hO : ∀ x ∈ O, s.next ≤ x := fun x hx => by have := hO2 x hx; omega
  refine wc_loopV I 25 ?_ ?_
  · simp -implicitDefEqProofs only [go_sem]
    rw [hI]
    refine ⟨(hk1.trans hk2).trans hk3, 0, _, _, _, _, _, OF, by omega, by omega, by omega, by omega, rfl, hDuo, zed_zero, fo_zero (by omega), fun x hx => by have := hO3 x hx; omega, fun x hx => ?_⟩
    simp only [List.mem_cons, List.not_mem_nil, or_false] at hx; omega
  · intro m vs s4 hi _
    rw [hI] at hi
    obtain ⟨hk4, i, D, L, M, OD, V, OF, hip, hiz, hi25, rfl, rfl, hD, hZ, hF, hOF, hOD⟩ := hi
    have fin : ∀ e : Env, e.get 1 = some (.slice pa ps.length pc) → e.get 2 = some (.slice za zs.length zc) → e.get 9 = some (i64 room) → e.get 10 = some (ptr f) → e.get 11 = some (i64 (i : Nat)) → WCode (fun k => call tbl ov k) tail3 e s4 (ends [.tmp 6] fun u _ => u = .bool true) :=
      fun e g1 g2 g9 g10 g11 => tail3_spec T TQ TS ho hp hz hk4 hD hF hi25 hip hiz hr1 hr6 hOF g1 g2 g9 g10 g11
    have stop : (decide ((i : Int) < (ps.length : Int)) = false ∨ (decide ((i : Int) < (ps.length : Int)) = true ∧ decide ((i : Int) < (zs.length : Int)) = false) ∨ (decide ((i : Int) < (ps.length : Int)) = true ∧ decide ((i : Int) < (zs.length : Int)) = true ∧ decide ((i : Int) < 25) = false)) ∨ (decide ((i : Int) < (ps.length : Int)) = true ∧ decide ((i : Int) < (zs.length : Int)) = true ∧ decide ((i : Int) < 25) = true) := by
      cases decide ((i : Int) < (ps.length : Int)) <;> cases decide ((i : Int) < (zs.length : Int)) <;> cases decide ((i : Int) < 25) <;> simp
    rcases stop with (d1 | ⟨d1, d2⟩ | ⟨d1, d2, d3⟩) | ⟨d1, d2, d3⟩
    · simp -implicitDefEqProofs only [go_sem, d1]
      exact fin _ rfl rfl rfl rfl rfl
    · simp -implicitDefEqProofs only [go_sem, d1, d2]
      exact fin _ rfl rfl rfl rfl rfl
    · simp -implicitDefEqProofs only [go_sem, d1, d2, d3]
      exact fin _ rfl rfl rfl rfl rfl
    · have hjp : i < ps.length := by have := of_decide_eq_true d1; omega
      have hjz : i < zs.length := by have := of_decide_eq_true d2; omega
      have hi25' : i < 25 := by have := of_decide_eq_true d3; omega
      obtain ⟨pid, po, pcap, pcc, pT, pro, phv, phid, phg, phle, phrw, phgi⟩ := row_one (hp.kept hk4) hjp (z := ps[i]) (List.getElem?_eq_getElem hjp)
      have phc : pcc[po + i * 1]? = some (.string ps[i]) := by have := phgi 0 (by omega); rw [Nat.add_zero] at this; exact this
      obtain ⟨zid, zo, zcap, zcc, zT, zsz, zro, zhv, _, zhid, zhg, _, zgi⟩ := (hz.kept hk4).row (by omega)
      have zgi := zgi i hjz
      rw [Nat.mul_one] at phc
      cases phv
      cases zhv
      obtain ⟨z, hz'⟩ : ∃ z, z = zs.getD i 0 := ⟨_, rfl⟩
      rw [← hz'] at zgi
      have hz0 : 0 ≤ z ∧ z ≤ 255 := hz.1 z (by rw [hz', List.getD_eq_getElem?_getD, List.getElem?_eq_getElem hjz, Option.getD_some]; exact List.getElem_mem hjz)
      obtain ⟨pp, hpp'⟩ : ∃ pp, pp = ps[i] := ⟨_, rfl⟩
      have hppd : ps.getD i ⟨#[]⟩ = pp := by rw [hpp', List.getD_eq_getElem?_getD, List.getElem?_eq_getElem hjp, Option.getD_some]
      rw [← hpp'] at phc
      have hix : 0 ≤ (i : Int) ∧ (i : Int) < (ps.length : Int) := by omega
      have hiz : 0 ≤ (i : Int) ∧ (i : Int) < (zs.length : Int) := by omega
      cases dL : decide ((pp.size : Int) > 100)
      · have hsz : pp.size ≤ 100 := by have := of_decide_eq_false dL; omega
        have er8 : binV .rem (.int .u8 z) (.int .u8 8) = some (.int .u8 (z.tmod 8)) := rfl
        have htm8 : z.tmod 8 = z % 8 := Int.tmod_eq_emod_of_nonneg hz0.1
        have w3 : IntKind.i64.wrap (z.tmod 8) = z % 8 := by rw [htm8, IntKind.wrap_i64]; omega
        have w4 : IntKind.i64.wrap ((i : Int) + 1) = ((i + 1 : Nat) : Int) := by rw [IntKind.wrap_i64]; omega
        obtain ⟨r, hr⟩ : ∃ r, r = rqF ps zs i := ⟨_, rfl⟩
        have ef : fillL [in64 0, .string ⟨#[]⟩, .string ⟨#[]⟩, in64 0, in64 0] [(0, 1, in64 ((i + 1 : Nat) : Int)), (1, 1, .string ⟨#[104]⟩), (2, 1, .string pp), (3, 1, in64 (z % 8))] = some r.cells := by
          rw [hr, rqF, hppd, ← hz']; rfl
        obtain ⟨c1, c2, c3, c4, c5, c6, c7⟩ := cells_facts r
        simp -implicitDefEqProofs only [go_sem, d1, d2, d3, phg, phc, zhg, zgi, hix, hiz, dL, er8, w3, w4, ef, c1, c2, c3, c4, List.drop_zero]
        obtain ⟨b, hb⟩ : ∃ b, b = s4.next := ⟨_, rfl⟩
        obtain ⟨s5, hs5⟩ : ∃ s5 : St, s5 = ⟨(s4.heap.put s4.next (some (.cells [in64 0, .string ⟨#[]⟩, .string ⟨#[]⟩, in64 0, in64 0] 34 0 false))).put s4.next (some (.cells r.cells 34 0 false)), s4.next + 1⟩ := ⟨_, rfl⟩
        have hk5 : Kept [] s4 s5 := by
          rw [hs5]
          exact ⟨Nat.le_succ _, fun j hj _ => by simp only [Heap.get_put]; rw [if_neg (by omega), if_neg (by omega)]⟩
        have hD5 := hD.kept hk5 (by simp)
        have hb5 : s5.heap.get b = some (.cells r.cells 34 0 false) := by rw [hs5, hb]; simp only [Heap.get_put, if_true]
        have l45 : s4.next < s5.next := by rw [hs5]; exact Nat.lt_succ_self _
        rw [← hs5, show (Value.agg r.cells.toArray) = r.val from rfl]
        have hsnd : (r.toF 1).sound = true := by rw [hr]; exact rqF_sound (by rw [hppd]; exact hsz) (by rw [← hz']; exact hz0.1)
        have hbsz : r.host.size + r.path.size ≤ 101 := by
          have : r.path = pp := by rw [hr, rqF]; exact hppd
          rw [this, hr]
          show 1 + pp.size ≤ 101
          omega
        obtain ⟨hz1, hz2, hz3⟩ := zed_put hZ (by omega) hsnd hbsz
        have hrid : r.id = ((i + 1 : Nat) : Int) := by rw [hr]; rfl
        have hwide : r.Wide := by
          refine ⟨by rw [hrid]; unfold W64; omega, ?_, ?_⟩
          · rw [hr]; simp only [rqF]; unfold W64; omega
          · rw [hr]; simp only [rqF]; unfold W64; omega
        refine WCall.mono (q10 (ov := ov) TS ho hD5.sr (hZ.room (by omega)) hwide (by rw [hrid]; omega)) ?_
        rintro u s6 ⟨rfl, OD6, V6, hS6, hG6⟩
        have hD6 := hD5.log hS6 hG6
        rw [hr] at hz3
        have hF6 := hF.live hz3
        rw [← hr] at hz3
        obtain ⟨D6, L6, hDL⟩ : ∃ D6 L6, D6 = (putM D L r).1 ∧ L6 = (putM D L r).2.1 := ⟨_, _, rfl, rfl⟩
        rw [← hr] at hF6
        rw [← hDL.1, ← hDL.2] at hD6 hS6 hz2
        rw [← hDL.2] at hz3 hF6
        have hlO4 := hD.ltS
        have hlF4 := hD.fr.lt
        have l5 := hk5.1; have l6 := hG6.k.1
        have hb6 : s6.heap.get b = some (.cells r.cells 34 0 false) := by
          rw [hG6.k.2 b (by omega) (fun hx => by
            rcases List.mem_append.1 hx with h' | h'
            · have := hlO4 b (.inl h'); omega
            · have := hlO4 b (.inr (.inl h')); omega)]
          exact hb5
        rw [hb] at hb6
        have hno : lookG M.host r.id = none := by rw [hr]; exact hF.fresh
        have hper : ¬ M.per ≤ ((rowsQ M.qs 0).length : Int) := by rw [hF.per, hF.cnt]; omega
        have hrowl := hF.fi.len
        rw [hF.mem] at hrowl
        simp -implicitDefEqProofs only [go_sem, hz1, h00, hb6, c1, c2, c3, List.drop_zero]
        refine WCall.mono (r11 (ov := ov) T TQ hoQ (k := 0) hD6.fr (by rw [hF.per]; omega) (by rw [hF.mem]; exact hr1) (by omega) (by rw [hF.cnt]; omega) (hF.fi.srt 0) (hF.fi.pnone hno 0) hno) ?_
        rintro u s7 ⟨O7, qs7, hk7, hO7, hif⟩
        rw [if_neg hper] at hif
        obtain ⟨rfl, hF7, hr7⟩ := hif
        have hlv : lookG L6.live r.id = some r := by rw [hz3, lookG_put, if_pos rfl]
        rw [hr] at hlv hr7
        have hFO7 := hF6.add (qs' := qs7) hr1 hlv hr7
        have hD7 := hD6.front hF7 hk7 hO7
        rw [hr] at hD7
        have l7 := hk7.1
        have hG : ∀ x ∈ OD6, s.next ≤ x := fun x hx => by
          rcases hG6.o x hx with h' | h'
          · exact hOD x h'
          · have := hk4.1; omega
        have hkall : Kept [] s s7 := by
          have n4 := hk4.1
          refine ⟨by omega, fun j hj _ => ?_⟩
          rw [hk7.2 j (by omega) (fun hx => by have := hOF j hx; omega), hG6.k.2 j (by omega) (fun hx => by
            rcases List.mem_append.1 hx with h' | h'
            · have := hO j h'; omega
            · have := hOD j h'; omega), hk5.2 j (by omega) (by simp), hk4.2 j hj (by simp)]
        simp -implicitDefEqProofs only [go_sem, h00, w4]
        rw [hI]
        refine ⟨25 - (i + 1), by omega, hkall, i + 1, D6, L6, _, OD6, V6, O7, by omega, by omega, by omega, rfl, rfl, hD7, hz2, hFO7, fun x hx => ?_, hG⟩
        rcases hO7 x hx with h' | h'
        · exact hOF x h'
        · have := hk4.1; omega
      · simp -implicitDefEqProofs only [go_sem, d1, d2, d3, phg, phc, hix, dL, e9]
end
end Go.Proofs.YtehgdocbabaldaaGreat
