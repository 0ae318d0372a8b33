/-
  What is known of the library's calls: Fields, genSplit, Itoa, Repeat.
-/
import Derived.Shelf.Strings.Split
import Derived.Shelf.Strings.Fields
import Derived.Shelf.Strings.Repeat
import Derived.Shelf.Strconv.Itoa3
import Derived.Shelf.LaysM
import Derived.Test.YtoiedaegnhifpaaDoorU1
set_option maxRecDepth 100000
set_option linter.unusedVariables false
namespace Go.Proofs.YtoiedaegnhifpaaDoor
open Go Go.Abs Go.Shelf Go.RowKit Go.Sort

def layF_ren : Go.Shelf.Ren := ⟨fun | 157 => 42 | 229 => 72 | 199 => 73 | 261 => 98 | 311 => 125 | 312 => 126 | n => n, fun | 9 => 9 | 31 => 59 | 3 => 3 | 5 => 5 | 4 => 4 | 119 => 80 | 0 => 0 | 40 => 82 | 152 => 107 | 21 => 21 | 154 => 109 | 51 => 22 | 141 => 111 | 196 => 134 | 193 => 131 | 198 => 137 | 49 => 135 | 194 => 132 | 201 => 140 | 226 => 153 | 46 => 103 | 227 => 154 | n => n, fun | 0 => 0 | 6 => 1 | n => n⟩
theorem layF : Go.Proofs.Lays.n157 Tryd.prog layF_ren := {
  mixed := by kernel_rfl
  f157 := Tryd.func42.trans (congrArg some (by kernel_rfl))
  f199 := Tryd.func73.trans (congrArg some (by kernel_rfl))
  f229 := Tryd.func72.trans (congrArg some (by kernel_rfl))
  f261 := Tryd.func98.trans (congrArg some (by kernel_rfl))
  f311 := Tryd.func125.trans (congrArg some (by kernel_rfl))
  f312 := Tryd.func126.trans (congrArg some (by kernel_rfl))
  t0 := Tryd.underlying0
  a0 := Tryd.isAgg0
  z0 := Tryd.sizeOf0
  v0 := Tryd.zeroValue0
  t3 := Tryd.underlying3
  a3 := Tryd.isAgg3
  z3 := Tryd.sizeOf3
  v3 := Tryd.zeroValue3
  t4 := Tryd.underlying4
  a4 := Tryd.isAgg4
  z4 := Tryd.sizeOf4
  v4 := Tryd.zeroValue4
  t5 := Tryd.underlying5
  a5 := Tryd.isAgg5
  z5 := Tryd.sizeOf5
  v5 := Tryd.zeroValue5
  t9 := Tryd.underlying9
  a9 := Tryd.isAgg9
  z9 := Tryd.sizeOf9
  v9 := Tryd.zeroValue9
  t21 := Tryd.underlying21
  a21 := Tryd.isAgg21
  z21 := Tryd.sizeOf21
  v21 := Tryd.zeroValue21
  t31 := Tryd.underlying59
  a31 := Tryd.isAgg59
  z31 := Tryd.sizeOf59
  v31 := Tryd.zeroValue59
  t40 := Tryd.underlying82
  a40 := Tryd.isAgg82
  z40 := Tryd.sizeOf82
  v40 := Tryd.zeroValue82
  t46 := Tryd.underlying103
  a46 := Tryd.isAgg103
  z46 := Tryd.sizeOf103
  v46 := Tryd.zeroValue103
  t49 := Tryd.underlying135
  a49 := Tryd.isAgg135
  z49 := Tryd.sizeOf135
  v49 := Tryd.zeroValue135
  t51 := Tryd.underlying22
  a51 := Tryd.isAgg22
  z51 := Tryd.sizeOf22
  v51 := Tryd.zeroValue22
  t119 := Tryd.underlying80
  a119 := Tryd.isAgg80
  z119 := Tryd.sizeOf80
  t141 := Tryd.underlying111
  a141 := Tryd.isAgg111
  z141 := Tryd.sizeOf111
  v141 := Tryd.zeroValue111
  t152 := Tryd.underlying107
  a152 := Tryd.isAgg107
  z152 := Tryd.sizeOf107
  v152 := Tryd.zeroValue107
  t154 := Tryd.underlying109
  a154 := Tryd.isAgg109
  z154 := Tryd.sizeOf109
  v154 := Tryd.zeroValue109
  t193 := Tryd.underlying131
  a193 := Tryd.isAgg131
  z193 := Tryd.sizeOf131
  v193 := Tryd.zeroValue131
  t194 := Tryd.underlying132
  a194 := Tryd.isAgg132
  z194 := Tryd.sizeOf132
  v194 := Tryd.zeroValue132
  t196 := Tryd.underlying134
  a196 := Tryd.isAgg134
  z196 := Tryd.sizeOf134
  v196 := Tryd.zeroValue134
  t198 := Tryd.underlying137
  a198 := Tryd.isAgg137
  z198 := Tryd.sizeOf137
  v198 := Tryd.zeroValue137
  t201 := Tryd.underlying140
  a201 := Tryd.isAgg140
  z201 := Tryd.sizeOf140
  v201 := Tryd.zeroValue140
  t226 := Tryd.underlying153
  a226 := Tryd.isAgg153
  z226 := Tryd.sizeOf153
  v226 := Tryd.zeroValue153
  t227 := Tryd.underlying154
  a227 := Tryd.isAgg154
  z227 := Tryd.sizeOf154
  v227 := Tryd.zeroValue154
  g0 := by kernel_rfl
  g6 := by kernel_rfl }
def layS_ren : Go.Shelf.Ren := ⟨fun | 146 => 51 | 221 => 75 | 268 => 100 | 138 => 101 | 143 => 102 | 195 => 131 | 197 => 106 | 218 => 132 | 219 => 105 | 260 => 136 | 217 => 114 | 225 => 113 | 224 => 112 | 267 => 135 | 266 => 138 | 314 => 147 | n => n, fun | 9 => 9 | 31 => 59 | 3 => 3 | 4 => 4 | 0 => 0 | 105 => 115 | 21 => 21 | 5 => 5 | 46 => 103 | 119 => 80 | 139 => 162 | 138 => 161 | 146 => 126 | 51 => 22 | n => n, fun | 1 => 2 | 3 => 4 | 4 => 5 | n => n⟩
theorem layS : Go.Proofs.Lays.n146 Tryd.prog layS_ren := {
  mixed := by kernel_rfl
  f138 := Tryd.func101.trans (congrArg some (by kernel_rfl))
  f143 := Tryd.func102.trans (congrArg some (by kernel_rfl))
  f146 := Tryd.func51.trans (congrArg some (by kernel_rfl))
  f195 := Tryd.func131.trans (congrArg some (by kernel_rfl))
  f197 := Tryd.func106.trans (congrArg some (by kernel_rfl))
  f217 := Tryd.func114.trans (congrArg some (by kernel_rfl))
  f218 := Tryd.func132.trans (congrArg some (by kernel_rfl))
  f219 := Tryd.func105.trans (congrArg some (by kernel_rfl))
  f221 := Tryd.func75.trans (congrArg some (by kernel_rfl))
  f224 := Tryd.func112.trans (congrArg some (by kernel_rfl))
  f225 := Tryd.func113.trans (congrArg some (by kernel_rfl))
  f260 := Tryd.func136.trans (congrArg some (by kernel_rfl))
  f266 := Tryd.func138.trans (congrArg some (by kernel_rfl))
  f267 := Tryd.func135.trans (congrArg some (by kernel_rfl))
  f268 := Tryd.func100.trans (congrArg some (by kernel_rfl))
  f314 := Tryd.func147.trans (congrArg some (by kernel_rfl))
  t0 := Tryd.underlying0
  a0 := Tryd.isAgg0
  z0 := Tryd.sizeOf0
  v0 := Tryd.zeroValue0
  t3 := Tryd.underlying3
  a3 := Tryd.isAgg3
  z3 := Tryd.sizeOf3
  v3 := Tryd.zeroValue3
  t4 := Tryd.underlying4
  a4 := Tryd.isAgg4
  z4 := Tryd.sizeOf4
  v4 := Tryd.zeroValue4
  t5 := Tryd.underlying5
  a5 := Tryd.isAgg5
  z5 := Tryd.sizeOf5
  v5 := Tryd.zeroValue5
  t9 := Tryd.underlying9
  a9 := Tryd.isAgg9
  z9 := Tryd.sizeOf9
  v9 := Tryd.zeroValue9
  t21 := Tryd.underlying21
  a21 := Tryd.isAgg21
  z21 := Tryd.sizeOf21
  v21 := Tryd.zeroValue21
  t31 := Tryd.underlying59
  a31 := Tryd.isAgg59
  z31 := Tryd.sizeOf59
  v31 := Tryd.zeroValue59
  t46 := Tryd.underlying103
  a46 := Tryd.isAgg103
  z46 := Tryd.sizeOf103
  v46 := Tryd.zeroValue103
  t51 := Tryd.underlying22
  a51 := Tryd.isAgg22
  z51 := Tryd.sizeOf22
  v51 := Tryd.zeroValue22
  t105 := Tryd.underlying115
  a105 := Tryd.isAgg115
  z105 := Tryd.sizeOf115
  v105 := Tryd.zeroValue115
  t119 := Tryd.underlying80
  a119 := Tryd.isAgg80
  z119 := Tryd.sizeOf80
  t138 := Tryd.underlying161
  a138 := Tryd.isAgg161
  z138 := Tryd.sizeOf161
  v138 := Tryd.zeroValue161
  t139 := Tryd.underlying162
  a139 := Tryd.isAgg162
  z139 := Tryd.sizeOf162
  v139 := Tryd.zeroValue162
  t146 := Tryd.underlying126
  a146 := Tryd.isAgg126
  z146 := Tryd.sizeOf126
  v146 := Tryd.zeroValue126
  g1 := by kernel_rfl
  g3 := by kernel_rfl
  g4 := by kernel_rfl }
def layI_ren : Go.Shelf.Ren := ⟨fun | 171 => 49 | 243 => 74 | 246 => 99 | 283 => 127 | 284 => 128 | 285 => 129 | 286 => 130 | 129 => 143 | 317 => 142 | 318 => 144 | 319 => 145 | 320 => 146 | 337 => 154 | 338 => 155 | n => n, fun | 3 => 3 | 9 => 9 | 2 => 2 | 4 => 4 | 171 => 142 | 0 => 0 | 53 => 128 | 37 => 37 | 5 => 5 | 173 => 145 | 212 => 156 | 51 => 22 | 20 => 20 | 213 => 157 | 46 => 103 | 232 => 175 | 233 => 176 | n => n, fun | 17 => 3 | 18 => 8 | 19 => 9 | n => n⟩
theorem layI : Go.Proofs.LaysM.n171 Tryd.prog layI_ren := {
  mixed := by kernel_rfl
  f129 := Tryd.func143.trans (congrArg some (by kernel_rfl))
  f171 := Tryd.func49.trans (congrArg some (by kernel_rfl))
  f243 := Tryd.func74.trans (congrArg some (by kernel_rfl))
  f246 := Tryd.func99.trans (congrArg some (by kernel_rfl))
  f283 := Tryd.func127.trans (congrArg some (by kernel_rfl))
  f284 := Tryd.func128.trans (congrArg some (by kernel_rfl))
  f285 := Tryd.func129.trans (congrArg some (by kernel_rfl))
  f286 := Tryd.func130.trans (congrArg some (by kernel_rfl))
  f317 := Tryd.func142.trans (congrArg some (by kernel_rfl))
  f318 := Tryd.func144.trans (congrArg some (by kernel_rfl))
  f319 := Tryd.func145.trans (congrArg some (by kernel_rfl))
  f320 := Tryd.func146.trans (congrArg some (by kernel_rfl))
  f337 := Tryd.func154.trans (congrArg some (by kernel_rfl))
  f338 := Tryd.func155.trans (congrArg some (by kernel_rfl))
  t0 := Tryd.underlying0
  a0 := Tryd.isAgg0
  z0 := Tryd.sizeOf0
  v0 := Tryd.zeroValue0
  t2 := Tryd.underlying2
  a2 := Tryd.isAgg2
  z2 := Tryd.sizeOf2
  v2 := Tryd.zeroValue2
  t3 := Tryd.underlying3
  a3 := Tryd.isAgg3
  z3 := Tryd.sizeOf3
  v3 := Tryd.zeroValue3
  t4 := Tryd.underlying4
  a4 := Tryd.isAgg4
  z4 := Tryd.sizeOf4
  v4 := Tryd.zeroValue4
  t5 := Tryd.underlying5
  a5 := Tryd.isAgg5
  z5 := Tryd.sizeOf5
  v5 := Tryd.zeroValue5
  t9 := Tryd.underlying9
  a9 := Tryd.isAgg9
  z9 := Tryd.sizeOf9
  v9 := Tryd.zeroValue9
  t20 := Tryd.underlying20
  a20 := Tryd.isAgg20
  z20 := Tryd.sizeOf20
  v20 := Tryd.zeroValue20
  t37 := Tryd.underlying37
  a37 := Tryd.isAgg37
  z37 := Tryd.sizeOf37
  v37 := Tryd.zeroValue37
  t46 := Tryd.underlying103
  a46 := Tryd.isAgg103
  z46 := Tryd.sizeOf103
  v46 := Tryd.zeroValue103
  t51 := Tryd.underlying22
  a51 := Tryd.isAgg22
  z51 := Tryd.sizeOf22
  v51 := Tryd.zeroValue22
  t53 := Tryd.underlying128
  a53 := Tryd.isAgg128
  z53 := Tryd.sizeOf128
  v53 := Tryd.zeroValue128
  t171 := Tryd.underlying142
  a171 := Tryd.isAgg142
  z171 := Tryd.sizeOf142
  v171 := Tryd.zeroValue142
  t173 := Tryd.underlying145
  a173 := Tryd.isAgg145
  z173 := Tryd.sizeOf145
  v173 := Tryd.zeroValue145
  t212 := Tryd.underlying156
  a212 := Tryd.isAgg156
  z212 := Tryd.sizeOf156
  v212 := Tryd.zeroValue156
  t213 := Tryd.underlying157
  a213 := Tryd.isAgg157
  z213 := Tryd.sizeOf157
  t232 := Tryd.underlying175
  a232 := Tryd.isAgg175
  z232 := Tryd.sizeOf175
  v232 := Tryd.zeroValue175
  t233 := Tryd.underlying176
  a233 := Tryd.isAgg176
  z233 := Tryd.sizeOf176
  v233 := Tryd.zeroValue176
  g17 := by kernel_rfl
  g18 := by kernel_rfl
  g19 := by kernel_rfl
  i0 := by kernel_rfl
  i2 := by kernel_rfl
  i3 := by kernel_rfl
  i4 := by kernel_rfl
  i5 := by kernel_rfl
  i9 := by kernel_rfl
  i20 := by kernel_rfl
  i37 := by kernel_rfl
  i46 := by kernel_rfl
  i51 := by kernel_rfl
  i53 := by kernel_rfl
  i171 := by kernel_rfl
  i173 := by kernel_rfl
  i212 := by kernel_rfl
  i232 := by kernel_rfl
  i233 := by kernel_rfl
  m17 := by kernel_rfl
  m18 := by kernel_rfl
  m19 := by kernel_rfl }
def layR_ren : Go.Shelf.Ren := ⟨fun | 105 => 71 | 212 => 96 | 99 => 53 | 165 => 76 | 166 => 77 | 170 => 97 | 169 => 78 | 263 => 123 | 264 => 124 | 206 => 79 | 240 => 103 | 241 => 104 | 276 => 133 | 277 => 134 | n => n, fun | 9 => 9 | 3 => 3 | 4 => 4 | 20 => 20 | 0 => 0 | 46 => 103 | 109 => 104 | 5 => 5 | 72 => 86 | 76 => 90 | 51 => 22 | 146 => 126 | 53 => 128 | 148 => 129 | 70 => 84 | 37 => 37 | 75 => 89 | 127 => 114 | 164 => 147 | 80 => 30 | n => n, fun | n => n⟩
theorem layR : Go.Proofs.Lays.n105 Tryd.prog layR_ren := {
  mixed := by kernel_rfl
  f99 := Tryd.func53.trans (congrArg some (by kernel_rfl))
  f105 := Tryd.func71.trans (congrArg some (by kernel_rfl))
  f165 := Tryd.func76.trans (congrArg some (by kernel_rfl))
  f166 := Tryd.func77.trans (congrArg some (by kernel_rfl))
  f169 := Tryd.func78.trans (congrArg some (by kernel_rfl))
  f170 := Tryd.func97.trans (congrArg some (by kernel_rfl))
  f206 := Tryd.func79.trans (congrArg some (by kernel_rfl))
  f212 := Tryd.func96.trans (congrArg some (by kernel_rfl))
  f240 := Tryd.func103.trans (congrArg some (by kernel_rfl))
  f241 := Tryd.func104.trans (congrArg some (by kernel_rfl))
  f263 := Tryd.func123.trans (congrArg some (by kernel_rfl))
  f264 := Tryd.func124.trans (congrArg some (by kernel_rfl))
  f276 := Tryd.func133.trans (congrArg some (by kernel_rfl))
  f277 := Tryd.func134.trans (congrArg some (by kernel_rfl))
  t0 := Tryd.underlying0
  a0 := Tryd.isAgg0
  z0 := Tryd.sizeOf0
  v0 := Tryd.zeroValue0
  t3 := Tryd.underlying3
  a3 := Tryd.isAgg3
  z3 := Tryd.sizeOf3
  v3 := Tryd.zeroValue3
  t4 := Tryd.underlying4
  a4 := Tryd.isAgg4
  z4 := Tryd.sizeOf4
  v4 := Tryd.zeroValue4
  t5 := Tryd.underlying5
  a5 := Tryd.isAgg5
  z5 := Tryd.sizeOf5
  v5 := Tryd.zeroValue5
  t9 := Tryd.underlying9
  a9 := Tryd.isAgg9
  z9 := Tryd.sizeOf9
  v9 := Tryd.zeroValue9
  t20 := Tryd.underlying20
  a20 := Tryd.isAgg20
  z20 := Tryd.sizeOf20
  v20 := Tryd.zeroValue20
  t37 := Tryd.underlying37
  a37 := Tryd.isAgg37
  z37 := Tryd.sizeOf37
  v37 := Tryd.zeroValue37
  t46 := Tryd.underlying103
  a46 := Tryd.isAgg103
  z46 := Tryd.sizeOf103
  v46 := Tryd.zeroValue103
  t51 := Tryd.underlying22
  a51 := Tryd.isAgg22
  z51 := Tryd.sizeOf22
  v51 := Tryd.zeroValue22
  t53 := Tryd.underlying128
  a53 := Tryd.isAgg128
  z53 := Tryd.sizeOf128
  v53 := Tryd.zeroValue128
  t70 := Tryd.underlying84
  a70 := Tryd.isAgg84
  z70 := Tryd.sizeOf84
  v70 := Tryd.zeroValue84
  t72 := Tryd.underlying86
  a72 := Tryd.isAgg86
  z72 := Tryd.sizeOf86
  v72 := Tryd.zeroValue86
  t75 := Tryd.underlying89
  a75 := Tryd.isAgg89
  z75 := Tryd.sizeOf89
  v75 := Tryd.zeroValue89
  t76 := Tryd.underlying90
  a76 := Tryd.isAgg90
  z76 := Tryd.sizeOf90
  v76 := Tryd.zeroValue90
  t109 := Tryd.underlying104
  a109 := Tryd.isAgg104
  z109 := Tryd.sizeOf104
  v109 := Tryd.zeroValue104
  t127 := Tryd.underlying114
  a127 := Tryd.isAgg114
  z127 := Tryd.sizeOf114
  v127 := Tryd.zeroValue114
  t146 := Tryd.underlying126
  a146 := Tryd.isAgg126
  z146 := Tryd.sizeOf126
  v146 := Tryd.zeroValue126
  t148 := Tryd.underlying129
  a148 := Tryd.isAgg129
  z148 := Tryd.sizeOf129
  v148 := Tryd.zeroValue129
  t164 := Tryd.underlying147
  a164 := Tryd.isAgg147
  z164 := Tryd.sizeOf147
  v164 := Tryd.zeroValue147 }
theorem layX : Builder.Extra Tryd.prog layR_ren := {
  sizeBuilder := by kernel_rfl
  liesBuilder := by kernel_rfl
  t5 := Tryd.underlying5
  a5 := Tryd.isAgg5
  z5 := Tryd.sizeOf5
  v5 := Tryd.zeroValue5
  infoByte := by kernel_rfl
  cellsByte := by kernel_rfl
  sizeByte := by kernel_rfl
  neB5 := by decide }

theorem mixed : Tryd.prog.follows .mixedOrders = true := by kernel_rfl

def gS : GNeed := [(4, 0, 4294983171)]
def gP : GNeed := [(5, 3, 2)]

/-! ### pieces -/
def spl (c : UInt8) : List UInt8 → List (List UInt8)
  | [] => [[]]
  | b :: l => if b = c then [] :: spl c l else match spl c l with
    | p :: ps => (b :: p) :: ps
    | [] => [[b]]

theorem spl_none {c : UInt8} : ∀ {l : List UInt8}, c ∉ l → spl c l = [l] := by
  intro l
  induction l with
  | nil => intro _; rfl
  | cons b l ih =>
    intro h
    have h1 : ¬ b = c := fun e => h (by rw [e]; exact List.mem_cons_self ..)
    have h2 : c ∉ l := fun e => h (List.mem_cons_of_mem _ e)
    rw [spl, if_neg h1, ih h2]
theorem spl_hit {c : UInt8} {r : List UInt8} : ∀ {a : List UInt8}, c ∉ a → spl c (a ++ c :: r) = a :: spl c r := by
  intro a
  induction a with
  | nil => intro _; rw [List.nil_append, spl, if_pos rfl]
  | cons b l ih =>
    intro h
    have h1 : ¬ b = c := fun e => h (by rw [e]; exact List.mem_cons_self ..)
    have h2 : c ∉ l := fun e => h (List.mem_cons_of_mem _ e)
    rw [List.cons_append, spl, if_neg h1, ih h2]
theorem spl_ne {c : UInt8} : ∀ l : List UInt8, spl c l ≠ [] := by
  intro l
  cases l with
  | nil => simp [spl]
  | cons b l =>
    rw [spl]
    split
    · simp
    · split <;> simp

theorem ib_hit {c : UInt8} {r : List UInt8} : ∀ {a : List UInt8}, c ∉ a → Lib.indexByte (a ++ c :: r) c = a.length := by
  intro a
  induction a with
  | nil => intro _; rw [List.nil_append, Lib.indexByte, if_pos (by simp)]; rfl
  | cons b l ih =>
    intro h
    have h1 : ¬ b = c := fun e => h (by rw [e]; exact List.mem_cons_self ..)
    have h2 : c ∉ l := fun e => h (List.mem_cons_of_mem _ e)
    rw [List.cons_append, Lib.indexByte, if_neg (by simpa using h1), ih h2, if_neg (by simp), List.length_cons]
    omega

theorem splitK_spl {c : UInt8} : ∀ (n : Nat) (l : List UInt8), l.length ≤ n → Lib.splitK [c] 0 (Lib.count l [c]) l = spl c l := by
  intro n
  induction n with
  | zero =>
    intro l h
    obtain rfl : l = [] := List.eq_nil_of_length_eq_zero (by omega)
    rw [Lib.count_one]
    rfl
  | succ n ih =>
    intro l h
    by_cases hc : c ∈ l
    · obtain ⟨a, r, rfl, ha⟩ := List.eq_append_cons_of_mem hc
      have hk : Lib.count (a ++ c :: r) [c] = Lib.count r [c] + 1 := by
        rw [Lib.count_one, Lib.count_one, List.count_append, List.count_eq_zero_of_not_mem ha, List.count_cons_self]; omega
      have hi : Lib.index (a ++ c :: r) [c] = (a.length : Int) := by rw [Lib.index_one, ib_hit ha]
      rw [hk, Lib.splitK, hi, if_neg (by simp), spl_hit ha]
      congr 1
      · simp
      · rw [← ih r (by simp at h; omega)]
        congr 1
        simp
    · rw [Lib.count_one, List.count_eq_zero_of_not_mem hc, spl_none hc]
      rfl

theorem splitB_spl (s : ByteArray) (c : UInt8) : Lib.splitB ⟨#[c]⟩ 0 (Lib.countB s ⟨#[c]⟩) s = (spl c s.data.toList).map fun l => ⟨l.toArray⟩ := by
  have h := Lib.splitB_data ⟨#[c]⟩ 0 (Lib.countB s ⟨#[c]⟩) s
  have h2 : Lib.splitK [c] 0 (Lib.countB s ⟨#[c]⟩) s.data.toList = spl c s.data.toList := splitK_spl _ _ (Nat.le_refl _)
  rw [show (⟨#[c]⟩ : ByteArray).data.toList = [c] from rfl, h2] at h
  rw [← h, List.map_map]
  symm
  apply List.map_id''
  intro x
  rfl

/-! ### the calls -/
theorem ownsRow_alloc (w : World) (l : List Value) (e : TypeId) (h : l.length ≤ maxLen) : (w.alloc (.cells l.toArray e)).ownsRow w.heap.size e 1 (.slice (some ⟨w.heap.size, 0, none⟩) l.length l.length) l.length l ∧ Below w.heap.size w (w.alloc (.cells l.toArray e)) := by
  have := World.ownsRow_lit (e := e) (size := 1) w l.toArray l.length (Nat.le_refl _) h (by simp)
  exact ⟨by simpa using this, (Below.refl _ _).alloc (Nat.le_refl _) _⟩

def fieldsF : List Value → Option (List Value)
  | [.string s] => if s.size < 4294967281 ∧ s.data.toList.all (fun b => decide (b.toNat < 128)) = true then some ((Lib.fields s.data.toList).map fun l => .string ⟨l.toArray⟩) else none
  | _ => none
def splitF : List Value → Option (List Value)
  | [.string s, .string sep, .int .i64 0, .int .i64 (-1)] => match sep.data.toList with
    | [c] => if s.size < 4294967281 then some ((spl c s.data.toList).map fun l => .string ⟨l.toArray⟩) else none
    | _ => none
  | _ => none
def itoaF : List Value → Option Value
  | [.int .i64 n] => if -9223372036854775808 ≤ n ∧ n ≤ 9223372036854775807 then some (.string ⟨(Lib.itoa n).toArray⟩) else none
  | _ => none
def repeatF : List Value → Option Value
  | [.string s, .int .i64 c] => if 0 ≤ c ∧ c ≤ 4096 ∧ s.size ≤ 4096 then some (.string ⟨(Lib.repeatL s.data.toList c.toNat).toArray⟩) else none
  | _ => none

theorem asciiBits : ((List.range 256).all fun i => decide ((if (4294983168 / 2 ^ i) % 2 = 1 then (1 : Int) else 0) = if Lib.isSp (UInt8.ofNat i) then 1 else 0)) = true := by decide +kernel

theorem cntF_le : ∀ (l : List UInt8) (b : Bool), Lib.cntF b l ≤ l.length := by
  intro l
  induction l with
  | nil => intro b; simp [Lib.cntF]
  | cons x l ih =>
    intro b
    rw [Lib.cntF_step]
    have := ih (Lib.isSp x)
    split <;> simp only [List.length_cons] <;> omega

theorem fields_good : GoodCalls Tryd.prog (rowSem 42 gS 9 fieldsF) ∧ GoodWF (rowSem 42 gS 9 fieldsF) := by
  refine row_good ⟨_, Tryd.func42, by kernel_rfl, by kernel_rfl⟩ (by decide) (fun args vs h x hx => ?_) (fun args vs w h hp hg => ?_)
  · unfold fieldsF at h
    split at h
    · split at h
      · cases h
        obtain ⟨l, _, rfl⟩ := List.mem_map.1 hx
        rfl
      · cases h
    · cases h
  · unfold fieldsF at h
    split at h
    case h_2 => cases h
    rename_i s
    split at h
    case isFalse => cases h
    rename_i hc
    cases h
    obtain ⟨ob, h1, h2⟩ := hg _ (List.mem_singleton.2 rfl)
    simp only at h1 h2
    cases ob with
    | cells C T fr =>
      have h2 : C.toList = (List.range 256).map fun i => .int .u8 (if (4294983168 / 2 ^ i) % 2 = 1 then 1 else 0) := h2
      have hlen : (Lib.fields s.data.toList).length ≤ maxLen := by
        rw [Lib.fields_length]
        have := cntF_le s.data.toList true
        have e : s.data.toList.length = s.size := (Lib.size_eq s).symm
        unfold maxLen
        omega
      refine (Any.strings_Fields_core layF (by kernel_rfl) s w hc.1 (fun j b hj => by have := List.all_eq_true.1 hc.2 b (List.mem_of_getElem? hj); simpa using this) (fun c hcc => ?_)).mono ?_
      · show w.cell? ⟨0, c, none⟩ = _
        have hb := List.all_eq_true.1 asciiBits c (List.mem_range.2 hcc)
        have hb := of_decide_eq_true hb
        rw [← hb]
        have hq : C[c]? = some (.int .u8 (if (4294983168 / 2 ^ c) % 2 = 1 then 1 else 0)) := by
          rw [← Array.getElem?_toList, h2, List.getElem?_map, List.getElem?_range hcc]; rfl
        simp [World.cell?, h1, hq]
      · rintro e w' ⟨rfl, rfl⟩
        have := ownsRow_alloc w ((Lib.fields s.data.toList).map fun l => Value.string ⟨l.toArray⟩) 9 (by rw [List.length_map]; exact hlen)
        rw [List.length_map] at this ⊢
        exact ⟨_, rfl, this⟩
    | _ => exact h2.elim

theorem one_of (sep : ByteArray) {c : UInt8} (h : sep.data.toList = [c]) : sep = ⟨#[c]⟩ := by
  cases sep with | mk d => ?_
  have : d = #[c] := Array.toList_inj.1 h
  rw [this]

theorem genSplit_good : GoodCalls Tryd.prog (rowSem 75 [] 9 splitF) ∧ GoodWF (rowSem 75 [] 9 splitF) := by
  refine row_good ⟨_, Tryd.func75, by kernel_rfl, by kernel_rfl⟩ (by decide) (fun args vs h x hx => ?_) (fun args vs w h hp hg => ?_)
  · unfold splitF at h
    split at h
    · split at h
      · split at h
        · cases h
          obtain ⟨l, _, rfl⟩ := List.mem_map.1 hx
          rfl
        · cases h
      · cases h
    · cases h
  · unfold splitF at h
    split at h
    case h_2 => cases h
    rename_i s sep
    split at h
    case h_2 => cases h
    rename_i c hs1
    split at h
    case isFalse => cases h
    rename_i hc
    cases h
    obtain rfl := one_of sep hs1
    have hk : Lib.countB s ⟨#[c]⟩ ≤ s.size := Lib.countB_le ⟨#[c]⟩ (Nat.le_refl 1) s.size s (Nat.le_refl _)
    have hle := Lib.splitB_all ⟨#[c]⟩ (Nat.le_refl 1) 0 _ s rfl
    have hsp := splitB_spl s c
    have cr := Any.strings_genSplit_core (ρ := layS_ren) { layS with } (by kernel_rfl) s ⟨#[c]⟩ 0 (-1) (Lib.countB s ⟨#[c]⟩ + 1) w hc (Nat.le_refl 1) (Nat.zero_le _)
      (fun x cc hx => (Any.strings_Index_one (ρ := layS_ren) { layS with } x c _).mono fun e w' ⟨h1, h2⟩ => ⟨by rw [h1, ← Lib.index_one], h2⟩)
      ((Any.strings_Count_one (ρ := layS_ren) { layS with } s c w).mono fun e w' ⟨h1, h2⟩ => ⟨by rw [h1]; show _ = Ending.returned (Value.int .i64 ((Lib.count s.data.toList [c] : Nat) : Int)); rw [Lib.count_one]; rfl, h2⟩)
      (by decide) (by decide) (by rw [if_pos (by decide)]; omega)
    rw [Nat.add_sub_cancel, hle] at cr
    refine Calls.mono cr ?_
    rintro e w' ⟨rfl, rfl⟩
    have e2 : Lib.cellsOf (Lib.splitB ⟨#[c]⟩ 0 (Lib.countB s ⟨#[c]⟩) s) (Lib.countB s ⟨#[c]⟩ + 1) = ((Lib.splitB ⟨#[c]⟩ 0 (Lib.countB s ⟨#[c]⟩) s).map Value.string).toArray := by rw [← hle]; exact Lib.cellsOf_full _
    have e3 : (spl c s.data.toList).length = Lib.countB s ⟨#[c]⟩ + 1 := by rw [← hle, hsp, List.length_map]
    have e4 : (Lib.splitB ⟨#[c]⟩ 0 (Lib.countB s ⟨#[c]⟩) s).map Value.string = (spl c s.data.toList).map fun l => Value.string ⟨l.toArray⟩ := by rw [hsp, List.map_map]; rfl
    have := ownsRow_alloc w ((spl c s.data.toList).map fun l => Value.string ⟨l.toArray⟩) 9 (by rw [List.length_map, e3]; unfold maxLen; omega)
    rw [List.length_map] at this ⊢
    rw [e2, e4, ← e3]
    exact ⟨_, rfl, this⟩

theorem below_grow (w : World) (k : Nat) (os : Array Obj) : Below w.heap.size w (grow (w.drewN k) os) := by
  refine ⟨rfl, rfl, rfl, by simp [grow, World.drewN], fun j hj => ?_⟩
  simp only [grow, World.drewN]
  rw [Array.getElem?_append_left hj]

theorem itoa_good : GoodCalls Tryd.prog (callS 49 gP itoaF) ∧ GoodWF (callS 49 gP itoaF) := by
  refine callS_good ⟨_, Tryd.func49, by kernel_rfl, by kernel_rfl⟩ (by decide) (fun args v w h hp hg => ?_)
  unfold itoaF at h
  split at h
  case h_2 => cases h
  rename_i n
  split at h
  case isFalse => cases h
  rename_i hn
  cases h
  refine ⟨rfl, ?_⟩
  obtain ⟨ob, h1, h2⟩ := hg _ (List.mem_singleton.2 rfl)
  simp only at h1 h2
  cases ob with
  | cells C T fr =>
    have h2 : C.toList = (List.range 20).map fun i => .int .u64 ((10 ^ i : Nat) : Int) := h2
    refine (Any.strconv_Itoa layI n hn.1 hn.2 w ?_).mono ?_
    · unfold Lib.TabIs World.var?
      rw [show Tryd.prog.globalNamed _ = some 3 by kernel_rfl, Option.bind_some, h1]
      simp only
      refine congrArg some (Array.toList_inj.1 ?_)
      rw [h2, Lib.pow10Tab, List.map_map]
      rfl
    · rintro e w' ⟨rfl, k, os, rfl⟩
      exact ⟨rfl, below_grow w k os⟩
  | _ => exact h2.elim

theorem repeat_good : GoodCalls Tryd.prog (callS 71 [] repeatF) ∧ GoodWF (callS 71 [] repeatF) := by
  refine callS_good ⟨_, Tryd.func71, by kernel_rfl, by kernel_rfl⟩ (by decide) (fun args v w h hp hg => ?_)
  unfold repeatF at h
  split at h
  case h_2 => cases h
  rename_i s c
  split at h
  case isFalse => cases h
  rename_i hn
  cases h
  refine ⟨rfl, ?_⟩
  obtain ⟨k, rfl⟩ : ∃ k : Nat, c = k := ⟨c.toNat, by omega⟩
  have hm : s.size * k ≤ 4096 * 4096 := Nat.mul_le_mul hn.2.2 (by omega)
  exact Any.strings_Repeat layR layX s k w (by omega) (by omega)

def ov0 : CallSem := orSem (callS 49 gP itoaF) (orSem (callS 71 [] repeatF) (orSem (rowSem 75 [] 9 splitF) (rowSem 42 gS 9 fieldsF)))
theorem ov0_good : GoodCalls Tryd.prog ov0 ∧ GoodWF ov0 := or_good itoa_good (or_good repeat_good (or_good genSplit_good fields_good))

end Go.Proofs.YtoiedaegnhifpaaDoor
