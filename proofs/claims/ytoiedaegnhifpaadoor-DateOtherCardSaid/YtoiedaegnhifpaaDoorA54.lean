/-
  Strings as lists of bytes.
-/
import Derived.Test.YtoiedaegnhifpaaDoorA53
import Derived.Test.YtoiedaegnhifpaaDoorA46
import Derived.Lib.PathFns
import Derived.Lib.DecodeN
set_option linter.unusedVariables false
set_option linter.unusedSimpArgs false
set_option maxRecDepth 100000
namespace Go.Abs
open Go Go.Abs.K

/-! ### guarded steps of a drawn region -/
def gdcont (cs : Nat → CallSem) (d : Option Nat) (op : AOp Operand) (r : List AOper) (fs : List Foot) (e : Env) (s : St) (Q : List Foot → Env → St → Prop) (b : Bool) : Prop :=
  match b with
  | true => bindP (op.vals e.rd) (dvals cs d r fs e s Q)
  | false => WDraw cs r (fs ++ [⟨[], [], s, s⟩]) (setE e d undefV) s Q
theorem gdcont_true (cs : Nat → CallSem) (d : Option Nat) (op : AOp Operand) (r : List AOper) (fs : List Foot) (e : Env) (s : St) (Q : List Foot → Env → St → Prop) : gdcont cs d op r fs e s Q true = bindP (op.vals e.rd) (dvals cs d r fs e s Q) := rfl
theorem gdcont_false (cs : Nat → CallSem) (d : Nat) (op : AOp Operand) (r : List AOper) (fs : List Foot) (e : Env) (s : St) (Q : List Foot → Env → St → Prop) : gdcont cs (some d) op r fs e s Q false = WDraw cs r (fs ++ [⟨[], [], s, s⟩]) ((d, undefV) :: e) s Q := rfl
theorem gdcont_false' (cs : Nat → CallSem) (op : AOp Operand) (r : List AOper) (fs : List Foot) (e : Env) (s : St) (Q : List Foot → Env → St → Prop) : gdcont cs none op r fs e s Q false = WDraw cs r (fs ++ [⟨[], [], s, s⟩]) e s Q := rfl
theorem wd_guard (cs : Nat → CallSem) (d : Option Nat) (op : AOp Operand) (t : Nat) (want : Bool) (r : List AOper) (fs : List Foot) (e : Env) (s : St) (Q : List Foot → Env → St → Prop) :
    WDraw cs (⟨d, op, some (t, want)⟩ :: r) fs e s Q = bindP (guardV (e.get t) want) (gdcont cs d op r fs e s Q) := by
  simp only [WDraw, wantedA, guardV]
  cases e.get t with
  | none => rfl
  | some v =>
    cases v <;> try rfl
    rename_i b
    cases b <;> cases want
    · show (match op.vals e.rd with | none => False | some a => _) = bindP (op.vals e.rd) _
      cases op.vals e.rd <;> rfl
    · rfl
    · rfl
    · show (match op.vals e.rd with | none => False | some a => _) = bindP (op.vals e.rd) _
      cases op.vals e.rd <;> rfl
attribute [go_sem ↓] wd_guard gdcont_true gdcont_false gdcont_false'

abbrev S (l : List UInt8) : Value := .string ⟨l.toArray⟩

theorem ba_of (s : ByteArray) : ∃ l : List UInt8, s = ⟨l.toArray⟩ := ⟨s.data.toList, rfl⟩
theorem ba_toList (l : List UInt8) : (⟨l.toArray⟩ : ByteArray).toList = l := by
  rw [Lib.toList_data]
theorem sizeS (l : List UInt8) : ByteArray.size ⟨l.toArray⟩ = l.length := by simp [ByteArray.size]
theorem ba_extract (l : List UInt8) (a b : Nat) : (⟨l.toArray⟩ : ByteArray).extract a b = ⟨((l.drop a).take (b - a)).toArray⟩ := by
  have h1 : ((⟨l.toArray⟩ : ByteArray).extract a b).data = l.toArray.extract a b := ByteArray.data_extract ..
  have h2 : (⟨l.toArray⟩ : ByteArray).extract a b = ⟨((⟨l.toArray⟩ : ByteArray).extract a b).data⟩ := rfl
  rw [h2, h1]
  congr 1
  apply Array.toList_inj.1
  simp [List.extract_eq_take_drop]

theorem bs_eql (a b : List UInt8) : binV .eql (S a) (S b) = some (.bool (a == b)) := by
  show some (Value.bool ((⟨a.toArray⟩ : ByteArray).toList == (⟨b.toArray⟩ : ByteArray).toList)) = _
  rw [ba_toList, ba_toList]
theorem bs_neq (a b : List UInt8) : binV .neq (S a) (S b) = some (.bool (!(a == b))) := by
  show some (Value.bool !((⟨a.toArray⟩ : ByteArray).toList == (⟨b.toArray⟩ : ByteArray).toList)) = _
  rw [ba_toList, ba_toList]
theorem bs_add {a b : List UInt8} (h : a.length + b.length < 4611686018427387904) : binV .add (S a) (S b) = some (S (a ++ b)) := by
  show (if ByteArray.size ⟨a.toArray⟩ + ByteArray.size ⟨b.toArray⟩ < 2 ^ 62 then some (Value.string (⟨a.toArray⟩ ++ ⟨b.toArray⟩)) else none) = _
  rw [sizeS, sizeS, if_pos (by omega)]
  have : ((⟨a.toArray⟩ : ByteArray) ++ ⟨b.toArray⟩).data = a.toArray ++ b.toArray := ByteArray.data_append ..
  have h2 : (⟨a.toArray⟩ : ByteArray) ++ ⟨b.toArray⟩ = ⟨((⟨a.toArray⟩ : ByteArray) ++ ⟨b.toArray⟩).data⟩ := rfl
  rw [h2, this]
  simp
variable {g : Nat → Option AObj} {nx : Nat}
theorem ev_idxS {l : List UInt8} {k : Nat} {i : IntKind} {b : UInt8} (h : l[k]? = some b) : evP g nx (.index (S l) (.int i (k : Nat))) = some ⟨.int .u8 b.toNat, [], nx⟩ := by
  show (if (0 : Int) ≤ (k : Nat) then (((⟨l.toArray⟩ : ByteArray).data.toList)[((k : Nat) : Int).toNat]?).map fun b => (⟨.int .u8 b.toNat, [], nx⟩ : Res) else none) = _
  rw [if_pos (by omega)]
  have : (((⟨l.toArray⟩ : ByteArray).data.toList)[((k : Nat) : Int).toNat]?) = some b := by simpa using h
  rw [this]
  rfl
theorem ev_cutS {l : List UInt8} {a b : Nat} {i j : IntKind} (h1 : a ≤ b) (h2 : b ≤ l.length) : evP g nx (.slice .string (S l) (some (.int i (a : Nat))) (some (.int j (b : Nat))) none) = some ⟨S ((l.drop a).take (b - a)), [], nx⟩ := by
  have : evP g nx (.slice .string (S l) (some (.int i (a : Nat))) (some (.int j (b : Nat))) none) = (boundsV (ByteArray.size ⟨l.toArray⟩) (ByteArray.size ⟨l.toArray⟩) (some (.int i (a : Nat))) (some (.int j (b : Nat))) none).map fun b => ⟨.string ((⟨l.toArray⟩ : ByteArray).extract b.1 b.2.1), [], nx⟩ := rfl
  rw [this, sizeS]
  have h3 : (b : Int) ≤ l.length := by omega
  have h4 : (a : Int) ≤ b := by omega
  simp only [boundsV, boundV, Option.bind_some]
  simp [h3, h4, ba_extract, h1, h2]
theorem ev_toS {l : List UInt8} {b : Nat} {j : IntKind} (h2 : b ≤ l.length) : evP g nx (.slice .string (S l) none (some (.int j (b : Nat))) none) = some ⟨S (l.take b), [], nx⟩ := by
  have : evP g nx (.slice .string (S l) none (some (.int j (b : Nat))) none) = (boundsV (ByteArray.size ⟨l.toArray⟩) (ByteArray.size ⟨l.toArray⟩) none (some (.int j (b : Nat))) none).map fun b => ⟨.string ((⟨l.toArray⟩ : ByteArray).extract b.1 b.2.1), [], nx⟩ := rfl
  rw [this, sizeS]
  have h3 : (b : Int) ≤ l.length := by omega
  simp only [boundsV, boundV, Option.bind_some]
  simp [h3, ba_extract, h2]
theorem ev_fromS {l : List UInt8} {a : Nat} {i : IntKind} (h1 : a ≤ l.length) : evP g nx (.slice .string (S l) (some (.int i (a : Nat))) none none) = some ⟨S (l.drop a), [], nx⟩ := by
  have : evP g nx (.slice .string (S l) (some (.int i (a : Nat))) none none) = (boundsV (ByteArray.size ⟨l.toArray⟩) (ByteArray.size ⟨l.toArray⟩) (some (.int i (a : Nat))) none none).map fun b => ⟨.string ((⟨l.toArray⟩ : ByteArray).extract b.1 b.2.1), [], nx⟩ := rfl
  rw [this, sizeS]
  have h3 : (a : Int) ≤ l.length := by omega
  simp only [boundsV, boundV, Option.bind_some]
  simp [h3, ba_extract, h1]
  rw [List.take_of_length_le (by simp)]

theorem decodeN_ge {n b0 b1 b2 b3 : Nat} (h : 128 ≤ b0) : 128 ≤ (Lib.decodeN n b0 b1 b2 b3).1 := by
  unfold Lib.decodeN
  rw [if_neg (by omega)]
  repeat' split
  all_goals first | omega | (simp only; omega)
theorem decS_ascii {l : List UInt8} {k : Nat} {b : UInt8} (h : l[k]? = some b) (hb : b.toNat < 128) : Utf8.decode ⟨l.toArray⟩ k = (b.toNat, 1) := by
  have hg : (⟨l.toArray⟩ : ByteArray).get! k = b := by simp [ByteArray.get!, h]
  rw [Lib.decode_at, hg]
  unfold Lib.decodeN
  rw [if_pos hb]
theorem decS_far {l : List UInt8} {k : Nat} {b : UInt8} (h : l[k]? = some b) (hb : 128 ≤ b.toNat) : 128 ≤ (Utf8.decode ⟨l.toArray⟩ k).1 := by
  have hg : (⟨l.toArray⟩ : ByteArray).get! k = b := by simp [ByteArray.get!, h]
  rw [Lib.decode_at, hg]
  exact decodeN_ge hb
theorem ev_nextS {l : List UInt8} {id pos : Nat} (h : g id = some (.iter ⟨l.toArray⟩ pos)) (hp : pos < l.length) : evP g nx (.nextStr (.pointer (some ⟨id, 0, none⟩))) = some ⟨.tuple #[.bool true, .int .i64 (pos : Nat), .int .i32 (Utf8.decode ⟨l.toArray⟩ pos).1], [(id, some (.iter ⟨l.toArray⟩ (pos + (Utf8.decode ⟨l.toArray⟩ pos).2)))], nx⟩ := by
  simp [evP, h, sizeS, hp]
theorem ev_nextS_end {l : List UInt8} {id pos : Nat} (h : g id = some (.iter ⟨l.toArray⟩ pos)) (hp : ¬ pos < l.length) : evP g nx (.nextStr (.pointer (some ⟨id, 0, none⟩))) = some ⟨.tuple #[.bool false], [], nx⟩ := by
  simp [evP, h, sizeS, hp]
end Go.Abs
