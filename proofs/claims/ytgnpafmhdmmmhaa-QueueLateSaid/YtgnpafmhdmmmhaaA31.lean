/-
  Strings of bytes.
-/
import Derived.Test.YtgnpafmhdmmmhaaA30
import Derived.Laws.Strings
set_option linter.unusedVariables false
set_option linter.unusedSimpArgs false
namespace Go.Abs
open Go

def toB (zs : List Int) : ByteArray := ⟨(zs.map fun z => UInt8.ofNat z.toNat).toArray⟩

theorem bytes_ext {a b : ByteArray} (h : a.data.toList = b.data.toList) : a = b := by
  obtain ⟨⟨a⟩⟩ := a
  obtain ⟨⟨b⟩⟩ := b
  simp only at h
  rw [h]

theorem bytesOf_map : ∀ (zs : List Int) (acc : ByteArray), bytesOf (zs.map (.int .u8)) acc = some ⟨acc.data ++ (zs.map fun z => UInt8.ofNat z.toNat).toArray⟩ := by
  intro zs
  induction zs with
  | nil => intro acc; simp [bytesOf]
  | cons z zs ih =>
    intro acc
    simp only [List.map_cons, bytesOf, ih]
    congr 1
    apply bytes_ext
    simp [ByteArray.push]

theorem ev_toString {s : St} {v : Value} {zs : List Int} (h : BytesV s v zs) : evP s.heap.get s.next (.conv .toString v) = some ⟨.string (toB zs), [], s.next⟩ := by
  obtain ⟨hz, ⟨rfl, rfl⟩ | ⟨id, o, cap, c, t, sz, ro, rfl, h1, h2, h3, h4, h5, h6⟩⟩ := h
  · rfl
  · have hb := bytesOf_map zs .empty
    simp only [evP, cellsAt, h3]
    rw [if_pos h6, h4]
    simp only [Option.bind_some, hb, Option.map_some]
    congr 2
    apply congrArg
    apply bytes_ext
    simp [toB]

theorem strL_toB {zs : List Int} (h : ∀ z ∈ zs, 0 ≤ z ∧ z ≤ 255) : strL (toB zs) = zs := by
  simp only [strL, toB, List.toList_toArray, List.map_map]
  conv => rhs; rw [← List.map_id zs]
  apply List.map_congr_left
  intro z hz
  have := h z hz
  simp only [Function.comp_apply, UInt8.toNat_ofNat', id]
  omega

theorem toB_strL (b : ByteArray) : toB (strL b) = b := by
  apply bytes_ext
  simp only [toB, strL, List.map_map]
  conv => rhs; rw [← List.map_id b.data.toList]
  apply List.map_congr_left
  intro z _
  simp

theorem strL_inj {a b : ByteArray} (h : strL a = strL b) : a = b := by
  rw [← toB_strL a, h, toB_strL]

theorem toB_inj {zs ws : List Int} (h1 : ∀ z ∈ zs, 0 ≤ z ∧ z ≤ 255) (h2 : ∀ z ∈ ws, 0 ≤ z ∧ z ≤ 255) (h : toB zs = toB ws) : zs = ws := by
  rw [← strL_toB h1, h, strL_toB h2]

theorem toB_size (zs : List Int) : (toB zs).size = zs.length := by
  simp [toB, ByteArray.size]

open Classical in
theorem bin_eqlS (a b : ByteArray) : binV .eql (.string a) (.string b) = some (.bool (decide (a = b))) := by
  simp only [binV]
  congr 2
  rw [Bool.eq_iff_iff, beq_iff_eq, decide_eq_true_eq, Go.ByteArray.toList_eq, Go.ByteArray.toList_eq]
  exact ⟨bytes_ext, fun h => by rw [h]⟩

theorem bytes_beq (a b : ByteArray) : (a == b) = true ↔ a = b := by
  rw [bytes_eq_iff]

end Go.Abs
