/-
  The operations, value by value: slices, maps, builtins.
-/
import Derived.Test.YtlcfmfljmabaeaaA6
set_option linter.unusedVariables false
set_option linter.unusedSimpArgs false
namespace Go.Abs
open Go

section
variable {P : Program} {β : Map} {h : HF} {w : World} {n : Nat} {res : Res}

theorem slice_string_sim {t : TypeId} {x x' : Value} {lo hi mx lo' hi' mx' : Option Value} (ht : P.underlying t = some .string) (hx : VRel β x x') (h1 : OptRel β lo lo') (h2 : OptRel β hi hi') (h3 : OptRel β mx mx') (hs : Sim β h w)
    (he : evP h n (.slice .string x lo hi mx) = some res) : OpOK P β h w n res id (Instr.sliceAt t x' lo' hi' mx') := by
  simp only [evP] at he
  split at he
  · rename_i s hq
    cases h3 with
    | some _ => simp at he
    | none =>
      simp only [Option.isSome_none, Bool.false_eq_true, if_false] at he
      cases hb : boundsV s.size s.size lo hi none with
      | none => simp [hb] at he
      | some b =>
        simp only [hb, Option.map_some, Option.some.injEq] at he
        subst he
        obtain ⟨m', hr, _⟩ := boundsV_run (P := P) (w := w) (isS := false) hb h1 h2 .none (Nat.le_refl _)
        rw [hx.string_inv]
        refine OpOK.pure hs ?_ .string'
        simp [Instr.sliceAt, run_und ht, Instr.slice, hr]
  · rename_i heq; simp at heq
  · cases he

theorem slice_slice_sim {t e : TypeId} {i : TypeInfo} {x x' : Value} {lo hi mx lo' hi' mx' : Option Value} (ht : P.underlying t = some (.slice e)) (hif : P.info? e = some i) (hx : VRel β x x') (h1 : OptRel β lo lo') (h2 : OptRel β hi hi') (h3 : OptRel β mx mx') (hs : Sim β h w)
    (he : evP h n (.slice (.slice i.size) x lo hi mx) = some res) : OpOK P β h w n res id (Instr.sliceAt t x' lo' hi' mx') := by
  simp only [evP] at he
  split at he
  · rename_i heq; simp at heq
  · rename_i sz a len cap heq
    cases heq
    cases hb : boundsV len cap lo hi mx with
    | none => simp [hb] at he
    | some b =>
      simp only [hb, Option.bind_some] at he
      cases a with
      | none =>
        simp only [Option.some.injEq] at he
        subst he
        rw [hx.nilSlice_inv]
        obtain ⟨m', hr, hm, _, _, _, _, hmx⟩ := boundsV_run (P := P) (w := w) (isS := true) hb h1 h2 h3 (Nat.le_refl _)
        have : m' = b.2.2 := by
          rw [hm]; split
          · rfl
          · rename_i hn; exact (hmx (by simpa using hn)).symm
        subst this
        refine OpOK.pure hs ?_ (.prim _ rfl)
        simp [Instr.sliceAt, run_und ht, Instr.slice, hr, run_size hif]
      | some ad =>
        simp only at he
        cases hg : h ad.block with
        | none => simp [hg] at he
        | some o =>
          cases o with
          | map _ _ => simp [hg] at he
          | iter _ _ => simp [hg] at he
          | cells c ct z ro =>
            simp only [hg] at he
            split at he
            case isFalse => cases he
            rename_i hcond
            obtain ⟨_, hz, hhm⟩ := hcond
            cases he
            rcases hx.slice_inv with ⟨r, c', hsp, hbb, rfl, hc'⟩ | ⟨r, bb, hsp, hbb, rfl, rfl, rfl⟩
            · obtain ⟨m', hr, hm, hle, _, _, hbc, hmx⟩ := boundsV_run (P := P) (w := w) (isS := true) (cap' := c') hb h1 h2 h3 (by omega)
              obtain ⟨C, fr, hq, hn, hro, hsl, _⟩ := (hs.obj ad.block r _ hbb hg).cells_inv
              have hmm : b.2.2 ≤ m' := by
                rw [hm]; split
                · exact Nat.le_refl _
                · omega
              by_cases hml : m' = b.1
              · -- nothing is left: the address is of no account
                have e1 : b.2.1 - b.1 = 0 := by omega
                have e2 : b.2.2 - b.1 = 0 := by omega
                refine ⟨.slice (some ⟨r.blk, r.base + ad.off, none⟩) 0 0, w, β, ?_, ?_, hs, Step.refl β h w n⟩
                · simp [Instr.sliceAt, run_und ht, Instr.slice, hr, run_size hif, hml, e1]
                · simp only [e1, e2]; exact .empty hbb
              · refine ⟨.slice (some ⟨r.blk, r.base + (ad.off + b.1 * i.size), none⟩) (b.2.1 - b.1) (m' - b.1), w, β, ?_, ?_, hs, Step.refl β h w n⟩
                · simp [Instr.sliceAt, run_und ht, Instr.slice, hr, run_size hif, hml, add_eq, Nat.add_assoc]
                · refine .slice hbb ?_
                  cases hmxs : mx.isSome with
                  | true => left; rw [hm, hmxs]; rfl
                  | false =>
                    have hmx0 : mx = none := by cases mx <;> simp_all
                    have e1 : m' = c' := by rw [hm, hmxs]; rfl
                    have e2 := hmx hmx0
                    rcases hc' with hc' | ⟨hc', hend⟩
                    · left; omega
                    · by_cases hs0 : r.slack = 0
                      · left; omega
                      · right
                        refine ⟨by omega, ?_⟩
                        obtain ⟨hrs, hz32⟩ := hsl hs0
                        have : z = i.size := by
                          rcases hz with hz | hz | hz
                          · exact absurd (hro hz) hs0
                          · exact hz
                          · omega
                        rw [← hend, e2, ← this, ← hrs, Nat.add_assoc, ← Nat.add_mul]
                        congr 2
                        omega
            · obtain ⟨m', hr, hm, hle, _, _, hbc, hmx⟩ := boundsV_run (P := P) (w := w) (isS := true) (cap' := 0) hb h1 h2 h3 (Nat.le_refl _)
              have e0 : b.2.2 = 0 := by omega
              have e1 : b.2.1 = 0 := by omega
              have e2 : b.1 = 0 := by omega
              have e3 : m' = 0 := by rw [hm]; split <;> simp [e0]
              refine ⟨.slice (some bb) 0 0, w, β, ?_, ?_, hs, Step.refl β h w n⟩
              · simp [Instr.sliceAt, run_und ht, Instr.slice, hr, run_size hif, e1, e2, e3]
              · simp only [e0, e1, e2]; exact .empty hbb
  · cases he

theorem fieldAddr_sim {t : TypeId} {fs : Array Field} {f : Field} {j : Nat} {i : TypeInfo} {x x' : Value} (ht : P.underlying t = some (.struct fs)) (hf : fs[j]? = some f) (hi : P.info? f.type = some i) (h0 : i.size ≠ 0)
    (hx : VRel β x x') (hs : Sim β h w) (he : evP h n (.fieldAddr f.offset x) = some res) : OpOK P β h w n res id (Instr.fieldAt t x' j) := by
  simp only [evP] at he
  split at he
  case h_2 => cases he
  rename_i id o
  cases he
  obtain ⟨r, hb, rfl⟩ := hx.ptr_inv
  refine OpOK.pure (x := .pointer (some ⟨r.blk, r.base + (o + f.offset), none⟩)) hs ?_ (.ptr hb)
  simp [Instr.fieldAt, run_und ht, hf, Instr.sureAddr, fieldPlace, run_size hi, h0, add_eq, Nat.add_assoc]

theorem field_sim {t : TypeId} {fs : Array Field} {f : Field} {j : Nat} {k : Option Nat} {x x' : Value} (ht : P.underlying t = some (.struct fs)) (hf : fs[j]? = some f) (hk : shapeT P f.type = some k)
    (hx : VRel β x x') (hs : Sim β h w) (he : evP h n (.field f.offset k x) = some res) : OpOK P β h w n res id (Instr.field t x' j) := by
  obtain ⟨i, d, hi, hd, rfl⟩ := shapeT_spec hk
  simp only [evP] at he
  split at he
  case h_2 => cases he
  rename_i cs
  obtain ⟨cs', rfl, hl⟩ := hx.agg_inv
  split at he
  · rename_i hag
    have hd' : isAggD d = false := by revert hag; cases isAggD d <;> simp
    cases hv : cs.toList[f.offset]? with
    | none => simp [hv] at he
    | some v =>
      simp only [hv, Option.map_some, Option.some.injEq] at he
      subst he
      obtain ⟨v', hv', hr⟩ := hl.get hv
      refine OpOK.pure hs ?_ hr
      simp at hv'
      simp [Instr.field, run_und ht, hf, asAgg, part, run_agg hd, hd', hv']
  · rename_i m hag
    have hd' : isAggD d = true ∧ m = i.size := by revert hag; cases isAggD d <;> simp [eq_comm]
    obtain ⟨hd', rfl⟩ := hd'
    cases he
    refine OpOK.pure hs ?_ ((hl.drop f.offset).take i.size).agg
    simp [Instr.field, run_und ht, hf, asAgg, part, run_agg hd, hd', run_size hi]
    rw [← Array.toList_inj]
    simp [Array.toList_extract, List.extract_eq_take_drop]

theorem indexAddr_sim {t e : TypeId} {i : TypeInfo} {x x' y y' : Value} (ht : P.underlying t = some (.slice e)) (hi : P.info? e = some i) (hx : VRel β x x') (hy : VRel β y y') (hs : Sim β h w)
    (he : evP h n (.indexAddr i.size x y) = some res) : OpOK P β h w n res id (Instr.indexAt t x' y') := by
  simp only [evP] at he
  split at he
  case h_2 => cases he
  rename_i id o len cap k j
  split at he
  case isFalse => cases he
  rename_i hc
  cases he
  rw [hy.int_inv]
  rcases hx.slice_inv with ⟨r, c', hsp, hbb, rfl, hc'⟩ | ⟨r, bb, hsp, hbb, rfl, rfl, rfl⟩
  · refine OpOK.pure (x := .pointer (some ⟨r.blk, r.base + (o + j.toNat * i.size), none⟩)) hs ?_ (.ptr hbb)
    simp [Instr.indexAt, asIntOf, run_und ht, run_size hi, hc, add_eq, Nat.add_assoc]
  · omega

theorem index_sim {t : TypeId} {x x' y y' : Value} (ht : P.underlying t = some .string) (hx : VRel β x x') (hy : VRel β y y') (hs : Sim β h w)
    (he : evP h n (.index x y) = some res) : OpOK P β h w n res id (Instr.index t x' y') := by
  simp only [evP] at he
  split at he
  case h_2 => cases he
  rename_i s k j
  split at he
  case isFalse => cases he
  rename_i hc
  rw [hy.int_inv, hx.string_inv]
  cases hv : s.data.toList[j.toNat]? with
  | none => simp [hv] at he
  | some b =>
    simp only [hv, Option.map_some, Option.some.injEq] at he
    subst he
    refine OpOK.pure hs ?_ .int'
    have hb : s[j.toNat]? = some b := by
      have hlt : j.toNat < s.size := by
        have := (List.getElem?_eq_some_iff.1 hv).1
        simpa using this
      rw [getElem?_pos s j.toNat hlt]
      congr 1
      have := (List.getElem?_eq_some_iff.1 hv).2
      rw [Array.getElem_toList] at this
      exact this
    simp [Instr.index, asIntOf, run_und ht, hc, hb]

end
end Go.Abs
