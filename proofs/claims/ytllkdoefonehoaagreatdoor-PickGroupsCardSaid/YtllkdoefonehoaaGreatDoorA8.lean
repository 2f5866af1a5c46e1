/- The quiet steps without new memory: addresses, parts, slices, tests of a type. No condition. -/
import Derived.Test.YtllkdoefonehoaaGreatDoorA7
set_option linter.unusedVariables false
set_option linter.unusedSimpArgs false
namespace Go.Proofs.YtllkdoefonehoaaGreatDoor.Abs
open Go Go.RowKit

section
variable {P : Program} {j : Inj} {w : World} {id : Nat} {ev : IOpd → AV} {ρ : Operand → Value} {H : AH}

theorem nv_faddr {s : TypeId} {f n : Nat} {fs : Array Field} {fd : Field} {b o : Nat} {u : Value} (hu : P.underlying s = some (.struct fs)) (hf : fs[f]? = some fd) (hn : sizeP P fd.type = some n) (h0 : n ≠ 0)
    (hx : VR j (.ptr b o) u) : NV P (Instr.fieldAt s u f) j w id (.ptr b (o + fd.offset)) none := by
  obtain ⟨c, z, rfl, hc⟩ := hx.ptr_inv
  refine ⟨.pointer (some ⟨c, o + fd.offset, none⟩), ?_, .ptr hc⟩
  simp [Instr.fieldAt, run_underlying hu, hf, Instr.sureAddr, fieldPlace, run_sizeOf hn, h0, add_none]
theorem nv_fld {t : TypeId} {f : Nat} {n : Option Nat} {fs : Array Field} {fd : Field} {l : List AV} {v : AV} {u : Value} (hu : P.underlying t = some (.struct fs)) (hf : fs[f]? = some fd) (hn : aggP P fd.type = some n)
    (hx : VR j (.agg l) u) (h : Abs.part l fd.offset n = some v) : NV P (Instr.field t u f) j w id v none := by
  obtain ⟨r, rfl, hr⟩ := hx.agg_inv
  obtain ⟨vc, hv, hvr⟩ := run_part (P := P) (w := w) hn hr h
  exact ⟨vc, by simp [Instr.field, run_underlying hu, hf, asAgg, hv], hvr⟩
theorem nv_ext {l : List AV} {i : Nat} {v : AV} {u : Value} (hx : VR j (.tuple l) u) (h : l[i]? = some v) : NV P (Instr.extract u i) j w id v none := by
  obtain ⟨r, rfl, hr⟩ := hx.tuple_inv
  obtain ⟨vc, hv, hvr⟩ := hr.get h
  have hv' : r[i]? = some vc := by simpa using hv
  exact ⟨vc, by simp [Instr.extract, hv'], hvr⟩
theorem nv_load {t : TypeId} {n : Option Nat} {b o : Nat} {u : Value} {v : AV} (hr : Rel P j H w) (ha : aggP P t = some n) (hx : VR j (.ptr b o) u) (h : Abs.loadC H b o n = some v) : NV P (Instr.loadAt t u) j w id v none := by
  obtain ⟨c, z, rfl, hc⟩ := hx.ptr_inv
  obtain ⟨vc, hv, hvr⟩ := run_loadVar hr ha h hc
  exact ⟨vc, by simp [Instr.loadAt, Instr.sureAddr, hv], hvr⟩

theorem nv_iaddr {t e : TypeId} {size b o n es : Nat} {k : IntKind} {m : Int} {u i : Value} (hu : P.underlying t = some (.slice e)) (hs : sizeP P e = some size) (hx : VR j (.slice b o n es) u) (hi : VR j (.int k m) i) (h0 : 0 ≤ m) (h1 : m < n) :
    NV P (Instr.indexAt t u i) j w id (.ptr b (o + m.toNat * size)) none := by
  obtain ⟨c, z, q, rfl, hc, hq, _⟩ := hx.slice_inv
  cases hi.int_inv
  refine ⟨.pointer (some ⟨c, o + m.toNat * size, none⟩), ?_, .ptr hc⟩
  simp [Instr.indexAt, run_underlying hu, asIntOf, h0, h1, run_sizeOf hs, add_none]
theorem nv_iaddra {t e : TypeId} {len size b o : Nat} {k : IntKind} {m : Int} {u i : Value} (hu : P.underlying t = some (.array len e)) (hs : sizeP P e = some size) (hx : VR j (.ptr b o) u) (hi : VR j (.int k m) i) (h0 : 0 ≤ m) (h1 : m < len) :
    NV P (Instr.indexAt t u i) j w id (.ptr b (o + m.toNat * size)) none := by
  obtain ⟨c, z, rfl, hc⟩ := hx.ptr_inv
  cases hi.int_inv
  refine ⟨.pointer (some ⟨c, o + m.toNat * size, none⟩), ?_, .ptr hc⟩
  simp [Instr.indexAt, run_underlying hu, asIntOf, Instr.sureAddr, h0, h1, run_sizeOf hs, add_none]
theorem nv_idxs {t : TypeId} {l : List UInt8} {k : IntKind} {m : Int} {c : UInt8} {u i : Value} (hu : P.underlying t = some .string) (hx : VR j (.str l) u) (hi : VR j (.int k m) i) (h0 : 0 ≤ m) (h1 : l[m.toNat]? = some c) :
    NV P (Instr.index t u i) j w id (.int .u8 (c.toNat : Int)) none := by
  obtain ⟨s, rfl, rfl⟩ := hx.str_inv
  cases hi.int_inv
  refine ⟨.int .u8 (c.toNat : Int), ?_, .int _ _⟩
  have hlt : m.toNat < s.size := by
    have := (List.getElem?_eq_some_iff.1 h1).1
    rwa [Array.length_toList] at this
  have hc : s[m.toNat]? = some c := by
    rw [getElem?_pos s m.toNat hlt]
    obtain ⟨h2, h3⟩ := List.getElem?_eq_some_iff.1 h1
    rw [← h3]
    simp [ByteArray.getElem_eq_getElem_data]
  simp [Instr.index, run_underlying hu, asIntOf, h0, hc]
theorem nv_idxa {t e : TypeId} {len size : Nat} {n : Option Nat} {l : List AV} {k : IntKind} {m : Int} {v : AV} {u i : Value} (hu : P.underlying t = some (.array len e)) (hs : sizeP P e = some size) (hn : aggP P e = some n) (hx : VR j (.agg l) u)
    (hi : VR j (.int k m) i) (h0 : 0 ≤ m) (h1 : m < len) (h : Abs.part l (m.toNat * size) n = some v) : NV P (Instr.index t u i) j w id v none := by
  obtain ⟨r, rfl, hr⟩ := hx.agg_inv
  cases hi.int_inv
  obtain ⟨vc, hv, hvr⟩ := run_part (P := P) (w := w) hn hr h
  exact ⟨vc, by simp [Instr.index, run_underlying hu, asIntOf, h0, h1, run_sizeOf hs, hv], hvr⟩

/-! ### Slices -/
def OptR (ρ : Operand → Value) : Option Operand → Option Int → Prop
  | none, none => True
  | some x, some n => ∃ k, ρ x = .int k n
  | _, _ => False
theorem optI_sound {x : Option Operand} {i : Option IOpd} {r : Option Int} (he : EvR P j ev ρ) (hc : compOp P x = some i) (h : optI ev i = some r) : OptR ρ x r := by
  cases x with
  | none => cases hc; cases h; trivial
  | some x =>
    simp only [compOp, Option.map_eq_some_iff] at hc
    obtain ⟨a, ha, rfl⟩ := hc
    simp only [optI] at h
    split at h
    · rename_i k n hk
      cases h
      have := he x a ha
      rw [hk] at this
      exact ⟨k, this.int_inv⟩
    · cases h
theorem run_bound {v : Value} {k : IntKind} {n : Int} {y : Nat} {c : BoundsCode} (hv : v = .int k n) (h0 : 0 ≤ n) (h1 : n ≤ y) : (Instr.sliceBound v y c).run P w = .ok n.toNat w := by
  subst hv
  simp [Instr.sliceBound, asIntOf, h0, h1]
theorem run_bounds' {isS : Bool} {len cap : Nat} {lo hi mx : Option Operand} {l h m : Option Int} {a b : Nat} (hl : OptR ρ lo l) (hh : OptR ρ hi h) (hm : OptR ρ mx m) (hb : bounds len l h m = some (a, b)) (hc : len ≤ cap) :
    a ≤ b ∧ b ≤ len ∧ ∃ m', b ≤ m' ∧ m' ≤ cap ∧ (∀ q : Int, m = some q → m' = q.toNat) ∧ (Instr.sliceBounds isS len cap (lo.map ρ) (hi.map ρ) (mx.map ρ)).run P w = .ok (a, b, m') w := by
  unfold bounds at hb
  split at hb
  · cases hb
  · rename_i hmh
    simp only at hb
    split at hb
    · rename_i hle
      obtain ⟨h0, h1, h2, h3⟩ := hle
      cases hb
      cases mx with
      | none =>
        cases m with
        | some m => exact hm.elim
        | none =>
          simp only [Option.getD_none] at h2 h3
          cases hi with
          | none =>
            cases h with
            | some h => exact hh.elim
            | none =>
              simp only [Option.getD_none] at h1 h2
              cases lo with
              | none =>
                cases l with
                | some l => exact hl.elim
                | none => exact ⟨by simp, by simp, cap, by simpa using hc, Nat.le_refl _, (fun q hq => by cases hq), by simp [Instr.sliceBounds]⟩
              | some x =>
                cases l with
                | none => exact hl.elim
                | some l =>
                  obtain ⟨k, hk⟩ := hl
                  simp only [Option.getD_some] at h0 h1
                  exact ⟨by simp; omega, by simp, cap, by simpa using hc, Nat.le_refl _, (fun q hq => by cases hq), by simp [Instr.sliceBounds, run_bound hk h0 h1]⟩
          | some y =>
            cases h with
            | none => exact hh.elim
            | some h =>
              obtain ⟨kh, hkh⟩ := hh
              simp only [Option.getD_some] at h1 h2
              have hh0 : 0 ≤ h := by omega
              have hhc : h ≤ (cap : Int) := by omega
              cases lo with
              | none =>
                cases l with
                | some l => exact hl.elim
                | none => exact ⟨by simp, by simp; omega, cap, by simp; omega, Nat.le_refl _, (fun q hq => by cases hq), by simp [Instr.sliceBounds, run_bound hkh hh0 hhc]⟩
              | some x =>
                cases l with
                | none => exact hl.elim
                | some l =>
                  obtain ⟨k, hk⟩ := hl
                  simp only [Option.getD_some] at h0 h1
                  exact ⟨by simp; omega, by simp; omega, cap, by simp; omega, Nat.le_refl _, (fun q hq => by cases hq), by simp [Instr.sliceBounds, run_bound hkh hh0 hhc, run_bound hk h0 (show l ≤ ((h.toNat : Nat) : Int) by omega)]⟩
      | some z =>
        cases m with
        | none => exact hm.elim
        | some m =>
          obtain ⟨km, hkm⟩ := hm
          cases hi with
          | none =>
            cases h with
            | some h => exact hh.elim
            | none => simp at hmh
          | some y =>
            cases h with
            | none => exact hh.elim
            | some h =>
              obtain ⟨kh, hkh⟩ := hh
              simp only [Option.getD_some] at h1 h2 h3
              have hm0 : 0 ≤ m := by omega
              have hmc : m ≤ (cap : Int) := by omega
              have hh0 : 0 ≤ h := by omega
              have hhm : h ≤ ((m.toNat : Nat) : Int) := by omega
              cases lo with
              | none =>
                cases l with
                | some l => exact hl.elim
                | none => exact ⟨by simp, by simp; omega, m.toNat, by simp; omega, by omega, (fun q hq => by cases hq; rfl), by simp [Instr.sliceBounds, run_bound hkm hm0 hmc, run_bound hkh hh0 hhm]⟩
              | some x =>
                cases l with
                | none => exact hl.elim
                | some l =>
                  obtain ⟨k, hk⟩ := hl
                  simp only [Option.getD_some] at h0 h1
                  exact ⟨by simp; omega, by simp; omega, m.toNat, by simp; omega, by omega, (fun q hq => by cases hq; rfl), by simp [Instr.sliceBounds, run_bound hkm hm0 hmc, run_bound hkh hh0 hhm, run_bound hk h0 (show l ≤ ((h.toNat : Nat) : Int) by omega)]⟩
    · cases hb
theorem run_bounds {isS : Bool} {len cap : Nat} {lo hi mx : Option Operand} {l h m : Option Int} {a b : Nat} (hl : OptR ρ lo l) (hh : OptR ρ hi h) (hm : OptR ρ mx m) (hb : bounds len l h m = some (a, b)) (hc : len ≤ cap) :
    a ≤ b ∧ b ≤ len ∧ ∃ m', b ≤ m' ∧ m' ≤ cap ∧ (Instr.sliceBounds isS len cap (lo.map ρ) (hi.map ρ) (mx.map ρ)).run P w = .ok (a, b, m') w := by
  obtain ⟨h1, h2, m', h3, h4, _, h5⟩ := run_bounds' (P := P) (w := w) (isS := isS) hl hh hm hb hc
  exact ⟨h1, h2, m', h3, h4, h5⟩
theorem nv_slc {t e : TypeId} {size : Nat} {x : Operand} {lo hi mx : Option Operand} {l h m : Option Int} {a : AV} {v : AV} (hu : P.underlying t = some (.slice e)) (hs : sizeP P e = some size) (hl : OptR ρ lo l) (hh : OptR ρ hi h) (hm : OptR ρ mx m)
    (hx : VR j a (ρ x)) (hv : slcA size l h m a = some v) : NV P (Instr.sliceAt t (ρ x) (lo.map ρ) (hi.map ρ) (mx.map ρ)) j w id v none := by
  have hst : ∀ u : Value, (Instr.sliceAt t u (lo.map ρ) (hi.map ρ) (mx.map ρ)).run P w = (Instr.slice t u (lo.map ρ) (hi.map ρ) (mx.map ρ)).run P w := fun u => by
    simp [Instr.sliceAt, run_underlying hu]
  cases a with
  | slice b o n es =>
    simp only [slcA] at hv
    split at hv
    · rename_i hes
      subst hes
      obtain ⟨c, z, q, hq, hc, hn, hz⟩ := hx.slice_inv
      simp only [Option.map_eq_some_iff] at hv
      obtain ⟨⟨p, r⟩, hb, rfl⟩ := hv
      obtain ⟨h1, h2, m', h3, h4, h5, hrun⟩ := run_bounds' (P := P) (w := w) (isS := true) hl hh hm hb hn
      rw [hq]
      have e : (Instr.slice t (.slice (some ⟨c, o, none⟩) n q) (lo.map ρ) (hi.map ρ) (mx.map ρ)).run P w = .ok (.slice (if m' = p then some ⟨c, o, none⟩ else some ⟨c, o + p * es, none⟩) (r - p) (m' - p)) w := by
        simp [Instr.slice, run_underlying hu, hrun, run_sizeOf hs, add_none]
      by_cases hrp : r = p
      · refine ⟨_, by rw [hst]; exact e, ?_⟩
        rw [if_pos hrp, hrp, Nat.sub_self]
        by_cases hz : m = some (p : Int)
        · have hmp : m' = p := by have := h5 _ hz; simpa using this
          rw [if_pos hz, if_pos hmp, hmp, Nat.sub_self]
          exact .szero
        · rw [if_neg hz]
          split <;> exact .sempty
      · refine ⟨_, by rw [hst]; exact e, ?_⟩
        rw [if_neg hrp, if_neg (by omega)]
        refine .slice hc (show r - p ≤ m' - p by omega) ?_
        show o + p * es + (m' - p) * es ≤ z
        have e1 : p * es + (m' - p) * es = m' * es := by rw [← Nat.add_mul]; congr 1; omega
        have e2 : m' * es ≤ q * es := Nat.mul_le_mul_right _ h4
        omega
    · cases hv
  | snil =>
    simp only [slcA] at hv
    cases hq : ρ x <;> rw [hq] at hx <;> first | (cases hx; done) | skip
    cases hx
    simp only [Option.map_eq_some_iff] at hv
    obtain ⟨⟨p, r⟩, hb, rfl⟩ := hv
    obtain ⟨h1, h2, m', h3, h4, hrun⟩ := run_bounds (P := P) (w := w) (isS := true) hl hh hm hb (Nat.le_refl 0)
    have : p = 0 ∧ r = 0 ∧ m' = 0 := by omega
    obtain ⟨rfl, rfl, rfl⟩ := this
    refine ⟨.slice none 0 0, ?_, .snil⟩
    rw [hst]
    simp [Instr.slice, run_underlying hu, hrun, run_sizeOf hs]
  | sempty =>
    simp only [slcA] at hv
    cases hq : ρ x <;> rw [hq] at hx <;> first | (cases hx; done) | skip
    cases hx
    rename_i k ad
    simp only [Option.map_eq_some_iff] at hv
    obtain ⟨⟨p, r⟩, hb, rfl⟩ := hv
    obtain ⟨h1, h2, m', h3, h4, h5, hrun⟩ := run_bounds' (P := P) (w := w) (isS := true) hl hh hm hb (Nat.zero_le k)
    have : p = 0 ∧ r = 0 := by omega
    obtain ⟨rfl, rfl⟩ := this
    have e : (Instr.slice t (.slice (some ad) 0 k) (lo.map ρ) (hi.map ρ) (mx.map ρ)).run P w = .ok (.slice (if m' = 0 then some ad else some (ad.add (0 * size))) (0 - 0) (m' - 0)) w := by
      simp [Instr.slice, run_underlying hu, hrun, run_sizeOf hs]
    refine ⟨_, by rw [hst]; exact e, ?_⟩
    by_cases hz : m = some 0
    · have hm0 : m' = 0 := by have := h5 _ hz; simpa using this
      subst hm0
      rw [if_pos hz]
      exact .szero
    · rw [if_neg hz]
      split <;> exact .sempty
  | szero =>
    simp only [slcA] at hv
    cases hq : ρ x <;> rw [hq] at hx <;> first | (cases hx; done) | skip
    cases hx
    rename_i ad
    simp only [Option.map_eq_some_iff] at hv
    obtain ⟨⟨p, r⟩, hb, rfl⟩ := hv
    obtain ⟨h1, h2, m', h3, h4, hrun⟩ := run_bounds (P := P) (w := w) (isS := true) hl hh hm hb (Nat.zero_le 0)
    have : p = 0 ∧ r = 0 ∧ m' = 0 := by omega
    obtain ⟨rfl, rfl, rfl⟩ := this
    have e : (Instr.slice t (.slice (some ad) 0 0) (lo.map ρ) (hi.map ρ) (mx.map ρ)).run P w = .ok (.slice (some ad) 0 0) w := by
      simp [Instr.slice, run_underlying hu, hrun, run_sizeOf hs]
    refine ⟨_, by rw [hst]; exact e, ?_⟩
    exact .szero
  | _ => cases hv
theorem nv_sstr {t : TypeId} {x : Operand} {lo hi : Option Operand} {l h : Option Int} {s : List UInt8} {a b : Nat} (hu : P.underlying t = some .string) (hl : OptR ρ lo l) (hh : OptR ρ hi h)
    (hx : VR j (.str s) (ρ x)) (hb : bounds s.length l h none = some (a, b)) : NV P (Instr.sliceAt t (ρ x) (lo.map ρ) (hi.map ρ) none) j w id (.str ((s.take b).drop a)) none := by
  obtain ⟨q, hq, rfl⟩ := hx.str_inv
  have hlen : q.data.toList.length = q.size := by rw [Array.length_toList]; rfl
  rw [hlen] at hb
  obtain ⟨h1, h2, m', h3, h4, hrun⟩ := run_bounds (P := P) (w := w) (ρ := ρ) (mx := none) (isS := false) hl hh (by trivial) hb (Nat.le_refl _)
  rw [hq]
  refine ⟨.string (q.extract a b), by simp [Instr.sliceAt, Instr.slice, run_underlying hu]; rw [show (Option.map ρ none : Option Value) = none from rfl] at hrun; simp [hrun], str_of ?_⟩
  rw [Go.Lib.extract_data, List.drop_take]
theorem nv_sarr {t e : TypeId} {len size : Nat} {x : Operand} {lo hi mx : Option Operand} {l h m : Option Int} {b o p r : Nat} {v : AV} (hr : Rel P j H w) (hu : P.underlying t = some (.array len e)) (hs : sizeP P e = some size) (hl : OptR ρ lo l) (hh : OptR ρ hi h)
    (hm : OptR ρ mx m) (hx : VR j (.ptr b o) (ρ x)) (hld : Abs.loadC H b o (some (len * size)) = some v) (hb : bounds len l h m = some (p, r)) :
    NV P (Instr.sliceAt t (ρ x) (lo.map ρ) (hi.map ρ) (mx.map ρ)) j w id (if r = p then AV.sempty else .slice b (o + p * size) (r - p) size) none := by
  obtain ⟨c, z, hq, hc⟩ := hx.ptr_inv
  obtain ⟨h1, h2, m', h3, h4, hrun⟩ := run_bounds (P := P) (w := w) (isS := false) hl hh hm hb (Nat.le_refl _)
  rw [hq]
  have e : (Instr.sliceAt t (.pointer (some ⟨c, o, none⟩)) (lo.map ρ) (hi.map ρ) (mx.map ρ)).run P w = .ok (.slice (some (if m' = p then ⟨c, o, none⟩ else ⟨c, o + p * size, none⟩)) (r - p) (m' - p)) w := by
    simp [Instr.sliceAt, run_underlying hu, Instr.sureAddr, hrun, run_sizeOf hs, add_none]
  refine ⟨_, e, ?_⟩
  by_cases hrp : r = p
  · rw [if_pos hrp, hrp, Nat.sub_self]
    exact .sempty
  · rw [if_neg hrp, if_neg (by omega)]
    refine .slice hc (by omega) ?_
    simp only [Abs.loadC] at hld
    split at hld
    · rename_i ro t' cs hbb
      split at hld
      · rename_i hle
        obtain ⟨x', fz, hx', hzz, hle2, _⟩ := hr.cells hbb hc
        have e1 : p * size + (m' - p) * size = m' * size := by rw [← Nat.add_mul]; congr 1; omega
        have e2 : m' * size ≤ len * size := Nat.mul_le_mul_right _ h4
        omega
      · cases hld
    · rename_i g hbb
      split at hld
      · cases hld
      rename_i hne
      simp only [Option.map_eq_some_iff] at hld
      obtain ⟨l, hg, _⟩ := hld
      have hlen := rowGet_len hg
      have hlast := rowGet_at hg (len * size - 1) (by omega)
      have h5 := hr.row_lt hbb hc (hlast.trans (List.getElem?_eq_getElem (by omega)))
      have e1 : p * size + (m' - p) * size = m' * size := by rw [← Nat.add_mul]; congr 1; omega
      have e2 : m' * size ≤ len * size := Nat.mul_le_mul_right _ h4
      omega
    · cases hld
end
end Go.Proofs.YtllkdoefonehoaaGreatDoor.Abs
