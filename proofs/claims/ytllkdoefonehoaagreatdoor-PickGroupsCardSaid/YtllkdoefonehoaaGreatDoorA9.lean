/- The quiet steps that make memory, and the rest. No condition. -/
import Derived.Test.YtllkdoefonehoaaGreatDoorA8
import Derived.Laws.Tables
import Derived.Laws.MakeOwn
import Derived.Laws.BytesString
import Derived.Great.BuildSlice
set_option linter.unusedVariables false
set_option linter.unusedSimpArgs false
namespace Go.Proofs.YtllkdoefonehoaaGreatDoor.Abs
open Go Go.RowKit

/-! ### Parts put in their places -/
def setRangeV (l : List Value) (off : Nat) : List Value → List Value
  | [] => l
  | v :: vs => setRangeV (l.set off v) (off + 1) vs
theorem VRs.setRange {j : Inj} : ∀ {vs : List AV} {ws : List Value} {l : List AV} {r : List Value} (o : Nat), VRs j l r → VRs j vs ws → VRs j (Abs.setRange l o vs) (setRangeV r o ws)
  | [], ws, l, r, o, h, hv => by rw [hv.nil_right]; exact h
  | v :: vs, ws, l, r, o, h, hv => by
    obtain ⟨u, us, rfl, hu, hus⟩ := hv.cons_left
    exact VRs.setRange (o + 1) (h.set o hu) hus
theorem setRangeV_length : ∀ (vs l : List Value) (o : Nat), (setRangeV l o vs).length = l.length
  | [], l, o => rfl
  | v :: vs, l, o => by rw [setRangeV, setRangeV_length vs]; simp
theorem setRange_length : ∀ (vs l : List AV) (o : Nat), (setRange l o vs).length = l.length
  | [], l, o => rfl
  | v :: vs, l, o => by rw [setRange, setRange_length vs]; simp
theorem foldl_setRange : ∀ (vs : List Value) (k off : Nat) (cells : Array Value), ((vs.zipIdx k).foldl (fun cs (x : Value × Nat) => cs.setIfInBounds (off + x.2) x.1) cells).toList = setRangeV cells.toList (off + k) vs
  | [], k, off, cells => rfl
  | v :: vs, k, off, cells => by
    rw [List.zipIdx_cons, List.foldl_cons, foldl_setRange vs (k + 1) off]
    simp [setRangeV, Nat.add_assoc]
theorem VRs.size {j : Inj} {l : List AV} {r : Array Value} (h : VRs j l r.toList) : l.length = r.size := by have := h.1; simpa using this

section
variable {P : Program} {j : Inj} {w : World} {id : Nat} {ev : IOpd → AV} {ρ : Operand → Value} {H : AH}

theorem fill_sound {place : Nat → Option (Nat × Nat)} (he : EvR P j ev ρ) : ∀ (ps : List (Nat × Operand)) (is : List (Nat × Nat × IOpd)) (l l' : List AV) (c : Array Value), compParts P place ps = some is → VRs j l c.toList →
    fillA l (is.map fun (o, s, x) => (o, s, ev x)) = some l' → ∃ c' : Array Value, Instr.fill place c (ps.map fun (i, x) => (i, ρ x)) = some c' ∧ VRs j l' c'.toList
  | [], is, l, l', c, hc, hl, hf => by
    cases hc; cases hf
    exact ⟨c, rfl, hl⟩
  | (i, x) :: ps, is, l, l', c, hc, hl, hf => by
    simp only [compParts, Option.bind_eq_some_iff, Option.map_eq_some_iff] at hc
    obtain ⟨⟨o, s⟩, hp, a, ha, is', his, rfl⟩ := hc
    simp only [List.map_cons, fillA] at hf
    split at hf
    · rename_i hcond
      obtain ⟨h1, h2⟩ := hcond
      have hv := (he x a ha).cells
      have hlen := hv.size
      have hl1 := hl.size
      have hset : VRs j (Abs.setRange l o (ev a).cells) ((ρ x).cells.zipIdx.foldl (fun cs (c, k) => cs.setIfInBounds (o + k) c) c).toList := by
        have e : ((ρ x).cells.zipIdx.foldl (fun cs (c, k) => cs.setIfInBounds (o + k) c) c).toList = setRangeV c.toList (o + 0) (ρ x).cells.toList := by
          rw [← foldl_setRange (ρ x).cells.toList 0 o c, ← Array.foldl_toList, Array.toList_zipIdx]
        rw [e]
        exact VRs.setRange o hl hv
      obtain ⟨c', hc', hl'⟩ := fill_sound he ps is' _ l' _ his hset hf
      refine ⟨c', ?_, hl'⟩
      simp only [List.map_cons, Instr.fill, hp]
      rw [if_neg (by simp only [Bool.or_eq_true, bne_iff_ne, ne_eq, decide_eq_true_eq, not_or, Decidable.not_not, Nat.not_lt]; omega)]
      exact hc'
    · cases hf

theorem zeroP_inv {t : TypeId} {z : AV} (h : zeroP P t = some z) : ∃ i v, P.info? t = some i ∧ i.zero = some v ∧ VR j z v := by
  simp only [zeroP, Option.bind_eq_some_iff] at h
  obtain ⟨i, hi, v, hv, hz⟩ := h
  exact ⟨i, v, hi, hv, ofV_sound hz⟩
theorem VR.agg_of {z : AV} {v : Value} (h : VR j z v) (h1 : z.one = false) : z.cells.length = v.cells.size := by
  exact h.cells.size

theorem nv_build_struct {t : TypeId} {fs : Array Field} {pl : List (Nat × Nat)} {parts : Array (Nat × Operand)} {is : List (Nat × Nat × IOpd)} {z : AV} {l : List AV} (he : EvR P j ev ρ) (hz : zeroP P t = some z) (hu : P.underlying t = some (.struct fs))
    (hp : places P fs.toList = some pl) (hc : compParts P (pl.toArray[·]?) parts.toList = some is) (h : fillA z.cells (is.map fun (o, s, x) => (o, s, ev x)) = some l) : NV P (Instr.build t (parts.map fun (i, x) => (i, ρ x))) j w id (.agg l) none := by
  obtain ⟨i, v, hi, hv, hzv⟩ := zeroP_inv (j := j) hz
  obtain ⟨c', hf, hl⟩ := fill_sound he parts.toList is z.cells l v.cells hc hzv.cells h
  refine ⟨.agg c', run_build w t _ c' ?_, .agg_list hl⟩
  unfold places at hp
  rw [Array.toList_map]
  simp only [Program.built, hi, hu, hv, hp]
  exact hf
theorem nv_build_array {t e : TypeId} {n s : Nat} {parts : Array (Nat × Operand)} {is : List (Nat × Nat × IOpd)} {z : AV} {l : List AV} (he : EvR P j ev ρ) (hz : zeroP P t = some z) (hu : P.underlying t = some (.array n e))
    (hs : sizeP P e = some s) (hc : compParts P (fun i => some (i * s, s)) parts.toList = some is) (h : fillA z.cells (is.map fun (o, s, x) => (o, s, ev x)) = some l) : NV P (Instr.build t (parts.map fun (i, x) => (i, ρ x))) j w id (.agg l) none := by
  obtain ⟨i, v, hi, hv, hzv⟩ := zeroP_inv (j := j) hz
  simp only [sizeP, Option.map_eq_some_iff] at hs
  obtain ⟨ie, hie, rfl⟩ := hs
  obtain ⟨c', hf, hl⟩ := fill_sound he parts.toList is z.cells l v.cells hc hzv.cells h
  refine ⟨.agg c', run_build w t _ c' ?_, .agg_list hl⟩
  rw [Array.toList_map]
  simp only [Program.built, hi, hu, hv, hie]
  exact hf

/-! ### New memory -/
theorem orel_cells {t : TypeId} {l : List AV} {c : Array Value} (h : VRs j l c.toList) : ORel j (.cells false t l) (.cells c t (0, 0)) := by
  have := h.size
  exact ⟨rfl, by omega, fun i a v ha hv => h.2 i a v ha (by simpa using hv), fun _ => .inl (Nat.le_refl _)⟩
theorem nv_newVar {t : TypeId} {a : AV} {u : Value} (h : VR j a u) : NV P (do pure (.pointer (some (← newVar t u)))) j w id (.ptr id 0) (some (.cells false t a.cells)) :=
  ⟨.pointer (some ⟨w.heap.size, 0, none⟩), .cells u.cells t, { w with heap := w.heap.push (.cells u.cells t) }, by simp [newVar, newRow], rfl, rfl, rfl, rfl, orel_cells h.cells, rfl, fun j' hj hid => .ptr hid⟩
theorem nv_alloc {t : TypeId} {z : AV} (h : zeroP P t = some z) : NV P (Instr.alloc t true (.tuple #[])) j w id (.ptr id 0) (some (.cells false t z.cells)) := by
  obtain ⟨v, hv, hr⟩ := run_zeroValue h w
  have := nv_newVar (P := P) (w := w) (id := id) (t := t) (ofV_sound (j := j) hv)
  obtain ⟨vc, x, w', h1, h2⟩ := this
  refine ⟨vc, x, w', ?_, h2⟩
  simp only [Instr.alloc, Sem.run_bind, hr, Result.andThen_ok]
  simpa using h1
theorem flatten_get (z : List AV) : ∀ (n i : Nat), i < n * z.length → (List.replicate n z).flatten[i]? = z[i % z.length]?
  | 0, i, h => by simp at h
  | n + 1, i, h => by
    rw [List.replicate_succ, List.flatten_cons]
    by_cases hi : i < z.length
    · rw [List.getElem?_append_left hi, Nat.mod_eq_of_lt hi]
    · rw [List.getElem?_append_right (by omega), flatten_get z n (i - z.length) (by rw [Nat.succ_mul] at h; omega), ← Nat.mod_eq_sub_mod (by omega)]
theorem zeros_eq (z : List AV) (n : Nat) : zeros z n = (List.replicate n z).flatten := by
  unfold zeros
  split
  · induction n with
    | zero => rfl
    | succ n ih => rw [List.replicate_succ, List.replicate_succ, List.flatten_cons, ih]; rfl
  · rfl
theorem zeros_length (z : List AV) (n : Nat) : (zeros z n).length = n * z.length := by
  rw [zeros_eq, List.length_flatten, List.map_replicate, List.sum_replicate_nat]
theorem zeros_sound {z : List AV} {c : Array Value} (h : VRs j z c.toList) (n : Nat) : VRs j (zeros z n) (madeCells c (n * z.length)).toList := by
  refine ⟨by rw [zeros_length]; simp [size_madeCells], fun i a b ha hb => ?_⟩
  have hi : i < n * z.length := by have := (List.getElem?_eq_some_iff.1 ha).1; rwa [zeros_length] at this
  have hz : 0 < z.length := Nat.pos_of_ne_zero fun e => by rw [e] at hi; simp at hi
  rw [zeros_eq, flatten_get z n i hi] at ha
  have hlen := h.size
  have hm : i % z.length < z.length := Nat.mod_lt _ hz
  have hb' : c[i % z.length]? = some b := by
    rw [Array.getElem?_toList, madeCells, Array.getElem?_map, Array.getElem?_range, if_pos hi] at hb
    simp only [Option.map_some, Option.some.injEq] at hb
    rw [← hlen, getElem!_pos c (i % z.length) (by omega)] at hb
    rw [← hb]
    exact Array.getElem?_eq_getElem _
  exact h.2 _ a b ha (by simpa using hb')
theorem nv_mks {t e : TypeId} {s b : Nat} {z : AV} {kl kc : IntKind} {l c : Int} {ul uc : Value} (hu : P.underlying t = some (.slice e)) (hs : sizeP P e = some s) (hb : bytesP P e = some b) (hz : zeroP P e = some z) (hzs : z.cells.length = s)
    (hl : VR j (.int kl l) ul) (hc : VR j (.int kc c) uc) (h0 : 0 ≤ l) (h1 : l ≤ c) (h2 : c ≤ 281474976710656) (h3 : c * b ≤ 281474976710656) :
    NV P (Instr.makeSlice t ul uc) j w id (.slice id 0 l.toNat s) (some (.cells false e (zeros z.cells l.toNat))) := by
  cases hl.int_inv
  cases hc.int_inv
  obtain ⟨i, v, hi, hv, hzv⟩ := zeroP_inv (j := j) hz
  simp only [sizeP, hi, Option.map_some, Option.some.injEq] at hs
  simp only [bytesP, hi, Option.map_some, Option.some.injEq] at hb
  have hr := run_make (P := P) w t e i v hu hi hv kl kc l c h0 h1 (by rw [hb, Int.mul_comm]; exact h3) (by omega)
  have hlen := hzv.cells.size
  have hzz := zeros_sound hzv.cells c.toNat
  rw [hzs, ← hs] at hzz
  refine ⟨_, .cells (madeCells v.cells (c.toNat * i.size)) e, _, hr, rfl, rfl, rfl, rfl, ?_, rfl, fun j' hj hid => .slice hid (by omega) (by simp only [csize, size_madeCells]; rw [hs]; omega)⟩
  refine ⟨rfl, ?_, fun k a u ha hu' => ?_, fun _ => .inl (Nat.le_refl _)⟩
  · rw [zeros_length, size_madeCells, hzs, ← hs]
    exact Nat.mul_le_mul_right _ (by omega)
  · have hk : k < l.toNat * z.cells.length := by have := (List.getElem?_eq_some_iff.1 ha).1; rwa [zeros_length] at this
    have hk2 : k < c.toNat * z.cells.length := Nat.lt_of_lt_of_le hk (Nat.mul_le_mul_right _ (by omega))
    rw [zeros_eq, flatten_get _ _ _ hk] at ha
    refine hzz.2 k a u ?_ (by simpa using hu')
    rw [zeros_eq, flatten_get _ _ _ hk2]
    exact ha
theorem fillA_length : ∀ (ps : List (Nat × Nat × AV)) (l l' : List AV), fillA l ps = some l' → l'.length = l.length
  | [], l, l', h => by cases h; rfl
  | (o, s, v) :: ps, l, l', h => by
    simp only [fillA] at h
    split at h
    · rw [fillA_length ps _ _ h, setRange_length]
    · cases h
theorem nv_bsl {t e : TypeId} {s len : Nat} {parts : Array (Nat × Operand)} {is : List (Nat × IOpd)} {z : AV} {l : List AV} (he : EvR P j ev ρ) (hu : P.underlying t = some (.slice e)) (hs : sizeP P e = some s) (hz : zeroP P e = some z)
    (hzs : z.cells.length = s) (hsm : len * s ≤ 2 ^ 24) (hc : compSParts P parts.toList = some is) (h : fillA (zeros z.cells len) (is.map fun (o, x) => (o * s, s, ev x)) = some l) :
    NV P (Instr.buildSlice t len (parts.map fun (i, x) => (i, ρ x))) j w id (.slice id 0 len s) (some (.cells false e l)) := by
  obtain ⟨i, v, hi, hv, hzv⟩ := zeroP_inv (j := j) hz
  simp only [sizeP, hi, Option.map_some, Option.some.injEq] at hs
  have hc' : ∀ (ps : List (Nat × Operand)) (is : List (Nat × IOpd)), compSParts P ps = some is → compParts P (fun i => some (i * s, s)) ps = some (is.map fun (o, x) => (o * s, s, x)) := by
    intro ps
    induction ps with
    | nil => intro is h; cases h; rfl
    | cons p ps ih =>
      obtain ⟨k, x⟩ := p
      intro is h
      simp only [compSParts, Option.bind_eq_some_iff, Option.map_eq_some_iff] at h
      obtain ⟨a, ha, is', his, rfl⟩ := h
      simp [compParts, ha, ih is' his]
  have hlen := hzv.cells.size
  have h0 := zeros_sound hzv.cells len
  rw [hzs, ← hs] at h0
  obtain ⟨c', hf, hl⟩ := fill_sound (j := j) he parts.toList _ (zeros z.cells len) l (madeCells v.cells (len * i.size)) (hc' _ _ hc) h0 (by rw [List.map_map]; exact h)
  refine ⟨.slice (some ⟨w.heap.size, 0, none⟩) len len, .cells c' e, { w with heap := w.heap.push (.cells c' e) }, ?_, rfl, rfl, rfl, rfl, orel_cells hl, rfl, fun j' hj hid => .slice hid (Nat.le_refl _) ?_⟩
  rotate_left
  · have h1 := hl.size
    have h2 := fillA_length _ _ _ h
    rw [zeros_length, hzs] at h2
    simp only [csize]
    omega
  have hf' : Instr.fill (fun i_1 => some (i_1 * i.size, i.size)) (madeCells v.cells (len * i.size)) (parts.map fun (i, x) => (i, ρ x)).toList = some c' := by
    rw [Array.toList_map, hs]
    rw [hs] at hf
    exact hf
  have hbig : ¬ len * i.size > 2 ^ 24 := by rw [hs]; omega
  by_cases hn : len * i.size = 0
  · have e0 : madeCells v.cells (len * i.size) = #[] := by
      rw [hn]; simp [madeCells, Array.range]
    rw [e0] at hf'
    simp only [Instr.buildSlice, Sem.run_bind, run_underlying hu, Result.andThen_ok, sizeOf, typeInfo, run_program, hi, Sem.run_pure]
    rw [if_neg hbig, if_pos hn, hn]
    simp only [Sem.run_bind, Sem.run_pure, Result.andThen_ok]
    have hr : Array.map (fun (x : Nat) => (#[] : Array Value)[x % (#[] : Array Value).size]!) (Array.range 0) = #[] := by simp
    rw [hr, hf']
    simp [newRow]
  · simp only [madeCells] at hf'
    exact run_buildSlice w t e len _ c' i v hu hi hv hbig hn hf'
end
end Go.Proofs.YtllkdoefonehoaaGreatDoor.Abs
