/- The quiet steps: what they are compiled from, and that the model's operation comes to their answer. No condition. -/
import Derived.Test.YtllkdoefonehoaaGreatDoorA2
import Derived.RowKit
import Derived.Laws.Cells
set_option linter.unusedVariables false
set_option linter.unusedSimpArgs false
namespace Go.Proofs.YtllkdoefonehoaaGreatDoor.Abs
open Go Go.RowKit

def ofV1 : Value → Option AV
  | .bool b => some (.bool b)
  | .int k n => some (.int k n)
  | .string s => some (.str s.data.toList)
  | .pointer none => some .pnil
  | .slice none 0 0 => some .snil
  | .map none => some .mnil
  | .nilFunc => some .nilFunc
  | .nilIface => some .nilIface
  | _ => none
def ofVs : List Value → Option (List AV)
  | [] => some []
  | v :: l => (ofV1 v).bind fun a => (ofVs l).map (a :: ·)
def ofV : Value → Option AV
  | .agg cs => (ofVs cs.toList).map .agg
  | .tuple cs => if cs.isEmpty then some .undef else none
  | v => ofV1 v
theorem ofV1_sound {j : Inj} {v : Value} {a : AV} (h : ofV1 v = some a) : VR j a v := by
  unfold ofV1 at h
  split at h <;> cases h <;> constructor
theorem ofVs_sound {j : Inj} : ∀ {l : List Value} {as : List AV}, ofVs l = some as → VRs j as l
  | [], as, h => by cases h; exact .nil
  | v :: l, as, h => by
    simp only [ofVs, Option.bind_eq_some_iff, Option.map_eq_some_iff] at h
    obtain ⟨a, ha, as', has, rfl⟩ := h
    exact .cons (ofV1_sound ha) (ofVs_sound has)
theorem ofV_sound {j : Inj} {v : Value} {a : AV} (h : ofV v = some a) : VR j a v := by
  unfold ofV at h
  split at h
  · simp only [Option.map_eq_some_iff] at h
    obtain ⟨l, hl, rfl⟩ := h
    exact .agg_list (ofVs_sound hl)
  · rename_i cs
    split at h
    · rename_i he
      cases h
      have : cs = #[] := by simpa using he
      subst this
      exact .undef
    · cases h
  · exact ofV1_sound h

def compO (P : Program) : Operand → Option IOpd
  | .tmp t => some (.tmp t)
  | .const v => (ofV v).map .const
  | .global g => if g < P.globals.size then some (.const (.ptr g 0)) else none
  | .func f => some (.const (.func (.func f) [] []))
def compOs (P : Program) : List Operand → Option (List IOpd)
  | [] => some []
  | x :: l => (compO P x).bind fun a => (compOs P l).map (a :: ·)
def compOp (P : Program) : Option Operand → Option (Option IOpd)
  | none => some none
  | some x => (compO P x).map some

structure TR (j : Inj) (N : Nat) (tm : Tms) (a : Act) : Prop where
  defers : a.defers = []
  size : a.tmps.size = N
  tmps : ∀ t, VR j (tm t) (a.tmps.getD t Go.undef)
theorem TR.mono {j j' : Inj} (hj : j.le j') {N : Nat} {tm : Tms} {a : Act} (h : TR j N tm a) : TR j' N tm a := ⟨h.defers, h.size, fun t => (h.tmps t).mono hj⟩

/-- All operands stand for their values. -/
def EvR (P : Program) (j : Inj) (ev : IOpd → AV) (ρ : Operand → Value) : Prop := ∀ x i, compO P x = some i → VR j (ev i) (ρ x)
theorem EvR.of {P : Program} {j : Inj} {N : Nat} {tm : Tms} {a : Act} (h : TR j N tm a) (hg : ∀ g, g < P.globals.size → ∃ z, j g = some (g, z)) : EvR P j (·.ev tm) a.eval := by
  intro x i hx
  cases x with
  | tmp t => cases hx; exact h.tmps t
  | const v =>
    simp only [compO, Option.map_eq_some_iff] at hx
    obtain ⟨b, hb, rfl⟩ := hx
    exact ofV_sound hb
  | global g =>
    simp only [compO] at hx
    split at hx
    · cases hx
      obtain ⟨z, hz⟩ := hg g ‹_›
      exact .ptr hz
    · cases hx
  | func f =>
    cases hx
    exact .func rfl rfl (by simp) rfl (by simp)
theorem EvR.mono {P : Program} {j j' : Inj} (hj : j.le j') {ev : IOpd → AV} {ρ : Operand → Value} (h : EvR P j ev ρ) : EvR P j' ev ρ := fun x i hx => (h x i hx).mono hj
theorem EvR.list {P : Program} {j : Inj} {ev : IOpd → AV} {ρ : Operand → Value} (h : EvR P j ev ρ) : ∀ {xs : List Operand} {is : List IOpd}, compOs P xs = some is → VRs j (is.map ev) (xs.map ρ)
  | [], is, hx => by cases hx; exact .nil
  | x :: xs, is, hx => by
    simp only [compOs, Option.bind_eq_some_iff, Option.map_eq_some_iff] at hx
    obtain ⟨i, hi, is', his, rfl⟩ := hx
    exact .cons (h x i hi) (h.list his)

def sizeP (P : Program) (t : TypeId) : Option Nat := (P.info? t).map (·.size)
def bytesP (P : Program) (t : TypeId) : Option Nat := (P.info? t).map (·.bytes)
/-- none: a value of one cell; some n: n cells. -/
def aggP (P : Program) (t : TypeId) : Option (Option Nat) :=
  match P.underlying t with
  | some (.struct _) => (sizeP P t).map some
  | some (.array _ _) => (sizeP P t).map some
  | some _ => some none
  | none => none
def zeroP (P : Program) (t : TypeId) : Option AV := (P.info? t).bind fun i => i.zero.bind ofV

theorem run_typeInfo {P : Program} {t : TypeId} {i : TypeInfo} (h : P.info? t = some i) (w : World) : (typeInfo t).run P w = .ok i w := by
  simp [typeInfo, h]
theorem run_underlying {P : Program} {t : TypeId} {d : TypeDesc} (h : P.underlying t = some d) (w : World) : (underlying t).run P w = .ok d w := by
  simp [underlying, h]
theorem run_sizeOf {P : Program} {t : TypeId} {n : Nat} (h : sizeP P t = some n) (w : World) : (sizeOf t).run P w = .ok n w := by
  simp only [sizeP, Option.map_eq_some_iff] at h
  obtain ⟨i, hi, rfl⟩ := h
  simp [sizeOf, run_typeInfo hi]
theorem run_zeroValue {P : Program} {t : TypeId} {z : AV} (h : zeroP P t = some z) (w : World) : ∃ v, ofV v = some z ∧ (zeroValue t).run P w = .ok v w := by
  simp only [zeroP, Option.bind_eq_some_iff] at h
  obtain ⟨i, hi, v, hv, hz⟩ := h
  exact ⟨v, hz, by simp [zeroValue, run_typeInfo hi, hv]⟩
theorem run_isAgg {P : Program} {t : TypeId} {r : Option Nat} (h : aggP P t = some r) (w : World) : (isAgg t).run P w = .ok r.isSome w ∧ (∀ n, r = some n → (sizeOf t).run P w = .ok n w) := by
  unfold aggP at h
  split at h
  · rename_i fs hu
    simp only [Option.map_eq_some_iff] at h
    obtain ⟨n, hn, rfl⟩ := h
    exact ⟨by simp [isAgg, run_underlying hu], fun m hm => by cases hm; exact run_sizeOf hn w⟩
  · rename_i n e hu
    simp only [Option.map_eq_some_iff] at h
    obtain ⟨n, hn, rfl⟩ := h
    exact ⟨by simp [isAgg, run_underlying hu], fun m hm => by cases hm; exact run_sizeOf hn w⟩
  · rename_i d h1 h2 hu
    cases h
    refine ⟨?_, fun m hm => by cases hm⟩
    simp only [isAgg, Sem.run_bind, run_underlying hu, Result.andThen_ok]
    rfl
  · cases h

/-! ### Reading memory -/
theorem cell_of {w : World} {c : Nat} {x : Array Value} {t : TypeId} {fz : Nat × Nat} (h : w.heap[c]? = some (.cells x t fz)) (o : Nat) : w.cell? ⟨c, o, none⟩ = x[o]? := by
  simp [World.cell?, h]
theorem add_none (c o k : Nat) : (⟨c, o, none⟩ : Addr).add k = ⟨c, o + k, none⟩ := by unfold Addr.add; split <;> simp_all
/-- The cells of a block that stands for one of H. -/
theorem Rel.cells {P : Program} {j : Inj} {H : AH} {w : World} (h : Rel P j H w) {b c z : Nat} {ro : Bool} {t : TypeId} {cs : List AV} (hb : H.at_ b = some (.cells ro t cs)) (hc : j b = some (c, z)) :
    ∃ x fz, w.heap[c]? = some (.cells x t fz) ∧ x.size = z ∧ cs.length ≤ x.size ∧ VRs j cs (x.toList.take cs.length) ∧ (ro = false → fz.2 ≤ fz.1 ∨ x.size ≤ fz.1) := by
  obtain ⟨c', y, hc', hy, ho⟩ := h.obj b _ hb
  rw [hc] at hc'
  cases hc'
  cases y <;> simp only [ORel] at ho
  rename_i x t' fz
  obtain ⟨rfl, hl, hv, hf⟩ := ho
  refine ⟨x, fz, hy, rfl, hl, ⟨by simp; omega, fun i a v ha hx => hv i a v ha ?_⟩, hf⟩
  have hi : i < cs.length := (List.getElem?_eq_some_iff.1 ha).1
  rw [List.getElem?_take, if_pos hi] at hx
  simpa using hx
theorem rowGet_len {g : Nat → Option AV} {o : Nat} : ∀ {n : Nat} {l : List AV}, rowGet g o n = some l → l.length = n
  | 0, l, h => by cases h; rfl
  | n + 1, l, h => by
    simp only [rowGet, Option.bind_eq_some_iff, Option.map_eq_some_iff] at h
    obtain ⟨l', h1, v, _, rfl⟩ := h
    simp [rowGet_len h1]
theorem rowGet_at {g : Nat → Option AV} {o : Nat} : ∀ {n : Nat} {l : List AV}, rowGet g o n = some l → ∀ i, i < n → g (o + i) = l[i]?
  | 0, l, h, i, hi => by omega
  | n + 1, l, h, i, hi => by
    simp only [rowGet, Option.bind_eq_some_iff, Option.map_eq_some_iff] at h
    obtain ⟨l', h1, v, h2, rfl⟩ := h
    have hl := rowGet_len h1
    by_cases e : i = n
    · subst e; rw [h2, List.getElem?_append_right (by omega), hl]; simp
    · rw [List.getElem?_append_left (by omega)]; exact rowGet_at h1 i (by omega)
theorem Rel.row_lt {P : Program} {j : Inj} {H : AH} {w : World} (h : Rel P j H w) {b c z : Nat} {g : Nat → Option AV} (hb : H.at_ b = some (.row g)) (hc : j b = some (c, z)) {i : Nat} {a : AV} (hi : g i = some a) : i < z := by
  obtain ⟨c', y, hc', hy, ho⟩ := h.obj b _ hb
  rw [hc] at hc'
  cases hc'
  cases y <;> simp only [ORel] at ho
  obtain ⟨v, hv, hr⟩ := ho i a hi
  exact (Array.getElem?_eq_some_iff.1 hv).1
/-- A row's cells in the world. -/
theorem Rel.row {P : Program} {j : Inj} {H : AH} {w : World} (h : Rel P j H w) {b c z : Nat} {g : Nat → Option AV} (hb : H.at_ b = some (.row g)) (hc : j b = some (c, z)) : ∀ i a, g i = some a → ∃ v, w.cell? ⟨c, i, none⟩ = some v ∧ VR j a v := by
  obtain ⟨c', y, hc', hy, ho⟩ := h.obj b _ hb
  rw [hc] at hc'
  cases hc'
  cases y <;> simp only [ORel] at ho
  intro i a hi
  obtain ⟨v, hv, hr⟩ := ho i a hi
  exact ⟨v, by rw [cell_of hy]; exact hv, hr⟩
theorem Rel.rows {P : Program} {j : Inj} {H : AH} {w : World} (h : Rel P j H w) {b c z : Nat} {g : Nat → Option AV} (hb : H.at_ b = some (.row g)) (hc : j b = some (c, z)) {o : Nat} : ∀ (n : Nat) (l : List AV), rowGet g o n = some l →
    ∃ us : List Value, us.length = n ∧ VRs j l us ∧ ∀ i u, us[i]? = some u → w.cell? ⟨c, o + i, none⟩ = some u
  | 0, l, hg => by
    cases hg
    exact ⟨[], rfl, .nil, by simp⟩
  | n + 1, l, hg => by
    simp only [rowGet, Option.bind_eq_some_iff, Option.map_eq_some_iff] at hg
    obtain ⟨l', h1, v, h2, rfl⟩ := hg
    obtain ⟨us, hl, hv, hcell⟩ := h.rows hb hc n l' h1
    obtain ⟨u, hu, hr⟩ := h.row hb hc _ _ h2
    refine ⟨us ++ [u], by simp [hl], ?_, fun i x hx => ?_⟩
    · refine ⟨by simp [hv.1], fun i a b ha hb => ?_⟩
      have hl' := rowGet_len h1
      by_cases e : i < l'.length
      · rw [List.getElem?_append_left e] at ha
        rw [List.getElem?_append_left (by omega)] at hb
        exact hv.2 i a b ha hb
      · rw [List.getElem?_append_right (by omega)] at ha
        rw [List.getElem?_append_right (by omega)] at hb
        have e0 : i - l'.length = 0 := by have := (List.getElem?_eq_some_iff.1 ha).1; simp at this; omega
        have e1 : i - us.length = 0 := by omega
        rw [e0] at ha
        rw [e1] at hb
        simp at ha hb
        rw [← ha, ← hb]
        exact hr
    · by_cases e : i < us.length
      · rw [List.getElem?_append_left e] at hx
        exact hcell i x hx
      · rw [List.getElem?_append_right (by omega)] at hx
        have e1 : i - us.length = 0 := by have := (List.getElem?_eq_some_iff.1 hx).1; simp at this; omega
        rw [e1] at hx
        simp at hx
        rw [← hx, show i = n by omega]
        exact hu
theorem Rel.loadC {P : Program} {j : Inj} {H : AH} {w : World} (h : Rel P j H w) {b c z o : Nat} {n : Option Nat} {v : AV} (hl : loadC H b o n = some v) (hc : j b = some (c, z)) :
    match n with
    | none => ∃ u, w.cell? ⟨c, o, none⟩ = some u ∧ VR j v u
    | some n => ∃ (us : List Value) (vs : List AV), v = .agg vs ∧ us.length = n ∧ VRs j vs us ∧ ∀ i u, us[i]? = some u → w.cell? ⟨c, o + i, none⟩ = some u := by
  cases n with
  | none =>
    simp only [Abs.loadC] at hl
    split at hl
    · rename_i ro t cs hb
      obtain ⟨x, fz, hx, hzz, hle, hvs, _⟩ := h.cells hb hc
      obtain ⟨u, hu, hvr⟩ := hvs.get hl
      refine ⟨u, ?_, hvr⟩
      rw [cell_of hx]
      rw [List.getElem?_take] at hu
      split at hu
      · simpa using hu
      · cases hu
    · rename_i g hb
      exact h.row hb hc o v hl
    · cases hl
  | some n =>
    simp only [Abs.loadC] at hl
    split at hl
    · rename_i ro t cs hb
      split at hl
      · rename_i hle2
        cases hl
        obtain ⟨x, fz, hx, hzz, hle, hvs, _⟩ := h.cells hb hc
        refine ⟨((x.toList.take cs.length).drop o).take n, _, rfl, by simp; omega, (hvs.drop o).take n, fun i u hu => ?_⟩
        rw [cell_of hx]
        rw [List.getElem?_take] at hu
        split at hu
        · rw [List.getElem?_drop, List.getElem?_take] at hu
          split at hu
          · simpa using hu
          · cases hu
        · cases hu
      · cases hl
    · rename_i g hb
      split at hl
      · cases hl
      simp only [Option.map_eq_some_iff] at hl
      obtain ⟨l, hg, rfl⟩ := hl
      obtain ⟨us, h1, h2, h3⟩ := h.rows hb hc n l hg
      exact ⟨us, l, rfl, h1, h2, h3⟩
    · cases hl
theorem run_loadCells_of {P : Program} {w : World} {c o : Nat} {us : List Value} (h : ∀ i u, us[i]? = some u → w.cell? ⟨c, o + i, none⟩ = some u) :
    (loadCells ⟨c, o, none⟩ us.length).run P w = .ok us.toArray w := by
  have := run_loadCells_list (P := P) (w := w) ⟨c, o, none⟩ us (fun i u hu => by rw [add_none]; exact h i u hu)
  simpa using this
theorem run_loadVar {P : Program} {j : Inj} {H : AH} {w : World} (h : Rel P j H w) {b c z o : Nat} {t : TypeId} {n : Option Nat} {v : AV} (ha : aggP P t = some n) (hl : Abs.loadC H b o n = some v) (hc : j b = some (c, z)) :
    ∃ u, (loadVar t ⟨c, o, none⟩).run P w = .ok u w ∧ VR j v u := by
  have hi := run_isAgg ha w
  have := h.loadC hl hc
  cases n with
  | none =>
    obtain ⟨u, hu, hv⟩ := this
    refine ⟨u, ?_, hv⟩
    simp [loadVar, hi.1, hu]
  | some n =>
    obtain ⟨us, vs, rfl, hlen, hvs, hcell⟩ := this
    refine ⟨.agg us.toArray, ?_, .agg_list (by simpa using hvs)⟩
    have := run_loadCells_of (P := P) hcell
    rw [hlen] at this
    simp [loadVar, hi.1, hi.2 n rfl, this]

end Go.Proofs.YtllkdoefonehoaaGreatDoor.Abs
