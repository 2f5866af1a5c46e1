/- Operands, sizes, temporaries; quiet steps. No condition. -/
import Derived.Test.YtcgkadfgojmmlaaDoorA2
import Derived.RowKit
import Derived.Laws.Cells
import Derived.Lib.Strings
set_option linter.unusedVariables false
set_option linter.unusedSimpArgs false
namespace Go.Proofs.YtcgkadfgojmmlaaDoor.Abs
open Go Go.RowKit

def ofV1 : Value → Option AV
  | .bool b => some (.bool b)
  | .int k n => some (.int k n)
  | .string s => some (.str s.data.toList)
  | .pointer none => some .pnil
  | .slice none 0 0 => some .snil
  | .map none => some .mnil
  | .nilFunc => some .nilFunc
  | .nilIface => some .nilIface
  | _ => none
def ofVs : List Value → Option (List AV)
  | [] => some []
  | v :: l => (ofV1 v).bind fun a => (ofVs l).map (a :: ·)
def ofV : Value → Option AV
  | .agg cs => (ofVs cs.toList).map .agg
  | .tuple cs => if cs.isEmpty then some .undef else none
  | v => ofV1 v
theorem ofV1_sound {j : Inj} {v : Value} {a : AV} (h : ofV1 v = some a) : VR j a v := by
  unfold ofV1 at h
  split at h <;> cases h <;> constructor
theorem ofVs_sound {j : Inj} : ∀ {l : List Value} {as : List AV}, ofVs l = some as → VRs j as l
  | [], as, h => by cases h; exact .nil
  | v :: l, as, h => by
    simp only [ofVs, Option.bind_eq_some_iff, Option.map_eq_some_iff] at h
    obtain ⟨a, ha, as', has, rfl⟩ := h
    exact .cons (ofV1_sound ha) (ofVs_sound has)
theorem ofV_sound {j : Inj} {v : Value} {a : AV} (h : ofV v = some a) : VR j a v := by
  unfold ofV at h
  split at h
  · simp only [Option.map_eq_some_iff] at h
    obtain ⟨l, hl, rfl⟩ := h
    exact .agg_list (ofVs_sound hl)
  · rename_i cs
    split at h
    · rename_i he
      cases h
      have : cs = #[] := by simpa using he
      subst this
      exact .undef
    · cases h
  · exact ofV1_sound h

def compO (P : Program) : Operand → Option IOpd
  | .tmp t => some (.tmp t)
  | .const v => (ofV v).map .const
  | .global g => if g < P.globals.size then some (.const (.ptr g 0)) else none
  | .func f => some (.const (.func (.func f) [] []))
def compOs (P : Program) : List Operand → Option (List IOpd)
  | [] => some []
  | x :: l => (compO P x).bind fun a => (compOs P l).map (a :: ·)
def compOp (P : Program) : Option Operand → Option (Option IOpd)
  | none => some none
  | some x => (compO P x).map some

structure TR (D : List Deferred) (j : Inj) (N : Nat) (tm : Tms) (a : Act) : Prop where
  defers : a.defers = D
  size : a.tmps.size = N
  tmps : ∀ t, VR j (tm t) (a.tmps.getD t Go.undef)
theorem TR.mono {D : List Deferred} {j j' : Inj} (hj : j.le j') {N : Nat} {tm : Tms} {a : Act} (h : TR D j N tm a) : TR D j' N tm a := ⟨h.defers, h.size, fun t => (h.tmps t).mono hj⟩

/-- All operands stand for their values. -/
def EvR (P : Program) (j : Inj) (ev : IOpd → AV) (ρ : Operand → Value) : Prop := ∀ x i, compO P x = some i → VR j (ev i) (ρ x)
theorem EvR.of {P : Program} {D : List Deferred} {j : Inj} {N : Nat} {tm : Tms} {a : Act} (h : TR D j N tm a) (hg : ∀ g, g < P.globals.size → ∃ z, j g = some (g, z)) : EvR P j (·.ev tm) a.eval := by
  intro x i hx
  cases x with
  | tmp t => cases hx; exact h.tmps t
  | const v =>
    simp only [compO, Option.map_eq_some_iff] at hx
    obtain ⟨b, hb, rfl⟩ := hx
    exact ofV_sound hb
  | global g =>
    simp only [compO] at hx
    split at hx
    · cases hx
      obtain ⟨z, hz⟩ := hg g ‹_›
      exact .ptr hz
    · cases hx
  | func f =>
    cases hx
    exact .func rfl rfl (by simp) rfl (by simp)
theorem EvR.mono {P : Program} {j j' : Inj} (hj : j.le j') {ev : IOpd → AV} {ρ : Operand → Value} (h : EvR P j ev ρ) : EvR P j' ev ρ := fun x i hx => (h x i hx).mono hj
theorem EvR.list {P : Program} {j : Inj} {ev : IOpd → AV} {ρ : Operand → Value} (h : EvR P j ev ρ) : ∀ {xs : List Operand} {is : List IOpd}, compOs P xs = some is → VRs j (is.map ev) (xs.map ρ)
  | [], is, hx => by cases hx; exact .nil
  | x :: xs, is, hx => by
    simp only [compOs, Option.bind_eq_some_iff, Option.map_eq_some_iff] at hx
    obtain ⟨i, hi, is', his, rfl⟩ := hx
    exact .cons (h x i hi) (h.list his)

def sizeP (P : Program) (t : TypeId) : Option Nat := (P.info? t).map (·.size)
def bytesP (P : Program) (t : TypeId) : Option Nat := (P.info? t).map (·.bytes)
/-- none: a value of one cell; some n: n cells. -/
def aggP (P : Program) (t : TypeId) : Option (Option Nat) :=
  match P.underlying t with
  | some (.struct _) => (sizeP P t).map some
  | some (.array _ _) => (sizeP P t).map some
  | some _ => some none
  | none => none
def zeroP (P : Program) (t : TypeId) : Option AV := (P.info? t).bind fun i => i.zero.bind ofV

theorem run_typeInfo {P : Program} {t : TypeId} {i : TypeInfo} (h : P.info? t = some i) (w : World) : (typeInfo t).run P w = .ok i w := by
  simp [typeInfo, h]
theorem run_underlying {P : Program} {t : TypeId} {d : TypeDesc} (h : P.underlying t = some d) (w : World) : (underlying t).run P w = .ok d w := by
  simp [underlying, h]
theorem run_sizeOf {P : Program} {t : TypeId} {n : Nat} (h : sizeP P t = some n) (w : World) : (sizeOf t).run P w = .ok n w := by
  simp only [sizeP, Option.map_eq_some_iff] at h
  obtain ⟨i, hi, rfl⟩ := h
  simp [sizeOf, run_typeInfo hi]
theorem run_zeroValue {P : Program} {t : TypeId} {z : AV} (h : zeroP P t = some z) (w : World) : ∃ v, ofV v = some z ∧ (zeroValue t).run P w = .ok v w := by
  simp only [zeroP, Option.bind_eq_some_iff] at h
  obtain ⟨i, hi, v, hv, hz⟩ := h
  exact ⟨v, hz, by simp [zeroValue, run_typeInfo hi, hv]⟩
theorem run_isAgg {P : Program} {t : TypeId} {r : Option Nat} (h : aggP P t = some r) (w : World) : (isAgg t).run P w = .ok r.isSome w ∧ (∀ n, r = some n → (sizeOf t).run P w = .ok n w) := by
  unfold aggP at h
  split at h
  · rename_i fs hu
    simp only [Option.map_eq_some_iff] at h
    obtain ⟨n, hn, rfl⟩ := h
    exact ⟨by simp [isAgg, run_underlying hu], fun m hm => by cases hm; exact run_sizeOf hn w⟩
  · rename_i n e hu
    simp only [Option.map_eq_some_iff] at h
    obtain ⟨n, hn, rfl⟩ := h
    exact ⟨by simp [isAgg, run_underlying hu], fun m hm => by cases hm; exact run_sizeOf hn w⟩
  · rename_i d h1 h2 hu
    cases h
    refine ⟨?_, fun m hm => by cases hm⟩
    simp only [isAgg, Sem.run_bind, run_underlying hu, Result.andThen_ok]
    rfl
  · cases h

/-! ### Reading memory -/
theorem cell_of {w : World} {c : Nat} {x : Array Value} {t : TypeId} {fz : Nat × Nat} (h : w.heap[c]? = some (.cells x t fz)) (o : Nat) : w.cell? ⟨c, o, none⟩ = x[o]? := by
  simp [World.cell?, h]
theorem add_none (c o k : Nat) : (⟨c, o, none⟩ : Addr).add k = ⟨c, o + k, none⟩ := by unfold Addr.add; split <;> simp_all
/-- The cells of a block that stands for one of H. -/
theorem Rel.cells {P : Program} {j : Inj} {H : AH} {w : World} (h : Rel P j H w) {b c z : Nat} {ro : Bool} {t : TypeId} {cs : List AV} (hb : H.at_ b = some (.cells ro t cs)) (hc : j b = some (c, z)) :
    ∃ x fz, w.heap[c]? = some (.cells x t fz) ∧ x.size = z ∧ cs.length ≤ x.size ∧ VRs j cs (x.toList.take cs.length) ∧ (ro = false → fz.2 ≤ fz.1 ∨ x.size ≤ fz.1) := by
  obtain ⟨c', y, hc', hy, ho⟩ := h.obj b _ hb
  rw [hc] at hc'
  cases hc'
  cases y <;> simp only [ORel] at ho
  rename_i x t' fz
  obtain ⟨rfl, hl, hv, hf⟩ := ho
  refine ⟨x, fz, hy, rfl, hl, ⟨by simp; omega, fun i a v ha hx => hv i a v ha ?_⟩, hf⟩
  have hi : i < cs.length := (List.getElem?_eq_some_iff.1 ha).1
  rw [List.getElem?_take, if_pos hi] at hx
  simpa using hx
theorem rowGet_len {g : Nat → Option AV} {o : Nat} : ∀ {n : Nat} {l : List AV}, rowGet g o n = some l → l.length = n
  | 0, l, h => by cases h; rfl
  | n + 1, l, h => by
    simp only [rowGet, Option.bind_eq_some_iff, Option.map_eq_some_iff] at h
    obtain ⟨l', h1, v, _, rfl⟩ := h
    simp [rowGet_len h1]
theorem rowGet_at {g : Nat → Option AV} {o : Nat} : ∀ {n : Nat} {l : List AV}, rowGet g o n = some l → ∀ i, i < n → g (o + i) = l[i]?
  | 0, l, h, i, hi => by omega
  | n + 1, l, h, i, hi => by
    simp only [rowGet, Option.bind_eq_some_iff, Option.map_eq_some_iff] at h
    obtain ⟨l', h1, v, h2, rfl⟩ := h
    have hl := rowGet_len h1
    by_cases e : i = n
    · subst e; rw [h2, List.getElem?_append_right (by omega), hl]; simp
    · rw [List.getElem?_append_left (by omega)]; exact rowGet_at h1 i (by omega)
theorem Rel.row_lt {P : Program} {j : Inj} {H : AH} {w : World} (h : Rel P j H w) {b c z : Nat} {g : Nat → Option AV} (hb : H.at_ b = some (.row g)) (hc : j b = some (c, z)) {i : Nat} {a : AV} (hi : g i = some a) : i < z := by
  obtain ⟨c', y, hc', hy, ho⟩ := h.obj b _ hb
  rw [hc] at hc'
  cases hc'
  cases y <;> simp only [ORel] at ho
  obtain ⟨v, hv, hr⟩ := ho i a hi
  exact (Array.getElem?_eq_some_iff.1 hv).1
/-- A row's cells in the world. -/
theorem Rel.row {P : Program} {j : Inj} {H : AH} {w : World} (h : Rel P j H w) {b c z : Nat} {g : Nat → Option AV} (hb : H.at_ b = some (.row g)) (hc : j b = some (c, z)) : ∀ i a, g i = some a → ∃ v, w.cell? ⟨c, i, none⟩ = some v ∧ VR j a v := by
  obtain ⟨c', y, hc', hy, ho⟩ := h.obj b _ hb
  rw [hc] at hc'
  cases hc'
  cases y <;> simp only [ORel] at ho
  intro i a hi
  obtain ⟨v, hv, hr⟩ := ho i a hi
  exact ⟨v, by rw [cell_of hy]; exact hv, hr⟩
theorem Rel.rows {P : Program} {j : Inj} {H : AH} {w : World} (h : Rel P j H w) {b c z : Nat} {g : Nat → Option AV} (hb : H.at_ b = some (.row g)) (hc : j b = some (c, z)) {o : Nat} : ∀ (n : Nat) (l : List AV), rowGet g o n = some l →
    ∃ us : List Value, us.length = n ∧ VRs j l us ∧ ∀ i u, us[i]? = some u → w.cell? ⟨c, o + i, none⟩ = some u
  | 0, l, hg => by
    cases hg
    exact ⟨[], rfl, .nil, by simp⟩
  | n + 1, l, hg => by
    simp only [rowGet, Option.bind_eq_some_iff, Option.map_eq_some_iff] at hg
    obtain ⟨l', h1, v, h2, rfl⟩ := hg
    obtain ⟨us, hl, hv, hcell⟩ := h.rows hb hc n l' h1
    obtain ⟨u, hu, hr⟩ := h.row hb hc _ _ h2
    refine ⟨us ++ [u], by simp [hl], ?_, fun i x hx => ?_⟩
    · refine ⟨by simp [hv.1], fun i a b ha hb => ?_⟩
      have hl' := rowGet_len h1
      by_cases e : i < l'.length
      · rw [List.getElem?_append_left e] at ha
        rw [List.getElem?_append_left (by omega)] at hb
        exact hv.2 i a b ha hb
      · rw [List.getElem?_append_right (by omega)] at ha
        rw [List.getElem?_append_right (by omega)] at hb
        have e0 : i - l'.length = 0 := by have := (List.getElem?_eq_some_iff.1 ha).1; simp at this; omega
        have e1 : i - us.length = 0 := by omega
        rw [e0] at ha
        rw [e1] at hb
        simp at ha hb
        rw [← ha, ← hb]
        exact hr
    · by_cases e : i < us.length
      · rw [List.getElem?_append_left e] at hx
        exact hcell i x hx
      · rw [List.getElem?_append_right (by omega)] at hx
        have e1 : i - us.length = 0 := by have := (List.getElem?_eq_some_iff.1 hx).1; simp at this; omega
        rw [e1] at hx
        simp at hx
        rw [← hx, show i = n by omega]
        exact hu
theorem Rel.loadC {P : Program} {j : Inj} {H : AH} {w : World} (h : Rel P j H w) {b c z o : Nat} {n : Option Nat} {v : AV} (hl : loadC H b o n = some v) (hc : j b = some (c, z)) :
    match n with
    | none => ∃ u, w.cell? ⟨c, o, none⟩ = some u ∧ VR j v u
    | some n => ∃ (us : List Value) (vs : List AV), v = .agg vs ∧ us.length = n ∧ VRs j vs us ∧ ∀ i u, us[i]? = some u → w.cell? ⟨c, o + i, none⟩ = some u := by
  cases n with
  | none =>
    simp only [Abs.loadC] at hl
    split at hl
    · rename_i ro t cs hb
      obtain ⟨x, fz, hx, hzz, hle, hvs, _⟩ := h.cells hb hc
      obtain ⟨u, hu, hvr⟩ := hvs.get hl
      refine ⟨u, ?_, hvr⟩
      rw [cell_of hx]
      rw [List.getElem?_take] at hu
      split at hu
      · simpa using hu
      · cases hu
    · rename_i g hb
      exact h.row hb hc o v hl
    · cases hl
  | some n =>
    simp only [Abs.loadC] at hl
    split at hl
    · rename_i ro t cs hb
      split at hl
      · rename_i hle2
        cases hl
        obtain ⟨x, fz, hx, hzz, hle, hvs, _⟩ := h.cells hb hc
        refine ⟨((x.toList.take cs.length).drop o).take n, _, rfl, by simp; omega, (hvs.drop o).take n, fun i u hu => ?_⟩
        rw [cell_of hx]
        rw [List.getElem?_take] at hu
        split at hu
        · rw [List.getElem?_drop, List.getElem?_take] at hu
          split at hu
          · simpa using hu
          · cases hu
        · cases hu
      · cases hl
    · rename_i g hb
      split at hl
      · cases hl
      simp only [Option.map_eq_some_iff] at hl
      obtain ⟨l, hg, rfl⟩ := hl
      obtain ⟨us, h1, h2, h3⟩ := h.rows hb hc n l hg
      exact ⟨us, l, rfl, h1, h2, h3⟩
    · cases hl
theorem run_loadCells_of {P : Program} {w : World} {c o : Nat} {us : List Value} (h : ∀ i u, us[i]? = some u → w.cell? ⟨c, o + i, none⟩ = some u) :
    (loadCells ⟨c, o, none⟩ us.length).run P w = .ok us.toArray w := by
  have := run_loadCells_list (P := P) (w := w) ⟨c, o, none⟩ us (fun i u hu => by rw [add_none]; exact h i u hu)
  simpa using this
theorem run_loadVar {P : Program} {j : Inj} {H : AH} {w : World} (h : Rel P j H w) {b c z o : Nat} {t : TypeId} {n : Option Nat} {v : AV} (ha : aggP P t = some n) (hl : Abs.loadC H b o n = some v) (hc : j b = some (c, z)) :
    ∃ u, (loadVar t ⟨c, o, none⟩).run P w = .ok u w ∧ VR j v u := by
  have hi := run_isAgg ha w
  have := h.loadC hl hc
  cases n with
  | none =>
    obtain ⟨u, hu, hv⟩ := this
    refine ⟨u, ?_, hv⟩
    simp [loadVar, hi.1, hu]
  | some n =>
    obtain ⟨us, vs, rfl, hlen, hvs, hcell⟩ := this
    refine ⟨.agg us.toArray, ?_, .agg_list (by simpa using hvs)⟩
    have := run_loadCells_of (P := P) hcell
    rw [hlen] at this
    simp [loadVar, hi.1, hi.2 n rfl, this]

end Go.Proofs.YtcgkadfgojmmlaaDoor.Abs
set_option linter.unusedVariables false
set_option linter.unusedSimpArgs false
namespace Go.Proofs.YtcgkadfgojmmlaaDoor.Abs
open Go Go.RowKit

/-- The leaves of a type whose values are held against each other cell by cell. -/
def leafK (P : Program) (lit : Bool) (t : TypeId) : Option EqK :=
  match P.underlying t with
  | some .bool => some .bool
  | some (.int _) => some .int
  | some .string => some .str
  | some (.pointer e) => (sizeP P e).bind fun n => if n = 0 then none else some .ptr
  | some (.interface ms) => some (.iface (lit || ms.isEmpty) [])
  | some (.slice _) => some .slice
  | some (.map _ _) => some .map
  | some (.func _ _ _) => some .func
  | _ => none
def intT (P : Program) (t : TypeId) : Bool := (match P.underlying t with
  | some (.int _) => true
  | _ => false) && (match P.info? t with
  | some i => i.comparable
  | none => false)
def intTypes (P : Program) : List Nat := (List.range P.types.size).filter (intT P)
def withInts (P : Program) : EqK → EqK
  | .iface l _ => .iface l (intTypes P)
  | k => k
/-- As leafK; numbers of a type of their own behind an interface may be held against each other, too. -/
def leafT (P : Program) (lit : Bool) (t : TypeId) : Option EqK := (leafK P lit t).map (withInts P)
def fieldsKs (P : Program) (K : TypeId → Option (List EqK)) : List Field → Nat → Option (List EqK)
  | [], _ => some []
  | f :: fs, off => if f.name ≠ "_" ∧ f.offset = off then (K f.type).bind fun ks => if sizeP P f.type = some ks.length ∧ ks.length ≠ 0 then (fieldsKs P K fs (off + ks.length)).map (ks ++ ·) else none else none
def isStructT (P : Program) (t : TypeId) : Bool :=
  match P.underlying t with
  | some (.struct _) => true
  | _ => false
def kindsK (P : Program) : Nat → TypeId → Option (List EqK)
  | 0, _ => none
  | n + 1, t => match P.underlying t with
    | some (.struct fs) => if P.stoodInHeld t then none else fieldsKs P (kindsK P n) fs.toList 0
    | _ => (leafK P false t).map ([·])
def structK (P : Program) (t : TypeId) : Option (List EqK) := if P.eqGuardType P.depth t then none else kindsK P 5 t

def compParts (P : Program) (place : Nat → Option (Nat × Nat)) : List (Nat × Operand) → Option (List (Nat × Nat × IOpd))
  | [] => some []
  | (i, x) :: rest => (place i).bind fun (o, s) => (compO P x).bind fun a => (compParts P place rest).map ((o, s, a) :: ·)
def places (P : Program) (fs : List Field) : Option (List (Nat × Nat)) := fs.mapM (fun f => (P.info? f.type).map fun i => (f.offset, i.size))
def compSParts (P : Program) : List (Nat × Operand) → Option (List (Nat × IOpd))
  | [] => some []
  | (i, x) :: rest => (compO P x).bind fun a => (compSParts P rest).map ((i, a) :: ·)
def isIface (P : Program) (t : TypeId) : Bool :=
  match P.underlying t with
  | some (.interface _) => true
  | _ => false
def isConstO : Operand → Bool
  | .const _ => true
  | _ => false
/-- Has a method set all that is wanted? -/
def hasAll (want : Array (String × TypeId)) (got : Array Method) : Bool := want.toList.all fun x => got.any fun m => m.name == x.1 && m.sig == x.2
def implList (P : Program) (want : Array (String × TypeId)) (yes : Bool) : List TypeId :=
  (List.range P.types.size).filter fun t => match P.info? t with
    | some i => hasAll want i.methods == yes
    | none => false

def compN (P : Program) : Op → Option NOp
  | .move x => (compO P x).map .mv
  | .assign x => (compO P x).map .mv
  | .pick c a b => (compO P c).bind fun c => (compO P a).bind fun a => (compO P b).map fun b => .pick c a b
  | .binOp op t x y _ => (compO P x).bind fun a => (compO P y).bind fun b => match P.underlying t with
    | some (.int _) => some (.bin op a b)
    | some .string => some (.bin op a b)
    | some (.struct _) => (structK P t).bind fun ks => (match op with
      | .eql => some (.eqs ks false a b)
      | .neq => some (.eqs ks true a b)
      | _ => none)
    | _ => (leafT P (isConstO x || isConstO y) t).bind fun k => (match op with
      | .eql => some (.eq k false a b)
      | .neq => some (.eq k true a b)
      | _ => none)
  | .unOp op _ x => (compO P x).map (.un op)
  | .convert src dst x => (compO P x).bind fun a => match P.underlying src, P.underlying dst with
    | some (.int _), some (.int k) => some (.wrap k a)
    | some .string, some .string => some (.same a)
    | some .string, some (.slice e) => (match P.underlying e with
      | some (.int .u8) => some (.s2b e a)
      | _ => none)
    | some (.slice e), some .string => (match P.underlying e with
      | some (.int .u8) => some (.b2s a)
      | _ => none)
    | _, _ => none
  | .makeInterface t x => if (P.underlying t).isSome && !isIface P t then (compO P x).map (.mki t) else none
  | .makeFunc fn first captured => (compOs P first.toList).bind fun a => (compOs P captured.toList).map fun b => .mkf fn a b
  | .makeMap t none => some .mkm
  | .makeSlice t l c => match P.underlying t with
    | some (.slice e) => (sizeP P e).bind fun s => (bytesP P e).bind fun b => (zeroP P e).bind fun z => (compO P l).bind fun l => (compO P c).bind fun c => if z.cells.length = s then some (.mks e s b z.cells l c) else none
    | _ => none
  | .slice t x lo hi mx => (compO P x).bind fun a => (compOp P lo).bind fun lo => (compOp P hi).bind fun hi => (compOp P mx).bind fun mx => match P.underlying t with
    | some (.array n e) => (sizeP P e).map fun s => .sarr n s a lo hi mx
    | some .string => if mx.isNone then some (.sstr a lo hi) else none
    | some (.slice e) => (sizeP P e).map fun s => .slc s a lo hi mx
    | _ => none
  | .fieldAddr s x f => (compO P x).bind fun a => match P.underlying s with
    | some (.struct fs) => (fs[f]?).bind fun f => (sizeP P f.type).bind fun n => if n = 0 then none else some (.faddr a f.offset)
    | _ => none
  | .field t x f => (compO P x).bind fun a => match P.underlying t with
    | some (.struct fs) => (fs[f]?).bind fun f => (aggP P f.type).map fun n => .fld a f.offset n
    | _ => none
  | .indexAddr t x i => (compO P x).bind fun a => (compO P i).bind fun i => match P.underlying t with
    | some (.array n e) => (sizeP P e).map fun s => .iaddra n s a i
    | some (.slice e) => (sizeP P e).map fun s => .iaddr s a i
    | _ => none
  | .index t x i => (compO P x).bind fun a => (compO P i).bind fun i => match P.underlying t with
    | some (.array n e) => (sizeP P e).bind fun s => (aggP P e).map fun k => .idxa n s k a i
    | some .string => some (.idxs a i)
    | _ => none
  | .extract x i => (compO P x).map (.ext · i)
  | .nilCheck x => (compO P x).map .nilck
  | .typeAssert x xt t ok => (compO P x).bind fun a => match P.underlying t with
    | some (.interface want) => if (match zeroP P t with | some .nilIface => true | _ => false) then some (.tasi (implList P want true) (implList P want false) ok a) else none
    | some _ => (zeroP P t).map fun z => .tas t z ok a
    | none => none
  | .lookup t x i ok => match P.underlying t with
    | some (.map k e) => (match P.underlying k with
      | some (.int _) => (zeroP P e).bind fun z => (compO P x).bind fun a => (compO P i).map fun i => .lkp z ok a i
      | _ => none)
    | _ => none
  | .load t x => (compO P x).bind fun a => (aggP P t).map fun n => .load n a
  | .alloc t => (zeroP P t).map fun z => .new t z.cells
  | .box t x => (compO P x).map (.box t)
  | .build t parts => (zeroP P t).bind fun z => if z.one then none else match P.underlying t with
    | some (.struct fs) => (places P fs.toList).bind fun pl => (compParts P (pl.toArray[·]?) parts.toList).map fun ps => .bld z.cells ps
    | some (.array _ e) => (sizeP P e).bind fun s => (compParts P (fun i => some (i * s, s)) parts.toList).map fun ps => .bld z.cells ps
    | _ => none
  | .buildSlice t len parts => match P.underlying t with
    | some (.slice e) => (sizeP P e).bind fun s => (zeroP P e).bind fun z => (compSParts P parts.toList).bind fun ps => if z.cells.length = s ∧ len * s ≤ 2 ^ 24 then some (.bsl e s len z.cells ps) else none
    | _ => none
  | .call { callee := .builtin .len, args := args, argTypes := ts } => match args.toList, (ts[0]?).bind P.underlying with
    | [x], some .string => (compO P x).map .lens
    | [x], some (.slice _) => (compO P x).map .len
    | [x], some (.map _ _) => (compO P x).map .lenm
    | _, _ => none
  | .call { callee := .builtin .max, args := args, argTypes := _ } => (compOs P args.toList).map .mx
  | .call { callee := .builtin .min, args := args, argTypes := _ } => (compOs P args.toList).map .mn
  | _ => none

end Go.Proofs.YtcgkadfgojmmlaaDoor.Abs
set_option linter.unusedVariables false
set_option linter.unusedSimpArgs false
namespace Go.Proofs.YtcgkadfgojmmlaaDoor.Abs
open Go Go.RowKit

def NOk (P : Program) (o : Oper) (ρ : Operand → Value) (j : Inj) (w : World) (id : Nat) (v : AV) : Option AObj → Prop
  | none => ∃ vc, (execOp ρ o).run P w = .ok (.value vc) w ∧ VR j v vc
  | some b => ∃ vc x w', (execOp ρ o).run P w = .ok (.value vc) w' ∧ w'.heap = w.heap.push x ∧ w'.os = w.os ∧ w'.tape = w.tape ∧ w'.output = w.output ∧ ORel j b x ∧ b.ro = false ∧
      ∀ j' : Inj, j.le j' → j' id = some (w.heap.size, csize x) → VR j' v vc

theorem run_v {P : Program} {w w' : World} {s : Sem Value} {v : Value} (h : s.run P w = .ok v w') : (do pure (Next.value (← s)) : Sem Next).run P w = .ok (.value v) w' := by
  rw [Sem.run_bind, h]; rfl
theorem Result.sat_bind : True := trivial

theorem VR.int_inv {j : Inj} {k : IntKind} {n : Int} {v : Value} (h : VR j (.int k n) v) : v = .int k n := by cases h; rfl
theorem VR.bool_inv {j : Inj} {b : Bool} {v : Value} (h : VR j (.bool b) v) : v = .bool b := by cases h; rfl
theorem VR.str_inv {j : Inj} {l : List UInt8} {v : Value} (h : VR j (.str l) v) : ∃ s : ByteArray, v = .string s ∧ s.data.toList = l := by cases h; exact ⟨_, rfl, rfl⟩
theorem VR.ptr_inv {j : Inj} {b o : Nat} {v : Value} (h : VR j (.ptr b o) v) : ∃ c z, v = .pointer (some ⟨c, o, none⟩) ∧ j b = some (c, z) := by cases h; exact ⟨_, _, rfl, ‹_›⟩
theorem VR.slice_inv {j : Inj} {b o n e : Nat} {v : Value} (h : VR j (.slice b o n e) v) : ∃ c z k, v = .slice (some ⟨c, o, none⟩) n k ∧ j b = some (c, z) ∧ n ≤ k ∧ o + k * e ≤ z := by cases h; exact ⟨_, _, _, rfl, ‹_›, ‹_›, ‹_›⟩
theorem VR.agg_inv {j : Inj} {l : List AV} {v : Value} (h : VR j (.agg l) v) : ∃ r : Array Value, v = .agg r ∧ VRs j l r.toList := by cases h; exact ⟨_, rfl, VRs.of_agg ‹_› ‹_›⟩
theorem VR.tuple_inv {j : Inj} {l : List AV} {v : Value} (h : VR j (.tuple l) v) : ∃ r : Array Value, v = .tuple r ∧ VRs j l r.toList := by cases h; exact ⟨_, rfl, VRs.of_agg ‹_› ‹_›⟩
theorem VR.iface_inv {j : Inj} {t : TypeId} {a : AV} {v : Value} (h : VR j (.iface t a) v) : ∃ u, v = .iface t u ∧ VR j a u := by cases h; exact ⟨_, rfl, ‹_›⟩
theorem str_of {j : Inj} {l : List UInt8} {s : ByteArray} (h : s.data.toList = l) : VR j (.str l) (.string s) := by subst h; exact .str s
theorem toList_data (s : ByteArray) : s.toList = s.data.toList := Go.Lib.toList_data s

theorem ibin_sound {P : Program} {j : Inj} {w : World} {op : BinOp} {t : TypeId} {k : IntKind} {a b : Int} {r : AV} (h : ibin op k a b = some r) (h1 : op ≠ .shl) (h2 : op ≠ .shr) :
    ∃ vc, (binOp op t (.int k a) (.int k b)).run P w = .ok vc w ∧ VR j r vc := by
  cases op with
  | shl => exact absurd rfl h1
  | shr => exact absurd rfl h2
  | add => cases h; exact ⟨.int k (k.wrap (a + b)), by simp [binOp, Op.intArith], .int _ _⟩
  | sub => cases h; exact ⟨.int k (k.wrap (a - b)), by simp [binOp, Op.intArith], .int _ _⟩
  | mul => cases h; exact ⟨.int k (k.wrap (a * b)), by simp [binOp, Op.intArith], .int _ _⟩
  | quo => simp only [ibin] at h; split at h; cases h; rename_i h0; cases h; exact ⟨.int k (k.wrap (a.tdiv b)), by simp [binOp, Op.intDiv, h0], .int _ _⟩
  | rem => simp only [ibin] at h; split at h; cases h; rename_i h0; cases h; exact ⟨.int k (a.tmod b), by simp [binOp, Op.intDiv, h0], .int _ _⟩
  | and => cases h; exact ⟨.int k (bits .and k a b), by simp [binOp, intBits_and], .int _ _⟩
  | or => cases h; exact ⟨.int k (bits .or k a b), by simp [binOp, intBits_or], .int _ _⟩
  | xor => cases h; exact ⟨.int k (bits .xor k a b), by simp [binOp, intBits_xor], .int _ _⟩
  | andNot => cases h; exact ⟨.int k (bits .andNot k a b), by simp [binOp, intBits_andNot], .int _ _⟩
  | eql => cases h; exact ⟨.bool (decide (a = b)), by (simp [binOp, Op.intCmp]; rw [Bool.eq_iff_iff]; simp), .bool _⟩
  | neq => cases h; exact ⟨.bool (decide (a ≠ b)), by simp [binOp, Op.intCmp, bne, BEq.beq], .bool _⟩
  | lss => cases h; exact ⟨.bool (decide (a < b)), by simp [binOp, Op.intCmp], .bool _⟩
  | leq => cases h; exact ⟨.bool (decide (a ≤ b)), by simp [binOp, Op.intCmp], .bool _⟩
  | gtr => cases h; exact ⟨.bool (decide (a > b)), by simp [binOp, Op.intCmp], .bool _⟩
  | geq => cases h; exact ⟨.bool (decide (a ≥ b)), by simp [binOp, Op.intCmp], .bool _⟩
/-- A sum, a comparison, .. of two numbers or texts. -/
theorem abin_sound {P : Program} {j : Inj} {w : World} {op : BinOp} {t : TypeId} {x y : AV} {u v : Value} {r : AV} (h : abin op x y = some r) (hx : VR j x u) (hy : VR j y v) :
    ∃ vc, (binOp op t u v).run P w = .ok vc w ∧ VR j r vc := by
  unfold abin at h
  split at h
  · rename_i k a k' b
    cases hx; cases hy
    split at h
    · unfold ishift at h
      split at h
      · cases h
      · rename_i hn
        simp only at h
        cases h
        exact ⟨.int k (k.wrap (a * 2 ^ (min b.toNat k.bits))), by simp [binOp, Op.shift, hn], .int _ _⟩
    · unfold ishift at h
      split at h
      · cases h
      · rename_i hn
        simp only at h
        cases h
        exact ⟨.int k (a.fdiv (2 ^ (min b.toNat k.bits))), by simp [binOp, Op.shift, hn], .int _ _⟩
    · rename_i h1 h2
      split at h
      · rename_i hk
        subst hk
        exact ibin_sound h (fun e => h1 e) (fun e => h2 e)
      · cases h
  · rename_i a b
    obtain ⟨s, rfl, rfl⟩ := hx.str_inv
    obtain ⟨q, rfl, rfl⟩ := hy.str_inv
    have hb : (binOp op t (.string s) (.string q)) = Op.stringOp op s q := by cases op <;> rfl
    rw [hb]
    have e1 : s.data.toList.length = s.size := by (rw [Array.length_toList]; rfl)
    have e2 : q.data.toList.length = q.size := by (rw [Array.length_toList]; rfl)
    have e : (s.toList == q.toList) = decide (s.data.toList = q.data.toList) := by rw [toList_data, toList_data, Bool.eq_iff_iff]; simp
    cases op with
    | add =>
      simp only [sbin] at h
      split at h
      · rename_i hl
        cases h
        refine ⟨.string (s ++ q), ?_, str_of (by simp)⟩
        have : ¬ ((s.size + q.size : Nat) : Int) > IntKind.i64.max := by
          have : IntKind.i64.max = 9223372036854775807 := by decide
          rw [this]; omega
        simp only [Op.stringOp]
        rw [if_neg this]
        rfl
      · cases h
    | eql => cases h; exact ⟨.bool (decide (s.data.toList = q.data.toList)), by (show Sem.run P (pure (Value.bool (s.toList == q.toList))) w = _; rw [e]; rfl), .bool _⟩
    | neq => cases h; exact ⟨.bool (decide (s.data.toList ≠ q.data.toList)), by (show Sem.run P (pure (Value.bool (!(s.toList == q.toList)))) w = _; rw [e]; simp), .bool _⟩
    | lss => cases h; exact ⟨.bool (Op.bytesLess s.data.toList q.data.toList), by (simp only [Op.stringOp, Sem.run_pure]; rw [toList_data, toList_data]), .bool _⟩
    | leq => cases h; exact ⟨.bool (Op.bytesLess s.data.toList q.data.toList || decide (s.data.toList = q.data.toList)), by (show Sem.run P (pure (Value.bool (Op.bytesLess s.toList q.toList || (s.toList == q.toList)))) w = _; rw [e, toList_data, toList_data]; rfl), .bool _⟩
    | gtr => cases h; exact ⟨.bool (!(Op.bytesLess s.data.toList q.data.toList || decide (s.data.toList = q.data.toList))), by (show Sem.run P (pure (Value.bool (!(Op.bytesLess s.toList q.toList || (s.toList == q.toList))))) w = _; rw [e, toList_data, toList_data]; rfl), .bool _⟩
    | geq => cases h; exact ⟨.bool (!Op.bytesLess s.data.toList q.data.toList), by (simp only [Op.stringOp, Sem.run_pure]; rw [toList_data, toList_data]), .bool _⟩
    | _ => cases h
  · cases h

theorem aun_sound {P : Program} {j : Inj} {w : World} {op : UnOp} {x : AV} {u : Value} {r : AV} (h : aun op x = some r) (hx : VR j x u) :
    ∃ vc, (Op.unary op u).run P w = .ok vc w ∧ VR j r vc := by
  unfold aun at h
  split at h
  · cases h; cases hx; exact ⟨_, by simp [Op.unary, Op.intArith], .int _ _⟩
  · cases h; cases hx; exact ⟨_, by simp [Op.unary, intBits_xor], .int _ _⟩
  · cases h; cases hx; exact ⟨_, by simp [Op.unary], .bool _⟩
  · cases h

end Go.Proofs.YtcgkadfgojmmlaaDoor.Abs
