/- Parameters that are rows of flat structs or of texts: what the first heap reads. No condition. -/
import Derived.Test.YtllkdoefonehoaaGreatDoorA21
import Derived.ChangeArms
import Derived.DataReads
set_option linter.unusedVariables false
set_option linter.unusedSimpArgs false
namespace Go.Proofs.YtllkdoefonehoaaGreatDoor.Abs
open Go Go.RowKit Go.ChangeShapes Go.WideShapes Go.ChangeAt
/-- A cell's kind. -/
inductive CK where
  | bool
  | int (k : IntKind)
  | str
def CkV : CK → AV → Prop
  | .bool, .bool _ => True
  | .int k, .int k' n => k' = k ∧ (Lit.int k n).wf = true
  | .str, .str l => l.length ≤ maxLen
  | _, _ => False
def ckOf (P : Program) (t : TypeId) : Option CK := match P.underlying t with
  | some .bool => some .bool
  | some (.int k) => some (.int k)
  | some .string => some .str
  | _ => none
def fieldsOk (P : Program) : Nat → List Field → Option (List CK)
  | _, [] => some []
  | o, f :: fs => if f.offset = o ∧ P.cellsOf f.type = 1 then (ckOf P f.type).bind fun c => (fieldsOk P (o + 1) fs).map (c :: ·) else none
/-- The kinds of a flat type's cells. -/
def flatOf (P : Program) (t : TypeId) : Option (List CK) := match P.underlying t with
  | some (.struct fs) => (fieldsOk P 0 fs.toList).bind fun l => if P.cellsOf t = l.length then some l else none
  | _ => if P.cellsOf t = 1 then (ckOf P t).map ([·]) else none
section
variable {H : Type} {enc : TypeId × Value → H} {P : Program} {w : World} {base : Nat} {spare : Nat → Bool} {held : Bool}
theorem ck_open {t : TypeId} {c : CK} (hc : ckOf P t = some c) {fuel : Nat} {cs : List Value} {x : DataW H × List MemPlace} (h : DataW.trod enc P w base spare held fuel t cs = some x) :
    ∃ v a, cs = [v] ∧ absV v = some a ∧ CkV c a := by
  unfold ckOf at hc
  split at hc
  · rename_i hu
    cases hc
    obtain ⟨b, rfl, _⟩ := DataW.trod_bool hu h
    exact ⟨_, _, rfl, rfl, trivial⟩
  · rename_i k hu
    cases hc
    obtain ⟨n, rfl, _, hw⟩ := DataW.trod_int hu h
    exact ⟨_, _, rfl, rfl, rfl, hw⟩
  · rename_i hu
    cases hc
    obtain ⟨s, rfl, _, hs⟩ := DataW.trod_string hu h
    exact ⟨_, _, rfl, rfl, by show s.data.toList.length ≤ maxLen; simpa using hs⟩
  · cases hc
theorem fields_get : ∀ (fs : List Field) (o : Nat) (cks : List CK), fieldsOk P o fs = some cks → cks.length = fs.length ∧ ∀ (i : Nat) f, fs[i]? = some f → f.offset = o + i ∧ P.cellsOf f.type = 1 ∧ ∃ c, ckOf P f.type = some c ∧ cks[i]? = some c
  | [], o, cks, h => by cases h; exact ⟨rfl, by simp⟩
  | f :: fs, o, cks, h => by
    simp only [fieldsOk] at h
    split at h
    · rename_i hf
      obtain ⟨c, hc, h2⟩ := Option.bind_eq_some_iff.1 h
      obtain ⟨l, hl, rfl⟩ := Option.map_eq_some_iff.1 h2
      obtain ⟨h3, h4⟩ := fields_get fs (o + 1) l hl
      refine ⟨by simp [h3], fun i g hg => ?_⟩
      cases i with
      | zero => simp at hg; subst hg; exact ⟨by simpa using hf.1, hf.2, c, hc, rfl⟩
      | succ i =>
        simp at hg
        obtain ⟨a1, a2, c2, a3, a4⟩ := h4 i g hg
        exact ⟨by omega, a2, c2, a3, by simpa using a4⟩
    · cases h
def CellsOk (cks : List CK) (cs : List Value) : Prop := cs.length = cks.length ∧ ∀ (i : Nat) v, cs[i]? = some v → ∃ a c, absV v = some a ∧ cks[i]? = some c ∧ CkV c a
theorem flat_open {t : TypeId} {cks : List CK} (hf : flatOf P t = some cks) {fuel : Nat} {cs : List Value} {x : DataW H × List MemPlace} (h : DataW.trod enc P w base spare held fuel t cs = some x) : CellsOk cks cs := by
  unfold flatOf at hf
  split at hf
  · rename_i fs hu
    obtain ⟨l, hl, h2⟩ := Option.bind_eq_some_iff.1 hf
    split at h2
    · rename_i hsz
      cases h2
      obtain ⟨xs, n, _, _, hlen, hxl, hel⟩ := DataW.trod_struct hu h
      obtain ⟨h3, h4⟩ := fields_get _ _ _ hl
      refine ⟨by omega, fun i v hv => ?_⟩
      have hi := (List.getElem?_eq_some_iff.1 hv).1
      have hi2 : i < fs.toList.length := by rw [← h3]; omega
      obtain ⟨a1, a2, c, a3, a4⟩ := h4 i _ (List.getElem?_eq_getElem hi2)
      have h5 := hel i fs.toList[i] (by simp)
      rw [a2, a1, Nat.zero_add] at h5
      have h6 : (cs.drop i).take 1 = [v] := by
        have e := (List.getElem?_eq_some_iff.1 hv).2
        rw [List.drop_eq_getElem_cons hi, e]
        rfl
      rw [h6, List.getElem?_eq_getElem (by rw [hxl]; simpa using hi2)] at h5
      obtain ⟨v', a, h7, h8, h9⟩ := ck_open a3 h5
      cases h7
      exact ⟨a, c, h8, a4, h9⟩
    · cases h2
  · split at hf
    · obtain ⟨c, hc, rfl⟩ := Option.map_eq_some_iff.1 hf
      obtain ⟨v, a, rfl, h1, h2⟩ := ck_open hc h
      refine ⟨rfl, fun i u hu => ?_⟩
      obtain rfl : i = 0 := by have := (List.getElem?_eq_some_iff.1 hu).1; simp at this; exact this
      cases hu
      exact ⟨a, c, h1, rfl, h2⟩
    · cases hf
theorem cells_get {a : Addr} {n : Nat} {cs : List Value} (h : w.cells? base a n = some cs) : cs.length = n ∧ ∀ i, i < n → w.cell? (a.add i) = cs[i]? := by
  unfold World.cells? at h
  split at h
  · exact ⟨by simpa using mapM_some_length h, fun i hi => by have := mapM_some_get h i i (by simp [hi]); exact this⟩
  · cases h
/-- A slice's row, cell by cell. -/
def IsFlat (w : World) (cks : List CK) (a : Option Addr) (len cap : Nat) (L : List (List AV)) : Prop :=
  (a = none ∧ len = 0 ∧ cap = 0 ∧ L = []) ∨
  ∃ x, a = some x ∧ len ≤ cap ∧ cap ≤ maxLen ∧ L.length = cap ∧ ∀ i (h : i < L.length), L[i].length = cks.length ∧ ∀ (q : Nat) (b : AV), L[i][q]? = some b → (∃ v, w.cell? (x.add (i * cks.length + q)) = some v ∧ absV v = some b) ∧ ∃ c, cks[q]? = some c ∧ CkV c b
theorem add_add (a : Addr) (i q : Nat) : (a.add i).add q = a.add (i + q) := by
  unfold Addr.add
  by_cases h1 : i = 0
  · subst h1; simp
  · by_cases h2 : q = 0
    · subst h2; simp [h1]
    · rw [if_neg h1, if_neg h2, if_neg (by omega)]
      simp [Nat.add_assoc]
theorem flat_elem {e : TypeId} {cks : List CK} (hf : flatOf P e = some cks) (hz : P.cellsOf e = cks.length) {n : Nat} {x : Addr} {i : Nat} {y : DataW H × List MemPlace} (h : (w.cells? base (x.add (i * P.cellsOf e)) (P.cellsOf e)).bind (DataW.trod enc P w base spare held n e) = some y) :
    ∃ l : List AV, l.length = cks.length ∧ ∀ (q : Nat) (b : AV), l[q]? = some b → (∃ v, w.cell? (x.add (i * cks.length + q)) = some v ∧ absV v = some b) ∧ ∃ c, cks[q]? = some c ∧ CkV c b := by
  obtain ⟨cs, h1, h2⟩ := Option.bind_eq_some_iff.1 h
  obtain ⟨h3, h4⟩ := cells_get h1
  obtain ⟨h5, h6⟩ := flat_open hf h2
  refine ⟨cs.map fun v => (absV v).getD .undef, by simpa using h5, fun q b hb => ?_⟩
  simp at hb
  obtain ⟨v, hv, rfl⟩ := hb
  obtain ⟨a, c, e1, e2, e3⟩ := h6 q v hv
  have hq := (List.getElem?_eq_some_iff.1 hv).1
  have e4 := h4 q (by omega)
  rw [add_add, hz, hv] at e4
  rw [e1]
  exact ⟨⟨v, e4, e1⟩, c, e2, e3⟩
theorem open_flat {t e : TypeId} {cks : List CK} (ht : P.underlying t = some (.slice e)) (hf : flatOf P e = some cks) (hz : P.cellsOf e = cks.length) {fuel : Nat} {a : Option Addr} {len cap : Nat} {x : DataW H × List MemPlace}
    (h : DataW.trod enc P w base (fun _ => true) held fuel t [.slice a len cap] = some x) : ∃ L, IsFlat w cks a len cap L := by
  rcases DataW.trod_slice ht h with ⟨hcs, _⟩ | ⟨a', len', cap', elems, rest, n, _, hcs, _, _, hl, hm, hlen, hel, hre, _⟩
  · simp at hcs
    obtain ⟨rfl, rfl, rfl⟩ := hcs
    exact ⟨[], .inl ⟨rfl, rfl, rfl, rfl⟩⟩
  · simp at hcs
    obtain ⟨rfl, rfl, rfl⟩ := hcs
    obtain ⟨hr1, hr2⟩ := hre rfl
    have key : ∀ i, i < cap → ∃ l : List AV, l.length = cks.length ∧ ∀ (q : Nat) (b : AV), l[q]? = some b → (∃ v, w.cell? (a'.add (i * cks.length + q)) = some v ∧ absV v = some b) ∧ ∃ c, cks[q]? = some c ∧ CkV c b := fun i hi => by
      by_cases hlt : i < len
      · exact flat_elem hf hz ((hel i hlt).trans (List.getElem?_eq_getElem (by omega)))
      · have := hr2 (i - len) (by omega)
        rw [show len + (i - len) = i by omega] at this
        exact flat_elem hf hz (this.trans (List.getElem?_eq_getElem (by omega)))
    let f : Nat → List AV := fun i => if hi : i < cap then Classical.choose (key i hi) else []
    refine ⟨(List.range cap).map f, .inr ⟨a', rfl, hl, hm, by simp, fun i hi => ?_⟩⟩
    have hi' : i < cap := by simpa using hi
    have e : ((List.range cap).map f)[i] = Classical.choose (key i hi') := by simp [f, hi']
    rw [e]
    exact Classical.choose_spec (key i hi')
end
/-- A slice of elements that reads as rows of cells. -/
def SF (H : AH) (v : AV) (sz : Nat) (l : List (List AV)) : Prop :=
  l = [] ∧ (v = .snil ∨ v = .sempty) ∨ ∃ b o, v = .slice b o l.length sz ∧ l ≠ [] ∧ ∀ i (h : i < l.length), l[i].length = sz ∧ ∀ q, q < sz → loadC H b (o + (i * sz + q)) none = l[i][q]?
theorem SF.keeps {H H1 : AH} {sz : Nat} (hk : H.keepsAll H1) {v : AV} {l : List (List AV)} (h : SF H v sz l) : SF H1 v sz l := by
  rcases h with h | ⟨b, o, h1, h2, h3⟩
  · exact .inl h
  · refine .inr ⟨b, o, h1, h2, fun i hi => ⟨(h3 i hi).1, fun q hq => ?_⟩⟩
    have e := (h3 i hi).1
    rw [List.getElem?_eq_getElem (by omega)]
    exact loadC_keeps hk (by rw [(h3 i hi).2 q hq, List.getElem?_eq_getElem (by omega)])
theorem SF.len {H : AH} {v : AV} {sz : Nat} {l : List (List AV)} (h : SF H v sz l) : lenA v = some l.length := by
  rcases h with ⟨h1, rfl | rfl⟩ | ⟨b, o, rfl, _, _⟩
  · rw [h1]; rfl
  · rw [h1]; rfl
  · rfl
theorem SF.get {H : AH} {v : AV} {sz : Nat} {l : List (List AV)} (h : SF H v sz l) (hs : 0 < sz) (i : Nat) (hi : i < l.length) : ∃ b o, v = .slice b o l.length sz ∧ loadC H b (o + i * sz) (some sz) = some (.agg l[i]) ∧ loadC H b (o + i * sz) none = l[i][0]? := by
  rcases h with ⟨h1, _⟩ | ⟨b, o, rfl, _, h3⟩
  · rw [h1] at hi; simp at hi
  · obtain ⟨e1, e2⟩ := h3 i hi
    refine ⟨b, o, rfl, ?_, by have := e2 0 hs; simpa using this⟩
    have := load_many (H := H) (b := b) (o := o + i * sz) (l := l[i]) (fun e => by rw [e] at e1; simp at e1; omega) (fun q hq => by rw [Nat.add_assoc]; exact e2 q (by omega))
    rw [e1] at this
    exact this
theorem SF.of {P : Program} {W : World} {tabs : Nat → Option AObj} (ht : ∀ a o, tabs a = some o → ∃ t cs x, o = .cells true t cs ∧ W.heap[a]? = some x ∧ ORel (j0 P) o x ∧ csize x = cs.length)
    {cks : List CK} (hz : 0 < cks.length) {a : Option Addr} {len cap : Nat} {L : List (List AV)} (h : IsFlat W cks a len cap L) :
    ∃ v, SF (H1 W tabs) v cks.length (L.take len) ∧ VR (j1 W) v (.slice a len cap) := by
  rcases h with ⟨rfl, rfl, rfl, rfl⟩ | ⟨x, rfl, hle, _, hl, hc⟩
  · exact ⟨.snil, .inl ⟨rfl, .inl rfl⟩, .snil⟩
  · by_cases h0 : len = 0
    · subst h0
      exact ⟨.sempty, .inl ⟨by simp, .inr rfl⟩, .sempty⟩
    · have hcap : 0 < cap := by omega
      have cellAt : ∀ i (hi : i < cap) q (hq : q < cks.length), ∃ v b, W.cell? (x.add (i * cks.length + q)) = some v ∧ absV v = some b ∧ (L[i]'(by omega))[q]? = some b := fun i hi q hq => by
        obtain ⟨e1, e2⟩ := hc i (by omega)
        obtain ⟨⟨v, hv, hb⟩, _⟩ := e2 q _ (List.getElem?_eq_getElem (by omega))
        exact ⟨v, _, hv, hb, List.getElem?_eq_getElem (by omega)⟩
      have hspot : x.spot = none := by
        obtain ⟨v, b, hv, _⟩ := cellAt 0 hcap 0 hz
        rw [show x.add (0 * cks.length + 0) = x from by unfold Addr.add; simp] at hv
        cases hsp : x.spot with
        | none => rfl
        | some q =>
          unfold World.cell? at hv
          split at hv
          · rw [hsp] at hv
            simp at hv
          · cases hv
      obtain ⟨b, o, sp⟩ := x
      cases hspot
      have hadd : ∀ i, (⟨b, o, none⟩ : Addr).add i = ⟨b, o + i, none⟩ := fun i => by
        unfold Addr.add
        split
        · rename_i h; subst h; rfl
        · rfl
      have hln : (L.take len).length = len := by simp; omega
      obtain ⟨z, hz1, hzle⟩ : ∃ z, j1 W b = some (b, z) ∧ o + cap * cks.length ≤ z := by
        obtain ⟨v, _, hv, _⟩ := cellAt (cap - 1) (by omega) (cks.length - 1) (by omega)
        rw [hadd] at hv
        unfold World.cell? at hv
        split at hv
        · rename_i c t fz hx
          have hx : W.heap[b]? = some (.cells c t fz) := hx
          simp at hv
          refine ⟨c.size, by unfold j1; rw [hx]; rfl, ?_⟩
          have := (Array.getElem?_eq_some_iff.1 hv).1
          have e : cap * cks.length = (cap - 1) * cks.length + cks.length := by
            rw [← Nat.succ_mul]; congr 1; omega
          omega
        · cases hv
      refine ⟨.slice b o len cks.length, .inr ⟨b, o, by rw [hln], fun h => by rw [h] at hln; exact h0 hln.symm, fun i hi => ?_⟩, .slice hz1 hle hzle⟩
      have hi' : i < len := by omega
      have e : (L.take len)[i] = L[i]'(by omega) := List.getElem_take
      rw [e]
      refine ⟨(hc i (by omega)).1, fun q hq => ?_⟩
      obtain ⟨v, a, hv, ha, hl2⟩ := cellAt i (by omega) q hq
      rw [hadd] at hv
      rw [hl2]
      exact H1_load ht hv ha
theorem IsFlat.each {W : World} {cks : List CK} {a : Option Addr} {len cap : Nat} {L : List (List AV)} (h : IsFlat W cks a len cap L) : ∀ l ∈ L, l.length = cks.length ∧ ∀ (q : Nat) (b : AV), l[q]? = some b → ∃ c, cks[q]? = some c ∧ CkV c b := fun l hl => by
  rcases h with ⟨_, _, _, rfl⟩ | ⟨x, _, _, _, _, hc⟩
  · simp at hl
  · obtain ⟨i, hi, rfl⟩ := List.mem_iff_getElem.1 hl
    obtain ⟨e1, e2⟩ := hc i hi
    exact ⟨e1, fun q b hb => (e2 q b hb).2⟩
theorem wf_i64 {n : Int} (h : (Lit.int .i64 n).wf = true) : -9223372036854775808 ≤ n ∧ n ≤ 9223372036854775807 := by
  have h3 : IntKind.min .i64 ≤ n ∧ n ≤ IntKind.max .i64 := by simpa [Lit.wf] using h
  have e1 : IntKind.min .i64 = -9223372036854775808 := by decide
  have e2 : IntKind.max .i64 = 9223372036854775807 := by decide
  rw [e1, e2] at h3
  exact h3
theorem ck_int {a : AV} (h : CkV (.int .i64) a) : ∃ n, a = .int .i64 n ∧ -9223372036854775808 ≤ n ∧ n ≤ 9223372036854775807 := by
  cases a with
  | int k n => obtain ⟨rfl, h⟩ := h; exact ⟨n, rfl, wf_i64 h⟩
  | _ => exact h.elim
theorem ck_bool {a : AV} (h : CkV .bool a) : ∃ b, a = .bool b := by
  cases a with
  | bool b => exact ⟨b, rfl⟩
  | _ => exact h.elim
theorem ck_str {a : AV} (h : CkV .str a) : ∃ l, a = .str l ∧ l.length ≤ maxLen := by
  cases a with
  | str l => exact ⟨l, rfl, h⟩
  | _ => exact h.elim
end Go.Proofs.YtllkdoefonehoaaGreatDoor.Abs
