/- Rows of flat structs; more may be asked of less; rows of the call's own. No condition. -/
import Derived.Test.YtcgkadfgojmmlaaDoorA21
import Derived.ChangeArms
import Derived.DataReads
set_option linter.unusedVariables false
set_option linter.unusedSimpArgs false
namespace Go.Proofs.YtcgkadfgojmmlaaDoor.Abs
open Go Go.RowKit Go.ChangeShapes Go.WideShapes Go.ChangeAt
/-- A cell's kind. -/
inductive CK where
  | bool
  | int (k : IntKind)
  | str
def CkV : CK → AV → Prop
  | .bool, .bool _ => True
  | .int k, .int k' n => k' = k ∧ (Lit.int k n).wf = true
  | .str, .str l => l.length ≤ maxLen
  | _, _ => False
def ckOf (P : Program) (t : TypeId) : Option CK := match P.underlying t with
  | some .bool => some .bool
  | some (.int k) => some (.int k)
  | some .string => some .str
  | _ => none
def fieldsOk (P : Program) : Nat → List Field → Option (List CK)
  | _, [] => some []
  | o, f :: fs => if f.offset = o ∧ P.cellsOf f.type = 1 then (ckOf P f.type).bind fun c => (fieldsOk P (o + 1) fs).map (c :: ·) else none
/-- The kinds of a flat type's cells. -/
def flatOf (P : Program) (t : TypeId) : Option (List CK) := match P.underlying t with
  | some (.struct fs) => (fieldsOk P 0 fs.toList).bind fun l => if P.cellsOf t = l.length then some l else none
  | _ => if P.cellsOf t = 1 then (ckOf P t).map ([·]) else none
section
variable {H : Type} {enc : TypeId × Value → H} {P : Program} {w : World} {base : Nat} {spare : Nat → Bool} {held : Bool}
theorem ck_open {t : TypeId} {c : CK} (hc : ckOf P t = some c) {fuel : Nat} {cs : List Value} {x : DataW H × List MemPlace} (h : DataW.trod enc P w base spare held fuel t cs = some x) :
    ∃ v a, cs = [v] ∧ absV v = some a ∧ CkV c a := by
  unfold ckOf at hc
  split at hc
  · rename_i hu
    cases hc
    obtain ⟨b, rfl, _⟩ := DataW.trod_bool hu h
    exact ⟨_, _, rfl, rfl, trivial⟩
  · rename_i k hu
    cases hc
    obtain ⟨n, rfl, _, hw⟩ := DataW.trod_int hu h
    exact ⟨_, _, rfl, rfl, rfl, hw⟩
  · rename_i hu
    cases hc
    obtain ⟨s, rfl, _, hs⟩ := DataW.trod_string hu h
    exact ⟨_, _, rfl, rfl, by show s.data.toList.length ≤ maxLen; simpa using hs⟩
  · cases hc
theorem fields_get : ∀ (fs : List Field) (o : Nat) (cks : List CK), fieldsOk P o fs = some cks → cks.length = fs.length ∧ ∀ (i : Nat) f, fs[i]? = some f → f.offset = o + i ∧ P.cellsOf f.type = 1 ∧ ∃ c, ckOf P f.type = some c ∧ cks[i]? = some c
  | [], o, cks, h => by cases h; exact ⟨rfl, by simp⟩
  | f :: fs, o, cks, h => by
    simp only [fieldsOk] at h
    split at h
    · rename_i hf
      obtain ⟨c, hc, h2⟩ := Option.bind_eq_some_iff.1 h
      obtain ⟨l, hl, rfl⟩ := Option.map_eq_some_iff.1 h2
      obtain ⟨h3, h4⟩ := fields_get fs (o + 1) l hl
      refine ⟨by simp [h3], fun i g hg => ?_⟩
      cases i with
      | zero => simp at hg; subst hg; exact ⟨by simpa using hf.1, hf.2, c, hc, rfl⟩
      | succ i =>
        simp at hg
        obtain ⟨a1, a2, c2, a3, a4⟩ := h4 i g hg
        exact ⟨by omega, a2, c2, a3, by simpa using a4⟩
    · cases h
def CellsOk (cks : List CK) (cs : List Value) : Prop := cs.length = cks.length ∧ ∀ (i : Nat) v, cs[i]? = some v → ∃ a c, absV v = some a ∧ cks[i]? = some c ∧ CkV c a
theorem flat_open {t : TypeId} {cks : List CK} (hf : flatOf P t = some cks) {fuel : Nat} {cs : List Value} {x : DataW H × List MemPlace} (h : DataW.trod enc P w base spare held fuel t cs = some x) : CellsOk cks cs := by
  unfold flatOf at hf
  split at hf
  · rename_i fs hu
    obtain ⟨l, hl, h2⟩ := Option.bind_eq_some_iff.1 hf
    split at h2
    · rename_i hsz
      cases h2
      obtain ⟨xs, n, _, _, hlen, hxl, hel⟩ := DataW.trod_struct hu h
      obtain ⟨h3, h4⟩ := fields_get _ _ _ hl
      refine ⟨by omega, fun i v hv => ?_⟩
      have hi := (List.getElem?_eq_some_iff.1 hv).1
      have hi2 : i < fs.toList.length := by rw [← h3]; omega
      obtain ⟨a1, a2, c, a3, a4⟩ := h4 i _ (List.getElem?_eq_getElem hi2)
      have h5 := hel i fs.toList[i] (by simp)
      rw [a2, a1, Nat.zero_add] at h5
      have h6 : (cs.drop i).take 1 = [v] := by
        have e := (List.getElem?_eq_some_iff.1 hv).2
        rw [List.drop_eq_getElem_cons hi, e]
        rfl
      rw [h6, List.getElem?_eq_getElem (by rw [hxl]; simpa using hi2)] at h5
      obtain ⟨v', a, h7, h8, h9⟩ := ck_open a3 h5
      cases h7
      exact ⟨a, c, h8, a4, h9⟩
    · cases h2
  · split at hf
    · obtain ⟨c, hc, rfl⟩ := Option.map_eq_some_iff.1 hf
      obtain ⟨v, a, rfl, h1, h2⟩ := ck_open hc h
      refine ⟨rfl, fun i u hu => ?_⟩
      obtain rfl : i = 0 := by have := (List.getElem?_eq_some_iff.1 hu).1; simp at this; exact this
      cases hu
      exact ⟨a, c, h1, rfl, h2⟩
    · cases hf
theorem cells_get {a : Addr} {n : Nat} {cs : List Value} (h : w.cells? base a n = some cs) : cs.length = n ∧ ∀ i, i < n → w.cell? (a.add i) = cs[i]? := by
  unfold World.cells? at h
  split at h
  · exact ⟨by simpa using mapM_some_length h, fun i hi => by have := mapM_some_get h i i (by simp [hi]); exact this⟩
  · cases h
/-- A slice's row, cell by cell. -/
def IsFlat (w : World) (cks : List CK) (a : Option Addr) (len cap : Nat) (L : List (List AV)) : Prop :=
  (a = none ∧ len = 0 ∧ cap = 0 ∧ L = []) ∨
  ∃ x, a = some x ∧ len ≤ cap ∧ cap ≤ maxLen ∧ L.length = cap ∧ ∀ i (h : i < L.length), L[i].length = cks.length ∧ ∀ (q : Nat) (b : AV), L[i][q]? = some b → (∃ v, w.cell? (x.add (i * cks.length + q)) = some v ∧ absV v = some b) ∧ ∃ c, cks[q]? = some c ∧ CkV c b
theorem add_add (a : Addr) (i q : Nat) : (a.add i).add q = a.add (i + q) := by
  unfold Addr.add
  by_cases h1 : i = 0
  · subst h1; simp
  · by_cases h2 : q = 0
    · subst h2; simp [h1]
    · rw [if_neg h1, if_neg h2, if_neg (by omega)]
      simp [Nat.add_assoc]
theorem flat_elem {e : TypeId} {cks : List CK} (hf : flatOf P e = some cks) (hz : P.cellsOf e = cks.length) {n : Nat} {x : Addr} {i : Nat} {y : DataW H × List MemPlace} (h : (w.cells? base (x.add (i * P.cellsOf e)) (P.cellsOf e)).bind (DataW.trod enc P w base spare held n e) = some y) :
    ∃ l : List AV, l.length = cks.length ∧ ∀ (q : Nat) (b : AV), l[q]? = some b → (∃ v, w.cell? (x.add (i * cks.length + q)) = some v ∧ absV v = some b) ∧ ∃ c, cks[q]? = some c ∧ CkV c b := by
  obtain ⟨cs, h1, h2⟩ := Option.bind_eq_some_iff.1 h
  obtain ⟨h3, h4⟩ := cells_get h1
  obtain ⟨h5, h6⟩ := flat_open hf h2
  refine ⟨cs.map fun v => (absV v).getD .undef, by simpa using h5, fun q b hb => ?_⟩
  simp at hb
  obtain ⟨v, hv, rfl⟩ := hb
  obtain ⟨a, c, e1, e2, e3⟩ := h6 q v hv
  have hq := (List.getElem?_eq_some_iff.1 hv).1
  have e4 := h4 q (by omega)
  rw [add_add, hz, hv] at e4
  rw [e1]
  exact ⟨⟨v, e4, e1⟩, c, e2, e3⟩
theorem open_flat {t e : TypeId} {cks : List CK} (ht : P.underlying t = some (.slice e)) (hf : flatOf P e = some cks) (hz : P.cellsOf e = cks.length) {fuel : Nat} {a : Option Addr} {len cap : Nat} {x : DataW H × List MemPlace}
    (h : DataW.trod enc P w base (fun _ => true) held fuel t [.slice a len cap] = some x) : ∃ L, IsFlat w cks a len cap L := by
  rcases DataW.trod_slice ht h with ⟨hcs, _⟩ | ⟨a', len', cap', elems, rest, n, _, hcs, _, _, hl, hm, hlen, hel, hre, _⟩
  · simp at hcs
    obtain ⟨rfl, rfl, rfl⟩ := hcs
    exact ⟨[], .inl ⟨rfl, rfl, rfl, rfl⟩⟩
  · simp at hcs
    obtain ⟨rfl, rfl, rfl⟩ := hcs
    obtain ⟨hr1, hr2⟩ := hre rfl
    have key : ∀ i, i < cap → ∃ l : List AV, l.length = cks.length ∧ ∀ (q : Nat) (b : AV), l[q]? = some b → (∃ v, w.cell? (a'.add (i * cks.length + q)) = some v ∧ absV v = some b) ∧ ∃ c, cks[q]? = some c ∧ CkV c b := fun i hi => by
      by_cases hlt : i < len
      · exact flat_elem hf hz ((hel i hlt).trans (List.getElem?_eq_getElem (by omega)))
      · have := hr2 (i - len) (by omega)
        rw [show len + (i - len) = i by omega] at this
        exact flat_elem hf hz (this.trans (List.getElem?_eq_getElem (by omega)))
    let f : Nat → List AV := fun i => if hi : i < cap then Classical.choose (key i hi) else []
    refine ⟨(List.range cap).map f, .inr ⟨a', rfl, hl, hm, by simp, fun i hi => ?_⟩⟩
    have hi' : i < cap := by simpa using hi
    have e : ((List.range cap).map f)[i] = Classical.choose (key i hi') := by simp [f, hi']
    rw [e]
    exact Classical.choose_spec (key i hi')
end
/-- A slice of elements that reads as rows of cells. -/
def SF (H : AH) (v : AV) (sz : Nat) (l : List (List AV)) : Prop :=
  l = [] ∧ (v = .snil ∨ v = .sempty) ∨ ∃ b o, v = .slice b o l.length sz ∧ l ≠ [] ∧ ∀ i (h : i < l.length), l[i].length = sz ∧ ∀ q, q < sz → loadC H b (o + (i * sz + q)) none = l[i][q]?
theorem SF.keeps {H H1 : AH} {sz : Nat} (hk : H.keepsAll H1) {v : AV} {l : List (List AV)} (h : SF H v sz l) : SF H1 v sz l := by
  rcases h with h | ⟨b, o, h1, h2, h3⟩
  · exact .inl h
  · refine .inr ⟨b, o, h1, h2, fun i hi => ⟨(h3 i hi).1, fun q hq => ?_⟩⟩
    have e := (h3 i hi).1
    rw [List.getElem?_eq_getElem (by omega)]
    exact loadC_keeps hk (by rw [(h3 i hi).2 q hq, List.getElem?_eq_getElem (by omega)])
theorem SF.len {H : AH} {v : AV} {sz : Nat} {l : List (List AV)} (h : SF H v sz l) : lenA v = some l.length := by
  rcases h with ⟨h1, rfl | rfl⟩ | ⟨b, o, rfl, _, _⟩
  · rw [h1]; rfl
  · rw [h1]; rfl
  · rfl
theorem SF.get {H : AH} {v : AV} {sz : Nat} {l : List (List AV)} (h : SF H v sz l) (hs : 0 < sz) (i : Nat) (hi : i < l.length) : ∃ b o, v = .slice b o l.length sz ∧ loadC H b (o + i * sz) (some sz) = some (.agg l[i]) ∧ loadC H b (o + i * sz) none = l[i][0]? := by
  rcases h with ⟨h1, _⟩ | ⟨b, o, rfl, _, h3⟩
  · rw [h1] at hi; simp at hi
  · obtain ⟨e1, e2⟩ := h3 i hi
    refine ⟨b, o, rfl, ?_, by have := e2 0 hs; simpa using this⟩
    have := load_many (H := H) (b := b) (o := o + i * sz) (l := l[i]) (fun e => by rw [e] at e1; simp at e1; omega) (fun q hq => by rw [Nat.add_assoc]; exact e2 q (by omega))
    rw [e1] at this
    exact this
theorem SF.of {P : Program} {W : World} {tabs : Nat → Option AObj} (ht : ∀ a o, tabs a = some o → ∃ t cs x, o = .cells true t cs ∧ W.heap[a]? = some x ∧ ORel (j0 P) o x ∧ csize x = cs.length)
    {cks : List CK} (hz : 0 < cks.length) {a : Option Addr} {len cap : Nat} {L : List (List AV)} (h : IsFlat W cks a len cap L) :
    ∃ v, SF (H1 W tabs) v cks.length (L.take len) ∧ VR (j1 W) v (.slice a len cap) := by
  rcases h with ⟨rfl, rfl, rfl, rfl⟩ | ⟨x, rfl, hle, _, hl, hc⟩
  · exact ⟨.snil, .inl ⟨rfl, .inl rfl⟩, .snil⟩
  · by_cases h0 : len = 0
    · subst h0
      exact ⟨.sempty, .inl ⟨by simp, .inr rfl⟩, .sempty⟩
    · have hcap : 0 < cap := by omega
      have cellAt : ∀ i (hi : i < cap) q (hq : q < cks.length), ∃ v b, W.cell? (x.add (i * cks.length + q)) = some v ∧ absV v = some b ∧ (L[i]'(by omega))[q]? = some b := fun i hi q hq => by
        obtain ⟨e1, e2⟩ := hc i (by omega)
        obtain ⟨⟨v, hv, hb⟩, _⟩ := e2 q _ (List.getElem?_eq_getElem (by omega))
        exact ⟨v, _, hv, hb, List.getElem?_eq_getElem (by omega)⟩
      have hspot : x.spot = none := by
        obtain ⟨v, b, hv, _⟩ := cellAt 0 hcap 0 hz
        rw [show x.add (0 * cks.length + 0) = x from by unfold Addr.add; simp] at hv
        cases hsp : x.spot with
        | none => rfl
        | some q =>
          unfold World.cell? at hv
          split at hv
          · rw [hsp] at hv
            simp at hv
          · cases hv
      obtain ⟨b, o, sp⟩ := x
      cases hspot
      have hadd : ∀ i, (⟨b, o, none⟩ : Addr).add i = ⟨b, o + i, none⟩ := fun i => by
        unfold Addr.add
        split
        · rename_i h; subst h; rfl
        · rfl
      have hln : (L.take len).length = len := by simp; omega
      obtain ⟨z, hz1, hzle⟩ : ∃ z, j1 W b = some (b, z) ∧ o + cap * cks.length ≤ z := by
        obtain ⟨v, _, hv, _⟩ := cellAt (cap - 1) (by omega) (cks.length - 1) (by omega)
        rw [hadd] at hv
        unfold World.cell? at hv
        split at hv
        · rename_i c t fz hx
          have hx : W.heap[b]? = some (.cells c t fz) := hx
          simp at hv
          refine ⟨c.size, by unfold j1; rw [hx]; rfl, ?_⟩
          have := (Array.getElem?_eq_some_iff.1 hv).1
          have e : cap * cks.length = (cap - 1) * cks.length + cks.length := by
            rw [← Nat.succ_mul]; congr 1; omega
          omega
        · cases hv
      refine ⟨.slice b o len cks.length, .inr ⟨b, o, by rw [hln], fun h => by rw [h] at hln; exact h0 hln.symm, fun i hi => ?_⟩, .slice hz1 hle hzle⟩
      have hi' : i < len := by omega
      have e : (L.take len)[i] = L[i]'(by omega) := List.getElem_take
      rw [e]
      refine ⟨(hc i (by omega)).1, fun q hq => ?_⟩
      obtain ⟨v, a, hv, ha, hl2⟩ := cellAt i (by omega) q hq
      rw [hadd] at hv
      rw [hl2]
      exact H1_load ht hv ha
theorem IsFlat.each {W : World} {cks : List CK} {a : Option Addr} {len cap : Nat} {L : List (List AV)} (h : IsFlat W cks a len cap L) : ∀ l ∈ L, l.length = cks.length ∧ ∀ (q : Nat) (b : AV), l[q]? = some b → ∃ c, cks[q]? = some c ∧ CkV c b := fun l hl => by
  rcases h with ⟨_, _, _, rfl⟩ | ⟨x, _, _, _, _, hc⟩
  · simp at hl
  · obtain ⟨i, hi, rfl⟩ := List.mem_iff_getElem.1 hl
    obtain ⟨e1, e2⟩ := hc i hi
    exact ⟨e1, fun q b hb => (e2 q b hb).2⟩
theorem wf_i64 {n : Int} (h : (Lit.int .i64 n).wf = true) : -9223372036854775808 ≤ n ∧ n ≤ 9223372036854775807 := by
  have h3 : IntKind.min .i64 ≤ n ∧ n ≤ IntKind.max .i64 := by simpa [Lit.wf] using h
  have e1 : IntKind.min .i64 = -9223372036854775808 := by decide
  have e2 : IntKind.max .i64 = 9223372036854775807 := by decide
  rw [e1, e2] at h3
  exact h3
theorem ck_int {a : AV} (h : CkV (.int .i64) a) : ∃ n, a = .int .i64 n ∧ -9223372036854775808 ≤ n ∧ n ≤ 9223372036854775807 := by
  cases a with
  | int k n => obtain ⟨rfl, h⟩ := h; exact ⟨n, rfl, wf_i64 h⟩
  | _ => exact h.elim
theorem ck_bool {a : AV} (h : CkV .bool a) : ∃ b, a = .bool b := by
  cases a with
  | bool b => exact ⟨b, rfl⟩
  | _ => exact h.elim
theorem ck_str {a : AV} (h : CkV .str a) : ∃ l, a = .str l ∧ l.length ≤ maxLen := by
  cases a with
  | str l => exact ⟨l, rfl, h⟩
  | _ => exact h.elim
end Go.Proofs.YtcgkadfgojmmlaaDoor.Abs
set_option linter.unusedVariables false
set_option linter.unusedSimpArgs false
namespace Go.Proofs.YtcgkadfgojmmlaaDoor.Abs
open Go Go.RowKit
section
variable {P : Program}
theorem CallI.mono {t : TypeId} {nm : String} {v : AV} {args : List AV} {H : AH} {Q Q' : AV → AH → Prop} (h : CallI P t nm v args H Q) (hq : ∀ v H', Q v H' → Q' v H') : CallI P t nm v args H Q' := by
  obtain ⟨f, v', hm, h⟩ := h
  exact ⟨f, v', hm, h.elim (fun h => .inl (h.mono hq)) (fun h => .inr (h.mono hq))⟩
theorem estep_mono {ev : IOpd → AV} {H : AH} {K K' : AV → AH → Prop} (hk : ∀ v H', K v H' → K' v H') : ∀ (o : EOp), estep P ev H K o → estep P ev H K' o
  | .store n x v, h => by
    simp only [estep] at h ⊢
    split at h
    · split at h
      · rename_i hl
        rw [if_pos hl]
        split at h
        · exact hk _ _ h
        · exact h.elim
      · exact h.elim
    · exact h.elim
  | .call f args, h => ACall.mono h hk
  | .callv x args, h => by
    simp only [estep] at h ⊢
    split at h
    · exact ACall.mono h hk
    · exact AYield.mono h hk
    · exact h.elim
  | .invoke nm x args, h => by
    simp only [estep] at h ⊢
    split at h
    · exact CallI.mono h hk
    · exact h.elim
  | .xcall f args, h => XCall.mono h hk
  | .never, h => h.elim
  | .append _ _ _ _ _ _, h => by
    simp only [estep] at h ⊢
    split at h
    · exact hk _ _ h
    · exact h.elim
  | .copy _ _ _, h => by
    simp only [estep] at h ⊢
    split at h
    · exact hk _ _ h
    · exact h.elim
  | .clear _ _ _, h => by
    simp only [estep] at h ⊢
    split at h
    · exact hk _ _ h
    · exact h.elim
  | .cap x, h => by
    simp only [estep] at h ⊢
    unfold CapA at h ⊢
    split at h
    · exact hk _ _ h
    · exact hk _ _ h
    · exact fun k => hk _ _ (h k)
    · exact fun k hn => hk _ _ (h k hn)
    · exact h.elim
  | .mapset _ _ _, h => by
    simp only [estep] at h ⊢
    split at h
    · exact hk _ _ h
    · exact h.elim
theorem irun_mono {K K' : Tms → AH → Prop} (hk : ∀ tm H, K tm H → K' tm H) : ∀ (l : List IStep) (pd : Pend) (tm : Tms) (H : AH), IRun P K l pd tm H → IRun P K' l pd tm H
  | [], pd, tm, H, h => hk _ _ h
  | .n dst g o :: rest, pd, tm, H, h => by
    rw [IRun] at h ⊢
    split at h
    · split at h
      · exact irun_mono hk rest _ _ _ h
      · exact irun_mono hk rest _ _ _ h
      · exact h.elim
    · exact irun_mono hk rest _ _ _ h
    · exact h.elim
  | .late key dst g o :: rest, pd, tm, H, h => by
    rw [IRun] at h ⊢
    split at h
    · split at h
      · exact irun_mono hk rest _ _ _ h
      · exact h.elim
    · exact irun_mono hk rest _ _ _ h
    · exact h.elim
  | .act key :: rest, pd, tm, H, h => by
    rw [IRun] at h ⊢
    split at h
    · exact irun_mono hk rest _ _ _ h
    · exact irun_mono hk rest _ _ _ h
  | .e dst g o re :: rest, pd, tm, H, h => by
    rw [IRun] at h ⊢
    split at h
    · exact estep_mono (fun v H' ⟨h1, h2⟩ => ⟨h1, irun_mono hk rest _ _ _ h2⟩) o h
    · exact irun_mono hk rest _ _ _ h
    · exact h.elim
theorem then_mono {n n' : Tms → AH → Prop} {Q Q' : IPost} (hn : ∀ tm H, n tm H → n' tm H) (hq : ∀ e tm H, Q e tm H → Q' e tm H) : ∀ e tm H, IPost.then n Q e tm H → IPost.then n' Q' e tm H
  | .normal, tm, H, h => hn _ _ h
  | .exit _, tm, H, h => hq _ _ _ h
  | .ret, tm, H, h => hq _ _ _ h
theorem inBlock_mono {id : Nat} {Q Q' : IPost} (hq : ∀ e tm H, Q e tm H → Q' e tm H) : ∀ e tm H, IPost.inBlock id Q e tm H → IPost.inBlock id Q' e tm H
  | .normal, tm, H, h => hq _ _ _ h
  | .exit k, tm, H, h => by
    simp only [IPost.inBlock] at h ⊢
    split
    · rename_i e; rw [if_pos e] at h; exact hq _ _ _ h
    · rename_i e; rw [if_neg e] at h; exact hq _ _ _ h
  | .ret, tm, H, h => hq _ _ _ h
theorem iwp_mono : ∀ (c : ICode) {Q Q' : IPost} (hq : ∀ e tm H, Q e tm H → Q' e tm H) (tm : Tms) (H : AH), IWP P c Q tm H → IWP P c Q' tm H
  | .skip, Q, Q', hq, tm, H, h => hq _ _ _ h
  | .reg steps, Q, Q', hq, tm, H, h => irun_mono (hq .normal) steps [] tm H h
  | .seq a b, Q, Q', hq, tm, H, h => iwp_mono a (then_mono (fun tm H h => iwp_mono b hq tm H h) hq) tm H h
  | .cond c a b, Q, Q', hq, tm, H, h => by
    rw [IWP] at h ⊢
    split at h
    · exact iwp_mono a hq tm H h
    · exact iwp_mono b hq tm H h
    · exact h.elim
  | .block id a, Q, Q', hq, tm, H, h => iwp_mono a (inBlock_mono hq) tm H h
  | .loop a, Q, Q', hq, tm, H, h => by
    obtain ⟨I, h0, h1⟩ := h
    exact ⟨I, h0, fun n tm H hi => iwp_mono a (then_mono (fun _ _ h => h) hq) tm H (h1 n tm H hi)⟩
  | .exit id, Q, Q', hq, tm, H, h => hq _ _ _ h
  | .ret, Q, Q', hq, tm, H, h => hq _ _ _ h
  | .never, Q, Q', hq, tm, H, h => h.elim
  | .rangeF g ps a b, Q, Q', hq, tm, H, h => by
    rw [IWP] at h ⊢
    split at h
    · exact fun o ho hY => (h o ho hY).mono fun v H' ⟨x, h1, h2⟩ => ⟨x, h1, hq _ _ _ h2⟩
    · exact h.elim
/-- A walk cut in two: what holds between. -/
theorem iwp_cut {a b : ICode} {Q : IPost} {tm : Tms} {H : AH} (R : Tms → AH → Prop) (h1 : IWP P a (IPost.then R Q) tm H) (h2 : ∀ tm' H', R tm' H' → IWP P b Q tm' H') : IWP P (.seq a b) Q tm H :=
  iwp_mono a (then_mono (fun tm' H' h => h2 tm' H' h) fun _ _ _ h => h) tm H h1
theorem iwp_post {a : ICode} {Q : IPost} {tm : Tms} {H : AH} (R : IPost) (h1 : IWP P a R tm H) (h2 : ∀ e tm' H', R e tm' H' → Q e tm' H') : IWP P a Q tm H := iwp_mono a h2 tm H h1
theorem iwp_assoc {a b c : ICode} {Q : IPost} {tm : Tms} {H : AH} (h : IWP P (.seq (.seq a b) c) Q tm H) : IWP P (.seq a (.seq b c)) Q tm H :=
  iwp_mono a (fun e tm H h => by cases e <;> exact h) tm H h
theorem iwp_cut2 {a b c : ICode} {Q : IPost} {tm : Tms} {H : AH} (R : Tms → AH → Prop) (h1 : IWP P (.seq a b) (IPost.then R Q) tm H) (h2 : ∀ tm' H', R tm' H' → IWP P c Q tm' H') : IWP P (.seq a (.seq b c)) Q tm H :=
  iwp_assoc (iwp_cut R h1 h2)
theorem iwp_cut3 {a b c d : ICode} {Q : IPost} {tm : Tms} {H : AH} (R : Tms → AH → Prop) (h1 : IWP P (.seq a (.seq b c)) (IPost.then R Q) tm H) (h2 : ∀ tm' H', R tm' H' → IWP P d Q tm' H') : IWP P (.seq a (.seq b (.seq c d))) Q tm H :=
  iwp_assoc (iwp_cut2 R (iwp_mono a (fun e tm H h => by cases e <;> exact h) tm H h1) h2)
/-- The part of a code at the end of a path: 0 the first part, 1 the second. -/
def part_ : List Nat → ICode → ICode
  | [], c => c
  | 0 :: p, .seq a _ => part_ p a
  | _ :: p, .seq _ b => part_ p b
  | 0 :: p, .cond _ a _ => part_ p a
  | _ :: p, .cond _ _ b => part_ p b
  | _ :: p, .block _ a => part_ p a
  | _ :: p, .loop a => part_ p a
  | _, c => c
end
def lenS : AV → Option Nat
  | .slice _ _ n _ => some n
  | .snil => some 0
  | .sempty => some 0
  | .szero => some 0
  | _ => none
@[simp] theorem lenS_slice (b o n e : Nat) : lenS (.slice b o n e) = some n := (rfl)
@[simp] theorem lenS_snil : lenS .snil = some 0 := (rfl)
@[simp] theorem lenS_sempty : lenS .sempty = some 0 := (rfl)
@[simp] theorem lenS_szero : lenS .szero = some 0 := (rfl)
theorem nop_len (ev : IOpd → AV) (H : AH) (id : Nat) (x : IOpd) : nop ev H id (.len x) = (lenS (ev x)).map fun n => (.int .i64 (n : Int), none) := by
  rw [nop]
  cases ev x <;> rfl
@[simp ↓ high] theorem irun_len {P : Program} (K : Tms → AH → Prop) (dst : Option Nat) (g : Guard) (x : IOpd) (rest : List IStep) (pd : Pend) (tm : Tms) (H : AH) :
    IRun P K (.n dst g (.len x) :: rest) pd tm H = Fork3 (wantedA tm g) (Try (lenS (x.ev tm)) (fun n => IRun P K rest pd (put tm dst (.int .i64 (n : Int))) H) markF) (IRun P K rest pd (put tm dst .undef) H) mark := by
  rw [irun_n, nop_len, Try.map]
  rfl
theorem SL.get {H : AH} {v : AV} {l : List AV} (h : SL H v l) (i : Nat) (hi : i < l.length) : ∃ b o, v = .slice b o l.length 1 ∧ loadC H b (o + i) none = some l[i] := by
  rcases h with ⟨h1, _⟩ | ⟨b, o, rfl, _, h3⟩
  · rw [h1] at hi; simp at hi
  · exact ⟨b, o, rfl, by rw [h3 i hi, List.getElem?_eq_getElem hi]⟩
theorem SL.cases {H : AH} {v : AV} {l : List AV} (h : SL H v l) : (l.length = 0 ∧ v = .snil) ∨ (l.length = 0 ∧ v = .sempty) ∨ ∃ b o, v = .slice b o l.length 1 := by
  rcases h with ⟨h1, rfl | rfl⟩ | ⟨b, o, rfl, _, _⟩
  · exact .inl ⟨by rw [h1]; rfl, rfl⟩
  · exact .inr (.inl ⟨by rw [h1]; rfl, rfl⟩)
  · exact .inr (.inr ⟨b, o, rfl⟩)
/-- A slice that reads as a row, or one of no room. -/
def SZ (H : AH) (v : AV) (l : List AV) : Prop := SL H v l ∨ (l.length = 0 ∧ v = .szero)
theorem SZ.keeps {H H1 : AH} (hk : H.keepsAll H1) {v : AV} {l : List AV} (h : SZ H v l) : SZ H1 v l := h.imp (fun h => h.keeps hk) id
theorem SZ.get {H : AH} {v : AV} {l : List AV} (h : SZ H v l) (i : Nat) (hi : i < l.length) : ∃ b o, v = .slice b o l.length 1 ∧ loadC H b (o + i) none = some l[i] := by
  rcases h with h | ⟨h, _⟩
  · exact SL.get h i hi
  · omega
theorem SZ.cases {H : AH} {v : AV} {l : List AV} (h : SZ H v l) : (l.length = 0 ∧ v = .snil) ∨ (l.length = 0 ∧ v = .sempty) ∨ (l.length = 0 ∧ v = .szero) ∨ ∃ b o, v = .slice b o l.length 1 := by
  rcases h with h | h
  · rcases SL.cases h with h | h | h
    · exact .inl h
    · exact .inr (.inl h)
    · exact .inr (.inr (.inr h))
  · exact .inr (.inr (.inl h))
theorem SL.lenS {H : AH} {v : AV} {l : List AV} (h : SL H v l) : lenS v = some l.length := by
  rcases SL.cases h with ⟨h0, rfl⟩ | ⟨h0, rfl⟩ | ⟨b, o, rfl⟩ <;> simp <;> omega
theorem SZ.lenS {H : AH} {v : AV} {l : List AV} (h : SZ H v l) : lenS v = some l.length := by
  rcases SZ.cases h with ⟨h0, rfl⟩ | ⟨h0, rfl⟩ | ⟨h0, rfl⟩ | ⟨b, o, rfl⟩ <;> simp <;> omega
end Go.Proofs.YtcgkadfgojmmlaaDoor.Abs
set_option linter.unusedVariables false
set_option linter.unusedSimpArgs false
namespace Go.Proofs.YtcgkadfgojmmlaaDoor.Abs
open Go Go.RowKit
/-- What lies below a number stays. -/
def KBel (B : Nat) (H H' : AH) : Prop := ∀ b o, b < B → H.at_ b = some o → H'.at_ b = some o
theorem KBel.refl (B : Nat) (H : AH) : KBel B H H := fun _ _ _ h => h
theorem KBel.trans {B : Nat} {H H1 H2 : AH} (h : KBel B H H1) (h' : KBel B H1 H2) : KBel B H H2 := fun b o hb ho => h' b o hb (h b o hb ho)
theorem KBel.of {B : Nat} {H H1 : AH} (h : H.keepsAll H1) : KBel B H H1 := fun b o _ ho => h b o ho
theorem KBel.keepsAll {H0 H H1 : AH} (hk : H0.keepsAll H) (h : KBel H0.next H H1) (hok : H0.ok) : H0.keepsAll H1 := fun b o ho => h b o (hok b o ho) (hk b o ho)
theorem KBel.new {B : Nat} {H H1 : AH} {o : AObj} (h : KBel B H H1) (hB : B ≤ H1.next) : KBel B H (H1.new o) := fun b q hb ho => by rw [AH.new_ne _ _ (by omega)]; exact h b q hb ho
theorem KBel.set {B x : Nat} {H H1 : AH} {o : Option AObj} (h : KBel B H H1) (hB : B ≤ x) : KBel B H (H1.set x o) := fun b q hb ho => by rw [AH.set_ne _ _ (by omega)]; exact h b q hb ho
/-- A slice of the call's own: one-cell elements. -/
def OutS (B : Nat) (H : AH) (t : TypeId) (v : AV) (xs : List AV) : Prop :=
  xs = [] ∧ v = .snil ∨ ∃ q, v = .slice q 0 xs.length 1 ∧ xs ≠ [] ∧ H.at_ q = some (.cells false t xs) ∧ B ≤ q ∧ q < H.next
theorem OutS.sl {B : Nat} {H : AH} {t : TypeId} {v : AV} {xs : List AV} (h : OutS B H t v xs) : SL H v xs := by
  rcases h with ⟨rfl, rfl⟩ | ⟨q, rfl, h1, h2, _⟩
  · exact .inl ⟨rfl, .inl rfl⟩
  · refine .inr ⟨q, 0, rfl, h1, fun i hi => ?_⟩
    unfold loadC
    rw [h2]
    simp
theorem OutS.keeps {B : Nat} {H H1 : AH} {t : TypeId} {v : AV} {xs : List AV} (h : OutS B H t v xs) (hk : H.keepsAll H1) (hn : H.next ≤ H1.next) : OutS B H1 t v xs := by
  rcases h with h | ⟨q, h0, h1, h2, h3, h4⟩
  · exact .inl h
  · exact .inr ⟨q, h0, h1, hk _ _ h2, h3, by omega⟩
/-- One more behind a row of the call's own. -/
theorem appendOut {B : Nat} {H : AH} {t : TypeId} {bytes : Nat} {v x : AV} {xs : List AV} (h : OutS B H t v xs) (hB : B ≤ H.next) (hx : x.one = true) (hb : (xs.length + 1) * bytes ≤ 70368744177664) (hl : xs.length + 1 ≤ 70368744177664) :
    ∃ v' H', appendK (H.new (.cells false t [x])) false t 1 bytes v (.slice H.next 0 1 1) = some (v', H') ∧ OutS B H' t v' (xs ++ [x]) ∧ H'.next = H.next + 2 ∧ KBel B H H' := by
  rcases h with ⟨rfl, rfl⟩ | ⟨q, rfl, h1, h2, h3, h4⟩
  · refine ⟨.slice (H.next + 1) 0 1 1, (H.new (.cells false t [x])).new (.cells false t [x]), ?_, .inr ⟨H.next + 1, by simp, by simp, by simp, by omega, by simp⟩, by simp, ((KBel.refl B H).new hB).new (by simp; omega)⟩
    simp at hb
    simp [appendK, appendA, isStrV, srcCells, hx, hb]
  · have e1 : ¬ (q = H.next) := by omega
    refine ⟨.slice (H.next + 1) 0 (xs.length + 1) 1, ((H.new (.cells false t [x])).set q none).new (.cells false t (xs ++ [x])), ?_, .inr ⟨H.next + 1, by simp, by simp, by simp, by omega, by simp⟩, by simp, (((KBel.refl B H).new hB).set h3).new (by simp; omega)⟩
    simp [appendK, appendA, isStrV, srcCells, hx, hb, hl, h2, e1]
theorem back_bytes (l : List UInt8) : (l.map byteV).map Abs.byteOf = l := by
  rw [List.map_map]
  conv => rhs; rw [← List.map_id l]
  refine List.map_congr_left fun c _ => ?_
  show UInt8.ofNat ((c.toNat : Int)).toNat = c
  simp
theorem all_bytes (l : List UInt8) : (l.map byteV).all isByte = true := by simp [isByte]
/-- A row of bytes, as a text. -/
theorem b2s_own {H : AH} {q o n : Nat} {l : List UInt8} (h : loadC H q o (some n) = some (.agg (l.map byteV))) (e : Nat) : b2sA H (.slice q o n e) = some (.str l) := by
  simp only [b2sA, h]
  rw [if_pos (all_bytes l), back_bytes]
theorem load_own {H : AH} {q n : Nat} {ro : Bool} {t : TypeId} {l : List AV} (h : H.at_ q = some (.cells ro t l)) (hn : l.length = n) : loadC H q 0 (some n) = some (.agg l) := by
  unfold loadC
  rw [h]
  simp [hn, List.take_of_length_le (Nat.le_of_eq hn)]
end Go.Proofs.YtcgkadfgojmmlaaDoor.Abs
