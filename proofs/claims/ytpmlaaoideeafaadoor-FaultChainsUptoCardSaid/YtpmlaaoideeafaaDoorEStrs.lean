/- A row of texts as a parameter; what the bound of an '..UptoSaid' gives. -/
import Derived.Test.YtpmlaaoideeafaaDoorFChain
import Derived.SliceStrings
set_option linter.unusedVariables false
namespace Go.Proofs.YtpmlaaoideeafaaDoor.EStrs
open Go Go.RowKit Go.ChangeShapes Go.Proofs.YtpmlaaoideeafaaDoor Go.Proofs.YtpmlaaoideeafaaDoor.Abs Go.Proofs.YtpmlaaoideeafaaDoor.FChain
/-- A row of texts in the world. -/
def IsStrs (w : World) (a : Option Addr) (len cap : Nat) (ss : List ByteArray) : Prop :=
  (a = none ∧ len = 0 ∧ cap = 0 ∧ ss = []) ∨
  ∃ x, a = some x ∧ len ≤ cap ∧ cap ≤ maxLen ∧ ss.length = cap ∧ ∀ i s, ss[i]? = some s → w.cell? (x.add i) = some (.string s)
abbrev texts (ss : List ByteArray) : List (List UInt8) := ss.map fun s => s.data.toList
theorem sl_strs {P : Program} {W : World} {tabs : Nat → Option AObj} (ht : ∀ a o, tabs a = some o → ∃ t cs x, o = .cells true t cs ∧ W.heap[a]? = some x ∧ ORel (j0 P) o x ∧ csize x = cs.length)
    {a : Option Addr} {len cap : Nat} {ss : List ByteArray} (h : IsStrs W a len cap ss) : ∃ v, SL (H1 W tabs) v ((texts (ss.take len)).map .str) ∧ VR (j1 W) v (.slice a len cap) := by
  rcases h with ⟨rfl, rfl, rfl, rfl⟩ | ⟨x, rfl, hle, _, hl, hc⟩
  · exact ⟨.snil, .inl ⟨rfl, .inl rfl⟩, .snil⟩
  · have e : (texts (ss.take len)).map AV.str = (ss.map fun s => AV.str s.data.toList).take len := by
      rw [List.map_map, ← List.map_take]
      rfl
    rw [e]
    refine slice1 ht (by simpa using hl) hle fun i b hb => ?_
    rw [List.getElem?_map] at hb
    obtain ⟨s, hs, rfl⟩ := Option.map_eq_some_iff.1 hb
    exact ⟨_, hc i s hs, rfl⟩
/-! ### Bulk -/
theorem part_le {H : Type} {d : DataW H} {l : List (DataW H)} (h : d ∈ l) : Rows.uptoBulk d ≤ Rows.uptoBulkAll l := by
  induction l with
  | nil => cases h
  | cons x r ih =>
    simp only [Rows.uptoBulkAll]
    rcases List.mem_cons.1 h with e | e
    · subst e; omega
    · have := ih e; omega
theorem part_small {H : Type} {d : DataW H} {l : List (DataW H)} (h : Rows.uptoSmall H l = true) (hm : d ∈ l) : Rows.uptoBulk d ≤ 1048576 := by
  have h1 : Rows.uptoBulkAll l ≤ 1048576 := of_decide_eq_true h
  exact Nat.le_trans (part_le hm) h1
theorem string_small {H : Type} {s : ByteArray} {l : List (DataW H)} (h : Rows.uptoSmall H l = true) (hm : (DataW.lit (H := H) (.string s.data.toList)) ∈ l) : s.data.toList.length ≤ 1048576 := by
  have := part_small h hm
  simp only [Rows.uptoBulk] at this
  omega
theorem bulk_strs {H : Type} (ss : List ByteArray) : total (texts ss) ≤ Rows.uptoBulkAll (ss.map fun s => DataW.lit (H := H) (.string s.data.toList)) := by
  induction ss with
  | nil => simp [total]
  | cons s ss ih =>
    simp only [texts, List.map_cons, Rows.uptoBulkAll, Rows.uptoBulk, total, List.sum_cons] at ih ⊢
    omega
theorem strs_small {H : Type} {ss : List ByteArray} {rest : List (DataW H)} {l : List (DataW H)} (h : Rows.uptoSmall H l = true) (hm : (DataW.slice (ss.map fun s => DataW.lit (H := H) (.string s.data.toList)) rest) ∈ l) : total (texts ss) ≤ 1048576 := by
  have := part_small h hm
  have h2 := bulk_strs (H := H) ss
  simp only [Rows.uptoBulk] at this
  omega
theorem i64_range {n : Int} (h : (Lit.int .i64 n).wf = true) : -9223372036854775808 ≤ n ∧ n ≤ 9223372036854775807 := by
  have h3 : IntKind.min .i64 ≤ n ∧ n ≤ IntKind.max .i64 := by simpa [Lit.wf] using h
  have e1 : IntKind.min .i64 = -9223372036854775808 := by decide
  have e2 : IntKind.max .i64 = 9223372036854775807 := by decide
  rw [e1, e2] at h3
  exact h3
end Go.Proofs.YtpmlaaoideeafaaDoor.EStrs
