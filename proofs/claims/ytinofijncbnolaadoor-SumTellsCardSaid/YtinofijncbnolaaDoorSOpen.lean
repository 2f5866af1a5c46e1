/- A slice of byte slices that came in: its rows, as the walks read them. -/
import Derived.Test.YtinofijncbnolaaDoorWMore
import Derived.Test.YtinofijncbnolaaDoorWWords
import Derived.ChangeSlices
import Derived.ChangeArms
import Derived.OpenShut
import Derived.ShutString
import Derived.ChangeOld
import Derived.ProofKit
import Derived.ChangeAt
import Derived.Below
import Derived.SizedLaws
set_option linter.unusedVariables false
set_option linter.unusedSimpArgs false
namespace Go.Proofs.YtinofijncbnolaaDoor.SO
open Go Go.ChangeShapes Go.WideShapes Go.ChangeAt Go.RowKit Go.Proofs.YtinofijncbnolaaDoorW.PrintWords Go.Proofs.YtinofijncbnolaaDoorW.PrintLast Go.Proofs.YtinofijncbnolaaDoorW.PrintMore
section
variable {H : Type} {enc : TypeId × Value → H} {P : Program} {w : World}
theorem one_cell {a : Addr} {c1 : List Value} (h : w.cells? 0 a 1 = some c1) : ∃ c, c1 = [c] ∧ w.cell? a = some c := by
  have e0 : a.add 0 = a := by simp [Addr.add]
  unfold World.cells? at h
  split at h
  · simp only [List.range_succ, List.range_zero, List.nil_append, List.mapM_cons, List.mapM_nil, e0] at h
    cases hcc : w.cell? a with
    | none => simp [hcc] at h
    | some c => simp [hcc] at h; exact ⟨c, h.symm, rfl⟩
  · cases h
/-- A row of bytes in a cell. -/
theorem bytes_in {e b : TypeId} {fuel : Nat} {v : Value} {x : DataW H × List MemPlace} (he : P.underlying e = some (.slice b)) (hb : P.underlying b = some (.int .u8)) (hcb : P.cellsOf b = 1) (h : DataW.trod enc P w 0 (fun _ => true) true fuel e [v] = some x) :
    ∃ (A : Option Addr) (c : Nat) (l : List Int), v = .slice A l.length c ∧ l.length ≤ c ∧ Kd.C (Kd.int .u8) w A l.length l ∧ ∀ n ∈ l, (Lit.int .u8 n).wf = true := by
  rcases open_ints he hb hcb h with ⟨hcs, _⟩ | ⟨a, l, c, zs, hcs, _, hl, hm, hz, _, hcell, hwz⟩
  · simp at hcs
    subst hcs
    exact ⟨none, 0, [], rfl, Nat.le_refl _, Kd.C_nil _ _, by simp⟩
  · simp at hcs
    subst hcs
    obtain ⟨l', rfl, hr, hm', hw', hc'⟩ := ReadsInt.ofRowC (k := .u8) (w := w) (a := some a) (len := l) (cap := c) (zs := zs) (.inr ⟨a, rfl, hl, hm, by simpa using hz, hcell, hwz⟩)
    exact ⟨some a, c, l', rfl, hc', Kd.C_of_reads (d := (0 : Int)) (h1 := fun _ => rfl) hr, hw'⟩
theorem open_bb {t e b : TypeId} {fuel : Nat} {cs : List Value} {x : DataW H × List MemPlace} (ht : P.underlying t = some (.slice e)) (he : P.underlying e = some (.slice b)) (hb : P.underlying b = some (.int .u8)) (hce : P.cellsOf e = 1) (hcb : P.cellsOf b = 1) (h : DataW.trod enc P w 0 (fun _ => true) true fuel t cs = some x) :
    ∃ (A : Option Addr) (cap : Nat) (L : List (List Int)), cs = [.slice A L.length cap] ∧ L.length ≤ cap ∧ Kd.C (Kd.slice b (Kd.int .u8)) w A L.length L ∧ ∀ y ∈ L, ∀ n ∈ y, (Lit.int .u8 n).wf = true := by
  rcases DataW.trod_slice ht h with ⟨hcs, _⟩ | ⟨a, len, cap, elems, rest, n, _, hcs, _, _, hl, hm, hlen, hel, _⟩
  · exact ⟨none, 0, [], hcs, Nat.le_refl _, Kd.C_nil _ _, by simp⟩
  · have key : ∀ i, i < len → ∃ l : List Int, (∃ (A : Option Addr) (c : Nat), w.cell? (a.add i) = some (.slice A l.length c) ∧ l.length ≤ c ∧ Kd.C (Kd.int .u8) w A l.length l) ∧ ∀ n ∈ l, (Lit.int .u8 n).wf = true := fun i hi => by
      have hE := hel i hi
      rw [hce, Nat.mul_one, List.getElem?_eq_getElem (by omega)] at hE
      obtain ⟨c1, hc1, hy1⟩ := Option.bind_eq_some_iff.1 hE
      obtain ⟨c, rfl, hcell⟩ := one_cell hc1
      obtain ⟨A, c', l, rfl, h1, h2, h3⟩ := bytes_in he hb hcb hy1
      exact ⟨l, ⟨A, c', hcell, h1, h2⟩, h3⟩
    let f : Nat → List Int := fun i => if hi : i < len then Classical.choose (key i hi) else []
    have hf : ∀ i, i < len → (∃ (A : Option Addr) (c : Nat), w.cell? (a.add i) = some (.slice A (f i).length c) ∧ (f i).length ≤ c ∧ Kd.C (Kd.int .u8) w A (f i).length (f i)) ∧ ∀ n ∈ f i, (Lit.int .u8 n).wf = true := fun i hi => by
      have e : f i = Classical.choose (key i hi) := dif_pos hi
      rw [e]
      exact Classical.choose_spec (key i hi)
    have hL : ((List.range len).map f).length = len := by simp
    refine ⟨some a, cap, (List.range len).map f, by rw [hL]; exact hcs, by rw [hL]; exact hl, ?_, ?_⟩
    · refine ⟨rfl, by rw [hL]; have : maxLen ≤ 9223372036854775807 := by decide
                      omega, fun _ => ⟨a, rfl, fun j p hp => ?_⟩⟩
      have hj : j < len := by rw [← hL]; exact (List.getElem?_eq_some_iff.1 hp).1
      have hpe : p = f j := by
        rw [List.getElem?_map, List.getElem?_range hj] at hp
        exact (Option.some.inj hp).symm
      subst hpe
      obtain ⟨⟨A, c, h1, h2, h3⟩, _⟩ := hf j hj
      refine ⟨[.slice A (f j).length c], rfl, ⟨A, c, rfl, h2, h3⟩, fun i u hu => ?_⟩
      obtain rfl : i = 0 := by have := (List.getElem?_eq_some_iff.1 hu).1; simp at this; exact this
      cases hu
      show w.cell? (a.add (j * 1 + 0)) = _
      rw [Nat.mul_one, Nat.add_zero]
      exact h1
    · intro y hy
      obtain ⟨i, hi, rfl⟩ := List.mem_map.1 hy
      exact (hf i (List.mem_range.1 hi)).2
end
end Go.Proofs.YtinofijncbnolaaDoor.SO
