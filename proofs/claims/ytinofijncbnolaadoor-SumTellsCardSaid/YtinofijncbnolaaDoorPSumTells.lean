/- SumTells, the plain part: a digest is the one that the document says, of one text or of several. -/
import Derived.Test.YtinofijncbnolaaDoorSEv
import Derived.Test.YtinofijncbnolaaDoorVx8
set_option linter.unusedVariables false
set_option linter.unusedSimpArgs false
namespace Go.Proofs.YtinofijncbnolaaDoor.Pure
open Go.RowKit (wrap64)
open Go Go.Proofs.YtinofijncbnolaaDoorW.PrintWords Go.Proofs.YtinofijncbnolaaDoorW.PrintLast Go.Proofs.YtinofijncbnolaaDoorW.PrintMore Go.Proofs.YtinofijncbnolaaDoor.V Go.Proofs.YtinofijncbnolaaDoor.St Go.Proofs.YtinofijncbnolaaDoor.Sm Go.Proofs.YtinofijncbnolaaDoor.Hex Go.Proofs.YtinofijncbnolaaDoor.Sev
def Bytes (l : List Int) : Prop := ∀ x ∈ l, 0 ≤ x ∧ x < 256
theorem rof_bytes (l : List Int) (hb : Bytes l) (hl : l.length ≤ 100000000000000) : Ev (fun k => credenzaref2_Of.f k (strOfNums l)) (fnv F0 l) := by
  obtain ⟨s, rfl⟩ := of_bytes l hb
  rw [strOf]
  exact rof_ev s (by simpa using hl)
theorem tells_l0 (x : List Int) (L : List (List Int)) (hx : x.length ≤ 5000) (hbx : Bytes x) (hL : L.length ≤ 50) (hbL : ∀ y ∈ L, Bytes y) (m : Nat) : ∀ i : Nat, i + m = L.length → (∀ y ∈ L.take i, y.length ≤ 200) → (L.take i).flatten.length ≤ 200 * i →
    Ev (fun k => credenzalaw2_SumTells.l0 k x L (L.take i).flatten (i : Int)) true := by
  induction m with
  | zero =>
    intro i hi hy hf
    rw [List.take_of_length_le (by omega)] at hy hf ⊢
    refine Ev.step (fun k => by simp only [credenzalaw2_SumTells.l0]; rw [if_neg (by omega)] <;> rfl) ?_
    refine Ev.bind (of_ev x (by omega)) ?_
    refine Ev.bind (rof_bytes x hbx (by omega)) (Ev.congr (fun k => by rw [if_pos rfl] <;> rfl) ?_)
    refine Ev.bind (parts_ev L (by omega) fun y hyL => by have := hy y hyL; omega) ?_
    refine Ev.bind (rof_bytes L.flatten (fun c hc => by obtain ⟨y, h1, h2⟩ := List.mem_flatten.1 hc; exact hbL y h1 c h2) (by omega)) (Ev.congr (fun k => by rw [if_pos rfl] <;> rfl) ?_)
    exact Ev.bind awake_ev (Ev.now _)
  | succ m ih =>
    intro i hi hy hf
    have hi' : i < L.length := by omega
    have ht : L.take (i + 1) = L.take i ++ [L[i]] := List.take_succ_eq_append_getElem hi'
    have hfl : (L.take (i + 1)).flatten = (L.take i).flatten ++ L[i] := by rw [ht, List.flatten_append, List.flatten_cons, List.flatten_nil, List.append_nil]
    by_cases h200 : ((L[i]).length : Int) > 200
    · exact Ev.step (fun k => by simp only [credenzalaw2_SumTells.l0]; rw [if_pos (by omega), if_pos (by omega), rd1_at L i hi', if_pos h200] <;> rfl) (Ev.bind awake_ev (Ev.now _))
    · refine Ev.step (fun k => by simp only [credenzalaw2_SumTells.l0]; rw [if_pos (by omega), if_pos (by omega), rd1_at L i hi', if_neg h200, if_pos (by omega), wrap_nat (by omega), ← hfl] <;> rfl) ?_
      refine ih (i + 1) (by omega) ?_ ?_
      · rw [ht]
        intro y hy'
        rcases List.mem_append.1 hy' with h | h
        · exact hy y h
        · rw [List.mem_singleton.1 h]; omega
      · rw [hfl, List.length_append]; omega
theorem SumTells (x : List Int) (L : List (List Int)) (hbx : Bytes x) (hbL : ∀ y ∈ L, Bytes y) : ∃ k, credenzalaw2_SumTells.f k x L = some true := by
  apply Ev.rounds
  unfold credenzalaw2_SumTells.f
  by_cases hl : (x.length : Int) > 5000
  · refine Ev.congr (fun k => by rw [if_pos hl] <;> rfl) ?_
    exact Ev.step (fun k => by simp only [credenzalaw2_SumTells.j0]; rw [if_pos trivial] <;> rfl) (Ev.bind awake_ev (Ev.now _))
  · refine Ev.congr (fun k => by rw [if_neg hl] <;> rfl) ?_
    by_cases h50 : (L.length : Int) > 50
    · exact Ev.step (fun k => by simp only [credenzalaw2_SumTells.j0]; rw [decide_eq_true h50, if_pos rfl] <;> rfl) (Ev.bind awake_ev (Ev.now _))
    · refine Ev.step (fun k => by simp only [credenzalaw2_SumTells.j0]; rw [decide_eq_false h50, if_neg (by simp)] <;> rfl) ?_
      exact tells_l0 x L (by omega) hbx (by omega) hbL L.length 0 (by omega) (by simp) (by simp)
end Go.Proofs.YtinofijncbnolaaDoor.Pure
