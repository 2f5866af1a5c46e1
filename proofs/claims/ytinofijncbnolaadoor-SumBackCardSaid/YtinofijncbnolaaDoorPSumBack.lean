/- SumBack, the plain part: no two bytes behind a text lead to one digest. -/
import Derived.Test.YtinofijncbnolaaDoorPSumLast
import Derived.Test.YtinofijncbnolaaDoorVx7
set_option linter.unusedVariables false
set_option linter.unusedSimpArgs false
namespace Go.Proofs.YtinofijncbnolaaDoor.Pure
open Go.RowKit (wrap64)
open Go Go.Proofs.YtinofijncbnolaaDoorW.PrintWords Go.Proofs.YtinofijncbnolaaDoorW.PrintLast Go.Proofs.YtinofijncbnolaaDoorW.PrintMore Go.Proofs.YtinofijncbnolaaDoor.V Go.Proofs.YtinofijncbnolaaDoor.St Go.Proofs.YtinofijncbnolaaDoor.Sm Go.Proofs.YtinofijncbnolaaDoor.Hex Go.Proofs.YtinofijncbnolaaDoor.Sev
theorem rd_some {xs : List Int} {i : Nat} {v : Int} (h : xs[i]? = some v) : rd xs (i : Int) = v := by
  unfold rd
  rw [Int.toNat_natCast, List.getD_eq_getElem?_getD, h]
  rfl
theorem back_l1 (l xs : List Int) (c : Nat) (hc : c < 256) (hl : xs.length = 256) (hv : ∀ i, i ≤ c → xs[i]? = some (fstep (fnv F0 l) (i : Int)))
    (H : Ev (fun k => credenzalaw2_SumBack.l0 k l xs ((c + 1 : Nat) : Int)) true) (m : Nat) : ∀ j : Nat, j + m = c → Ev (fun k => credenzalaw2_SumBack.l1 k l xs (c : Int) (j : Int)) true := by
  induction m with
  | zero =>
    intro j hj
    obtain rfl : j = c := by omega
    exact Ev.step (fun k => by simp only [credenzalaw2_SumBack.l1]; rw [if_neg (by omega), wrap_nat (by omega)] <;> rfl) H
  | succ m ih =>
    intro j hj
    have hne : ¬ rd xs (j : Int) = rd xs (c : Int) := by
      rw [rd_some (hv j (by omega)), rd_some (hv c (by omega))]
      intro e
      have := fstep_inj _ (j : Int) (c : Int) (F0_rng l).1 (F0_rng l).2 (by omega) (by omega) (by omega) (by omega) e
      omega
    exact Ev.step (fun k => by simp only [credenzalaw2_SumBack.l1]; rw [if_pos (by omega), if_pos (by omega), if_pos (by omega), if_pos (by omega), if_pos (by omega), if_neg hne, wrap_nat (by omega)] <;> rfl) (ih (j + 1) (by omega))
theorem back_l0 (l : List Int) (hl0 : l.length ≤ 300) (m : Nat) : ∀ c : Nat, c + m = 256 → ∀ xs : List Int, xs.length = 256 → (∀ i, i < c → xs[i]? = some (fstep (fnv F0 l) (i : Int))) →
    Ev (fun k => credenzalaw2_SumBack.l0 k l xs (c : Int)) true := by
  induction m with
  | zero =>
    intro c hc xs hl hv
    exact Ev.step (fun k => by simp only [credenzalaw2_SumBack.l0]; rw [if_neg (by omega)] <;> rfl) (Ev.bind awake_ev (Ev.now _))
  | succ m ih =>
    intro c hc xs hl hv
    have e256 : (c : Int) % 256 = (c : Int) := by omega
    refine Ev.step (fun k => by simp only [credenzalaw2_SumBack.l0]; rw [if_pos (by omega), e256] <;> rfl) ?_
    refine Ev.bind (parts_ev [l, [(c : Int)]] (by simp) (by simp; omega)) ?_
    rw [last2]
    refine Ev.congr (fun k => by rw [if_pos (by omega), if_pos (by omega), Int.toNat_natCast] <;> rfl) ?_
    have hv' : ∀ i, i ≤ c → (xs.set c (fstep (fnv F0 l) (c : Int)))[i]? = some (fstep (fnv F0 l) (i : Int)) := fun i hi => by
      by_cases h : i = c
      · subst h
        rw [List.getElem?_set_self (by omega)]
      · rw [List.getElem?_set_ne (by omega)]
        exact hv i (by omega)
    exact back_l1 l _ c (by omega) (by rw [List.length_set]; exact hl) hv' (ih (c + 1) (by omega) _ (by rw [List.length_set]; exact hl) fun i hi => hv' i (by omega)) c 0 (by omega)
theorem SumBack (l : List Int) : ∃ k, credenzalaw2_SumBack.f k l = some true := by
  apply Ev.rounds
  unfold credenzalaw2_SumBack.f
  by_cases hl : (l.length : Int) > 300
  · exact Ev.congr (fun k => by rw [if_pos hl] <;> rfl) (Ev.bind awake_ev (Ev.now _))
  · exact Ev.congr (fun k => by rw [if_neg hl, if_pos (by omega)] <;> rfl) (back_l0 l (by omega) 256 0 (by omega) _ List.length_replicate (fun i hi => absurd hi (by omega)))
end Go.Proofs.YtinofijncbnolaaDoor.Pure
