/- CountTries, the plain part: an entry of so many tries is startable just so many times. -/
import Derived.Test.YtdjlpifikeopdaaDoorCEv
import Derived.Test.YtdjlpifikeopdaaDoorVx5
set_option linter.unusedVariables false
set_option linter.unusedSimpArgs false
namespace Go.Proofs.YtdjlpifikeopdaaDoor.Pure
open Go.RowKit (wrap64)
open Go Go.Proofs.YtdjlpifikeopdaaDoorW.PrintWords Go.Proofs.YtdjlpifikeopdaaDoorW.PrintLast Go.Proofs.YtdjlpifikeopdaaDoorW.PrintMore Go.Proofs.YtdjlpifikeopdaaDoor.V Go.Proofs.YtdjlpifikeopdaaDoor.St Go.Proofs.YtdjlpifikeopdaaDoor.Cm Go.Proofs.YtdjlpifikeopdaaDoor.Cev
theorem state_pos (L : Nat) (b : Int) (h : 0 < L) : count_State.f true (L : Int) b = some 1 := by
  unfold count_State.f
  rw [if_pos rfl, if_pos (by omega)]
theorem state_zero (b : Int) : count_State.f true 0 b = some 2 := by
  unfold count_State.f
  rw [if_pos rfl, if_neg (by omega)]
/-- Joined and split again. -/
theorem again (s : List UInt8) (hs : s ≠ []) (hl : s.length ≤ 1000) {L D : Nat} (hL : L < 100) (hD : D < 100) : Ev (fun k => count_Split.f k (st ((s ++ 43 :: tl L D) ++ conf))) (st s, true, (L : Int), (D : Int), true) := by
  have h := split_ev (s ++ 43 :: tl L D) (by simp) (by have := tl_len hL hD; simp; omega)
  have e : resV (s ++ 43 :: tl L D) = (st s, true, (L : Int), (D : Int), true) := by unfold resV; rw [res_tl hs hL hD]
  rwa [e] at h
theorem tries_l0 (n : Nat) (hn : n ≤ 99) (m : Nat) : ∀ i : Nat, i + m = n →
    Ev (fun k => credenzalaw16_CountTries.l0 k (n : Int) (i : Int) true (m : Int) (i : Int)) true := by
  induction m with
  | zero =>
    intro i hi
    have hsp : count_Spend.f true ((0 : Nat) : Int) (i : Int) = some (true, ((0 : Nat) : Int), (i : Int), false) := by
      unfold count_Spend.f
      have := state_zero (i : Int)
      rw [show ((0 : Nat) : Int) = 0 from rfl, this, Option.bind_some, if_neg (by omega)]
    have hst : count_State.f true ((0 : Nat) : Int) (i : Int) = some 2 := state_zero _
    have hb : count_Bad.f true ((0 : Nat) : Int) (i : Int) = some (true, 0, (i : Int)) := by unfold count_Bad.f; rw [if_pos rfl]
    refine Ev.step (fun k => by
      simp only [credenzalaw16_CountTries.l0]
      rw [if_neg (by omega), hsp, Option.bind_some, if_neg (by simp), hst, Option.bind_some, if_pos rfl, hb, Option.bind_some, if_pos (by simp)] <;> rfl) ?_
    exact Ev.bind awake_ev (Ev.now _)
  | succ m ih =>
    intro i hi
    have hst : count_State.f true ((m + 1 : Nat) : Int) (i : Int) = some 1 := state_pos _ _ (by omega)
    have hw : (wrap64 (((m + 1 : Nat) : Int) + (i : Int)) != (n : Int)) = false := by
      have : wrap64 (((m + 1 : Nat) : Int) + (i : Int)) = (n : Int) := by unfold wrap64; omega
      rw [this]
      simp
    refine Ev.step (fun k => by
      simp only [credenzalaw16_CountTries.l0]
      rw [if_pos (by omega), hst, Option.bind_some, if_pos rfl, hw] <;> rfl) ?_
    have ej : count_Join.f (⟨#[120]⟩ : ByteArray) true ((m + 1 : Nat) : Int) (i : Int) = some (st (([120] ++ 43 :: tl (m + 1) i) ++ conf)) := join_true [120] (by simp) (by omega) (by omega)
    refine Ev.step (fun k => by simp only [credenzalaw16_CountTries.j1]; rw [if_neg (by simp), ej, Option.bind_some] <;> rfl) ?_
    refine Ev.bind (again [120] (by simp) (by simp) (by omega) (by omega)) ?_
    have hx : (!(true == true) || (!(((m + 1 : Nat) : Int) == ((m + 1 : Nat) : Int)) || !((i : Int) == (i : Int)))) = false := by simp
    have hsp : count_Spend.f true ((m + 1 : Nat) : Int) (i : Int) = some (true, (m : Int), ((i + 1 : Nat) : Int), true) := by
      unfold count_Spend.f
      rw [hst, Option.bind_some, if_pos rfl, if_neg (by omega)]
      have e1 : wrap64 (((m + 1 : Nat) : Int) - 1) = (m : Int) := by unfold wrap64; omega
      rw [e1, wrap_nat (by omega)]
    have H2 : Ev (fun k => credenzalaw16_CountTries.j2 k (n : Int) (i : Int) false true ((m + 1 : Nat) : Int) (i : Int)) true := by
      refine Ev.step (fun k => by
        simp only [credenzalaw16_CountTries.j2]
        rw [if_neg (by simp), hsp, Option.bind_some, if_pos rfl, wrap_nat (by omega), if_pos rfl]) ?_
      exact ih (i + 1) (by omega)
    exact Ev.congr (fun k => by
      rw [if_pos rfl, if_pos (st_list _)]
      show credenzalaw16_CountTries.j2 k _ _ (!(true == true) || (!(((m + 1 : Nat) : Int) == ((m + 1 : Nat) : Int)) || !((i : Int) == (i : Int)))) _ _ _ = _
      rw [hx]) H2
theorem CountTries : credenzalaw16_CountTries.Pure := by
  intro a0 _
  obtain ⟨m, hm, hm2⟩ := mask_small 8 (by omega) a0
  have hm' : bits .and .i64 a0 255 = (m : Int) := hm
  have ht : Int.tmod (m : Int) 99 = ((m % 99 : Nat) : Int) := rfl
  apply Ev.rounds
  unfold credenzalaw16_CountTries.f
  refine Ev.congr (fun k => by rw [hm', ht, wrap_nat (by omega)] <;> rfl) ?_
  exact tries_l0 (m % 99 + 1) (by omega) (m % 99 + 1) 0 (by omega)
end Go.Proofs.YtdjlpifikeopdaaDoor.Pure
