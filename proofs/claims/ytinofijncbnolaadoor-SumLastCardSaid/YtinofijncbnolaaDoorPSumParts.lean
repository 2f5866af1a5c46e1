/- SumParts, the plain part: however a text is cut its digest is the same. -/
import Derived.Test.YtinofijncbnolaaDoorSEv
import Derived.Test.YtinofijncbnolaaDoorVx4
set_option linter.unusedVariables false
set_option linter.unusedSimpArgs false
namespace Go.Proofs.YtinofijncbnolaaDoor.Pure
open Go.RowKit (wrap64)
open Go Go.Proofs.YtinofijncbnolaaDoorW.PrintWords Go.Proofs.YtinofijncbnolaaDoorW.PrintLast Go.Proofs.YtinofijncbnolaaDoorW.PrintMore Go.Proofs.YtinofijncbnolaaDoor.V Go.Proofs.YtinofijncbnolaaDoor.St Go.Proofs.YtinofijncbnolaaDoor.Sm Go.Proofs.YtinofijncbnolaaDoor.Hex Go.Proofs.YtinofijncbnolaaDoor.Sev
theorem cut3 (l : List Int) (i j : Nat) (h : i ≤ j) : [l.take i, (l.take j).drop i, l.drop j].flatten = l := by
  have e : (l.take j).take i = l.take i := by rw [List.take_take, Nat.min_eq_left h]
  simp only [List.flatten_cons, List.flatten_nil, List.append_nil]
  rw [← List.append_assoc, ← e, List.take_append_drop, List.take_append_drop]
theorem parts_j0 (l : List Int) (hl : l.length ≤ 5000) (i j : Nat) (h : i ≤ j) (hj : j ≤ l.length) : Ev (fun k => credenzalaw2_SumParts.j0 k l (i : Int) (j : Int)) true := by
  refine Ev.step (fun k => by
    simp only [credenzalaw2_SumParts.j0]
    rw [if_pos (by omega), if_pos (by omega), if_pos (by omega), if_pos (by omega), if_pos (by omega), Int.toNat_natCast, Int.toNat_natCast] <;> rfl) ?_
  refine Ev.bind (parts_ev [l.take i, (l.take j).drop i, l.drop j] (by simp) (by simp; omega)) ?_
  rw [cut3 l i j h]
  refine Ev.bind (of_ev l (by omega)) (Ev.congr (fun k => by rw [if_pos rfl] <;> rfl) ?_)
  refine Ev.bind (parts_ev [[], l, []] (by simp) (by simp; omega)) ?_
  have e : [[], l, []].flatten = l := by simp
  rw [e]
  refine Ev.bind (of_ev l (by omega)) (Ev.congr (fun k => by rw [if_pos rfl] <;> rfl) ?_)
  refine Ev.bind (parts_ev [] (by simp) (by simp)) ?_
  exact Ev.bind (of_ev [] (by simp)) (Ev.congr (fun k => by rw [List.flatten_nil, if_pos rfl] <;> rfl) (Ev.bind awake_ev (Ev.now _)))
theorem SumParts (l : List Int) (a1 a2 : Int) : ∃ k, credenzalaw2_SumParts.f k l a1 a2 = some true := by
  apply Ev.rounds
  unfold credenzalaw2_SumParts.f
  by_cases hl : (l.length : Int) > 5000
  · exact Ev.congr (fun k => by rw [if_pos hl] <;> rfl) (Ev.bind awake_ev (Ev.now _))
  · obtain ⟨p, hp, _⟩ := mask_small 16 (by omega) a1
    obtain ⟨q, hq, _⟩ := mask_small 16 (by omega) a2
    have hp' : bits .and .i64 a1 65535 = (p : Int) := hp
    have hq' : bits .and .i64 a2 65535 = (q : Int) := hq
    have tp : Int.tmod (p : Int) ((l.length + 1 : Nat) : Int) = ((p % (l.length + 1) : Nat) : Int) := rfl
    have tq : Int.tmod (q : Int) ((l.length + 1 : Nat) : Int) = ((q % (l.length + 1) : Nat) : Int) := rfl
    have lp : p % (l.length + 1) < l.length + 1 := Nat.mod_lt _ (by omega)
    have lq : q % (l.length + 1) < l.length + 1 := Nat.mod_lt _ (by omega)
    refine Ev.congr (fun k => by rw [if_neg hl, wrap_nat (by omega), if_neg (by omega), hp', hq', tp, tq] <;> rfl) ?_
    generalize p % (l.length + 1) = i at lp
    generalize q % (l.length + 1) = j at lq
    by_cases h : (i : Int) > (j : Int)
    · exact Ev.congr (fun k => by rw [if_pos h] <;> rfl) (parts_j0 l (by omega) j i (by omega) (by omega))
    · exact Ev.congr (fun k => by rw [if_neg h] <;> rfl) (parts_j0 l (by omega) i j (by omega) (by omega))
end Go.Proofs.YtinofijncbnolaaDoor.Pure
