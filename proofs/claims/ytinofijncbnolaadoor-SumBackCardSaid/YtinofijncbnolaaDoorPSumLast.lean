/- SumLast, the plain part: texts that differ in their last byte alone have unlike digests. -/
import Derived.Test.YtinofijncbnolaaDoorSEv
import Derived.Test.YtinofijncbnolaaDoorVx5
set_option linter.unusedVariables false
set_option linter.unusedSimpArgs false
namespace Go.Proofs.YtinofijncbnolaaDoor.Pure
open Go.RowKit (wrap64)
open Go Go.Proofs.YtinofijncbnolaaDoorW.PrintWords Go.Proofs.YtinofijncbnolaaDoorW.PrintLast Go.Proofs.YtinofijncbnolaaDoorW.PrintMore Go.Proofs.YtinofijncbnolaaDoor.V Go.Proofs.YtinofijncbnolaaDoor.St Go.Proofs.YtinofijncbnolaaDoor.Sm Go.Proofs.YtinofijncbnolaaDoor.Hex Go.Proofs.YtinofijncbnolaaDoor.Sev
theorem last2 (l : List Int) (c : Int) : fnv F0 [l, [c]].flatten = fstep (fnv F0 l) c := by
  have e : [l, [c]].flatten = l ++ [c] := by simp
  rw [e, fnv_app]
  rfl
theorem F0_rng (l : List Int) : 0 ≤ fnv F0 l ∧ fnv F0 l < 18446744073709551616 := fnv_rng l F0 (by decide) (by decide)
theorem SumLast (l : List Int) (a1 a2 : Int) (h1 : 0 ≤ a1 ∧ a1 ≤ 255) (h2 : 0 ≤ a2 ∧ a2 ≤ 255) : ∃ k, credenzalaw2_SumLast.f k l a1 a2 = some true := by
  apply Ev.rounds
  unfold credenzalaw2_SumLast.f
  by_cases hl : (l.length : Int) > 5000
  · exact Ev.congr (fun k => by rw [if_pos hl] <;> rfl) (Ev.bind awake_ev (Ev.now _))
  · refine Ev.congr (fun k => by rw [if_neg hl] <;> rfl) ?_
    refine Ev.bind (parts_ev [l, [a1]] (by simp) (by simp; omega)) ?_
    refine Ev.bind (parts_ev [l, [a2]] (by simp) (by simp; omega)) ?_
    rw [last2, last2]
    have key : ((fstep (fnv F0 l) a1 == fstep (fnv F0 l) a2) == (a1 == a2)) = true := by
      by_cases h : a1 = a2
      · subst h; simp
      · have hne : ¬ fstep (fnv F0 l) a1 = fstep (fnv F0 l) a2 := fun e => h (fstep_inj _ a1 a2 (F0_rng l).1 (F0_rng l).2 h1.1 (by omega) h2.1 (by omega) e)
        rw [beq_eq_false_iff_ne.2 h, beq_eq_false_iff_ne.2 hne]
        rfl
    have e2 : fnv F0 (([] ++ l) ++ [a1]) = fstep (fnv F0 l) a1 := by rw [List.nil_append, fnv_app]; rfl
    refine Ev.congr (fun k => by rw [if_pos key, Option.bind_some, if_pos (by simp; omega), Option.bind_some, if_pos (by simp; omega)] <;> rfl) ?_
    refine Ev.bind (of_ev (([] ++ l) ++ [a1]) (by simp; omega)) ?_
    rw [e2]
    exact Ev.congr (fun k => by rw [if_pos rfl] <;> rfl) (Ev.bind awake_ev (Ev.now _))
end Go.Proofs.YtinofijncbnolaaDoor.Pure
