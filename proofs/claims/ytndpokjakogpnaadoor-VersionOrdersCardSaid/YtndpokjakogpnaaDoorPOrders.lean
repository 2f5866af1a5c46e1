/- VersionOrders, the plain part: newer and elder is an order. -/
import Derived.Test.YtndpokjakogpnaaDoorVev
import Derived.Test.YtndpokjakogpnaaDoorVx14
set_option linter.unusedVariables false
set_option linter.unusedSimpArgs false
namespace Go.Proofs.YtndpokjakogpnaaDoor.Pure
open Go.RowKit (wrap64)
open Go Go.Proofs.YtndpokjakogpnaaDoorW.PrintWords Go.Proofs.YtndpokjakogpnaaDoorW.PrintLast Go.Proofs.YtndpokjakogpnaaDoor.V Go.Proofs.YtndpokjakogpnaaDoor.Vm Go.Proofs.YtndpokjakogpnaaDoor.Dg Go.Proofs.YtndpokjakogpnaaDoor.Vev

theorem orders_j1 (x y z : Int) (hx : x = -1 ∨ x = 0 ∨ x = 1) (hy : y = -1 ∨ y = 0 ∨ y = 1) (hz : z = -1 ∨ z = 0 ∨ z = 1) (h1 : x ≤ 0 → y ≤ 0 → z ≤ 0) (h2 : 0 ≤ x → 0 ≤ y → 0 ≤ z) (h3 : x = 0 → z = y) (h4 : y = 0 → z = x) :
    Ev (fun k => credenzalaw15_VersionOrders.j1 k x y z false) true := by
  obtain ⟨K, hK⟩ := awake_ev
  refine ⟨K + 1, fun k hk => ?_⟩
  obtain ⟨m, rfl⟩ : ∃ m, k = m + 1 := ⟨k - 1, by omega⟩
  have h := hK m (by omega)
  simp only [credenzalaw15_VersionOrders.j1]
  rcases hx with rfl | rfl | rfl <;> rcases hy with rfl | rfl | rfl <;> rcases hz with rfl | rfl | rfl <;> first | (exfalso; omega) | simp [h]
theorem VersionOrders : credenzalaw15_VersionOrders.Pure := by
  intro a b c ha hb hc
  apply Ev.rounds
  have hno : Ev (fun k => credenzalaw15_VersionOrders.j0 k a b c true) true :=
    Ev.step (fun k => by simp only [credenzalaw15_VersionOrders.j0]; rw [if_pos trivial]) (Ev.bind awake_ev (Ev.now _))
  unfold credenzalaw15_VersionOrders.f
  by_cases h1 : (a.size : Int) > 200
  · exact Ev.congr (fun k => by rw [if_pos h1]) hno
  · by_cases h2 : (b.size : Int) > 200
    · exact Ev.congr (fun k => by rw [if_neg h1, if_pos h2]) hno
    · by_cases h3 : (c.size : Int) > 200
      · exact Ev.congr (fun k => by rw [if_neg h1, if_neg h2, decide_eq_true h3]) hno
      · refine Ev.congr (fun k => by rw [if_neg h1, if_neg h2, decide_eq_false h3]) ?_
        refine Ev.step (fun k => by simp only [credenzalaw15_VersionOrders.j0]; rw [if_neg (by simp)]) ?_
        refine Ev.bind (compare_ev a b (by omega) (by omega)) ?_
        refine Ev.bind (compare_ev b c (by omega) (by omega)) ?_
        refine Ev.bind (compare_ev a c (by omega) (by omega)) ?_
        refine Ev.bind (compare_ev a a (by omega) (by omega)) ?_
        have e0 : cmpV a a = 0 := cmpT_ord.refl _
        have e1 : cmpV b a = -cmpV a b := cmpT_ord.anti _ _
        have rx : cmpV a b = -1 ∨ cmpV a b = 0 ∨ cmpV a b = 1 := cmpT_ord.rng _ _
        have ry : cmpV b c = -1 ∨ cmpV b c = 0 ∨ cmpV b c = 1 := cmpT_ord.rng _ _
        have rz : cmpV a c = -1 ∨ cmpV a c = 0 ∨ cmpV a c = 1 := cmpT_ord.rng _ _
        have t1 : cmpV a b ≤ 0 → cmpV b c ≤ 0 → cmpV a c ≤ 0 := cmpT_ord.tr _ _ _
        have e2 : cmpV c b = -cmpV b c := cmpT_ord.anti _ _
        have e3 : cmpV c a = -cmpV a c := cmpT_ord.anti _ _
        have t2 : cmpV c b ≤ 0 → cmpV b a ≤ 0 → cmpV c a ≤ 0 := cmpT_ord.tr _ _ _
        have t3 : cmpV a b = 0 → cmpV a c = cmpV b c := fun e => cmpT_ord.zero_l e _
        have t4 : cmpV b c = 0 → cmpV a c = cmpV a b := fun e => (cmpT_ord.zero_r e _).symm
        have hw : wrap64 (-cmpV a b) = -cmpV a b := by unfold wrap64; omega
        refine Ev.congr (fun k => by rw [if_pos e0]) ?_
        refine Ev.bind (compare_ev b a (by omega) (by omega)) ?_
        refine Ev.congr (fun k => by rw [if_pos (by rw [hw]; exact e1), if_neg (by omega), decide_eq_false (by omega)]) ?_
        exact orders_j1 _ _ _ rx ry rz t1 (fun p q => by have := t2 (by omega) (by omega); omega) t3 t4
end Go.Proofs.YtndpokjakogpnaaDoor.Pure
