/- One step of a stable insertion, in plain Lean. -/
import Derived.Test.YtfimhkijacamoaaDoorSortP
namespace Go.Proofs.YtfimhkijacamoaaDoor.SP
theorem ins_step {c : Nat → Nat → Int} (hc : COrd c) {ps : List Nat} {i k : Nat} (hp : ps.Perm (List.range i)) (hs : ps.Pairwise (pr c))
    (h1 : ∀ p ∈ ps.take k, ¬ c i p < 0) (h2 : ∀ p, (ps.drop k).head? = some p → c i p < 0) :
    (ps.take k ++ i :: ps.drop k).Perm (List.range (i + 1)) ∧ (ps.take k ++ i :: ps.drop k).Pairwise (pr c) := by
  have hlt : ∀ p ∈ ps, p < i := fun p hm => by simpa using hp.mem_iff.1 hm
  constructor
  · refine List.perm_middle.trans ?_
    rw [List.take_append_drop, List.range_succ]
    exact (List.Perm.cons i hp).trans (List.perm_append_comm (l₁ := [i]) (l₂ := List.range i))
  · have hs2 := hs
    rw [← List.take_append_drop k ps, List.pairwise_append] at hs2
    obtain ⟨ha, hb, hab⟩ := hs2
    have hi : ∀ q ∈ ps.drop k, pr c i q := by
      cases hd : ps.drop k with
      | nil => intro q hq; cases hq
      | cons d ds =>
        have hid : pr c i d := .inl (h2 d (by rw [hd]; rfl))
        rw [hd, List.pairwise_cons] at hb
        intro q hq
        rcases List.mem_cons.1 hq with rfl | hq
        · exact hid
        · exact pr_trans hc hid (hb.1 q hq)
    rw [List.pairwise_append, List.pairwise_cons]
    refine ⟨ha, ⟨hi, hb⟩, fun p hpm q hq => ?_⟩
    rcases List.mem_cons.1 hq with rfl | hq
    · exact pr_neg hc (hlt p (List.mem_of_mem_take hpm)) (h1 p hpm)
    · exact hab p hpm q hq
end Go.Proofs.YtfimhkijacamoaaDoor.SP
