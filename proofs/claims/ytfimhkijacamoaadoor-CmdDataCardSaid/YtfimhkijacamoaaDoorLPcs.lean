/- A text's pieces between the bytes that part them. No program in sight. No condition. -/
import Derived.Lib.CountLaws
import Derived.Lib.Strings
set_option linter.unusedVariables false
set_option linter.unusedSimpArgs false
namespace Go.Proofs.YtfimhkijacamoaaDoor.LPcs
def pcs (q : UInt8) : List UInt8 → List (List UInt8)
  | [] => [[]]
  | c :: l => if c = q then [] :: pcs q l else match pcs q l with
    | [] => [[c]]
    | p :: ps => (c :: p) :: ps
variable {q : UInt8}
theorem pcs_ne (l : List UInt8) : pcs q l ≠ [] := by
  cases l with
  | nil => simp [pcs]
  | cons c l => unfold pcs; split; simp; split <;> simp
theorem pcs_free {l : List UInt8} (h : q ∉ l) : pcs q l = [l] := by
  induction l with
  | nil => rfl
  | cons c l ih =>
    simp only [List.mem_cons, not_or] at h
    unfold pcs
    rw [if_neg (fun e => h.1 e.symm), ih h.2]
theorem pcs_app (a b : List UInt8) : pcs q (a ++ q :: b) = pcs q a ++ pcs q b := by
  induction a with
  | nil => simp [pcs]
  | cons c a ih =>
    simp only [List.cons_append]
    rw [pcs, pcs, ih]
    split
    · simp
    · cases h : pcs q a with
      | nil => exact absurd h (pcs_ne a)
      | cons p ps => simp
theorem pcs_first {a b : List UInt8} (h : q ∉ a) : pcs q (a ++ q :: b) = a :: pcs q b := by rw [pcs_app, pcs_free h]; rfl
theorem pcs_no {l : List UInt8} : ∀ p ∈ pcs q l, q ∉ p := by
  induction l with
  | nil => intro p hp; simp [pcs] at hp; subst hp; simp
  | cons c l ih =>
    intro p hp
    unfold pcs at hp
    split at hp
    · rcases List.mem_cons.1 hp with rfl | hp
      · simp
      · exact ih p hp
    · rename_i hc
      cases h : pcs q l with
      | nil => exact absurd h (pcs_ne l)
      | cons p0 ps =>
        rw [h] at hp ih
        rcases List.mem_cons.1 hp with rfl | hp
        · have := ih p0 (List.mem_cons_self ..)
          simp only [List.mem_cons, not_or]
          exact ⟨fun e => hc e.symm, this⟩
        · exact ih p (List.mem_cons_of_mem _ hp)
theorem pcs_flat (l : List UInt8) : (pcs q l).flatten = l.filter (· ≠ q) := by
  induction l with
  | nil => rfl
  | cons c l ih =>
    unfold pcs
    split
    · rename_i h; subst h; simp [ih]
    · rename_i h
      cases h2 : pcs q l with
      | nil => exact absurd h2 (pcs_ne l)
      | cons p ps => rw [h2] at ih; simp at ih ⊢; rw [ih, List.filter_cons, if_pos (by simpa using h)]
/-- Put together with one between each two. -/
def joinW (q : List UInt8) : List (List UInt8) → List UInt8
  | [] => []
  | [p] => p
  | p :: ps => p ++ (q ++ joinW q ps)
theorem joinW_cons (s p : List UInt8) {l : List (List UInt8)} (h : l ≠ []) : joinW s (p :: l) = p ++ (s ++ joinW s l) := by
  cases l with
  | nil => exact absurd rfl h
  | cons b l => rfl
theorem joinW_snoc (s : List UInt8) : ∀ (l : List (List UInt8)) (p : List UInt8), l ≠ [] → joinW s (l ++ [p]) = joinW s l ++ (s ++ p)
  | [], p, h => absurd rfl h
  | [a], p, _ => by simp [joinW]
  | a :: b :: l, p, _ => by
    have := joinW_snoc s (b :: l) p (by simp)
    rw [List.cons_append, joinW_cons s a (l := b :: l ++ [p]) (by simp), this, joinW_cons s a (l := b :: l) (by simp)]
    simp
theorem pcs_join {l : List (List UInt8)} (h : l ≠ []) (hn : ∀ p ∈ l, q ∉ p) : pcs q (joinW [q] l) = l := by
  induction l with
  | nil => exact absurd rfl h
  | cons a l ih =>
    cases l with
    | nil => exact pcs_free (hn a (List.mem_cons_self ..))
    | cons b l =>
      have e : joinW [q] (a :: b :: l) = a ++ q :: joinW [q] (b :: l) := rfl
      rw [e, pcs_first (hn a (List.mem_cons_self ..)), ih (by simp) fun p hp => hn p (List.mem_cons_of_mem _ hp)]
theorem filter_join (l : List (List UInt8)) : (joinW [q] l).filter (· ≠ q) = (l.flatten).filter (· ≠ q) := by
  induction l with
  | nil => rfl
  | cons a l ih =>
    cases l with
    | nil => simp [joinW]
    | cons b l =>
      have e : joinW [q] (a :: b :: l) = a ++ q :: joinW [q] (b :: l) := rfl
      rw [e, List.filter_append, List.filter_cons, if_neg (by simp), ih]
      simp
def wds (q : UInt8) (l : List UInt8) : List (List UInt8) := (pcs q l).filter (· ≠ [])
theorem wds_no {l : List UInt8} : ∀ p ∈ wds q l, p ≠ [] ∧ q ∉ p := fun p hp => by
  have := List.mem_filter.1 hp
  exact ⟨by simpa using this.2, pcs_no p this.1⟩
theorem flatten_filter (l : List (List UInt8)) : (l.filter (· ≠ [])).flatten = l.flatten := by
  induction l with
  | nil => rfl
  | cons a l ih =>
    rw [List.filter_cons]
    split
    · rw [List.flatten_cons, List.flatten_cons, ih]
    · rename_i h
      have : a = [] := by simpa using h
      subst this
      rw [ih]; rfl
theorem wds_flat (l : List UInt8) : (wds q l).flatten = l.filter (· ≠ q) := by unfold wds; rw [flatten_filter, pcs_flat]
theorem filter_idem {l : List (List UInt8)} (h : ∀ p ∈ l, p ≠ []) : l.filter (· ≠ []) = l := List.filter_eq_self.2 fun p hp => by simpa using h p hp
theorem wds_join (l : List UInt8) : wds q (joinW [q] (wds q l)) = wds q l := by
  by_cases h : wds q l = []
  · rw [h]; simp [joinW, wds, pcs]
  · unfold wds
    rw [show (pcs q l).filter (· ≠ []) = wds q l from rfl, pcs_join h fun p hp => (wds_no p hp).2, filter_idem fun p hp => (wds_no p hp).1]
theorem wds_pad (l : List UInt8) : wds q (q :: q :: (l ++ [q])) = wds q l := by
  unfold wds
  have e1 : pcs q (q :: q :: (l ++ [q])) = [] :: [] :: pcs q (l ++ [q]) := by simp [pcs]
  have e2 : pcs q (l ++ [q]) = pcs q l ++ [[]] := by have := pcs_app (q := q) l []; simpa [pcs] using this
  rw [e1, e2]
  simp [List.filter_cons]
theorem filter_bytes (l : List UInt8) : (wds q l).flatten.filter (· ≠ q) = l.filter (· ≠ q) := by rw [wds_flat, List.filter_filter]; simp
theorem count_pcs (l : List UInt8) : (pcs q l).length = l.count q + 1 := by
  induction l with
  | nil => rfl
  | cons c l ih =>
    unfold pcs
    split
    · rename_i h; subst h; simp [ih]
    · rename_i h
      cases h2 : pcs q l with
      | nil => exact absurd h2 (pcs_ne l)
      | cons p ps => rw [h2] at ih; simp at ih ⊢; rw [List.count_cons_of_ne h]; omega
theorem split_at {l : List UInt8} (h : q ∈ l) : ∃ a b, l = a ++ q :: b ∧ q ∉ a := by
  induction l with
  | nil => simp at h
  | cons c l ih =>
    by_cases e : c = q
    · subst e; exact ⟨[], l, rfl, by simp⟩
    · have h2 : q ∈ l := by
        rcases List.mem_cons.1 h with h | h
        · exact absurd h.symm e
        · exact h
      obtain ⟨a, b, rfl, hb⟩ := ih h2
      refine ⟨c :: a, b, rfl, fun h => ?_⟩
      rcases List.mem_cons.1 h with h | h
      · exact e h.symm
      · exact hb h
end Go.Proofs.YtfimhkijacamoaaDoor.LPcs
