/- One line of an entry's text: conf.line. No condition. -/
import Derived.Test.YtkehijlgbfjmkaaGreatDoorKL
set_option linter.unusedVariables false
set_option linter.unusedSimpArgs false
set_option maxRecDepth 10000
set_option maxHeartbeats 4000000
namespace Go.Proofs.YtkehijlgbfjmkaaGreatDoor.KW
open Go Go.RowKit Go.Proofs.YtkehijlgbfjmkaaGreatDoor Go.Proofs.YtkehijlgbfjmkaaGreatDoor.Abs Go.Proofs.YtkehijlgbfjmkaaGreatDoor.Ic Go.Proofs.YtkehijlgbfjmkaaGreatDoor.St
theorem outF_set {B b : Nat} {H : AH} {t : TypeId} {sz : Nat} {v : AV} {L : List (List AV)} (h : OutF B H t sz v L) (hb : b < B) (o : Option AObj) : OutF B (H.set b o) t sz v L := by
  rcases h with h | ⟨q, h0, h1, h2, h3, h4⟩
  · exact .inl h
  · exact .inr ⟨q, h0, h1, by rw [AH.set_ne _ _ (by omega)]; exact h2, h3, h4⟩
theorem outF_new {B : Nat} {H : AH} {t : TypeId} {sz : Nat} {v : AV} {L : List (List AV)} (h : OutF B H t sz v L) (o : AObj) : OutF B (H.new o) t sz v L := by
  rcases h with h | ⟨q, h0, h1, h2, h3, h4⟩
  · exact .inl h
  · exact .inr ⟨q, h0, h1, by rw [AH.new_ne _ _ (by omega)]; exact h2, h3, by rw [AH.new_next]; omega⟩
theorem outF_set2 {B b : Nat} {H : AH} {t : TypeId} {sz : Nat} {v : AV} {L : List (List AV)} (h : OutF B H t sz v L) (hb : ∀ n, v ≠ .slice b 0 n sz) (o : Option AObj) : OutF B (H.set b o) t sz v L := by
  rcases h with h | ⟨q, rfl, h1, h2, h3, h4⟩
  · exact .inl h
  · exact .inr ⟨q, rfl, h1, by rw [AH.set_ne _ _ (fun e => hb _ (by rw [e]))]; exact h2, h3, h4⟩
theorem kbx_refl (b B : Nat) (H : AH) : KBx b B H H := fun _ _ _ _ h => h
theorem kbx_set {b B : Nat} {H H1 : AH} (h : KBx b B H H1) (o : Option AObj) : KBx b B H (H1.set b o) := fun y q h1 h2 h3 => by rw [AH.set_ne _ _ h2]; exact h y q h1 h2 h3
theorem kbx_set2 {b c B : Nat} {H H1 : AH} (h : KBx b B H H1) (hc : B ≤ c) (o : Option AObj) : KBx b B H (H1.set c o) := fun y q h1 h2 h3 => by rw [AH.set_ne _ _ (by omega)]; exact h y q h1 h2 h3
theorem kbx_new {b B : Nat} {H H1 : AH} (h : KBx b B H H1) (hB : B ≤ H1.next) (o : AObj) : KBx b B H (H1.new o) := fun y q h1 h2 h3 => by rw [AH.new_ne _ _ (by omega)]; exact h y q h1 h2 h3
theorem verOk_eq (r : List UInt8) : (decide ((1 : Int) ≤ (r.length : Int)) && decide ((r.length : Int) ≤ 40) && r.all (inB 33 126)) = verOk r := by
  unfold verOk
  rw [show decide ((1 : Int) ≤ (r.length : Int)) = decide (1 ≤ r.length) from decide_eq_decide.2 (by omega), show decide ((r.length : Int) ≤ 40) = decide (r.length ≤ 40) from decide_eq_decide.2 (by omega)]
theorem Line {B b : Nat} {e : En} {H : AH} (hI : IsE B H b e) (hb : b < B) (hB : B ≤ H.next) (h8 : e.ex.length ≤ 8) (s : List UInt8) (hs : s.length ≤ 1000000) :
    ACall Tryz.prog 33 [.ptr b 0, .str s] H (LnQ B b e s H) := by
  refine acall_ok (bodyP_of fits33) fun hok => acall_of fits33 (by simp) ?_
  obtain ⟨vx, h1, h2⟩ := hI
  have hlx := h2.lenS
  rw [show (rowsB e.ex).length = e.ex.length by simp [rowsB]] at hlx
  have hC := Cut_ s 32 (by omega)
  have lb := cutB_len 32 s
  have h8' : (e.ex.length : Int) ≤ 8 := by omega
  have hbn : ¬ b = H.next := by omega
  have hbn2 : ¬ H.next = b := by omega
  unfold LnQ lineE
  simp only []
  generalize cutA 32 s = w at *
  generalize cutB 32 s = r at *
  simp only [entC] at h1
  by_cases w1 : w = wVer
  · rw [if_pos w1]
    unfold wVer at w1
    subst w1
    have hW := Within r 1 40 33
    rw [verOk_eq r] at hW
    by_cases hv : e.ver = []
    · have hsame := fun o => outF_set h2 hb o
      cases hvo : verOk r with
      | true =>
        rw [if_pos ⟨hv, rfl⟩]
        rw [hv] at h1
        rw [hvo] at hW
        simp (disch := first | omega | (simp; done) | assumption) [wr64, wrU8, wrU64, Nat.add_assoc, -getElem?_pos, List.getElem?_cons_zero, List.getElem?_cons_succ, ic33, rs33]
        refine CallW.val (hC _) ?_
        simp (disch := first | omega | (simp; done) | assumption) [wr64, wrU8, wrU64, Nat.add_assoc, -getElem?_pos, List.getElem?_cons_zero, List.getElem?_cons_succ, h1]
        refine CallW.val (hW _ (by omega)) ?_
        simp (disch := first | omega | (simp; done) | assumption) [wr64, wrU8, wrU64, Nat.add_assoc, -getElem?_pos, List.getElem?_cons_zero, List.getElem?_cons_succ, h1, hlx, h8, h8']
        exact ⟨kbx_set (kbx_refl _ _ _) _, vx, by simp [entC], hsame _⟩
      | false =>
        rw [if_neg (by simp)]
        rw [hv] at h1
        rw [hvo] at hW
        simp (disch := first | omega | (simp; done) | assumption) [wr64, wrU8, wrU64, Nat.add_assoc, -getElem?_pos, List.getElem?_cons_zero, List.getElem?_cons_succ, ic33, rs33]
        refine CallW.val (hC _) ?_
        simp (disch := first | omega | (simp; done) | assumption) [wr64, wrU8, wrU64, Nat.add_assoc, -getElem?_pos, List.getElem?_cons_zero, List.getElem?_cons_succ, h1]
        refine CallW.val (hW _ (by omega)) ?_
        simp (disch := first | omega | (simp; done) | assumption) [wr64, wrU8, wrU64, Nat.add_assoc, -getElem?_pos, List.getElem?_cons_zero, List.getElem?_cons_succ, h1, hlx, h8, h8']
        exact kbx_set (kbx_refl _ _ _) _
    · rw [if_neg (fun h => hv h.1)]
      simp (disch := first | omega | (simp; done) | assumption) [wr64, wrU8, wrU64, Nat.add_assoc, -getElem?_pos, List.getElem?_cons_zero, List.getElem?_cons_succ, ic33, rs33]
      refine CallW.val (hC _) ?_
      simp (disch := first | omega | (simp; done) | assumption) [wr64, wrU8, wrU64, Nat.add_assoc, -getElem?_pos, List.getElem?_cons_zero, List.getElem?_cons_succ, h1, hv, hlx, h8, h8']
      exact kbx_set (kbx_refl _ _ _) _
  rw [if_neg w1]
  unfold wVer at w1
  by_cases w2 : w = wOpt
  · rw [if_pos w2]
    unfold wOpt at w2
    subst w2
    have hW := Options r
    by_cases hv : e.op = []
    · by_cases hr0 : r = []
      · rw [if_neg (fun h => h.2.1 hr0)]
        rw [hv] at h1
        subst hr0
        simp (disch := first | omega | (simp; done) | assumption) [wr64, wrU8, wrU64, Nat.add_assoc, -getElem?_pos, List.getElem?_cons_zero, List.getElem?_cons_succ, ic33, rs33]
        refine CallW.val (hC _) ?_
        simp (disch := first | omega | (simp; done) | assumption) [wr64, wrU8, wrU64, Nat.add_assoc, -getElem?_pos, List.getElem?_cons_zero, List.getElem?_cons_succ, h1, hlx, h8, h8']
        exact kbx_set (kbx_refl _ _ _) _
      have hsame := fun o => outF_set h2 hb o
      cases hvo : optOk r with
      | true =>
        rw [if_pos ⟨hv, hr0, rfl⟩]
        rw [hv] at h1
        rw [hvo] at hW
        simp (disch := first | omega | (simp; done) | assumption) [wr64, wrU8, wrU64, Nat.add_assoc, -getElem?_pos, List.getElem?_cons_zero, List.getElem?_cons_succ, ic33, rs33]
        refine CallW.val (hC _) ?_
        simp (disch := first | omega | (simp; done) | assumption) [wr64, wrU8, wrU64, Nat.add_assoc, -getElem?_pos, List.getElem?_cons_zero, List.getElem?_cons_succ, h1, hr0]
        refine CallW.val (hW _ (by omega)) ?_
        simp (disch := first | omega | (simp; done) | assumption) [wr64, wrU8, wrU64, Nat.add_assoc, -getElem?_pos, List.getElem?_cons_zero, List.getElem?_cons_succ, h1, hlx, h8, h8', hr0]
        exact ⟨kbx_set (kbx_refl _ _ _) _, vx, by simp [entC], hsame _⟩
      | false =>
        rw [if_neg (by simp)]
        rw [hv] at h1
        rw [hvo] at hW
        simp (disch := first | omega | (simp; done) | assumption) [wr64, wrU8, wrU64, Nat.add_assoc, -getElem?_pos, List.getElem?_cons_zero, List.getElem?_cons_succ, ic33, rs33]
        refine CallW.val (hC _) ?_
        simp (disch := first | omega | (simp; done) | assumption) [wr64, wrU8, wrU64, Nat.add_assoc, -getElem?_pos, List.getElem?_cons_zero, List.getElem?_cons_succ, h1, hr0]
        refine CallW.val (hW _ (by omega)) ?_
        simp (disch := first | omega | (simp; done) | assumption) [wr64, wrU8, wrU64, Nat.add_assoc, -getElem?_pos, List.getElem?_cons_zero, List.getElem?_cons_succ, h1, hlx, h8, h8', hr0]
        exact kbx_set (kbx_refl _ _ _) _
    · rw [if_neg (fun h => hv h.1)]
      simp (disch := first | omega | (simp; done) | assumption) [wr64, wrU8, wrU64, Nat.add_assoc, -getElem?_pos, List.getElem?_cons_zero, List.getElem?_cons_succ, ic33, rs33]
      refine CallW.val (hC _) ?_
      simp (disch := first | omega | (simp; done) | assumption) [wr64, wrU8, wrU64, Nat.add_assoc, -getElem?_pos, List.getElem?_cons_zero, List.getElem?_cons_succ, h1, hv, hlx, h8, h8']
      exact kbx_set (kbx_refl _ _ _) _
  rw [if_neg w2]
  unfold wOpt at w2
  have hT := Two r
  have la := cutA_len 32 r
  have lb2 := cutB_len 32 r
  by_cases w3 : w = wKer
  · rw [if_pos w3]
    unfold wKer at w3
    subst w3
    by_cases hv : e.kn = []
    · have hsame := fun o1 o2 o3 => outF_set (outF_set2 (outF_new h2 o1) (b := H.next) (fun n e => by
        rcases h2 with ⟨_, h⟩ | ⟨q, h, _, _, _, h5⟩
        · rw [h] at e; cases e
        · rw [h] at e; injection e with e; omega) o2) hb o3
      generalize cutA 32 r = nm at *
      generalize cutB 32 r = sm at *
      cases hvo : blobOk nm sm with
      | true =>
        rw [if_pos ⟨hv, rfl⟩]
        rw [hv] at h1
        rw [hvo] at hT
        simp (disch := first | omega | (simp; done) | assumption) [wr64, wrU8, wrU64, Nat.add_assoc, -getElem?_pos, List.getElem?_cons_zero, List.getElem?_cons_succ, ic33, rs33]
        refine CallW.val (hC _) ?_
        simp (disch := first | omega | (simp; done) | assumption) [wr64, wrU8, wrU64, Nat.add_assoc, -getElem?_pos, List.getElem?_cons_zero, List.getElem?_cons_succ, h1]
        refine CallW.val (hT _ (by omega)) ?_
        simp (disch := first | omega | (simp; done) | assumption) [wr64, wrU8, wrU64, Nat.add_assoc, -getElem?_pos, List.getElem?_cons_zero, List.getElem?_cons_succ, h1, hlx, h8, h8', hbn, hbn2]
        exact ⟨kbx_set (kbx_set2 (kbx_new (kbx_refl _ _ _) hB _) hB _) _, vx, by simp [entC], hsame _ _ _⟩
      | false =>
        rw [if_neg (by simp)]
        rw [hv] at h1
        rw [hvo] at hT
        simp (disch := first | omega | (simp; done) | assumption) [wr64, wrU8, wrU64, Nat.add_assoc, -getElem?_pos, List.getElem?_cons_zero, List.getElem?_cons_succ, ic33, rs33]
        refine CallW.val (hC _) ?_
        simp (disch := first | omega | (simp; done) | assumption) [wr64, wrU8, wrU64, Nat.add_assoc, -getElem?_pos, List.getElem?_cons_zero, List.getElem?_cons_succ, h1]
        refine CallW.val (hT _ (by omega)) ?_
        simp (disch := first | omega | (simp; done) | assumption) [wr64, wrU8, wrU64, Nat.add_assoc, -getElem?_pos, List.getElem?_cons_zero, List.getElem?_cons_succ, h1, hlx, h8, h8', hbn, hbn2]
        exact kbx_set (kbx_set2 (kbx_new (kbx_refl _ _ _) hB _) hB _) _
    · rw [if_neg (fun h => hv h.1)]
      simp (disch := first | omega | (simp; done) | assumption) [wr64, wrU8, wrU64, Nat.add_assoc, -getElem?_pos, List.getElem?_cons_zero, List.getElem?_cons_succ, ic33, rs33]
      refine CallW.val (hC _) ?_
      simp (disch := first | omega | (simp; done) | assumption) [wr64, wrU8, wrU64, Nat.add_assoc, -getElem?_pos, List.getElem?_cons_zero, List.getElem?_cons_succ, h1, hv, hlx, h8, h8']
      exact kbx_refl _ _ _
  rw [if_neg w3]
  unfold wKer at w3
  by_cases w4 : w = wExt
  · rw [if_pos w4]
    unfold wExt at w4
    subst w4
    generalize cutA 32 r = nm at *
    generalize cutB 32 r = sm at *
    have hn2 : B ≤ (H.new (.cells false tB [.str [], .str []])).next := by rw [AH.new_next]; omega
    have ho2 : OutF B ((H.new (.cells false tB [.str [], .str []])).set H.next (some (.cells false tB [.str nm, .str sm]))) tB 2 vx (rowsB e.ex) := outF_set2 (outF_new h2 _) (fun n e => by
        rcases h2 with ⟨_, h⟩ | ⟨q, h, _, _, _, h5⟩
        · rw [h] at e; cases e
        · rw [h] at e; injection e with e; omega) _
    obtain ⟨v', H', a1, o1, n1, k1⟩ := appendOutF (bytes := 32) (x := blobC (nm, sm)) ho2 (allB _) (by omega) hn2 rfl rfl (by simp [rowsB]; omega) (by simp [rowsB]; omega)
    rw [AH.set_next, AH.new_next] at a1 n1
    obtain ⟨q', rfl⟩ : ∃ q', v' = .slice q' 0 (e.ex.length + 1) 2 := by
      rcases o1 with ⟨h, _⟩ | ⟨q', h, _⟩
      · simp at h
      · exact ⟨q', by simpa [rowsB] using h⟩
    have hb1 : H'.at_ b = some (.cells false tEn [.str e.ver, .str e.kn, .str e.ks, vx, .str e.op]) := k1 b _ hb (by rw [AH.set_ne _ _ hbn, AH.new_ne _ _ hbn]; exact h1)
    have hkb : KBx b B H H' := fun y o y1 y2 y3 => k1 y o y1 (by rw [AH.set_ne _ _ (by omega), AH.new_ne _ _ (by omega)]; exact y3)
    have hl1 := o1.lenS
    rw [show (rowsB e.ex ++ [blobC (nm, sm)]).length = e.ex.length + 1 by simp [rowsB]] at hl1
    have ho3 := fun o => outF_set o1 hb o
    have hrow : rowsB e.ex ++ [blobC (nm, sm)] = rowsB (e.ex ++ [(nm, sm)]) := by simp [rowsB]
    rw [hrow] at ho3
    simp only [blobC] at a1
    cases hvo : blobOk nm sm with
    | true =>
      rw [hvo] at hT
      by_cases h9 : e.ex.length + 1 ≤ 8
      · have h9' : (e.ex.length : Int) + 1 ≤ 8 := by omega
        rw [if_pos ⟨rfl, h9⟩]
        simp (disch := first | omega | (simp; done) | assumption) [wr64, wrU8, wrU64, Nat.add_assoc, -getElem?_pos, List.getElem?_cons_zero, List.getElem?_cons_succ, ic33, rs33]
        refine CallW.val (hC _) ?_
        simp (disch := first | omega | (simp; done) | assumption) [wr64, wrU8, wrU64, Nat.add_assoc, -getElem?_pos, List.getElem?_cons_zero, List.getElem?_cons_succ, h1]
        refine CallW.val (hT _ (by omega)) ?_
        simp (disch := first | omega | (simp; done) | assumption) [wr64, wrU8, wrU64, Nat.add_assoc, -getElem?_pos, List.getElem?_cons_zero, List.getElem?_cons_succ, h1, hbn, hbn2]
        refine Try.intro a1 ?_
        simp (disch := first | omega | (simp; done) | assumption) [wr64, wrU8, wrU64, Nat.add_assoc, -getElem?_pos, List.getElem?_cons_zero, List.getElem?_cons_succ, hb1, hl1, h9, h9']
        refine ⟨kbx_set hkb _, ?_, _, by simp [entC], ho3 _⟩
        omega
      · have h9' : ¬ (e.ex.length : Int) + 1 ≤ 8 := by omega
        rw [if_neg (fun h => h9 h.2)]
        simp (disch := first | omega | (simp; done) | assumption) [wr64, wrU8, wrU64, Nat.add_assoc, -getElem?_pos, List.getElem?_cons_zero, List.getElem?_cons_succ, ic33, rs33]
        refine CallW.val (hC _) ?_
        simp (disch := first | omega | (simp; done) | assumption) [wr64, wrU8, wrU64, Nat.add_assoc, -getElem?_pos, List.getElem?_cons_zero, List.getElem?_cons_succ, h1]
        refine CallW.val (hT _ (by omega)) ?_
        simp (disch := first | omega | (simp; done) | assumption) [wr64, wrU8, wrU64, Nat.add_assoc, -getElem?_pos, List.getElem?_cons_zero, List.getElem?_cons_succ, h1, hbn, hbn2]
        refine Try.intro a1 ?_
        simp (disch := first | omega | (simp; done) | assumption) [wr64, wrU8, wrU64, Nat.add_assoc, -getElem?_pos, List.getElem?_cons_zero, List.getElem?_cons_succ, hb1, hl1, h9, h9']
        exact ⟨kbx_set hkb _, by omega⟩
    | false =>
      rw [hvo] at hT
      rw [if_neg (by simp)]
      simp (disch := first | omega | (simp; done) | assumption) [wr64, wrU8, wrU64, Nat.add_assoc, -getElem?_pos, List.getElem?_cons_zero, List.getElem?_cons_succ, ic33, rs33]
      refine CallW.val (hC _) ?_
      simp (disch := first | omega | (simp; done) | assumption) [wr64, wrU8, wrU64, Nat.add_assoc, -getElem?_pos, List.getElem?_cons_zero, List.getElem?_cons_succ, h1]
      refine CallW.val (hT _ (by omega)) ?_
      simp (disch := first | omega | (simp; done) | assumption) [wr64, wrU8, wrU64, Nat.add_assoc, -getElem?_pos, List.getElem?_cons_zero, List.getElem?_cons_succ, h1, hbn, hbn2]
      refine Try.intro a1 ?_
      simp (disch := first | omega | (simp; done) | assumption) [wr64, wrU8, wrU64, Nat.add_assoc, -getElem?_pos, List.getElem?_cons_zero, List.getElem?_cons_succ, hb1, hl1]
      exact ⟨kbx_set hkb _, by omega⟩
  rw [if_neg w4]
  unfold wExt at w4
  simp (disch := first | omega | (simp; done) | assumption) [wr64, wrU8, wrU64, Nat.add_assoc, -getElem?_pos, List.getElem?_cons_zero, List.getElem?_cons_succ, ic33, rs33]
  refine CallW.val (hC _) ?_
  simp (disch := first | omega | (simp; done) | assumption) [wr64, wrU8, wrU64, Nat.add_assoc, -getElem?_pos, List.getElem?_cons_zero, List.getElem?_cons_succ, w1, w2, w3, w4]
  exact kbx_refl _ _ _
end Go.Proofs.YtkehijlgbfjmkaaGreatDoor.KW
