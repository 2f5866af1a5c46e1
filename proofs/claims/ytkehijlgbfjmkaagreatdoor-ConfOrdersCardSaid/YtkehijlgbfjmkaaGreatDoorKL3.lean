/- One line of an entry's text: the document's take. No condition. -/
import Derived.Test.YtkehijlgbfjmkaaGreatDoorKL2
set_option linter.unusedVariables false
set_option linter.unusedSimpArgs false
set_option maxRecDepth 10000
set_option maxHeartbeats 4000000
namespace Go.Proofs.YtkehijlgbfjmkaaGreatDoor.KW
open Go Go.RowKit Go.Proofs.YtkehijlgbfjmkaaGreatDoor Go.Proofs.YtkehijlgbfjmkaaGreatDoor.Abs Go.Proofs.YtkehijlgbfjmkaaGreatDoor.Ic Go.Proofs.YtkehijlgbfjmkaaGreatDoor.St
/-- A word of no blank stands ahead of the first blank, or not. -/
theorem aft_cut {w s : List UInt8} (hw : (32 : UInt8) ∉ w) : aft w s = if cutF 32 s = true ∧ cutA 32 s = w then some (cutB 32 s) else none := by
  unfold aft
  rcases idx_cut 32 s with ⟨h1, h2, h3, h4⟩ | ⟨o, h1, h2, h3, h4, h5⟩
  · rw [h4]
    refine (if_neg fun e => ?_).trans (if_neg (by simp)).symm
    have hm : (32 : UInt8) ∈ s := List.mem_of_mem_take (i := w.length + 1) (by rw [e]; simp)
    unfold cutF at h4
    rw [Bool.eq_false_iff] at h4
    exact h4 (List.contains_iff_mem.2 hm)
  · obtain ⟨g1, g2⟩ := Lib.indexByte_some h1
    rw [h5, h3, h4]
    by_cases e : s.take o = w
    · have hl : w.length = o := by rw [← e]; simp; omega
      rw [hl]
      refine (if_pos ?_).trans (if_pos ⟨rfl, e⟩).symm
      rw [← List.take_append_getElem h2, e]
      congr 2
      rw [List.getElem?_eq_getElem h2] at g1
      exact Option.some.inj g1
    · refine (if_neg fun h => ?_).trans (if_neg (fun h => e h.2)).symm
      have hl : w.length < s.length := by
        have := congrArg List.length h
        simp at this
        omega
      have hat : s[w.length]? = some 32 := by
        have := congrArg (fun l : List UInt8 => l[w.length]?) h
        simp only [List.getElem?_take, List.getElem?_append_right (Nat.le_refl _)] at this
        rw [if_pos (by omega)] at this
        rw [this]; simp
      have hlo : o ≤ w.length := by
        by_cases hh : o ≤ w.length
        · exact hh
        · exact absurd hat (g2 _ (by omega))
      have hoo : o = w.length := by
        by_cases hh : o < w.length
        · exfalso
          have : w[o]? = some 32 := by
            have := congrArg (fun l : List UInt8 => l[o]?) h
            simp only [List.getElem?_take, List.getElem?_append_left hh] at this
            rw [if_pos (by omega)] at this
            rw [← this]; exact g1
          exact hw (List.mem_of_getElem? this)
        · omega
      apply e
      rw [hoo]
      have := congrArg (List.take w.length) h
      rw [List.take_take, Nat.min_eq_left (by omega), List.take_append_of_le_length (Nat.le_refl _), List.take_length] at this
      exact this
theorem lineE_cut {e : En} {s : List UInt8} (h : cutF 32 s = false) : lineE e s = none := by
  have hb : cutB 32 s = [] := by
    rcases idx_cut 32 s with ⟨h1, h2, h3, h4⟩ | ⟨o, h1, h2, h3, h4, h5⟩
    · exact h3
    · rw [h5] at h; cases h
  unfold lineE
  simp only [hb]
  have v0 : verOk [] = false := rfl
  have b0 : blobOk (cutA 32 []) (cutB 32 []) = false := rfl
  rw [v0, b0]
  simp
theorem rblob_good (r : List UInt8) : ∃ nm sm, rblobV r = .tuple [.agg [.str nm, .str sm], .bool (blobOk (cutA 32 r) (cutB 32 r))] ∧ (blobOk (cutA 32 r) (cutB 32 r) = true → nm = cutA 32 r ∧ sm = cutB 32 r) := by
  unfold rblobV
  rcases idx_cut 32 r with ⟨h1, h2, h3, h4⟩ | ⟨o, h1, h2, h3, h4, h5⟩
  · rw [h4, h3, if_neg (by simp)]
    have b0 : blobOk (cutA 32 r) [] = false := rfl
    rw [b0]
    exact ⟨[], [], rfl, fun h => by cases h⟩
  · rw [h5, if_pos rfl]
    exact ⟨_, _, rfl, fun _ => ⟨rfl, rfl⟩⟩
theorem Take {B b : Nat} {e : En} {H : AH} (hI : IsE B H b e) (hb : b < B) (hB : B ≤ H.next) (h8 : e.ex.length ≤ 8) (s : List UInt8) (hs : s.length ≤ 1000000) :
    ACall Tryz.prog 44 [.ptr b 0, .str s] H (LnQ B b e s H) := by
  refine acall_ok (bodyP_of fits44) fun hok => acall_of fits44 (by simp) ?_
  obtain ⟨vx, h1, h2⟩ := hI
  have hlx := h2.lenS
  rw [show (rowsB e.ex).length = e.ex.length by simp [rowsB]] at hlx
  have aV := fun H => After s wVer H (by omega) (by decide)
  have aO := fun H => After s wOpt H (by omega) (by decide)
  have aK := fun H => After s wKer H (by omega) (by decide)
  have aE := fun H => After s wExt H (by omega) (by decide)
  rw [aft_cut (by decide)] at aV aO aK aE
  have lb := cutB_len 32 s
  have hbn : ¬ b = H.next := by omega
  have hbn2 : ¬ H.next = b := by omega
  have hcf := lineE_cut (e := e) (s := s)
  unfold LnQ
  simp only [entC] at h1
  -- the last lines: an extra blob, good or not
  have fin : ∀ (nm sm : List UInt8) (good : Bool), ∃ q' H', appendK (((H.new (.cells false tB [.str [], .str []])).set H.next (some (.cells false tB [.str nm, .str sm]))).new (.cells false tB [.str nm, .str sm])) false tB 2 32 vx (.slice (H.next + 1) 0 1 2) = some (.slice q' 0 (e.ex.length + 1) 2, H') ∧
      H'.at_ b = some (.cells false tEn [.str e.ver, .str e.kn, .str e.ks, vx, .str e.op]) ∧ H.next ≤ H'.next ∧ KBx b B H H' ∧ ∀ o, OutF B (H'.set b o) tB 2 (.slice q' 0 (e.ex.length + 1) 2) (rowsB (e.ex ++ [(nm, sm)])) := fun nm sm good => by
    have hn2 : B ≤ (H.new (.cells false tB [.str [], .str []])).next := by rw [AH.new_next]; omega
    have ho2 : OutF B ((H.new (.cells false tB [.str [], .str []])).set H.next (some (.cells false tB [.str nm, .str sm]))) tB 2 vx (rowsB e.ex) := outF_set2 (outF_new h2 _) (fun n e => by
        rcases h2 with ⟨_, h⟩ | ⟨q, h, _, _, _, h5⟩
        · rw [h] at e; cases e
        · rw [h] at e; injection e with e; omega) _
    obtain ⟨v', H', a1, o1, n1, k1⟩ := appendOutF (bytes := 32) (x := blobC (nm, sm)) ho2 (allB _) (by omega) hn2 rfl rfl (by simp [rowsB]; omega) (by simp [rowsB]; omega)
    rw [AH.set_next, AH.new_next] at a1 n1
    obtain ⟨q', rfl⟩ : ∃ q', v' = .slice q' 0 (e.ex.length + 1) 2 := by
      rcases o1 with ⟨h, _⟩ | ⟨q', h, _⟩
      · simp at h
      · exact ⟨q', by simpa [rowsB] using h⟩
    refine ⟨q', H', a1, k1 b _ hb (by rw [AH.set_ne _ _ hbn, AH.new_ne _ _ hbn]; exact h1), by omega, fun y o y1 y2 y3 => k1 y o y1 (by rw [AH.set_ne _ _ (by omega), AH.new_ne _ _ (by omega)]; exact y3), fun o => ?_⟩
    have hrow : rowsB e.ex ++ [blobC (nm, sm)] = rowsB (e.ex ++ [(nm, sm)]) := by simp [rowsB]
    rw [hrow] at o1
    exact outF_set o1 hb o
  by_cases hcf0 : cutF 32 s = false
  · -- no blank: none of the words
    rw [hcf hcf0]
    have n1 : ∀ w, (if cutF 32 s = true ∧ cutA 32 s = w then some (cutB 32 s) else none) = none := fun w => if_neg (by rw [hcf0]; simp)
    rw [n1] at aV aO aK aE
    have hR := fun H => RBlob [] H (by simp)
    rw [show rblobV [] = .tuple [.agg [.str [], .str []], .bool false] from rfl] at hR
    obtain ⟨q', H', a1, hb1, hn1, hk1, _⟩ := fin [] [] false
    simp only [aftV, wVer, wOpt, wKer, wExt] at aV aO aK aE
    simp (disch := first | omega | (simp; done) | assumption) [wr64, wrU8, wrU64, Nat.add_assoc, -getElem?_pos, List.getElem?_cons_zero, List.getElem?_cons_succ, ic44, rs44]
    refine CallW.val (aV _) ?_
    simp (disch := first | omega | (simp; done) | assumption) [wr64, wrU8, wrU64, Nat.add_assoc, -getElem?_pos, List.getElem?_cons_zero, List.getElem?_cons_succ, ]
    refine CallW.val (aO _) ?_
    simp (disch := first | omega | (simp; done) | assumption) [wr64, wrU8, wrU64, Nat.add_assoc, -getElem?_pos, List.getElem?_cons_zero, List.getElem?_cons_succ, ]
    refine CallW.val (aK _) ?_
    simp (disch := first | omega | (simp; done) | assumption) [wr64, wrU8, wrU64, Nat.add_assoc, -getElem?_pos, List.getElem?_cons_zero, List.getElem?_cons_succ, ]
    refine CallW.val (aE _) ?_
    simp (disch := first | omega | (simp; done) | assumption) [wr64, wrU8, wrU64, Nat.add_assoc, -getElem?_pos, List.getElem?_cons_zero, List.getElem?_cons_succ, ]
    refine CallW.val (hR _) ?_
    simp (disch := first | omega | (simp; done) | assumption) [wr64, wrU8, wrU64, Nat.add_assoc, -getElem?_pos, List.getElem?_cons_zero, List.getElem?_cons_succ, h1, hbn, hbn2]
    refine Try.intro a1 ?_
    simp (disch := first | omega | (simp; done) | assumption) [wr64, wrU8, wrU64, Nat.add_assoc, -getElem?_pos, List.getElem?_cons_zero, List.getElem?_cons_succ, hb1]
    exact ⟨kbx_set hk1 _, hn1⟩
  have hct : cutF 32 s = true := by simpa using hcf0
  rw [hct] at aV aO aK aE
  simp only [true_and] at aV aO aK aE
  unfold lineE
  simp only []
  clear hcf hcf0 hct
  generalize cutA 32 s = w at *
  generalize cutB 32 s = r at *
  by_cases w1 : w = wVer
  · rw [if_pos w1]
    rw [if_pos w1] at aV
    simp only [aftV, wVer] at aV
    have hW := VerOk r
    by_cases hv : e.ver = []
    · have hsame := fun o => outF_set h2 hb o
      rw [hv] at h1
      cases hvo : verOk r with
      | true =>
        rw [if_pos ⟨hv, rfl⟩]
        rw [hvo] at hW
        simp (disch := first | omega | (simp; done) | assumption) [wr64, wrU8, wrU64, Nat.add_assoc, -getElem?_pos, List.getElem?_cons_zero, List.getElem?_cons_succ, ic44, rs44]
        refine CallW.val (aV _) ?_
        simp (disch := first | omega | (simp; done) | assumption) [wr64, wrU8, wrU64, Nat.add_assoc, -getElem?_pos, List.getElem?_cons_zero, List.getElem?_cons_succ, h1]
        refine CallW.val (hW _ (by omega)) ?_
        simp (disch := first | omega | (simp; done) | assumption) [wr64, wrU8, wrU64, Nat.add_assoc, -getElem?_pos, List.getElem?_cons_zero, List.getElem?_cons_succ, h1]
        exact ⟨kbx_set (kbx_refl _ _ _) _, vx, by simp [entC], hsame _⟩
      | false =>
        rw [if_neg (by simp)]
        rw [hvo] at hW
        simp (disch := first | omega | (simp; done) | assumption) [wr64, wrU8, wrU64, Nat.add_assoc, -getElem?_pos, List.getElem?_cons_zero, List.getElem?_cons_succ, ic44, rs44]
        refine CallW.val (aV _) ?_
        simp (disch := first | omega | (simp; done) | assumption) [wr64, wrU8, wrU64, Nat.add_assoc, -getElem?_pos, List.getElem?_cons_zero, List.getElem?_cons_succ, h1]
        refine CallW.val (hW _ (by omega)) ?_
        simp (disch := first | omega | (simp; done) | assumption) [wr64, wrU8, wrU64, Nat.add_assoc, -getElem?_pos, List.getElem?_cons_zero, List.getElem?_cons_succ, h1]
        exact kbx_set (kbx_refl _ _ _) _
    · rw [if_neg (fun h => hv h.1)]
      simp (disch := first | omega | (simp; done) | assumption) [wr64, wrU8, wrU64, Nat.add_assoc, -getElem?_pos, List.getElem?_cons_zero, List.getElem?_cons_succ, ic44, rs44]
      refine CallW.val (aV _) ?_
      simp (disch := first | omega | (simp; done) | assumption) [wr64, wrU8, wrU64, Nat.add_assoc, -getElem?_pos, List.getElem?_cons_zero, List.getElem?_cons_succ, h1, hv]
      exact kbx_set (kbx_refl _ _ _) _
  rw [if_neg w1]
  rw [if_neg w1] at aV
  simp only [aftV, wVer] at aV
  by_cases w2 : w = wOpt
  · rw [if_pos w2]
    rw [if_pos w2] at aO
    simp only [aftV, wOpt] at aO
    have hW := ROptions r
    by_cases hv : e.op = []
    · rw [hv] at h1
      by_cases hr0 : r = []
      · rw [if_neg (fun h => h.2.1 hr0)]
        subst hr0
        simp (disch := first | omega | (simp; done) | assumption) [wr64, wrU8, wrU64, Nat.add_assoc, -getElem?_pos, List.getElem?_cons_zero, List.getElem?_cons_succ, ic44, rs44]
        refine CallW.val (aV _) ?_
        simp (disch := first | omega | (simp; done) | assumption) [wr64, wrU8, wrU64, Nat.add_assoc, -getElem?_pos, List.getElem?_cons_zero, List.getElem?_cons_succ, ]
        refine CallW.val (aO _) ?_
        simp (disch := first | omega | (simp; done) | assumption) [wr64, wrU8, wrU64, Nat.add_assoc, -getElem?_pos, List.getElem?_cons_zero, List.getElem?_cons_succ, h1]
        exact kbx_set (kbx_refl _ _ _) _
      have hsame := fun o => outF_set h2 hb o
      cases hvo : optOk r with
      | true =>
        rw [if_pos ⟨hv, hr0, rfl⟩]
        rw [hvo] at hW
        simp (disch := first | omega | (simp; done) | assumption) [wr64, wrU8, wrU64, Nat.add_assoc, -getElem?_pos, List.getElem?_cons_zero, List.getElem?_cons_succ, ic44, rs44]
        refine CallW.val (aV _) ?_
        simp (disch := first | omega | (simp; done) | assumption) [wr64, wrU8, wrU64, Nat.add_assoc, -getElem?_pos, List.getElem?_cons_zero, List.getElem?_cons_succ, ]
        refine CallW.val (aO _) ?_
        simp (disch := first | omega | (simp; done) | assumption) [wr64, wrU8, wrU64, Nat.add_assoc, -getElem?_pos, List.getElem?_cons_zero, List.getElem?_cons_succ, h1, hr0]
        refine CallW.val (hW _ (by omega)) ?_
        simp (disch := first | omega | (simp; done) | assumption) [wr64, wrU8, wrU64, Nat.add_assoc, -getElem?_pos, List.getElem?_cons_zero, List.getElem?_cons_succ, h1, hr0]
        exact ⟨kbx_set (kbx_refl _ _ _) _, vx, by simp [entC], hsame _⟩
      | false =>
        rw [if_neg (by simp)]
        rw [hvo] at hW
        simp (disch := first | omega | (simp; done) | assumption) [wr64, wrU8, wrU64, Nat.add_assoc, -getElem?_pos, List.getElem?_cons_zero, List.getElem?_cons_succ, ic44, rs44]
        refine CallW.val (aV _) ?_
        simp (disch := first | omega | (simp; done) | assumption) [wr64, wrU8, wrU64, Nat.add_assoc, -getElem?_pos, List.getElem?_cons_zero, List.getElem?_cons_succ, ]
        refine CallW.val (aO _) ?_
        simp (disch := first | omega | (simp; done) | assumption) [wr64, wrU8, wrU64, Nat.add_assoc, -getElem?_pos, List.getElem?_cons_zero, List.getElem?_cons_succ, h1, hr0]
        refine CallW.val (hW _ (by omega)) ?_
        simp (disch := first | omega | (simp; done) | assumption) [wr64, wrU8, wrU64, Nat.add_assoc, -getElem?_pos, List.getElem?_cons_zero, List.getElem?_cons_succ, h1, hr0]
        exact kbx_set (kbx_refl _ _ _) _
    · rw [if_neg (fun h => hv h.1)]
      simp (disch := first | omega | (simp; done) | assumption) [wr64, wrU8, wrU64, Nat.add_assoc, -getElem?_pos, List.getElem?_cons_zero, List.getElem?_cons_succ, ic44, rs44]
      refine CallW.val (aV _) ?_
      simp (disch := first | omega | (simp; done) | assumption) [wr64, wrU8, wrU64, Nat.add_assoc, -getElem?_pos, List.getElem?_cons_zero, List.getElem?_cons_succ, ]
      refine CallW.val (aO _) ?_
      simp (disch := first | omega | (simp; done) | assumption) [wr64, wrU8, wrU64, Nat.add_assoc, -getElem?_pos, List.getElem?_cons_zero, List.getElem?_cons_succ, h1, hv]
      exact kbx_set (kbx_refl _ _ _) _
  rw [if_neg w2]
  rw [if_neg w2] at aO
  simp only [aftV, wOpt] at aO
  have hR := fun H => RBlob r H (by omega)
  obtain ⟨nm, sm, hrb, hgd⟩ := rblob_good r
  rw [hrb] at hR
  by_cases w3 : w = wKer
  · rw [if_pos w3]
    rw [if_pos w3] at aK
    simp only [aftV, wKer] at aK
    have hsame := fun o1 o2 o3 => outF_set (outF_set2 (outF_new h2 o1) (b := H.next) (fun n e => by
        rcases h2 with ⟨_, h⟩ | ⟨q, h, _, _, _, h5⟩
        · rw [h] at e; cases e
        · rw [h] at e; injection e with e; omega) o2) hb o3
    cases hvo : blobOk (cutA 32 r) (cutB 32 r) with
    | true =>
      rw [hvo] at hR
      obtain ⟨rfl, rfl⟩ := hgd hvo
      generalize cutA 32 r = nm at *
      generalize cutB 32 r = sm at *
      by_cases hv : e.kn = []
      · rw [if_pos ⟨hv, rfl⟩]
        rw [hv] at h1
        simp (disch := first | omega | (simp; done) | assumption) [wr64, wrU8, wrU64, Nat.add_assoc, -getElem?_pos, List.getElem?_cons_zero, List.getElem?_cons_succ, ic44, rs44]
        refine CallW.val (aV _) ?_
        simp (disch := first | omega | (simp; done) | assumption) [wr64, wrU8, wrU64, Nat.add_assoc, -getElem?_pos, List.getElem?_cons_zero, List.getElem?_cons_succ, ]
        refine CallW.val (aO _) ?_
        simp (disch := first | omega | (simp; done) | assumption) [wr64, wrU8, wrU64, Nat.add_assoc, -getElem?_pos, List.getElem?_cons_zero, List.getElem?_cons_succ, ]
        refine CallW.val (aK _) ?_
        simp (disch := first | omega | (simp; done) | assumption) [wr64, wrU8, wrU64, Nat.add_assoc, -getElem?_pos, List.getElem?_cons_zero, List.getElem?_cons_succ, ]
        refine CallW.val (hR _) ?_
        simp (disch := first | omega | (simp; done) | assumption) [wr64, wrU8, wrU64, Nat.add_assoc, -getElem?_pos, List.getElem?_cons_zero, List.getElem?_cons_succ, h1, hbn, hbn2]
        exact ⟨kbx_set (kbx_set2 (kbx_new (kbx_refl _ _ _) hB _) hB _) _, vx, by simp [entC], hsame _ _ _⟩
      · rw [if_neg (fun h => hv h.1)]
        simp (disch := first | omega | (simp; done) | assumption) [wr64, wrU8, wrU64, Nat.add_assoc, -getElem?_pos, List.getElem?_cons_zero, List.getElem?_cons_succ, ic44, rs44]
        refine CallW.val (aV _) ?_
        simp (disch := first | omega | (simp; done) | assumption) [wr64, wrU8, wrU64, Nat.add_assoc, -getElem?_pos, List.getElem?_cons_zero, List.getElem?_cons_succ, ]
        refine CallW.val (aO _) ?_
        simp (disch := first | omega | (simp; done) | assumption) [wr64, wrU8, wrU64, Nat.add_assoc, -getElem?_pos, List.getElem?_cons_zero, List.getElem?_cons_succ, ]
        refine CallW.val (aK _) ?_
        simp (disch := first | omega | (simp; done) | assumption) [wr64, wrU8, wrU64, Nat.add_assoc, -getElem?_pos, List.getElem?_cons_zero, List.getElem?_cons_succ, ]
        refine CallW.val (hR _) ?_
        simp (disch := first | omega | (simp; done) | assumption) [wr64, wrU8, wrU64, Nat.add_assoc, -getElem?_pos, List.getElem?_cons_zero, List.getElem?_cons_succ, h1, hbn, hbn2, hv]
        exact kbx_set (kbx_set2 (kbx_new (kbx_refl _ _ _) hB _) hB _) _
    | false =>
      rw [hvo] at hR
      rw [if_neg (by simp)]
      simp (disch := first | omega | (simp; done) | assumption) [wr64, wrU8, wrU64, Nat.add_assoc, -getElem?_pos, List.getElem?_cons_zero, List.getElem?_cons_succ, ic44, rs44]
      refine CallW.val (aV _) ?_
      simp (disch := first | omega | (simp; done) | assumption) [wr64, wrU8, wrU64, Nat.add_assoc, -getElem?_pos, List.getElem?_cons_zero, List.getElem?_cons_succ, ]
      refine CallW.val (aO _) ?_
      simp (disch := first | omega | (simp; done) | assumption) [wr64, wrU8, wrU64, Nat.add_assoc, -getElem?_pos, List.getElem?_cons_zero, List.getElem?_cons_succ, ]
      refine CallW.val (aK _) ?_
      simp (disch := first | omega | (simp; done) | assumption) [wr64, wrU8, wrU64, Nat.add_assoc, -getElem?_pos, List.getElem?_cons_zero, List.getElem?_cons_succ, ]
      refine CallW.val (hR _) ?_
      simp (disch := first | omega | (simp; done) | assumption) [wr64, wrU8, wrU64, Nat.add_assoc, -getElem?_pos, List.getElem?_cons_zero, List.getElem?_cons_succ, h1, hbn, hbn2]
      exact kbx_set (kbx_set2 (kbx_new (kbx_refl _ _ _) hB _) hB _) _
  rw [if_neg w3]
  rw [if_neg w3] at aK
  simp only [aftV, wKer] at aK
  by_cases w4 : w = wExt
  · rw [if_pos w4]
    rw [if_pos w4] at aE
    simp only [aftV, wExt] at aE
    obtain ⟨q', H', a1, hb1, hn1, hk1, ho1⟩ := fin nm sm true
    cases hvo : blobOk (cutA 32 r) (cutB 32 r) with
    | true =>
      rw [hvo] at hR
      obtain ⟨rfl, rfl⟩ := hgd hvo
      generalize cutA 32 r = nm at *
      generalize cutB 32 r = sm at *
      by_cases h9 : e.ex.length + 1 ≤ 8
      · have h9' : (e.ex.length : Int) + 1 ≤ 8 := by omega
        rw [if_pos ⟨rfl, h9⟩]
        simp (disch := first | omega | (simp; done) | assumption) [wr64, wrU8, wrU64, Nat.add_assoc, -getElem?_pos, List.getElem?_cons_zero, List.getElem?_cons_succ, ic44, rs44]
        refine CallW.val (aV _) ?_
        simp (disch := first | omega | (simp; done) | assumption) [wr64, wrU8, wrU64, Nat.add_assoc, -getElem?_pos, List.getElem?_cons_zero, List.getElem?_cons_succ, ]
        refine CallW.val (aO _) ?_
        simp (disch := first | omega | (simp; done) | assumption) [wr64, wrU8, wrU64, Nat.add_assoc, -getElem?_pos, List.getElem?_cons_zero, List.getElem?_cons_succ, ]
        refine CallW.val (aK _) ?_
        simp (disch := first | omega | (simp; done) | assumption) [wr64, wrU8, wrU64, Nat.add_assoc, -getElem?_pos, List.getElem?_cons_zero, List.getElem?_cons_succ, ]
        refine CallW.val (aE _) ?_
        simp (disch := first | omega | (simp; done) | assumption) [wr64, wrU8, wrU64, Nat.add_assoc, -getElem?_pos, List.getElem?_cons_zero, List.getElem?_cons_succ, ]
        refine CallW.val (hR _) ?_
        simp (disch := first | omega | (simp; done) | assumption) [wr64, wrU8, wrU64, Nat.add_assoc, -getElem?_pos, List.getElem?_cons_zero, List.getElem?_cons_succ, h1, hbn, hbn2]
        refine Try.intro a1 ?_
        simp (disch := first | omega | (simp; done) | assumption) [wr64, wrU8, wrU64, Nat.add_assoc, -getElem?_pos, List.getElem?_cons_zero, List.getElem?_cons_succ, hb1, h9, h9']
        exact ⟨kbx_set hk1 _, hn1, _, by simp [entC], ho1 _⟩
      · have h9' : ¬ (e.ex.length : Int) + 1 ≤ 8 := by omega
        rw [if_neg (fun h => h9 h.2)]
        simp (disch := first | omega | (simp; done) | assumption) [wr64, wrU8, wrU64, Nat.add_assoc, -getElem?_pos, List.getElem?_cons_zero, List.getElem?_cons_succ, ic44, rs44]
        refine CallW.val (aV _) ?_
        simp (disch := first | omega | (simp; done) | assumption) [wr64, wrU8, wrU64, Nat.add_assoc, -getElem?_pos, List.getElem?_cons_zero, List.getElem?_cons_succ, ]
        refine CallW.val (aO _) ?_
        simp (disch := first | omega | (simp; done) | assumption) [wr64, wrU8, wrU64, Nat.add_assoc, -getElem?_pos, List.getElem?_cons_zero, List.getElem?_cons_succ, ]
        refine CallW.val (aK _) ?_
        simp (disch := first | omega | (simp; done) | assumption) [wr64, wrU8, wrU64, Nat.add_assoc, -getElem?_pos, List.getElem?_cons_zero, List.getElem?_cons_succ, ]
        refine CallW.val (aE _) ?_
        simp (disch := first | omega | (simp; done) | assumption) [wr64, wrU8, wrU64, Nat.add_assoc, -getElem?_pos, List.getElem?_cons_zero, List.getElem?_cons_succ, ]
        refine CallW.val (hR _) ?_
        simp (disch := first | omega | (simp; done) | assumption) [wr64, wrU8, wrU64, Nat.add_assoc, -getElem?_pos, List.getElem?_cons_zero, List.getElem?_cons_succ, h1, hbn, hbn2]
        refine Try.intro a1 ?_
        simp (disch := first | omega | (simp; done) | assumption) [wr64, wrU8, wrU64, Nat.add_assoc, -getElem?_pos, List.getElem?_cons_zero, List.getElem?_cons_succ, hb1, h9, h9']
        exact ⟨kbx_set hk1 _, hn1⟩
    | false =>
      rw [hvo] at hR
      rw [if_neg (by simp)]
      simp (disch := first | omega | (simp; done) | assumption) [wr64, wrU8, wrU64, Nat.add_assoc, -getElem?_pos, List.getElem?_cons_zero, List.getElem?_cons_succ, ic44, rs44]
      refine CallW.val (aV _) ?_
      simp (disch := first | omega | (simp; done) | assumption) [wr64, wrU8, wrU64, Nat.add_assoc, -getElem?_pos, List.getElem?_cons_zero, List.getElem?_cons_succ, ]
      refine CallW.val (aO _) ?_
      simp (disch := first | omega | (simp; done) | assumption) [wr64, wrU8, wrU64, Nat.add_assoc, -getElem?_pos, List.getElem?_cons_zero, List.getElem?_cons_succ, ]
      refine CallW.val (aK _) ?_
      simp (disch := first | omega | (simp; done) | assumption) [wr64, wrU8, wrU64, Nat.add_assoc, -getElem?_pos, List.getElem?_cons_zero, List.getElem?_cons_succ, ]
      refine CallW.val (aE _) ?_
      simp (disch := first | omega | (simp; done) | assumption) [wr64, wrU8, wrU64, Nat.add_assoc, -getElem?_pos, List.getElem?_cons_zero, List.getElem?_cons_succ, ]
      refine CallW.val (hR _) ?_
      simp (disch := first | omega | (simp; done) | assumption) [wr64, wrU8, wrU64, Nat.add_assoc, -getElem?_pos, List.getElem?_cons_zero, List.getElem?_cons_succ, h1, hbn, hbn2]
      refine Try.intro a1 ?_
      simp (disch := first | omega | (simp; done) | assumption) [wr64, wrU8, wrU64, Nat.add_assoc, -getElem?_pos, List.getElem?_cons_zero, List.getElem?_cons_succ, hb1]
      exact ⟨kbx_set hk1 _, hn1⟩
  rw [if_neg w4]
  rw [if_neg w4] at aE
  simp only [aftV, wExt] at aE
  have hR0 := fun H => RBlob [] H (by simp)
  rw [show rblobV [] = .tuple [.agg [.str [], .str []], .bool false] from rfl] at hR0
  obtain ⟨q', H', a1, hb1, hn1, hk1, _⟩ := fin [] [] false
  simp (disch := first | omega | (simp; done) | assumption) [wr64, wrU8, wrU64, Nat.add_assoc, -getElem?_pos, List.getElem?_cons_zero, List.getElem?_cons_succ, ic44, rs44]
  refine CallW.val (aV _) ?_
  simp (disch := first | omega | (simp; done) | assumption) [wr64, wrU8, wrU64, Nat.add_assoc, -getElem?_pos, List.getElem?_cons_zero, List.getElem?_cons_succ, ]
  refine CallW.val (aO _) ?_
  simp (disch := first | omega | (simp; done) | assumption) [wr64, wrU8, wrU64, Nat.add_assoc, -getElem?_pos, List.getElem?_cons_zero, List.getElem?_cons_succ, ]
  refine CallW.val (aK _) ?_
  simp (disch := first | omega | (simp; done) | assumption) [wr64, wrU8, wrU64, Nat.add_assoc, -getElem?_pos, List.getElem?_cons_zero, List.getElem?_cons_succ, ]
  refine CallW.val (aE _) ?_
  simp (disch := first | omega | (simp; done) | assumption) [wr64, wrU8, wrU64, Nat.add_assoc, -getElem?_pos, List.getElem?_cons_zero, List.getElem?_cons_succ, ]
  refine CallW.val (hR0 _) ?_
  simp (disch := first | omega | (simp; done) | assumption) [wr64, wrU8, wrU64, Nat.add_assoc, -getElem?_pos, List.getElem?_cons_zero, List.getElem?_cons_succ, h1, hbn, hbn2]
  refine Try.intro a1 ?_
  simp (disch := first | omega | (simp; done) | assumption) [wr64, wrU8, wrU64, Nat.add_assoc, -getElem?_pos, List.getElem?_cons_zero, List.getElem?_cons_succ, hb1]
  exact ⟨kbx_set hk1 _, hn1⟩
end Go.Proofs.YtkehijlgbfjmkaaGreatDoor.KW
