/- Options, two words, what is behind a word: what the functions answer. No condition. -/
import Derived.Test.YtkehijlgbfjmkaaGreatDoorKW4
set_option linter.unusedVariables false
set_option linter.unusedSimpArgs false
set_option maxRecDepth 10000
set_option maxHeartbeats 4000000
namespace Go.Proofs.YtkehijlgbfjmkaaGreatDoor.KW
open Go Go.RowKit Go.Proofs.YtkehijlgbfjmkaaGreatDoor Go.Proofs.YtkehijlgbfjmkaaGreatDoor.Abs Go.Proofs.YtkehijlgbfjmkaaGreatDoor.Ic Go.Proofs.YtkehijlgbfjmkaaGreatDoor.St
theorem dw_len (c : UInt8) : ∀ l : List UInt8, (l.dropWhile (· == c)).length ≤ l.length
  | [] => Nat.le_refl _
  | b :: l => by
    rw [List.dropWhile_cons]
    split
    · have := dw_len c l; simp; omega
    · exact Nat.le_refl _
theorem dw_same {c : UInt8} {l : List UInt8} : l.dropWhile (· == c) = l ↔ l.head? ≠ some c := by
  cases l with
  | nil => simp
  | cons b l =>
    rw [List.dropWhile_cons]
    by_cases h : b = c
    · subst h
      simp
      intro e
      have := congrArg List.length e
      have h2 := dw_len b l
      simp at this
      omega
    · have : (b == c) = false := by simpa using h
      rw [this]
      simpa using h
theorem trim_same (s : List UInt8) (c : UInt8) : Lib.trimB s c = s ↔ (s = [] ∨ (s.head? ≠ some c ∧ s.getLast? ≠ some c)) := by
  unfold Lib.trimB Lib.trimLeftB Lib.trimRightB
  constructor
  · intro h
    by_cases h0 : s = []
    · exact .inl h0
    right
    have l1 := dw_len c (s.reverse.dropWhile (· == c)).reverse
    have l2 := dw_len c s.reverse
    have l3 := congrArg List.length h
    simp only [List.length_reverse] at l1 l2
    have e2 : s.reverse.dropWhile (· == c) = s.reverse := by
      have hs := List.dropWhile_suffix (· == c) (l := s.reverse)
      exact hs.eq_of_length (by simp; omega)
    rw [e2, List.reverse_reverse] at h
    refine ⟨dw_same.1 h, ?_⟩
    have := dw_same.1 e2
    rwa [List.head?_reverse] at this
  · rintro (rfl | ⟨h1, h2⟩)
    · rfl
    · have e2 : s.reverse.dropWhile (· == c) = s.reverse := dw_same.2 (by rw [List.head?_reverse]; exact h2)
      rw [e2, List.reverse_reverse]
      exact dw_same.2 h1
theorem optOk_trim (s : List UInt8) : optOk s = (decide (s.length ≤ 200) && s.all (inB 32 126) && decide (Lib.trimB s 32 = s)) := by
  unfold optOk
  congr 1
  have := trim_same s 32
  rw [Bool.eq_iff_iff]
  simp only [Bool.or_eq_true, Bool.and_eq_true, decide_eq_true_iff, Bool.not_eq_true', decide_eq_false_iff_not]
  exact this.symm
theorem Options (s : List UInt8) (H : AH) (hs : s.length ≤ 9223372036854775000) : ACall Tryz.prog 37 [.str s] H (fun v H' => v = .bool (optOk s) ∧ H' = H) := by
  refine acall_enter fits37 (by simp) (by simp) fun hok => ?_
  have hW := Within s 0 200 32
  have hT := Trim_ s 32 (by decide) (by omega)
  have e0 : decide ((0 : Int) ≤ (s.length : Int)) = true := decide_eq_true (by omega)
  have e1 : decide ((s.length : Int) ≤ 200) = decide (s.length ≤ 200) := decide_eq_decide.2 (by omega)
  rw [e0, e1, Bool.true_and] at hW
  rw [optOk_trim]
  simp (disch := first | omega | (simp; done) | assumption) [wr64, wrU8, wrU64, Nat.add_assoc, -getElem?_pos, List.getElem?_cons_zero, List.getElem?_cons_succ, ic37, rs37]
  refine CallW.val (hW _ (by omega)) ?_
  cases (decide (s.length ≤ 200) && s.all (inB 32 126)) with
  | true =>
    simp (disch := first | omega | (simp; done) | assumption) [wr64, wrU8, wrU64, Nat.add_assoc, -getElem?_pos, List.getElem?_cons_zero, List.getElem?_cons_succ, ]
    refine CallW.val (hT _) ?_
    simp (disch := first | omega | (simp; done) | assumption) [wr64, wrU8, wrU64, Nat.add_assoc, -getElem?_pos, List.getElem?_cons_zero, List.getElem?_cons_succ, ]
    ((repeat (first | exact AH.keepsAll_refl _ | refine keeps_set hok ?_ (by first | omega | (simp; done) | (simp; omega)) | refine keeps_new hok ?_ (by first | omega | (simp; done) | (simp; omega)))); done)
  | false =>
    simp (disch := first | omega | (simp; done) | assumption) [wr64, wrU8, wrU64, Nat.add_assoc, -getElem?_pos, List.getElem?_cons_zero, List.getElem?_cons_succ, ]
    ((repeat (first | exact AH.keepsAll_refl _ | refine keeps_set hok ?_ (by first | omega | (simp; done) | (simp; omega)) | refine keeps_new hok ?_ (by first | omega | (simp; done) | (simp; omega)))); done)
theorem ROptions (s : List UInt8) (H : AH) (hs : s.length ≤ 9223372036854775000) : ACall Tryz.prog 28 [.str s] H (fun v H' => v = .bool (optOk s) ∧ H' = H) := by
  refine acall_enter fits28 (by simp) (by simp) fun hok => ?_
  have hW := RWithin s 32 126
  unfold optOk
  by_cases h1 : s.length ≤ 200
  · have h1' : (s.length : Int) ≤ 200 := by omega
    rw [decide_eq_true h1, Bool.true_and]
    simp (disch := first | omega | (simp; done) | assumption) [wr64, wrU8, wrU64, Nat.add_assoc, -getElem?_pos, List.getElem?_cons_zero, List.getElem?_cons_succ, ic28, rs28, h1']
    refine CallW.val (hW _ (by omega)) ?_
    cases s.all (inB 32 126) with
    | false =>
      simp (disch := first | omega | (simp; done) | assumption) [wr64, wrU8, wrU64, Nat.add_assoc, -getElem?_pos, List.getElem?_cons_zero, List.getElem?_cons_succ, ]
      ((repeat (first | exact AH.keepsAll_refl _ | refine keeps_set hok ?_ (by first | omega | (simp; done) | (simp; omega)) | refine keeps_new hok ?_ (by first | omega | (simp; done) | (simp; omega)))); done)
    | true =>
      by_cases h0 : s = []
      · subst h0
        simp (disch := first | omega | (simp; done) | assumption) [wr64, wrU8, wrU64, Nat.add_assoc, -getElem?_pos, List.getElem?_cons_zero, List.getElem?_cons_succ, ]
        ((repeat (first | exact AH.keepsAll_refl _ | refine keeps_set hok ?_ (by first | omega | (simp; done) | (simp; omega)) | refine keeps_new hok ?_ (by first | omega | (simp; done) | (simp; omega)))); done)
      · have hl : 0 < s.length := List.length_pos_iff.2 h0
        have e1 : s.head? = some s[0] := by rw [List.head?_eq_getElem?, List.getElem?_eq_getElem hl]
        have e2 : s.getLast? = some s[s.length - 1] := by rw [List.getLast?_eq_getElem?, List.getElem?_eq_getElem (by omega)]
        have x1 : s[0]? = some s[0] := List.getElem?_eq_getElem hl
        have x2 : s[s.length - 1]? = some s[s.length - 1] := List.getElem?_eq_getElem (by omega)
        rw [e1, e2, decide_eq_false h0]
        have i1 : (s.length : Int) - 1 = ((s.length - 1 : Nat) : Int) := by omega
        have n32 : ∀ c : UInt8, (decide ((c.toNat : Int) = 32)) = decide (some c = some (32 : UInt8)) := fun c => by
          rw [decide_eq_decide]
          constructor
          · intro h; exact congrArg some (UInt8.toNat_inj.1 (by simp; omega))
          · intro h; cases h; rfl
        have q1 := n32 s[0]
        have q2 := n32 (s[s.length - 1]'(by omega))
        generalize s[0] = a at *
        generalize s[s.length - 1]'(by omega) = b at *
        generalize s.length - 1 = m at *
        by_cases ha : (a.toNat : Int) = 32
        · have ha' : a.toNat = 32 := by omega
          rw [decide_eq_true ha] at q1
          rw [← q1]
          simp (disch := first | omega | (simp; done) | assumption) [wr64, wrU8, wrU64, Nat.add_assoc, -getElem?_pos, List.getElem?_cons_zero, List.getElem?_cons_succ, i1, h0, x1, x2, ha, ha']
          ((repeat (first | exact AH.keepsAll_refl _ | refine keeps_set hok ?_ (by first | omega | (simp; done) | (simp; omega)) | refine keeps_new hok ?_ (by first | omega | (simp; done) | (simp; omega)))); done)
        · have ha' : ¬ a.toNat = 32 := by omega
          rw [decide_eq_false ha] at q1
          rw [← q1]
          by_cases hb : (b.toNat : Int) = 32
          · have hb' : b.toNat = 32 := by omega
            rw [decide_eq_true hb] at q2
            rw [← q2]
            simp (disch := first | omega | (simp; done) | assumption) [wr64, wrU8, wrU64, Nat.add_assoc, -getElem?_pos, List.getElem?_cons_zero, List.getElem?_cons_succ, i1, h0, x1, x2, ha, ha', hb, hb']
            ((repeat (first | exact AH.keepsAll_refl _ | refine keeps_set hok ?_ (by first | omega | (simp; done) | (simp; omega)) | refine keeps_new hok ?_ (by first | omega | (simp; done) | (simp; omega)))); done)
          · have hb' : ¬ b.toNat = 32 := by omega
            rw [decide_eq_false hb] at q2
            rw [← q2]
            simp (disch := first | omega | (simp; done) | assumption) [wr64, wrU8, wrU64, Nat.add_assoc, -getElem?_pos, List.getElem?_cons_zero, List.getElem?_cons_succ, i1, h0, x1, x2, ha, ha', hb, hb']
            ((repeat (first | exact AH.keepsAll_refl _ | refine keeps_set hok ?_ (by first | omega | (simp; done) | (simp; omega)) | refine keeps_new hok ?_ (by first | omega | (simp; done) | (simp; omega)))); done)
  · have h1' : ¬ (s.length : Int) ≤ 200 := by omega
    rw [decide_eq_false h1, Bool.false_and, Bool.false_and]
    simp (disch := first | omega | (simp; done) | assumption) [wr64, wrU8, wrU64, Nat.add_assoc, -getElem?_pos, List.getElem?_cons_zero, List.getElem?_cons_succ, ic28, rs28, h1']
    ((repeat (first | exact AH.keepsAll_refl _ | refine keeps_set hok ?_ (by first | omega | (simp; done) | (simp; omega)) | refine keeps_new hok ?_ (by first | omega | (simp; done) | (simp; omega)))); done)
theorem cutA_len (q : UInt8) (s : List UInt8) : (cutA q s).length ≤ s.length := by
  have := (List.takeWhile_sublist (l := s) (· != q)).length_le
  exact this
theorem cutB_len (q : UInt8) (s : List UInt8) : (cutB q s).length ≤ s.length := by
  unfold cutB
  have := (List.dropWhile_suffix (l := s) (· != q)).length_le
  simp
  omega
abbrev tB : Nat := 23
theorem plain2 (a b : List UInt8) (c : Bool) : Plain (.tuple [.agg [.str a, .str b], .bool c]) := by
  refine .tuple fun x hx => ?_
  simp at hx
  rcases hx with rfl | rfl
  · refine .agg fun y hy => ?_
    simp at hy
    rcases hy with rfl | rfl <;> exact .str _
  · exact .bool _
theorem Two (s : List UInt8) (H : AH) (hs : s.length ≤ 9223372036854775000) : ACall Tryz.prog 54 [.str s] H (fun v H' => v = .tuple [.agg [.str (cutA 32 s), .str (cutB 32 s)], .bool (blobOk (cutA 32 s) (cutB 32 s))] ∧ H' = H) := by
  refine acall_enter fits54 (by simp) (plain2 _ _ _) fun hok => ?_
  have hC := Cut_ s 32 hs
  have hB := Blob_ (cutA 32 s) (cutB 32 s)
  have l1 := cutA_len 32 s
  have l2 := cutB_len 32 s
  generalize cutA 32 s = a at *
  generalize cutB 32 s = b at *
  simp (disch := first | omega | (simp; done) | assumption) [wr64, wrU8, wrU64, Nat.add_assoc, -getElem?_pos, List.getElem?_cons_zero, List.getElem?_cons_succ, ic54, rs54]
  refine CallW.val (hC _) ?_
  simp (disch := first | omega | (simp; done) | assumption) [wr64, wrU8, wrU64, Nat.add_assoc, -getElem?_pos, List.getElem?_cons_zero, List.getElem?_cons_succ, ]
  refine CallW.val (hB _ (by omega) (by omega)) ?_
  simp (disch := first | omega | (simp; done) | assumption) [wr64, wrU8, wrU64, Nat.add_assoc, -getElem?_pos, List.getElem?_cons_zero, List.getElem?_cons_succ, ]
  ((repeat (first | exact AH.keepsAll_refl _ | refine keeps_set hok ?_ (by first | omega | (simp; done) | (simp; omega)) | refine keeps_new hok ?_ (by first | omega | (simp; done) | (simp; omega)))); done)
/-- What is behind a word and a blank. -/
def aft (w s : List UInt8) : Option (List UInt8) := if s.take (w.length + 1) = w ++ [32] then some (s.drop (w.length + 1)) else none
def aftV : Option (List UInt8) → AV
  | some r => .tuple [.str r, .bool true]
  | none => .tuple [.str [], .bool false]
theorem After (s w : List UInt8) (H : AH) (hs : s.length ≤ 9223372036854775000) (hw : w.length ≤ 100) : ACall Tryz.prog 66 [.str s, .str w] H (fun v H' => v = aftV (aft w s) ∧ H' = H) := by
  refine acall_enter fits66 (by simp) (by unfold aftV; split <;> exact .tuple (by intro a ha; simp at ha; rcases ha with rfl | rfl <;> constructor)) fun hok => ?_
  unfold aft
  have ew : (w.length : Int) + 1 = ((w.length + 1 : Nat) : Int) := by omega
  generalize hn : w.length + 1 = n at *
  by_cases hl : s.length < n
  · have hl' : (s.length : Int) < (n : Int) := by omega
    have hne : ¬ s.take n = w ++ [32] := fun e => by
      have := congrArg List.length e
      simp at this
      omega
    rw [if_neg hne]
    simp (disch := first | omega | (simp; done) | assumption) [wr64, wrU8, wrU64, Nat.add_assoc, -getElem?_pos, List.getElem?_cons_zero, List.getElem?_cons_succ, ic66, rs66, ew, hl, hl', aftV]
    ((repeat (first | exact AH.keepsAll_refl _ | refine keeps_set hok ?_ (by first | omega | (simp; done) | (simp; omega)) | refine keeps_new hok ?_ (by first | omega | (simp; done) | (simp; omega)))); done)
  · have hl' : ¬ (s.length : Int) < (n : Int) := by omega
    have hle : (n : Int) ≤ (s.length : Int) := by omega
    have hle' : n ≤ s.length := by omega
    have hw2 : n ≤ 9223372036854775807 := by omega
    by_cases he : s.take n = w ++ [32]
    · rw [if_pos he]
      simp (disch := first | omega | (simp; done) | assumption) [wr64, wrU8, wrU64, Nat.add_assoc, -getElem?_pos, List.getElem?_cons_zero, List.getElem?_cons_succ, ic66, rs66, ew, hl, hl', hle, hle', hn, he, aftV, Abs.bounds, hw2]
      ((repeat (first | exact AH.keepsAll_refl _ | refine keeps_set hok ?_ (by first | omega | (simp; done) | (simp; omega)) | refine keeps_new hok ?_ (by first | omega | (simp; done) | (simp; omega)))); done)
    · rw [if_neg he]
      simp (disch := first | omega | (simp; done) | assumption) [wr64, wrU8, wrU64, Nat.add_assoc, -getElem?_pos, List.getElem?_cons_zero, List.getElem?_cons_succ, ic66, rs66, ew, hl, hl', hle, hle', hn, he, aftV, Abs.bounds, hw2]
      ((repeat (first | exact AH.keepsAll_refl _ | refine keeps_set hok ?_ (by first | omega | (simp; done) | (simp; omega)) | refine keeps_new hok ?_ (by first | omega | (simp; done) | (simp; omega)))); done)
end Go.Proofs.YtkehijlgbfjmkaaGreatDoor.KW
