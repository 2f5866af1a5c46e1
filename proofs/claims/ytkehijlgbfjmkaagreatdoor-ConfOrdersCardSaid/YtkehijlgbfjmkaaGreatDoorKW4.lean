/- Names, blobs, options: what the functions answer. No condition. -/
import Derived.Test.YtkehijlgbfjmkaaGreatDoorKW3
set_option linter.unusedVariables false
set_option linter.unusedSimpArgs false
set_option maxRecDepth 10000
set_option maxHeartbeats 4000000
namespace Go.Proofs.YtkehijlgbfjmkaaGreatDoor.KW
open Go Go.RowKit Go.Proofs.YtkehijlgbfjmkaaGreatDoor Go.Proofs.YtkehijlgbfjmkaaGreatDoor.Abs Go.Proofs.YtkehijlgbfjmkaaGreatDoor.Ic Go.Proofs.YtkehijlgbfjmkaaGreatDoor.St
def NmI (s : List UInt8) (H : AH) (kk : Nat) (tm : Tms) (H' : AH) : Prop := H.keepsAll H' ∧ ∃ i : Nat, kk = s.length - i ∧ i ≤ s.length ∧ (s.take i).all namC = true ∧ tm 0 = .str s ∧ tm 21 = .int .i64 (s.length : Int) ∧ tm 22 = .int .i64 (i : Int)
theorem nameOk_no1 {s : List UInt8} (h : ¬ 1 ≤ s.length) : nameOk s = false := by unfold nameOk; rw [decide_eq_false h]; simp
theorem nameOk_no2 {s : List UInt8} (h : ¬ s.length ≤ 27) : nameOk s = false := by unfold nameOk; rw [decide_eq_false h]; simp
theorem nameOk_no3 {s : List UInt8} (h : s = [46]) : nameOk s = false := by subst h; rfl
theorem nameOk_no4 {s : List UInt8} (h : s = [46, 46]) : nameOk s = false := by subst h; rfl
theorem nameOk_all {s : List UInt8} (h1 : 1 ≤ s.length) (h2 : s.length ≤ 27) (h3 : ¬ s = [46]) (h4 : ¬ s = [46, 46]) : nameOk s = s.all namC := by
  unfold nameOk; rw [decide_eq_true h1, decide_eq_true h2, decide_eq_false h3, decide_eq_false h4]; simp
theorem NameOk_ (s : List UInt8) (H : AH) (hs : s.length ≤ 9223372036854775807) : ACall Tryz.prog 59 [.str s] H (fun v H' => v = .bool (nameOk s) ∧ H' = H) := by
  refine acall_enter fits59 (by simp) (by simp) fun hok => ?_
  by_cases h1 : 1 ≤ s.length
  rotate_left
  · rw [nameOk_no1 h1]
    have h1' : (s.length : Int) < 1 := by omega
    simp (disch := first | omega | (simp; done) | assumption) [wr64, wrU8, wrU64, Nat.add_assoc, -getElem?_pos, List.getElem?_cons_zero, List.getElem?_cons_succ, ic59, rs59, h1']
    ((repeat (first | exact AH.keepsAll_refl _ | refine keeps_set hok ?_ (by first | omega | (simp; done) | (simp; omega)) | refine keeps_new hok ?_ (by first | omega | (simp; done) | (simp; omega)))); done)
  have h1' : ¬ (s.length : Int) < 1 := by omega
  by_cases h2 : s.length ≤ 27
  rotate_left
  · rw [nameOk_no2 h2]
    have h2' : (27 : Int) < (s.length : Int) := by omega
    have h2n : 27 < s.length := by omega
    simp (disch := first | omega | (simp; done) | assumption) [wr64, wrU8, wrU64, Nat.add_assoc, -getElem?_pos, List.getElem?_cons_zero, List.getElem?_cons_succ, ic59, rs59, h1', h2', h2n]
    ((repeat (first | exact AH.keepsAll_refl _ | refine keeps_set hok ?_ (by first | omega | (simp; done) | (simp; omega)) | refine keeps_new hok ?_ (by first | omega | (simp; done) | (simp; omega)))); done)
  have h2' : ¬ (27 : Int) < (s.length : Int) := by omega
  have h2n : ¬ 27 < s.length := by omega
  by_cases h3 : s = [46]
  · rw [nameOk_no3 h3]
    subst h3
    simp (disch := first | omega | (simp; done) | assumption) [wr64, wrU8, wrU64, Nat.add_assoc, -getElem?_pos, List.getElem?_cons_zero, List.getElem?_cons_succ, ic59, rs59]
    ((repeat (first | exact AH.keepsAll_refl _ | refine keeps_set hok ?_ (by first | omega | (simp; done) | (simp; omega)) | refine keeps_new hok ?_ (by first | omega | (simp; done) | (simp; omega)))); done)
  by_cases h4 : s = [46, 46]
  · rw [nameOk_no4 h4]
    subst h4
    simp (disch := first | omega | (simp; done) | assumption) [wr64, wrU8, wrU64, Nat.add_assoc, -getElem?_pos, List.getElem?_cons_zero, List.getElem?_cons_succ, ic59, rs59]
    ((repeat (first | exact AH.keepsAll_refl _ | refine keeps_set hok ?_ (by first | omega | (simp; done) | (simp; omega)) | refine keeps_new hok ?_ (by first | omega | (simp; done) | (simp; omega)))); done)
  rw [nameOk_all h1 h2 h3 h4]
  simp (disch := first | omega | (simp; done) | assumption) [wr64, wrU8, wrU64, Nat.add_assoc, -getElem?_pos, List.getElem?_cons_zero, List.getElem?_cons_succ, ic59, rs59, h1', h2', h2n, h3, h4]
  refine iwp_loop (NmI s H) s.length ⟨AH.keepsAll_refl _, 0, rfl, by omega, by simp, by simp, by simp, by simp⟩ ?_
  rintro kk tm H1 ⟨hk1, i, rfl, hi, hall, t0, t21, t22⟩
  by_cases hlt : i < s.length
  · have hlt' : (i : Int) < (s.length : Int) := by omega
    have hx : s[i]? = some s[i] := List.getElem?_eq_getElem hlt
    have hat := all_take (p := namC) hlt
    rw [hall, Bool.true_and] at hat
    have hf := all_false (p := namC) hlt
    generalize s[i] = c at *
    have hS := Sign c
    simp (disch := first | omega | (simp; done) | assumption) [wr64, wrU8, wrU64, Nat.add_assoc, -getElem?_pos, List.getElem?_cons_zero, List.getElem?_cons_succ, t0, t21, t22, hlt, hlt', hx]
    refine CallW.val (hS _) ?_
    cases hc : namC c with
    | true =>
      rw [hc] at hat
      simp (disch := first | omega | (simp; done) | assumption) [wr64, wrU8, wrU64, Nat.add_assoc, -getElem?_pos, List.getElem?_cons_zero, List.getElem?_cons_succ, t0, t21, t22]
      exact ⟨s.length - (i + 1), by omega, hk1, i + 1, rfl, by omega, hat, by simp [t0], by simp [t21], by simp⟩
    | false =>
      rw [hf hc]
      simp (disch := first | omega | (simp; done) | assumption) [wr64, wrU8, wrU64, Nat.add_assoc, -getElem?_pos, List.getElem?_cons_zero, List.getElem?_cons_succ, t0, t21, t22]
      exact hk1
  · have hlt' : ¬ (i : Int) < (s.length : Int) := by omega
    rw [List.take_of_length_le (by omega)] at hall
    rw [hall]
    simp (disch := first | omega | (simp; done) | assumption) [wr64, wrU8, wrU64, Nat.add_assoc, -getElem?_pos, List.getElem?_cons_zero, List.getElem?_cons_succ, t0, t21, t22, hlt, hlt']
    exact hk1
def letC (c : UInt8) : Bool := inB 97 122 c || inB 65 90 c || inB 48 57 c
theorem Letter_ (c : UInt8) (H : AH) : ACall Tryz.prog 69 [.int .u8 (c.toNat : Int)] H (fun v H' => v = .bool (letC c) ∧ H' = H) := by
  refine acall_enter fits69 (by simp) (by simp) fun hok => ?_
  have si0 : ((65 : Int) ≤ (c.toNat : Int)) = (65 ≤ c.toNat) := propext (by omega)
  have si1 : ((c.toNat : Int) ≤ 90) = (c.toNat ≤ 90) := propext (by omega)
  have si2 : ((97 : Int) ≤ (c.toNat : Int)) = (97 ≤ c.toNat) := propext (by omega)
  have si3 : ((c.toNat : Int) ≤ 122) = (c.toNat ≤ 122) := propext (by omega)
  have si4 : ((48 : Int) ≤ (c.toNat : Int)) = (48 ≤ c.toNat) := propext (by omega)
  have si5 : ((c.toNat : Int) ≤ 57) = (c.toNat ≤ 57) := propext (by omega)
  have hnm : letC c = (decide (97 ≤ c.toNat ∧ c.toNat ≤ 122) || decide (65 ≤ c.toNat ∧ c.toNat ≤ 90) || decide (48 ≤ c.toNat ∧ c.toNat ≤ 57)) := by
    unfold letC
    rw [inB_iff, inB_iff, inB_iff]
    simp only [si0, si1, si2, si3, si4, si5]
  rw [hnm]
  generalize c.toNat = n at *
  have s1 : (65 ≤ n ∧ n ≤ 90) ∨ (65 ≤ n ∧ ¬ n ≤ 90) ∨ ¬ 65 ≤ n := by omega
  have s2 : (97 ≤ n ∧ n ≤ 122) ∨ (97 ≤ n ∧ ¬ n ≤ 122) ∨ ¬ 97 ≤ n := by omega
  have s3 : (48 ≤ n ∧ n ≤ 57) ∨ (48 ≤ n ∧ ¬ n ≤ 57) ∨ ¬ 48 ≤ n := by omega
  clear hnm
  rcases s1 with ⟨p1, p2⟩ | ⟨p1, p2⟩ | p1 <;> rcases s2 with ⟨p3, p4⟩ | ⟨p3, p4⟩ | p3 <;> rcases s3 with ⟨p5, p6⟩ | ⟨p5, p6⟩ | p5 <;> first
    | (exfalso; omega)
    | (simp (disch := first | omega | (simp; done) | assumption) [wr64, wrU8, wrU64, Nat.add_assoc, -getElem?_pos, List.getElem?_cons_zero, List.getElem?_cons_succ, ic69, rs69, si0, si1, si2, si3, si4, si5, *]; first | exact AH.keepsAll_refl _ | done)
def RnI (s : List UInt8) (H : AH) (kk : Nat) (tm : Tms) (H' : AH) : Prop := H.keepsAll H' ∧ ∃ i : Nat, kk = s.length - i ∧ i ≤ s.length ∧ (s.take i).all namC = true ∧ tm 0 = .str s ∧ tm 3 = .int .i64 (i : Int)
theorem RNameOk (s : List UInt8) (H : AH) (hs : s.length ≤ 9223372036854775807) : ACall Tryz.prog 50 [.str s] H (fun v H' => v = .bool (nameOk s) ∧ H' = H) := by
  refine acall_enter fits50 (by simp) (by simp) fun hok => ?_
  by_cases h1 : 1 ≤ s.length
  rotate_left
  · rw [nameOk_no1 h1]
    have h1' : (s.length : Int) < 1 := by omega
    simp (disch := first | omega | (simp; done) | assumption) [wr64, wrU8, wrU64, Nat.add_assoc, -getElem?_pos, List.getElem?_cons_zero, List.getElem?_cons_succ, ic50, rs50, h1']
    ((repeat (first | exact AH.keepsAll_refl _ | refine keeps_set hok ?_ (by first | omega | (simp; done) | (simp; omega)) | refine keeps_new hok ?_ (by first | omega | (simp; done) | (simp; omega)))); done)
  have h1' : ¬ (s.length : Int) < 1 := by omega
  by_cases h2 : s.length ≤ 27
  rotate_left
  · rw [nameOk_no2 h2]
    have h2' : (27 : Int) < (s.length : Int) := by omega
    have h2n : 27 < s.length := by omega
    simp (disch := first | omega | (simp; done) | assumption) [wr64, wrU8, wrU64, Nat.add_assoc, -getElem?_pos, List.getElem?_cons_zero, List.getElem?_cons_succ, ic50, rs50, h1', h2', h2n]
    ((repeat (first | exact AH.keepsAll_refl _ | refine keeps_set hok ?_ (by first | omega | (simp; done) | (simp; omega)) | refine keeps_new hok ?_ (by first | omega | (simp; done) | (simp; omega)))); done)
  have h2' : ¬ (27 : Int) < (s.length : Int) := by omega
  have h2n : ¬ 27 < s.length := by omega
  by_cases h3 : s = [46]
  · rw [nameOk_no3 h3]
    subst h3
    simp (disch := first | omega | (simp; done) | assumption) [wr64, wrU8, wrU64, Nat.add_assoc, -getElem?_pos, List.getElem?_cons_zero, List.getElem?_cons_succ, ic50, rs50]
    ((repeat (first | exact AH.keepsAll_refl _ | refine keeps_set hok ?_ (by first | omega | (simp; done) | (simp; omega)) | refine keeps_new hok ?_ (by first | omega | (simp; done) | (simp; omega)))); done)
  by_cases h4 : s = [46, 46]
  · rw [nameOk_no4 h4]
    subst h4
    simp (disch := first | omega | (simp; done) | assumption) [wr64, wrU8, wrU64, Nat.add_assoc, -getElem?_pos, List.getElem?_cons_zero, List.getElem?_cons_succ, ic50, rs50]
    ((repeat (first | exact AH.keepsAll_refl _ | refine keeps_set hok ?_ (by first | omega | (simp; done) | (simp; omega)) | refine keeps_new hok ?_ (by first | omega | (simp; done) | (simp; omega)))); done)
  rw [nameOk_all h1 h2 h3 h4]
  simp (disch := first | omega | (simp; done) | assumption) [wr64, wrU8, wrU64, Nat.add_assoc, -getElem?_pos, List.getElem?_cons_zero, List.getElem?_cons_succ, ic50, rs50, h1', h2', h2n, h3, h4]
  refine iwp_loop (RnI s H) s.length ⟨AH.keepsAll_refl _, 0, rfl, by omega, by simp, by simp, by simp⟩ ?_
  rintro kk tm H1 ⟨hk1, i, rfl, hi, hall, t0, t3⟩
  by_cases hlt : i < s.length
  · have hlt' : (i : Int) < (s.length : Int) := by omega
    have hx : s[i]? = some s[i] := List.getElem?_eq_getElem hlt
    have hat := all_take (p := namC) hlt
    rw [hall, Bool.true_and] at hat
    have hf := all_false (p := namC) hlt
    generalize s[i] = c at *
    have hS := Letter_ c
    have hnm : namC c = (letC c || decide ((c.toNat : Int) = 46) || decide ((c.toNat : Int) = 43) || decide ((c.toNat : Int) = 45) || decide ((c.toNat : Int) = 95) || decide ((c.toNat : Int) = 126)) := by
      have e : ∀ k : UInt8, (c == k) = decide ((c.toNat : Int) = (k.toNat : Int)) := fun k => by
        by_cases h : c = k
        · subst h; simp
        · have : ¬ c.toNat = k.toNat := fun hh => h (UInt8.toNat_inj.1 hh)
          rw [decide_eq_false (by omega)]
          simpa using h
      unfold namC letC
      simp only [List.contains_cons, List.contains_nil, Bool.or_false, e]
      simp only [Bool.or_assoc]
      rfl
    cases hl : letC c with
    | true =>
      rw [hl] at hS hnm
      simp only [Bool.true_or] at hnm
      rw [hnm] at hat
      simp (disch := first | omega | (simp; done) | assumption) [wr64, wrU8, wrU64, Nat.add_assoc, -getElem?_pos, List.getElem?_cons_zero, List.getElem?_cons_succ, t0, t3, hlt, hlt', hx]
      refine CallW.val (hS _) ?_
      simp (disch := first | omega | (simp; done) | assumption) [wr64, wrU8, wrU64, Nat.add_assoc, -getElem?_pos, List.getElem?_cons_zero, List.getElem?_cons_succ, t0, t3]
      exact ⟨s.length - (i + 1), by omega, hk1, i + 1, rfl, by omega, hat, by simp [t0], by simp⟩
    | false =>
      rw [hl] at hS hnm
      have hsp : ((c.toNat : Int) = 46) ∨ ((c.toNat : Int) = 43) ∨ ((c.toNat : Int) = 45) ∨ ((c.toNat : Int) = 95) ∨ ((c.toNat : Int) = 126) ∨ (¬ (c.toNat : Int) = 46 ∧ ¬ (c.toNat : Int) = 43 ∧ ¬ (c.toNat : Int) = 45 ∧ ¬ (c.toNat : Int) = 95 ∧ ¬ (c.toNat : Int) = 126) := by omega
      rcases hsp with h | h | h | h | h | ⟨q1, q2, q3, q4, q5⟩
      · rw [h] at hnm
        rw [hnm] at hat
        simp (disch := first | omega | (simp; done) | assumption) [wr64, wrU8, wrU64, Nat.add_assoc, -getElem?_pos, List.getElem?_cons_zero, List.getElem?_cons_succ, t0, t3, hlt, hlt', hx]
        refine CallW.val (hS _) ?_
        simp (disch := first | omega | (simp; done) | assumption) [wr64, wrU8, wrU64, Nat.add_assoc, -getElem?_pos, List.getElem?_cons_zero, List.getElem?_cons_succ, t0, t3, h]
        exact ⟨s.length - (i + 1), by omega, hk1, i + 1, rfl, by omega, hat, by simp [t0], by simp⟩
      · rw [h] at hnm
        rw [hnm] at hat
        simp (disch := first | omega | (simp; done) | assumption) [wr64, wrU8, wrU64, Nat.add_assoc, -getElem?_pos, List.getElem?_cons_zero, List.getElem?_cons_succ, t0, t3, hlt, hlt', hx]
        refine CallW.val (hS _) ?_
        simp (disch := first | omega | (simp; done) | assumption) [wr64, wrU8, wrU64, Nat.add_assoc, -getElem?_pos, List.getElem?_cons_zero, List.getElem?_cons_succ, t0, t3, h]
        exact ⟨s.length - (i + 1), by omega, hk1, i + 1, rfl, by omega, hat, by simp [t0], by simp⟩
      · rw [h] at hnm
        rw [hnm] at hat
        simp (disch := first | omega | (simp; done) | assumption) [wr64, wrU8, wrU64, Nat.add_assoc, -getElem?_pos, List.getElem?_cons_zero, List.getElem?_cons_succ, t0, t3, hlt, hlt', hx]
        refine CallW.val (hS _) ?_
        simp (disch := first | omega | (simp; done) | assumption) [wr64, wrU8, wrU64, Nat.add_assoc, -getElem?_pos, List.getElem?_cons_zero, List.getElem?_cons_succ, t0, t3, h]
        exact ⟨s.length - (i + 1), by omega, hk1, i + 1, rfl, by omega, hat, by simp [t0], by simp⟩
      · rw [h] at hnm
        rw [hnm] at hat
        simp (disch := first | omega | (simp; done) | assumption) [wr64, wrU8, wrU64, Nat.add_assoc, -getElem?_pos, List.getElem?_cons_zero, List.getElem?_cons_succ, t0, t3, hlt, hlt', hx]
        refine CallW.val (hS _) ?_
        simp (disch := first | omega | (simp; done) | assumption) [wr64, wrU8, wrU64, Nat.add_assoc, -getElem?_pos, List.getElem?_cons_zero, List.getElem?_cons_succ, t0, t3, h]
        exact ⟨s.length - (i + 1), by omega, hk1, i + 1, rfl, by omega, hat, by simp [t0], by simp⟩
      · rw [h] at hnm
        rw [hnm] at hat
        simp (disch := first | omega | (simp; done) | assumption) [wr64, wrU8, wrU64, Nat.add_assoc, -getElem?_pos, List.getElem?_cons_zero, List.getElem?_cons_succ, t0, t3, hlt, hlt', hx]
        refine CallW.val (hS _) ?_
        simp (disch := first | omega | (simp; done) | assumption) [wr64, wrU8, wrU64, Nat.add_assoc, -getElem?_pos, List.getElem?_cons_zero, List.getElem?_cons_succ, t0, t3, h]
        exact ⟨s.length - (i + 1), by omega, hk1, i + 1, rfl, by omega, hat, by simp [t0], by simp⟩
      · rw [decide_eq_false q1, decide_eq_false q2, decide_eq_false q3, decide_eq_false q4, decide_eq_false q5] at hnm
        rw [hf hnm]
        have r1 : ¬ c.toNat = 46 := by omega
        have r2 : ¬ c.toNat = 43 := by omega
        have r3 : ¬ c.toNat = 45 := by omega
        have r4 : ¬ c.toNat = 95 := by omega
        have r5 : ¬ c.toNat = 126 := by omega
        simp (disch := first | omega | (simp; done) | assumption) [wr64, wrU8, wrU64, Nat.add_assoc, -getElem?_pos, List.getElem?_cons_zero, List.getElem?_cons_succ, t0, t3, hlt, hlt', hx]
        refine CallW.val (hS _) ?_
        simp (disch := first | omega | (simp; done) | assumption) [wr64, wrU8, wrU64, Nat.add_assoc, -getElem?_pos, List.getElem?_cons_zero, List.getElem?_cons_succ, t0, t3, q1, q2, q3, q4, q5, r1, r2, r3, r4, r5]
        exact hk1
  · have hlt' : ¬ (i : Int) < (s.length : Int) := by omega
    rw [List.take_of_length_le (by omega)] at hall
    rw [hall]
    simp (disch := first | omega | (simp; done) | assumption) [wr64, wrU8, wrU64, Nat.add_assoc, -getElem?_pos, List.getElem?_cons_zero, List.getElem?_cons_succ, t0, t3, hlt, hlt']
    exact hk1
/-! ### Blobs -/
def blobOk (n s : List UInt8) : Bool := hexOk s && nameOk n
theorem Blob_ (n s : List UInt8) (H : AH) (h1 : n.length ≤ 9223372036854775807) (h2 : s.length ≤ 9223372036854775807) : ACall Tryz.prog 40 [.agg [.str n, .str s]] H (fun v H' => v = .bool (blobOk n s) ∧ H' = H) := by
  refine acall_enter fits40 (by simp) (by simp) fun hok => ?_
  have hU := Unhex s
  unfold blobOk
  simp (disch := first | omega | (simp; done) | assumption) [wr64, wrU8, wrU64, Nat.add_assoc, -getElem?_pos, List.getElem?_cons_zero, List.getElem?_cons_succ, ic40, rs40]
  refine CallW.of (hU _ (by omega)) ?_
  rintro v H2 ⟨⟨d, rfl⟩, rfl⟩
  cases hexOk s with
  | true =>
    simp (disch := first | omega | (simp; done) | assumption) [wr64, wrU8, wrU64, Nat.add_assoc, -getElem?_pos, List.getElem?_cons_zero, List.getElem?_cons_succ, ]
    refine CallW.val (NameOk_ n _ h1) ?_
    simp (disch := first | omega | (simp; done) | assumption) [wr64, wrU8, wrU64, Nat.add_assoc, -getElem?_pos, List.getElem?_cons_zero, List.getElem?_cons_succ, ]
    ((repeat (first | exact AH.keepsAll_refl _ | refine keeps_set hok ?_ (by first | omega | (simp; done) | (simp; omega)) | refine keeps_new hok ?_ (by first | omega | (simp; done) | (simp; omega)))); done)
  | false =>
    simp (disch := first | omega | (simp; done) | assumption) [wr64, wrU8, wrU64, Nat.add_assoc, -getElem?_pos, List.getElem?_cons_zero, List.getElem?_cons_succ, ]
    ((repeat (first | exact AH.keepsAll_refl _ | refine keeps_set hok ?_ (by first | omega | (simp; done) | (simp; omega)) | refine keeps_new hok ?_ (by first | omega | (simp; done) | (simp; omega)))); done)
theorem RBlobOk (n s : List UInt8) (H : AH) (h1 : n.length ≤ 9223372036854775807) (h2 : s.length ≤ 9223372036854775807) : ACall Tryz.prog 27 [.agg [.str n, .str s]] H (fun v H' => v = .bool (blobOk n s) ∧ H' = H) := by
  refine acall_enter fits27 (by simp) (by simp) fun hok => ?_
  have hU := RUnhex s
  unfold blobOk
  simp (disch := first | omega | (simp; done) | assumption) [wr64, wrU8, wrU64, Nat.add_assoc, -getElem?_pos, List.getElem?_cons_zero, List.getElem?_cons_succ, ic27, rs27]
  refine CallW.of (hU _ (by omega)) ?_
  rintro v H2 ⟨⟨d, rfl⟩, rfl⟩
  cases hexOk s with
  | true =>
    simp (disch := first | omega | (simp; done) | assumption) [wr64, wrU8, wrU64, Nat.add_assoc, -getElem?_pos, List.getElem?_cons_zero, List.getElem?_cons_succ, ]
    refine CallW.val (RNameOk n _ h1) ?_
    simp (disch := first | omega | (simp; done) | assumption) [wr64, wrU8, wrU64, Nat.add_assoc, -getElem?_pos, List.getElem?_cons_zero, List.getElem?_cons_succ, ]
    ((repeat (first | exact AH.keepsAll_refl _ | refine keeps_set hok ?_ (by first | omega | (simp; done) | (simp; omega)) | refine keeps_new hok ?_ (by first | omega | (simp; done) | (simp; omega)))); done)
  | false =>
    simp (disch := first | omega | (simp; done) | assumption) [wr64, wrU8, wrU64, Nat.add_assoc, -getElem?_pos, List.getElem?_cons_zero, List.getElem?_cons_succ, ]
    ((repeat (first | exact AH.keepsAll_refl _ | refine keeps_set hok ?_ (by first | omega | (simp; done) | (simp; omega)) | refine keeps_new hok ?_ (by first | omega | (simp; done) | (simp; omega)))); done)
end Go.Proofs.YtkehijlgbfjmkaaGreatDoor.KW
