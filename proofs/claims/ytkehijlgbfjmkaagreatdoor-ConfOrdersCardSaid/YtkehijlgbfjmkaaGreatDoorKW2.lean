/- Digests, names, blobs, options: what the functions answer. No condition. -/
import Derived.Test.YtkehijlgbfjmkaaGreatDoorKW
set_option linter.unusedVariables false
set_option linter.unusedSimpArgs false
set_option maxRecDepth 10000
set_option maxHeartbeats 4000000
namespace Go.Proofs.YtkehijlgbfjmkaaGreatDoor.KW
open Go Go.RowKit Go.Proofs.YtkehijlgbfjmkaaGreatDoor Go.Proofs.YtkehijlgbfjmkaaGreatDoor.Abs Go.Proofs.YtkehijlgbfjmkaaGreatDoor.Ic Go.Proofs.YtkehijlgbfjmkaaGreatDoor.St
def U64B (b : Bool) (v : AV) : Prop := ∃ d : Int, v = .tuple [.int .u64 d, .bool b]
theorem u64b_plain {b : Bool} : ∀ v, U64B b v → Plain v := by
  rintro v ⟨d, rfl⟩
  refine .tuple fun a ha => ?_
  rcases List.mem_cons.1 ha with rfl | ha
  · exact .int _ _
  · obtain rfl := List.mem_singleton.1 ha
    exact .bool _
theorem inB_iff (lo hi : Int) (c : UInt8) : inB lo hi c = decide (lo ≤ (c.toNat : Int) ∧ (c.toNat : Int) ≤ hi) := by
  unfold inB
  rw [Bool.decide_and]
theorem Digit (c : UInt8) (H : AH) : ACall Tryz.prog 83 [.int .u8 (c.toNat : Int)] H (fun v H' => U64B (hexC c) v ∧ H' = H) := by
  refine acall_plain (Q := U64B (hexC c)) u64b_plain (acall_ok (bodyP_of fits83) fun hok => acall_of fits83 (by simp) ?_)
  have si2 : ((97 : Int) ≤ (c.toNat : Int)) = (97 ≤ c.toNat) := propext (by omega)
  have si3 : ((c.toNat : Int) ≤ 102) = (c.toNat ≤ 102) := propext (by omega)
  have si4 : ((48 : Int) ≤ (c.toNat : Int)) = (48 ≤ c.toNat) := propext (by omega)
  have si5 : ((c.toNat : Int) ≤ 57) = (c.toNat ≤ 57) := propext (by omega)
  unfold hexC
  rw [inB_iff, inB_iff]
  by_cases p1 : 97 ≤ c.toNat
  · by_cases p2 : c.toNat ≤ 102
    · rw [decide_eq_true (p := 97 ≤ (c.toNat : Int) ∧ (c.toNat : Int) ≤ 102) (by omega), Bool.or_true]
      simp (disch := first | omega | (simp; done) | assumption) [wr64, wrU8, wrU64, Nat.add_assoc, -getElem?_pos, List.getElem?_cons_zero, List.getElem?_cons_succ, ic83, rs83, si2, si3, si4, si5, p1, p2]
      exact ⟨⟨_, rfl⟩, AH.keepsAll_refl _⟩
    · rw [decide_eq_false (p := 97 ≤ (c.toNat : Int) ∧ (c.toNat : Int) ≤ 102) (by omega), decide_eq_false (p := 48 ≤ (c.toNat : Int) ∧ (c.toNat : Int) ≤ 57) (by omega)]
      have p3 : 48 ≤ c.toNat := by omega
      have p4 : ¬ c.toNat ≤ 57 := by omega
      simp (disch := first | omega | (simp; done) | assumption) [wr64, wrU8, wrU64, Nat.add_assoc, -getElem?_pos, List.getElem?_cons_zero, List.getElem?_cons_succ, ic83, rs83, si2, si3, si4, si5, p1, p2, p3, p4]
      exact ⟨⟨_, rfl⟩, AH.keepsAll_refl _⟩
  · rw [decide_eq_false (p := 97 ≤ (c.toNat : Int) ∧ (c.toNat : Int) ≤ 102) (by omega), Bool.or_false]
    by_cases p3 : 48 ≤ c.toNat
    · by_cases p4 : c.toNat ≤ 57
      · rw [decide_eq_true (by omega)]
        simp (disch := first | omega | (simp; done) | assumption) [wr64, wrU8, wrU64, Nat.add_assoc, -getElem?_pos, List.getElem?_cons_zero, List.getElem?_cons_succ, ic83, rs83, si2, si3, si4, si5, p1, p3, p4]
        exact ⟨⟨_, rfl⟩, AH.keepsAll_refl _⟩
      · rw [decide_eq_false (by omega)]
        simp (disch := first | omega | (simp; done) | assumption) [wr64, wrU8, wrU64, Nat.add_assoc, -getElem?_pos, List.getElem?_cons_zero, List.getElem?_cons_succ, ic83, rs83, si2, si3, si4, si5, p1, p3, p4]
        exact ⟨⟨_, rfl⟩, AH.keepsAll_refl _⟩
    · rw [decide_eq_false (by omega)]
      simp (disch := first | omega | (simp; done) | assumption) [wr64, wrU8, wrU64, Nat.add_assoc, -getElem?_pos, List.getElem?_cons_zero, List.getElem?_cons_succ, ic83, rs83, si2, si3, si4, si5, p1, p3]
      exact ⟨⟨_, rfl⟩, AH.keepsAll_refl _⟩
def UhI (s : List UInt8) (H : AH) (kk : Nat) (tm : Tms) (H' : AH) : Prop := H.keepsAll H' ∧ ∃ i : Nat, kk = 16 - i ∧ i ≤ 16 ∧ (s.take i).all hexC = true ∧ tm 0 = .str s ∧ (∃ x, tm 4 = .int .u64 x) ∧ tm 11 = .int .i64 (i : Int)
theorem Unhex (s : List UInt8) (H : AH) (hs : s.length ≤ 9223372036854775807) : ACall Tryz.prog 58 [.str s] H (fun v H' => U64B (hexOk s) v ∧ H' = H) := by
  refine acall_plain (Q := U64B (hexOk s)) u64b_plain (acall_ok (bodyP_of fits58) fun hok => acall_of fits58 (by simp) ?_)
  unfold hexOk
  by_cases h16 : s.length = 16
  · have h16' : (s.length : Int) = 16 := by omega
    rw [decide_eq_true h16, Bool.true_and]
    simp (disch := first | omega | (simp; done) | assumption) [wr64, wrU8, wrU64, Nat.add_assoc, -getElem?_pos, List.getElem?_cons_zero, List.getElem?_cons_succ, ic58, rs58, h16']
    refine iwp_loop (UhI s H) 16 ⟨AH.keepsAll_refl _, 0, rfl, by omega, by simp, by simp, ⟨0, by simp⟩, by simp⟩ ?_
    rintro kk tm H1 ⟨hk1, i, rfl, hi, hall, t0, ⟨x, t4⟩, t11⟩
    by_cases hlt : i < 16
    · have hlt' : (i : Int) < 16 := by omega
      have hls : i < s.length := by omega
      have hx : s[i]? = some s[i] := List.getElem?_eq_getElem hls
      have hat := all_take (p := hexC) hls
      rw [hall, Bool.true_and] at hat
      have hf := all_false (p := hexC) hls
      generalize s[i] = c at *
      have hD := Digit c
      simp (disch := first | omega | (simp; done) | assumption) [wr64, wrU8, wrU64, Nat.add_assoc, -getElem?_pos, List.getElem?_cons_zero, List.getElem?_cons_succ, t0, t4, t11, hlt, hlt', hx]
      refine CallW.of (hD _) ?_
      rintro v H2 ⟨⟨d, rfl⟩, rfl⟩
      cases hc : hexC c with
      | true =>
        rw [hc] at hat
        simp (disch := first | omega | (simp; done) | assumption) [wr64, wrU8, wrU64, Nat.add_assoc, -getElem?_pos, List.getElem?_cons_zero, List.getElem?_cons_succ, t0, t4, t11, hlt, hlt']
        exact ⟨16 - (i + 1), by omega, hk1, i + 1, rfl, by omega, hat, by simp [t0], ⟨_, rfl⟩, by simp⟩
      | false =>
        rw [hf hc]
        simp (disch := first | omega | (simp; done) | assumption) [wr64, wrU8, wrU64, Nat.add_assoc, -getElem?_pos, List.getElem?_cons_zero, List.getElem?_cons_succ, t0, t4, t11, hlt, hlt']
        exact ⟨⟨_, rfl⟩, hk1⟩
    · have hlt' : ¬ (i : Int) < 16 := by omega
      obtain rfl : i = 16 := by omega
      rw [List.take_of_length_le (by omega)] at hall
      rw [hall]
      simp (disch := first | omega | (simp; done) | assumption) [wr64, wrU8, wrU64, Nat.add_assoc, -getElem?_pos, List.getElem?_cons_zero, List.getElem?_cons_succ, t0, t4, t11]
      exact ⟨⟨_, rfl⟩, hk1⟩
  · have h16' : ¬ (s.length : Int) = 16 := by omega
    rw [decide_eq_false h16, Bool.false_and]
    simp (disch := first | omega | (simp; done) | assumption) [wr64, wrU8, wrU64, Nat.add_assoc, -getElem?_pos, List.getElem?_cons_zero, List.getElem?_cons_succ, ic58, rs58, h16']
    exact ⟨⟨_, rfl⟩, AH.keepsAll_refl _⟩
def RuI (s : List UInt8) (H : AH) (kk : Nat) (tm : Tms) (H' : AH) : Prop := H.keepsAll H' ∧ ∃ i : Nat, kk = 16 - i ∧ i ≤ 16 ∧ (s.take i).all hexC = true ∧ tm 0 = .str s ∧ (∃ x, tm 4 = .int .u64 x) ∧ tm 5 = .int .i64 (i : Int)
theorem RUnhex (s : List UInt8) (H : AH) (hs : s.length ≤ 9223372036854775807) : ACall Tryz.prog 49 [.str s] H (fun v H' => U64B (hexOk s) v ∧ H' = H) := by
  refine acall_plain (Q := U64B (hexOk s)) u64b_plain (acall_ok (bodyP_of fits49) fun hok => acall_of fits49 (by simp) ?_)
  unfold hexOk
  by_cases h16 : s.length = 16
  · have h16' : (s.length : Int) = 16 := by omega
    rw [decide_eq_true h16, Bool.true_and]
    simp (disch := first | omega | (simp; done) | assumption) [wr64, wrU8, wrU64, Nat.add_assoc, -getElem?_pos, List.getElem?_cons_zero, List.getElem?_cons_succ, ic49, rs49, h16']
    refine iwp_loop (RuI s H) 16 ⟨AH.keepsAll_refl _, 0, rfl, by omega, by simp, by simp, ⟨0, by simp⟩, by simp⟩ ?_
    rintro kk tm H1 ⟨hk1, i, rfl, hi, hall, t0, ⟨x, t4⟩, t5⟩
    by_cases hlt : i < 16
    · have hlt' : (i : Int) < 16 := by omega
      have hls : i < s.length := by omega
      have hx : s[i]? = some s[i] := List.getElem?_eq_getElem hls
      have hat := all_take (p := hexC) hls
      rw [hall, Bool.true_and] at hat
      have hf := all_false (p := hexC) hls
      generalize s[i] = c at *
      have si2 : ((97 : Int) ≤ (c.toNat : Int)) = (97 ≤ c.toNat) := propext (by omega)
      have si3 : ((c.toNat : Int) ≤ 102) = (c.toNat ≤ 102) := propext (by omega)
      have si4 : ((48 : Int) ≤ (c.toNat : Int)) = (48 ≤ c.toNat) := propext (by omega)
      have si5 : ((c.toNat : Int) ≤ 57) = (c.toNat ≤ 57) := propext (by omega)
      have hcc : hexC c = (decide (48 ≤ (c.toNat : Int) ∧ (c.toNat : Int) ≤ 57) || decide (97 ≤ (c.toNat : Int) ∧ (c.toNat : Int) ≤ 102)) := by unfold hexC; rw [inB_iff, inB_iff]
      by_cases p3 : 48 ≤ c.toNat
      · by_cases p4 : c.toNat ≤ 57
        · rw [decide_eq_true (p := 48 ≤ (c.toNat : Int) ∧ (c.toNat : Int) ≤ 57) (by omega), Bool.true_or] at hcc
          rw [hcc] at hat
          simp (disch := first | omega | (simp; done) | assumption) [wr64, wrU8, wrU64, Nat.add_assoc, -getElem?_pos, List.getElem?_cons_zero, List.getElem?_cons_succ, t0, t4, t5, hlt, hlt', hx, si2, si3, si4, si5, p3, p4]
          exact ⟨16 - (i + 1), by omega, hk1, i + 1, rfl, by omega, hat, by simp [t0], ⟨_, rfl⟩, by simp⟩
        · rw [decide_eq_false (p := 48 ≤ (c.toNat : Int) ∧ (c.toNat : Int) ≤ 57) (by omega), Bool.false_or] at hcc
          by_cases p1 : 97 ≤ c.toNat
          · by_cases p2 : c.toNat ≤ 102
            · rw [decide_eq_true (by omega)] at hcc
              rw [hcc] at hat
              simp (disch := first | omega | (simp; done) | assumption) [wr64, wrU8, wrU64, Nat.add_assoc, -getElem?_pos, List.getElem?_cons_zero, List.getElem?_cons_succ, t0, t4, t5, hlt, hlt', hx, si2, si3, si4, si5, p1, p2, p3, p4]
              exact ⟨16 - (i + 1), by omega, hk1, i + 1, rfl, by omega, hat, by simp [t0], ⟨_, rfl⟩, by simp⟩
            · rw [decide_eq_false (by omega)] at hcc
              rw [hf hcc]
              simp (disch := first | omega | (simp; done) | assumption) [wr64, wrU8, wrU64, Nat.add_assoc, -getElem?_pos, List.getElem?_cons_zero, List.getElem?_cons_succ, t0, t4, t5, hlt, hlt', hx, si2, si3, si4, si5, p1, p2, p3, p4]
              exact ⟨⟨_, rfl⟩, hk1⟩
          · rw [decide_eq_false (by omega)] at hcc
            rw [hf hcc]
            simp (disch := first | omega | (simp; done) | assumption) [wr64, wrU8, wrU64, Nat.add_assoc, -getElem?_pos, List.getElem?_cons_zero, List.getElem?_cons_succ, t0, t4, t5, hlt, hlt', hx, si2, si3, si4, si5, p1, p3, p4]
            exact ⟨⟨_, rfl⟩, hk1⟩
      · have p1 : ¬ 97 ≤ c.toNat := by omega
        rw [decide_eq_false (p := 48 ≤ (c.toNat : Int) ∧ (c.toNat : Int) ≤ 57) (by omega), decide_eq_false (by omega)] at hcc
        rw [hf hcc]
        simp (disch := first | omega | (simp; done) | assumption) [wr64, wrU8, wrU64, Nat.add_assoc, -getElem?_pos, List.getElem?_cons_zero, List.getElem?_cons_succ, t0, t4, t5, hlt, hlt', hx, si2, si3, si4, si5, p1, p3]
        exact ⟨⟨_, rfl⟩, hk1⟩
    · have hlt' : ¬ (i : Int) < 16 := by omega
      obtain rfl : i = 16 := by omega
      rw [List.take_of_length_le (by omega)] at hall
      rw [hall]
      simp (disch := first | omega | (simp; done) | assumption) [wr64, wrU8, wrU64, Nat.add_assoc, -getElem?_pos, List.getElem?_cons_zero, List.getElem?_cons_succ, t0, t4, t5]
      exact ⟨⟨_, rfl⟩, hk1⟩
  · have h16' : ¬ (s.length : Int) = 16 := by omega
    rw [decide_eq_false h16, Bool.false_and]
    simp (disch := first | omega | (simp; done) | assumption) [wr64, wrU8, wrU64, Nat.add_assoc, -getElem?_pos, List.getElem?_cons_zero, List.getElem?_cons_succ, ic49, rs49, h16']
    exact ⟨⟨_, rfl⟩, AH.keepsAll_refl _⟩
end Go.Proofs.YtkehijlgbfjmkaaGreatDoor.KW
