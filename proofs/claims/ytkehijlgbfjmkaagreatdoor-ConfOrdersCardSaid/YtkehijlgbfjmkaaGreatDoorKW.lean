/- What words of an entry may be: bytes, digests, names, options. No condition. -/
import Derived.Test.YtkehijlgbfjmkaaGreatDoorA24
import Derived.Test.YtkehijlgbfjmkaaGreatDoorIc
import Derived.Test.YtkehijlgbfjmkaaGreatDoorShelf
import Derived.Test.YtkehijlgbfjmkaaGreatDoorSt
import Derived.WalkKit
import Derived.KernelRfl
set_option linter.unusedVariables false
set_option linter.unusedSimpArgs false
set_option maxRecDepth 10000
set_option maxHeartbeats 4000000
namespace Go.Proofs.YtkehijlgbfjmkaaGreatDoor.KW
open Go Go.RowKit Go.Proofs.YtkehijlgbfjmkaaGreatDoor Go.Proofs.YtkehijlgbfjmkaaGreatDoor.Abs Go.Proofs.YtkehijlgbfjmkaaGreatDoor.Ic Go.Proofs.YtkehijlgbfjmkaaGreatDoor.St
def inB (lo hi : Int) (c : UInt8) : Bool := decide (lo ≤ (c.toNat : Int)) && decide ((c.toNat : Int) ≤ hi)
def verOk (s : List UInt8) : Bool := decide (1 ≤ s.length) && decide (s.length ≤ 40) && s.all (inB 33 126)
def hexC (c : UInt8) : Bool := inB 48 57 c || inB 97 102 c
def hexOk (s : List UInt8) : Bool := decide (s.length = 16) && s.all hexC
def namC (c : UInt8) : Bool := inB 97 122 c || inB 65 90 c || inB 48 57 c || [46, 43, 45, 95, 126].contains c
def nameOk (s : List UInt8) : Bool := decide (1 ≤ s.length) && decide (s.length ≤ 27) && !decide (s = [46]) && !decide (s = [46, 46]) && s.all namC
def optOk (s : List UInt8) : Bool := decide (s.length ≤ 200) && s.all (inB 32 126) && (decide (s = []) || (!decide (s.head? = some 32) && !decide (s.getLast? = some 32)))
theorem all_take {p : UInt8 → Bool} {s : List UInt8} {i : Nat} (hi : i < s.length) : (s.take (i + 1)).all p = ((s.take i).all p && p s[i]) := by
  rw [← List.take_append_getElem hi, List.all_append]
  simp
theorem all_false {p : UInt8 → Bool} {s : List UInt8} {i : Nat} (hi : i < s.length) (h : p s[i] = false) : s.all p = false := by
  rw [Bool.eq_false_iff]
  intro h2
  have := List.all_eq_true.1 h2 s[i] (List.getElem_mem hi)
  rw [h] at this; cases this
def WnI (s : List UInt8) (k : Int) (H : AH) (kk : Nat) (tm : Tms) (H' : AH) : Prop := H.keepsAll H' ∧ ∃ i : Nat, kk = s.length - i ∧ i ≤ s.length ∧ (s.take i).all (inB k 126) = true ∧ tm 0 = .str s ∧ tm 3 = .int .u8 k ∧ tm 21 = .int .i64 (s.length : Int) ∧ tm 22 = .int .i64 (i : Int)
theorem Within (s : List UInt8) (a b k : Int) (H : AH) (hs : s.length ≤ 9223372036854775806) : ACall Tryz.prog 36 [.str s, .int .i64 a, .int .i64 b, .int .u8 k] H (fun v H' => v = .bool (decide (a ≤ (s.length : Int)) && decide ((s.length : Int) ≤ b) && s.all (inB k 126)) ∧ H' = H) := by
  refine acall_enter fits36 (by simp) (by simp) fun hok => ?_
  by_cases h1 : (s.length : Int) < a
  · have e : decide (a ≤ (s.length : Int)) = false := decide_eq_false (by omega)
    rw [e]
    simp (disch := first | omega | (simp; done) | assumption) [wr64, wrU8, wrU64, Nat.add_assoc, -getElem?_pos, List.getElem?_cons_zero, List.getElem?_cons_succ, ic36, rs36, h1]
    ((repeat (first | exact AH.keepsAll_refl _ | refine keeps_set hok ?_ (by first | omega | (simp; done) | (simp; omega)) | refine keeps_new hok ?_ (by first | omega | (simp; done) | (simp; omega)))); done)
  have e1 : decide (a ≤ (s.length : Int)) = true := decide_eq_true (by omega)
  by_cases h2 : b < (s.length : Int)
  · have e : decide ((s.length : Int) ≤ b) = false := decide_eq_false (by omega)
    rw [e]
    simp (disch := first | omega | (simp; done) | assumption) [wr64, wrU8, wrU64, Nat.add_assoc, -getElem?_pos, List.getElem?_cons_zero, List.getElem?_cons_succ, ic36, rs36, h1, h2]
    ((repeat (first | exact AH.keepsAll_refl _ | refine keeps_set hok ?_ (by first | omega | (simp; done) | (simp; omega)) | refine keeps_new hok ?_ (by first | omega | (simp; done) | (simp; omega)))); done)
  have e2 : decide ((s.length : Int) ≤ b) = true := decide_eq_true (by omega)
  rw [e1, e2, Bool.true_and, Bool.true_and]
  simp (disch := first | omega | (simp; done) | assumption) [wr64, wrU8, wrU64, Nat.add_assoc, -getElem?_pos, List.getElem?_cons_zero, List.getElem?_cons_succ, ic36, rs36, h1, h2]
  refine iwp_loop (WnI s k H) s.length ⟨AH.keepsAll_refl _, 0, rfl, by omega, by simp, by simp, by simp, by simp, by simp⟩ ?_
  rintro kk tm H1 ⟨hk1, i, rfl, hi, hall, t0, t3, t21, t22⟩
  by_cases hlt : i < s.length
  · have hlt' : (i : Int) < (s.length : Int) := by omega
    have hx : s[i]? = some s[i] := List.getElem?_eq_getElem hlt
    have hat := all_take (p := inB k 126) hlt
    rw [hall, Bool.true_and] at hat
    have hf := all_false (p := inB k 126) hlt
    generalize s[i] = c at *
    by_cases c1 : (c.toNat : Int) < k
    · rw [hf (by unfold inB; rw [decide_eq_false (by omega)]; rfl)]
      simp (disch := first | omega | (simp; done) | assumption) [wr64, wrU8, wrU64, Nat.add_assoc, -getElem?_pos, List.getElem?_cons_zero, List.getElem?_cons_succ, t0, t3, t21, t22, hlt, hlt', hx, c1]
      exact hk1
    by_cases c2 : 126 < (c.toNat : Int)
    · have c2' : 126 < c.toNat := by omega
      rw [hf (by unfold inB; rw [decide_eq_false (p := (c.toNat : Int) ≤ 126) (by omega)]; simp)]
      simp (disch := first | omega | (simp; done) | assumption) [wr64, wrU8, wrU64, Nat.add_assoc, -getElem?_pos, List.getElem?_cons_zero, List.getElem?_cons_succ, t0, t3, t21, t22, hlt, hlt', hx, c1, c2, c2']
      exact hk1
    · have c2' : ¬ 126 < c.toNat := by omega
      have hin : inB k 126 c = true := by unfold inB; rw [decide_eq_true (by omega), decide_eq_true (by omega)]; rfl
      rw [hin] at hat
      simp (disch := first | omega | (simp; done) | assumption) [wr64, wrU8, wrU64, Nat.add_assoc, -getElem?_pos, List.getElem?_cons_zero, List.getElem?_cons_succ, t0, t3, t21, t22, hlt, hlt', hx, c1, c2, c2']
      exact ⟨s.length - (i + 1), by omega, hk1, i + 1, rfl, by omega, hat, by simp [t0], by simp [t3], by simp [t21], by simp⟩
  · have hlt' : ¬ (i : Int) < (s.length : Int) := by omega
    rw [List.take_of_length_le (by omega)] at hall
    rw [hall]
    simp (disch := first | omega | (simp; done) | assumption) [wr64, wrU8, wrU64, Nat.add_assoc, -getElem?_pos, List.getElem?_cons_zero, List.getElem?_cons_succ, t0, t3, t21, t22, hlt, hlt']
    exact hk1
def RwI (s : List UInt8) (k m : Int) (H : AH) (kk : Nat) (tm : Tms) (H' : AH) : Prop := H.keepsAll H' ∧ ∃ i : Nat, kk = s.length - i ∧ i ≤ s.length ∧ (s.take i).all (inB k m) = true ∧ tm 0 = .str s ∧ tm 1 = .int .u8 k ∧ tm 2 = .int .u8 m ∧ tm 7 = .int .i64 (i : Int)
theorem RWithin (s : List UInt8) (k m : Int) (H : AH) (hs : s.length ≤ 9223372036854775806) : ACall Tryz.prog 48 [.str s, .int .u8 k, .int .u8 m] H (fun v H' => v = .bool (s.all (inB k m)) ∧ H' = H) := by
  refine acall_enter fits48 (by simp) (by simp) fun hok => ?_
  simp (disch := first | omega | (simp; done) | assumption) [wr64, wrU8, wrU64, Nat.add_assoc, -getElem?_pos, List.getElem?_cons_zero, List.getElem?_cons_succ, ic48, rs48]
  refine iwp_loop (RwI s k m H) s.length ⟨AH.keepsAll_refl _, 0, rfl, by omega, by simp, by simp, by simp, by simp, by simp⟩ ?_
  rintro kk tm H1 ⟨hk1, i, rfl, hi, hall, t0, t1, t2, t7⟩
  by_cases hlt : i < s.length
  · have hlt' : (i : Int) < (s.length : Int) := by omega
    have hx : s[i]? = some s[i] := List.getElem?_eq_getElem hlt
    have hat := all_take (p := inB k m) hlt
    rw [hall, Bool.true_and] at hat
    have hf := all_false (p := inB k m) hlt
    generalize s[i] = c at *
    by_cases c1 : (c.toNat : Int) < k
    · rw [hf (by unfold inB; rw [decide_eq_false (by omega)]; rfl)]
      simp (disch := first | omega | (simp; done) | assumption) [wr64, wrU8, wrU64, Nat.add_assoc, -getElem?_pos, List.getElem?_cons_zero, List.getElem?_cons_succ, t0, t1, t2, t7, hlt, hlt', hx, c1]
      exact hk1
    by_cases c2 : m < (c.toNat : Int)
    · rw [hf (by unfold inB; rw [decide_eq_false (p := (c.toNat : Int) ≤ m) (by omega)]; simp)]
      simp (disch := first | omega | (simp; done) | assumption) [wr64, wrU8, wrU64, Nat.add_assoc, -getElem?_pos, List.getElem?_cons_zero, List.getElem?_cons_succ, t0, t1, t2, t7, hlt, hlt', hx, c1, c2]
      exact hk1
    · have hin : inB k m c = true := by unfold inB; rw [decide_eq_true (by omega), decide_eq_true (by omega)]; rfl
      rw [hin] at hat
      simp (disch := first | omega | (simp; done) | assumption) [wr64, wrU8, wrU64, Nat.add_assoc, -getElem?_pos, List.getElem?_cons_zero, List.getElem?_cons_succ, t0, t1, t2, t7, hlt, hlt', hx, c1, c2]
      exact ⟨s.length - (i + 1), by omega, hk1, i + 1, rfl, by omega, hat, by simp [t0], by simp [t1], by simp [t2], by simp⟩
  · have hlt' : ¬ (i : Int) < (s.length : Int) := by omega
    rw [List.take_of_length_le (by omega)] at hall
    rw [hall]
    simp (disch := first | omega | (simp; done) | assumption) [wr64, wrU8, wrU64, Nat.add_assoc, -getElem?_pos, List.getElem?_cons_zero, List.getElem?_cons_succ, t0, t1, t2, t7, hlt, hlt']
    exact hk1
theorem VerOk (s : List UInt8) (H : AH) (hs : s.length ≤ 9223372036854775806) : ACall Tryz.prog 26 [.str s] H (fun v H' => v = .bool (verOk s) ∧ H' = H) := by
  refine acall_enter fits26 (by simp) (by simp) fun hok => ?_
  unfold verOk
  by_cases h1 : 1 ≤ s.length
  · have h1' : (1 : Int) ≤ (s.length : Int) := by omega
    by_cases h2 : s.length ≤ 40
    · have h2' : (s.length : Int) ≤ 40 := by omega
      simp (disch := first | omega | (simp; done) | assumption) [wr64, wrU8, wrU64, Nat.add_assoc, -getElem?_pos, List.getElem?_cons_zero, List.getElem?_cons_succ, ic26, rs26, h1, h1', h2, h2']
      refine CallW.val (RWithin s 33 126 _ hs) ?_
      simp (disch := first | omega | (simp; done) | assumption) [wr64, wrU8, wrU64, Nat.add_assoc, -getElem?_pos, List.getElem?_cons_zero, List.getElem?_cons_succ, h1, h2]
      ((repeat (first | exact AH.keepsAll_refl _ | refine keeps_set hok ?_ (by first | omega | (simp; done) | (simp; omega)) | refine keeps_new hok ?_ (by first | omega | (simp; done) | (simp; omega)))); done)
    · have h2' : ¬ (s.length : Int) ≤ 40 := by omega
      simp (disch := first | omega | (simp; done) | assumption) [wr64, wrU8, wrU64, Nat.add_assoc, -getElem?_pos, List.getElem?_cons_zero, List.getElem?_cons_succ, ic26, rs26, h1, h1', h2, h2']
      ((repeat (first | exact AH.keepsAll_refl _ | refine keeps_set hok ?_ (by first | omega | (simp; done) | (simp; omega)) | refine keeps_new hok ?_ (by first | omega | (simp; done) | (simp; omega)))); done)
  · have h1' : ¬ (1 : Int) ≤ (s.length : Int) := by omega
    simp (disch := first | omega | (simp; done) | assumption) [wr64, wrU8, wrU64, Nat.add_assoc, -getElem?_pos, List.getElem?_cons_zero, List.getElem?_cons_succ, ic26, rs26, h1, h1']
    ((repeat (first | exact AH.keepsAll_refl _ | refine keeps_set hok ?_ (by first | omega | (simp; done) | (simp; omega)) | refine keeps_new hok ?_ (by first | omega | (simp; done) | (simp; omega)))); done)
end Go.Proofs.YtkehijlgbfjmkaaGreatDoor.KW
