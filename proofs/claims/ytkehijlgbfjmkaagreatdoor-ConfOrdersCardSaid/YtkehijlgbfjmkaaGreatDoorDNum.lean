/- The document's way to write a number. -/
import Derived.Test.YtkehijlgbfjmkaaGreatDoorA20
import Derived.Test.YtkehijlgbfjmkaaGreatDoorIc
import Derived.Lib.ItoaMem
import Derived.Lib.ItoaLen
set_option linter.unusedVariables false
set_option linter.unusedSimpArgs false
set_option maxRecDepth 10000
namespace Go.Proofs.YtkehijlgbfjmkaaGreatDoor.CNum
open Go Go.Proofs.YtkehijlgbfjmkaaGreatDoor Go.Proofs.YtkehijlgbfjmkaaGreatDoor.Abs Go.Proofs.YtkehijlgbfjmkaaGreatDoor.Ic
theorem dig_slice : ∀ k < 10, (([48, 49, 50, 51, 52, 53, 54, 55, 56, 57] : List UInt8).take (k + 1)).drop k = [UInt8.ofNat (48 + k)] := by decide
theorem dec_small {n : Nat} (h : n < 10) : Lib.decDigits n = [UInt8.ofNat (48 + n)] := by rw [Lib.decDigits, dif_pos h]
theorem dec_big {n : Nat} (h : ¬ n < 10) : Lib.decDigits n = Lib.decDigits (n / 10) ++ [UInt8.ofNat (48 + n % 10)] := by rw [Lib.decDigits, dif_neg h]
theorem dec_len (n : Nat) (h : n < 18446744073709551616) : (Lib.decDigits n).length ≤ 21 := by
  rw [Lib.decDigits_length]
  exact Nat.le_trans (Lib.nDigits_le20 n h) (by omega)
def DigI (m : Nat) (H : AH) (n : Nat) (tm : Tms) (H' : AH) : Prop := H' = H ∧ n ≤ m ∧ ∃ s, tm 0 = .int .u64 n ∧ tm 3 = .str s ∧ Lib.decDigits m = Lib.decDigits n ++ s
theorem Digits (m : Nat) (hm : m < 18446744073709551616) (H : AH) : ACall Tryz.prog 45 [.int .u64 m] H (fun v H' => v = .str (Lib.decDigits m) ∧ H' = H) := by
  refine acall_enter fits45 (by simp) (by simp) fun hok => ?_
  simp [ic45, rs45]
  refine iwp_loop (DigI m H) m ⟨by simp, Nat.le_refl _, [], by simp, by simp, by simp⟩ ?_
  rintro n tm _ ⟨rfl, hle, s, h0, h3, hs⟩
  have e1 : (n : Int).tmod 10 = ((n % 10 : Nat) : Int) := rfl
  have e2 : (n : Int).tdiv 10 = ((n / 10 : Nat) : Int) := rfl
  have hl := dec_len m hm
  rw [hs, List.length_append] at hl
  have hd := dig_slice (n % 10) (by omega)
  simp (disch := first | omega | (simp; done) | assumption) [wr64, wrU8, wrU64, Nat.add_assoc, -getElem?_pos, List.getElem?_cons_zero, List.getElem?_cons_succ, *]
  refine Fork3.dec (fun hh => ?_) (fun hh => ?_)
  · simp (disch := first | omega | (simp; done) | assumption) [wr64, wrU8, wrU64, Nat.add_assoc, -getElem?_pos, List.getElem?_cons_zero, List.getElem?_cons_succ, *]
    repeat' (first | (refine Fork3.ndec (fun hh => ?_) (fun hh => ?_) <;> (first | (exfalso; omega) | simp (disch := first | omega | (simp; done) | assumption) [*, wr64, wrU8, wrU64, Nat.add_assoc, -getElem?_pos, List.getElem?_cons_zero, List.getElem?_cons_succ])) | (refine Fork3.dec (fun hh => ?_) (fun hh => ?_) <;> (first | (exfalso; omega) | simp (disch := first | omega | (simp; done) | assumption) [*, wr64, wrU8, wrU64, Nat.add_assoc, -getElem?_pos, List.getElem?_cons_zero, List.getElem?_cons_succ])) | (refine Fork3.intro (fun hh => ?_) (fun hh => ?_) <;> (try simp at hh) <;> (first | (exfalso; omega) | simp (disch := first | omega | (simp; done) | assumption) [*, wr64, wrU8, wrU64, Nat.add_assoc, -getElem?_pos, List.getElem?_cons_zero, List.getElem?_cons_succ])) | (refine Fork3.ite (fun hh => ?_) (fun hh => ?_) <;> (first | (exfalso; omega) | simp (disch := first | omega | (simp; done) | assumption) [*, wr64, wrU8, wrU64, Nat.add_assoc, -getElem?_pos, List.getElem?_cons_zero, List.getElem?_cons_succ])) | (refine Try.guard (by first | assumption | omega | (simp; omega) | (simp [*]; omega)) ?_; simp (disch := first | omega | (simp; done) | assumption) [*, wr64, wrU8, wrU64, Nat.add_assoc, -getElem?_pos, List.getElem?_cons_zero, List.getElem?_cons_succ]) | (refine Try.guardn (by first | assumption | omega | (simp; omega) | (simp [*]; omega)) ?_; simp (disch := first | omega | (simp; done) | assumption) [*, wr64, wrU8, wrU64, Nat.add_assoc, -getElem?_pos, List.getElem?_cons_zero, List.getElem?_cons_succ]))
    have t1 : ((n : Int) % 10).toNat = n % 10 := by omega
    have t2 : ((n : Int) % 10 + 1).toNat = n % 10 + 1 := by omega
    refine ⟨n / 10, by omega, rfl, by omega, _, by simp, by simp; rfl, ?_⟩
    rw [hs, dec_big (by omega), t1, t2, hd]
    simp
  · have hd := dig_slice n (by omega)
    simp (disch := first | omega | (simp; done) | assumption) [wr64, wrU8, wrU64, Nat.add_assoc, -getElem?_pos, List.getElem?_cons_zero, List.getElem?_cons_succ, *]
    repeat' (first | (refine Fork3.ndec (fun hh => ?_) (fun hh => ?_) <;> (first | (exfalso; omega) | simp (disch := first | omega | (simp; done) | assumption) [*, wr64, wrU8, wrU64, Nat.add_assoc, -getElem?_pos, List.getElem?_cons_zero, List.getElem?_cons_succ])) | (refine Fork3.dec (fun hh => ?_) (fun hh => ?_) <;> (first | (exfalso; omega) | simp (disch := first | omega | (simp; done) | assumption) [*, wr64, wrU8, wrU64, Nat.add_assoc, -getElem?_pos, List.getElem?_cons_zero, List.getElem?_cons_succ])) | (refine Fork3.intro (fun hh => ?_) (fun hh => ?_) <;> (try simp at hh) <;> (first | (exfalso; omega) | simp (disch := first | omega | (simp; done) | assumption) [*, wr64, wrU8, wrU64, Nat.add_assoc, -getElem?_pos, List.getElem?_cons_zero, List.getElem?_cons_succ])) | (refine Fork3.ite (fun hh => ?_) (fun hh => ?_) <;> (first | (exfalso; omega) | simp (disch := first | omega | (simp; done) | assumption) [*, wr64, wrU8, wrU64, Nat.add_assoc, -getElem?_pos, List.getElem?_cons_zero, List.getElem?_cons_succ])) | (refine Try.guard (by first | assumption | omega | (simp; omega) | (simp [*]; omega)) ?_; simp (disch := first | omega | (simp; done) | assumption) [*, wr64, wrU8, wrU64, Nat.add_assoc, -getElem?_pos, List.getElem?_cons_zero, List.getElem?_cons_succ]) | (refine Try.guardn (by first | assumption | omega | (simp; omega) | (simp [*]; omega)) ?_; simp (disch := first | omega | (simp; done) | assumption) [*, wr64, wrU8, wrU64, Nat.add_assoc, -getElem?_pos, List.getElem?_cons_zero, List.getElem?_cons_succ]))
    refine ⟨?_, by repeat (first | exact AH.keepsAll_refl _ | refine keeps_set hok ?_ (by first | omega | (simp; done) | (simp; omega)) | refine keeps_new hok ?_ (by first | omega | (simp; done) | (simp; omega)))⟩
    rw [dec_small (n := n) (by omega), ← hd]
    simp
theorem Num (n : Int) (h0 : -9223372036854775808 ≤ n) (h1 : n ≤ 9223372036854775807) (H : AH) : ACall Tryz.prog 21 [.int .i64 n] H (fun v H' => v = .str (Lib.itoa n) ∧ H' = H) := by
  refine acall_enter fits21 (by simp) (by simp) fun hok => ?_
  by_cases hn : n < 0
  · obtain ⟨m, rfl⟩ : ∃ m : Nat, n = -((m : Int)) := ⟨n.natAbs, by omega⟩
    have hpos : 0 < m := by omega
    have hl := dec_len m (by omega)
    have hi := Lib.itoa_neg m (by omega)
    have hw : -(-(m : Int) + 1) + 1 = (m : Int) := by omega
    simp (disch := first | omega | (simp; done) | assumption) [wr64, wrU8, wrU64, Nat.add_assoc, -getElem?_pos, List.getElem?_cons_zero, List.getElem?_cons_succ, ic21, rs21]
    repeat' (first | (refine Fork3.ndec (fun hh => ?_) (fun hh => ?_) <;> (first | (exfalso; omega) | simp (disch := first | omega | (simp; done) | assumption) [*, wr64, wrU8, wrU64, Nat.add_assoc, -getElem?_pos, List.getElem?_cons_zero, List.getElem?_cons_succ])) | (refine Fork3.dec (fun hh => ?_) (fun hh => ?_) <;> (first | (exfalso; omega) | simp (disch := first | omega | (simp; done) | assumption) [*, wr64, wrU8, wrU64, Nat.add_assoc, -getElem?_pos, List.getElem?_cons_zero, List.getElem?_cons_succ])) | (refine Fork3.intro (fun hh => ?_) (fun hh => ?_) <;> (try simp at hh) <;> (first | (exfalso; omega) | simp (disch := first | omega | (simp; done) | assumption) [*, wr64, wrU8, wrU64, Nat.add_assoc, -getElem?_pos, List.getElem?_cons_zero, List.getElem?_cons_succ])) | (refine Fork3.ite (fun hh => ?_) (fun hh => ?_) <;> (first | (exfalso; omega) | simp (disch := first | omega | (simp; done) | assumption) [*, wr64, wrU8, wrU64, Nat.add_assoc, -getElem?_pos, List.getElem?_cons_zero, List.getElem?_cons_succ])) | (refine Try.guard (by first | assumption | omega | (simp; omega) | (simp [*]; omega)) ?_; simp (disch := first | omega | (simp; done) | assumption) [*, wr64, wrU8, wrU64, Nat.add_assoc, -getElem?_pos, List.getElem?_cons_zero, List.getElem?_cons_succ]) | (refine Try.guardn (by first | assumption | omega | (simp; omega) | (simp [*]; omega)) ?_; simp (disch := first | omega | (simp; done) | assumption) [*, wr64, wrU8, wrU64, Nat.add_assoc, -getElem?_pos, List.getElem?_cons_zero, List.getElem?_cons_succ]) | (refine CallW.val (Digits m (by omega) _) ?_; simp (disch := first | omega | (simp; done) | assumption) [*, wr64, wrU8, wrU64, Nat.add_assoc, -getElem?_pos, List.getElem?_cons_zero, List.getElem?_cons_succ]))
    all_goals ((repeat (first | exact AH.keepsAll_refl _ | refine keeps_set hok ?_ (by first | omega | (simp; done) | (simp; omega)) | refine keeps_new hok ?_ (by first | omega | (simp; done) | (simp; omega)))); done)
  · obtain ⟨m, rfl⟩ : ∃ m : Nat, n = (m : Int) := ⟨n.toNat, by omega⟩
    have hi := Lib.itoa_nonneg m
    simp (disch := first | omega | (simp; done) | assumption) [wr64, wrU8, wrU64, Nat.add_assoc, -getElem?_pos, List.getElem?_cons_zero, List.getElem?_cons_succ, ic21, rs21]
    repeat' (first | (refine Fork3.ndec (fun hh => ?_) (fun hh => ?_) <;> (first | (exfalso; omega) | simp (disch := first | omega | (simp; done) | assumption) [*, wr64, wrU8, wrU64, Nat.add_assoc, -getElem?_pos, List.getElem?_cons_zero, List.getElem?_cons_succ])) | (refine Fork3.dec (fun hh => ?_) (fun hh => ?_) <;> (first | (exfalso; omega) | simp (disch := first | omega | (simp; done) | assumption) [*, wr64, wrU8, wrU64, Nat.add_assoc, -getElem?_pos, List.getElem?_cons_zero, List.getElem?_cons_succ])) | (refine Fork3.intro (fun hh => ?_) (fun hh => ?_) <;> (try simp at hh) <;> (first | (exfalso; omega) | simp (disch := first | omega | (simp; done) | assumption) [*, wr64, wrU8, wrU64, Nat.add_assoc, -getElem?_pos, List.getElem?_cons_zero, List.getElem?_cons_succ])) | (refine Fork3.ite (fun hh => ?_) (fun hh => ?_) <;> (first | (exfalso; omega) | simp (disch := first | omega | (simp; done) | assumption) [*, wr64, wrU8, wrU64, Nat.add_assoc, -getElem?_pos, List.getElem?_cons_zero, List.getElem?_cons_succ])) | (refine Try.guard (by first | assumption | omega | (simp; omega) | (simp [*]; omega)) ?_; simp (disch := first | omega | (simp; done) | assumption) [*, wr64, wrU8, wrU64, Nat.add_assoc, -getElem?_pos, List.getElem?_cons_zero, List.getElem?_cons_succ]) | (refine Try.guardn (by first | assumption | omega | (simp; omega) | (simp [*]; omega)) ?_; simp (disch := first | omega | (simp; done) | assumption) [*, wr64, wrU8, wrU64, Nat.add_assoc, -getElem?_pos, List.getElem?_cons_zero, List.getElem?_cons_succ]) | (refine CallW.val (Digits m (by omega) _) ?_; simp (disch := first | omega | (simp; done) | assumption) [*, wr64, wrU8, wrU64, Nat.add_assoc, -getElem?_pos, List.getElem?_cons_zero, List.getElem?_cons_succ]))
    all_goals ((repeat (first | exact AH.keepsAll_refl _ | refine keeps_set hok ?_ (by first | omega | (simp; done) | (simp; omega)) | refine keeps_new hok ?_ (by first | omega | (simp; done) | (simp; omega)))); done)
end Go.Proofs.YtkehijlgbfjmkaaGreatDoor.CNum
