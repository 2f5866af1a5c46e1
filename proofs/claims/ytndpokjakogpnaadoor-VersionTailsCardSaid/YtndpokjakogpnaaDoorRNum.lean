/- What the reference's Num answers: the digits; and masks of an int. -/
import Derived.Test.YtndpokjakogpnaaDoorDigits
import Derived.Lib.Strings
import Derived.Lib.SmallJoins
import Derived.Laws.BitsLemmas
import Derived.Test.YtndpokjakogpnaaDoorVx2
set_option linter.unusedVariables false
set_option linter.unusedSimpArgs false
namespace Go.Proofs.YtndpokjakogpnaaDoor.RNum
open Go.RowKit (wrap64)
open Go Go.Proofs.YtndpokjakogpnaaDoorW.PrintWords Go.Proofs.YtndpokjakogpnaaDoorW.PrintLast Go.Proofs.YtndpokjakogpnaaDoor.V Go.Proofs.YtndpokjakogpnaaDoor.Dg

theorem mask_i64 (k : Nat) (hk : k ≤ 60) (n : Int) : bits .and .i64 n ((2 ^ k - 1 : Nat) : Int) = n % ((2 ^ k : Nat) : Int) := by
  have hp : 2 ^ k ≤ 2 ^ 60 := Nat.pow_le_pow_right (by omega) hk
  have hpos : 0 < 2 ^ k := Nat.pow_pos (by omega)
  have hc : (BitVec.ofInt 64 ((2 ^ k - 1 : Nat) : Int)).toNat = 2 ^ k - 1 := by
    rw [BitVec.ofInt_natCast, BitVec.toNat_ofNat]
    exact Nat.mod_eq_of_lt (by omega)
  have key : (BitVec.ofInt 64 n &&& BitVec.ofInt 64 ((2 ^ k - 1 : Nat) : Int)).toNat = (n % ((2 ^ 64 : Nat) : Int)).toNat % 2 ^ k := by
    rw [BitVec.toNat_and, BitVec.toNat_ofInt, hc, Nat.and_two_pow_sub_one_eq_mod]
  show IntKind.i64.wrap ((BitVec.ofInt 64 n &&& BitVec.ofInt 64 ((2 ^ k - 1 : Nat) : Int)).toNat : Nat) = n % ((2 ^ k : Nat) : Int)
  rw [key, IntKind.wrap_i64]
  have hlt : (n % ((2 ^ 64 : Nat) : Int)).toNat % 2 ^ k < 2 ^ k := Nat.mod_lt _ hpos
  have hd : ((2 ^ k : Nat) : Int) ∣ ((2 ^ 64 : Nat) : Int) := Int.natCast_dvd_natCast.2 (Nat.pow_dvd_pow 2 (by omega))
  have e : (((n % ((2 ^ 64 : Nat) : Int)).toNat % 2 ^ k : Nat) : Int) = n % ((2 ^ k : Nat) : Int) := by
    rw [Int.natCast_emod, Int.toNat_of_nonneg (Int.emod_nonneg _ (by omega)), Int.emod_emod_of_dvd _ hd]
  rw [e]
  have h1 : 0 ≤ n % ((2 ^ k : Nat) : Int) := Int.emod_nonneg _ (by omega)
  have h2 : n % ((2 ^ k : Nat) : Int) < ((2 ^ k : Nat) : Int) := Int.emod_lt_of_pos _ (by omega)
  omega
/-- A masked int is a small number. -/
theorem mask_small (k : Nat) (hk : k ≤ 60) (n : Int) : ∃ m : Nat, bits .and .i64 n ((2 ^ k - 1 : Nat) : Int) = (m : Int) ∧ m < 2 ^ k := by
  have hpos : 0 < 2 ^ k := Nat.pow_pos (by omega)
  have h1 : 0 ≤ n % ((2 ^ k : Nat) : Int) := Int.emod_nonneg _ (by omega)
  have h2 : n % ((2 ^ k : Nat) : Int) < ((2 ^ k : Nat) : Int) := Int.emod_lt_of_pos _ (by omega)
  exact ⟨(n % ((2 ^ k : Nat) : Int)).toNat, by rw [mask_i64 k hk]; omega, by omega⟩

theorem nw {n : Nat} (h : n ≤ 1000000000000000) : wrap64 (n : Int) = (n : Int) := by unfold wrap64; omega
theorem nw1 {n : Nat} (h : n ≤ 1000000000000000) : wrap64 ((n : Int) + 1) = ((n + 1 : Nat) : Int) := by unfold wrap64; omega
theorem of_data {s : ByteArray} {l : List UInt8} (h : s.data.toList = l) : s = ⟨l.toArray⟩ := by subst h; cases s; rfl
theorem ten_at (d : Nat) (h : d < 10) : (⟨#[48, 49, 50, 51, 52, 53, 54, 55, 56, 57]⟩ : ByteArray).extract d (d + 1) = ⟨[UInt8.ofNat (48 + d)].toArray⟩ := by
  have e := Lib.extract_data (⟨#[48, 49, 50, 51, 52, 53, 54, 55, 56, 57]⟩ : ByteArray) d (d + 1)
  have h2 : ∀ d < 10, (([48, 49, 50, 51, 52, 53, 54, 55, 56, 57] : List UInt8).drop d).take (d + 1 - d) = [UInt8.ofNat (48 + d)] := by decide
  have h3 : ((⟨#[48, 49, 50, 51, 52, 53, 54, 55, 56, 57]⟩ : ByteArray).extract d (d + 1)).data.toList = [UInt8.ofNat (48 + d)] := e.trans (h2 d h)
  exact of_data h3
theorem app_mk (l : List UInt8) (s : ByteArray) : (⟨l.toArray⟩ : ByteArray) ++ s = ⟨(l ++ s.data.toList).toArray⟩ := by
  exact of_data (by rw [Joins.data_append])
theorem digits_ev (n : Nat) : ∀ (x : List UInt8), n ≤ 100000000000000 → x.length + n ≤ 1000000000000000 →
    Ev (fun k => credenzaref2_digits.l0 k (n : Int) ⟨x.toArray⟩) ⟨(num n ++ x).toArray⟩ := by
  induction n using Nat.strongRecOn with
  | _ n ih =>
    intro x hn hx
    have hsz : (⟨x.toArray⟩ : ByteArray).size = x.length := by simp [ByteArray.size]
    have h1sz : ∀ c : UInt8, (⟨[c].toArray⟩ : ByteArray).size = 1 := fun _ => rfl
    by_cases h9 : n ≤ 9
    · refine Ev.step (fun k => by
        simp only [credenzaref2_digits.l0]
        rw [if_neg (by omega), nw (by omega), nw1 (by omega), if_pos (by omega), if_pos (by omega), if_pos (by omega), Int.toNat_natCast, Int.toNat_natCast, ten_at n (by omega), if_pos (by rw [h1sz, hsz]; omega), app_mk]) ?_
      rw [num_small h9]
      exact Ev.now _
    · have hm : Int.tmod (n : Int) 10 = ((n % 10 : Nat) : Int) := by rw [Int.tmod_eq_emod_of_nonneg (by omega)]; omega
      have hq : Int.tdiv (n : Int) 10 = ((n / 10 : Nat) : Int) := by rw [Int.tdiv_eq_ediv_of_nonneg (by omega)]; omega
      have hu : IntKind.u64.wrap ((n / 10 : Nat) : Int) = ((n / 10 : Nat) : Int) := by rw [IntKind.wrap_u64]; omega
      refine Ev.step (fun k => by
        simp only [credenzaref2_digits.l0]
        rw [if_pos (by omega), hm, nw (by omega), nw1 (by omega), if_pos (by omega), if_pos (by omega), if_pos (by omega), Int.toNat_natCast, Int.toNat_natCast, ten_at (n % 10) (by omega), if_pos (by rw [h1sz, hsz]; omega), app_mk, hq, hu]) ?_
      have h := ih (n / 10) (by omega) ([UInt8.ofNat (48 + n % 10)] ++ x) (by omega) (by simp; omega)
      rw [num_big (by omega), List.append_assoc]
      exact h
theorem num_ev (n : Nat) (h : n ≤ 100000000000000) : Ev (fun k => credenzaref2_Num.f k (n : Int)) ⟨(num n).toArray⟩ := by
  have hu : IntKind.u64.wrap (n : Int) = (n : Int) := by rw [IntKind.wrap_u64]; omega
  have hd := digits_ev n [] h (by simp; omega)
  rw [List.append_nil] at hd
  refine Ev.congr (fun k => by unfold credenzaref2_Num.f; rw [if_neg (by omega), hu]; rfl) (Ev.bind hd (Ev.now _))
end Go.Proofs.YtndpokjakogpnaaDoor.RNum
