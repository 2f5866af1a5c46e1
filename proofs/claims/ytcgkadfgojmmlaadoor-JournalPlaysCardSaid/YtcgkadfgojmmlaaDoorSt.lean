/- Texts as lists of bytes; masks. No condition. -/
import Derived.Test.YtcgkadfgojmmlaaDoorA20
import Derived.Laws.BitsLemmas
import Derived.Laws.BitsAllLaws
namespace Go.Proofs.YtcgkadfgojmmlaaDoor.St
open Go
def st (l : List UInt8) : ByteArray := ⟨l.toArray⟩
theorem st_size (l : List UInt8) : (st l).size = l.length := (rfl)
theorem st_list (l : List UInt8) : (st l).data.toList = l := (rfl)
theorem st_back (s : ByteArray) : st s.data.toList = s := (rfl)
theorem mask_i64 (k : Nat) (hk : k ≤ 60) (n : Int) : bits .and .i64 n ((2 ^ k - 1 : Nat) : Int) = n % ((2 ^ k : Nat) : Int) := by
  have hp : 2 ^ k ≤ 2 ^ 60 := Nat.pow_le_pow_right (by omega) hk
  have hpos : 0 < 2 ^ k := Nat.pow_pos (by omega)
  have hc : (BitVec.ofInt 64 ((2 ^ k - 1 : Nat) : Int)).toNat = 2 ^ k - 1 := by
    rw [BitVec.ofInt_natCast, BitVec.toNat_ofNat]
    exact Nat.mod_eq_of_lt (by omega)
  have key : (BitVec.ofInt 64 n &&& BitVec.ofInt 64 ((2 ^ k - 1 : Nat) : Int)).toNat = (n % ((2 ^ 64 : Nat) : Int)).toNat % 2 ^ k := by
    rw [BitVec.toNat_and, BitVec.toNat_ofInt, hc, Nat.and_two_pow_sub_one_eq_mod]
  show IntKind.i64.wrap ((BitVec.ofInt 64 n &&& BitVec.ofInt 64 ((2 ^ k - 1 : Nat) : Int)).toNat : Nat) = n % ((2 ^ k : Nat) : Int)
  rw [key, IntKind.wrap_i64]
  have hlt : (n % ((2 ^ 64 : Nat) : Int)).toNat % 2 ^ k < 2 ^ k := Nat.mod_lt _ hpos
  have hd : ((2 ^ k : Nat) : Int) ∣ ((2 ^ 64 : Nat) : Int) := Int.natCast_dvd_natCast.2 (Nat.pow_dvd_pow 2 (by omega))
  have e : (((n % ((2 ^ 64 : Nat) : Int)).toNat % 2 ^ k : Nat) : Int) = n % ((2 ^ k : Nat) : Int) := by
    rw [Int.natCast_emod, Int.toNat_of_nonneg (Int.emod_nonneg _ (by omega)), Int.emod_emod_of_dvd _ hd]
  rw [e]
  have h1 : 0 ≤ n % ((2 ^ k : Nat) : Int) := Int.emod_nonneg _ (by omega)
  have h2 : n % ((2 ^ k : Nat) : Int) < ((2 ^ k : Nat) : Int) := Int.emod_lt_of_pos _ (by omega)
  omega
/-- A masked int is a small number. -/
theorem mask_small (k : Nat) (hk : k ≤ 60) (n : Int) : ∃ m : Nat, bits .and .i64 n ((2 ^ k - 1 : Nat) : Int) = (m : Int) ∧ m < 2 ^ k := by
  have hpos : 0 < 2 ^ k := Nat.pow_pos (by omega)
  have h1 : 0 ≤ n % ((2 ^ k : Nat) : Int) := Int.emod_nonneg _ (by omega)
  have h2 : n % ((2 ^ k : Nat) : Int) < ((2 ^ k : Nat) : Int) := Int.emod_lt_of_pos _ (by omega)
  exact ⟨(n % ((2 ^ k : Nat) : Int)).toNat, by rw [mask_i64 k hk]; omega, by omega⟩


theorem mask255 (n : Int) : ∃ m : Nat, bits .and .i64 n 255 = (m : Int) ∧ m < 256 := mask_small 8 (by omega) n
/-- A number's low byte, cut to what is below k. -/
theorem mask_mod (n : Int) (k : Nat) (hk : 0 < k) : ∃ m : Nat, (bits .and .i64 n 255).tmod (k : Int) = (m : Int) ∧ m < k := by
  obtain ⟨m, hm, _⟩ := mask255 n
  exact ⟨m % k, by rw [hm]; rfl, Nat.mod_lt _ hk⟩
end Go.Proofs.YtcgkadfgojmmlaaDoor.St
