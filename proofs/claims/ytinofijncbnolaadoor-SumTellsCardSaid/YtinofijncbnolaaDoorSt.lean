/- Texts as lists; masks of an int: plain facts that any seat may use. -/
import Derived.Lib.Strings
import Derived.Lib.SmallJoins
import Derived.Laws.BitsLemmas
import Derived.Laws.BitsAllLaws
import Derived.Test.YtinofijncbnolaaDoorWWords
import Derived.Test.YtinofijncbnolaaDoorWMore
set_option linter.unusedVariables false
set_option linter.unusedSimpArgs false
namespace Go.Proofs.YtinofijncbnolaaDoor.St
open Go.RowKit (wrap64)
open Go Go.Proofs.YtinofijncbnolaaDoorW.PrintWords Go.Proofs.YtinofijncbnolaaDoorW.PrintLast Go.Proofs.YtinofijncbnolaaDoorW.PrintMore
abbrev bs (s : ByteArray) : List UInt8 := s.data.toList
theorem bs_len (s : ByteArray) : (bs s).length = s.size := Array.length_toList
theorem bs_mk (l : List UInt8) : bs ⟨l.toArray⟩ = l := rfl
theorem mk_bs (s : ByteArray) : (⟨(bs s).toArray⟩ : ByteArray) = s := by cases s; rfl
theorem bt_bs (s : ByteArray) (i : Nat) (h : i < (bs s).length) : bt s (i : Int) = (((bs s)[i]'h).toNat : Int) := by
  have h' : i < s.size := by rw [← bs_len]; exact h
  unfold bt
  rw [dif_pos (by simpa using h')]
  rfl
theorem drop_at {α : Type} {s : List α} {i : Nat} (h : i < s.length) : s.drop i = s[i] :: s.drop (i + 1) := List.drop_eq_getElem_cons h
theorem wrap_nat {n : Nat} (h : n ≤ 1000000000000000) : wrap64 ((n : Int) + 1) = ((n + 1 : Nat) : Int) := by unfold wrap64; omega
theorem mask_i64 (k : Nat) (hk : k ≤ 60) (n : Int) : bits .and .i64 n ((2 ^ k - 1 : Nat) : Int) = n % ((2 ^ k : Nat) : Int) := by
  have hp : 2 ^ k ≤ 2 ^ 60 := Nat.pow_le_pow_right (by omega) hk
  have hpos : 0 < 2 ^ k := Nat.pow_pos (by omega)
  have hc : (BitVec.ofInt 64 ((2 ^ k - 1 : Nat) : Int)).toNat = 2 ^ k - 1 := by
    rw [BitVec.ofInt_natCast, BitVec.toNat_ofNat]
    exact Nat.mod_eq_of_lt (by omega)
  have key : (BitVec.ofInt 64 n &&& BitVec.ofInt 64 ((2 ^ k - 1 : Nat) : Int)).toNat = (n % ((2 ^ 64 : Nat) : Int)).toNat % 2 ^ k := by
    rw [BitVec.toNat_and, BitVec.toNat_ofInt, hc, Nat.and_two_pow_sub_one_eq_mod]
  show IntKind.i64.wrap ((BitVec.ofInt 64 n &&& BitVec.ofInt 64 ((2 ^ k - 1 : Nat) : Int)).toNat : Nat) = n % ((2 ^ k : Nat) : Int)
  rw [key, IntKind.wrap_i64]
  have hlt : (n % ((2 ^ 64 : Nat) : Int)).toNat % 2 ^ k < 2 ^ k := Nat.mod_lt _ hpos
  have hd : ((2 ^ k : Nat) : Int) ∣ ((2 ^ 64 : Nat) : Int) := Int.natCast_dvd_natCast.2 (Nat.pow_dvd_pow 2 (by omega))
  have e : (((n % ((2 ^ 64 : Nat) : Int)).toNat % 2 ^ k : Nat) : Int) = n % ((2 ^ k : Nat) : Int) := by
    rw [Int.natCast_emod, Int.toNat_of_nonneg (Int.emod_nonneg _ (by omega)), Int.emod_emod_of_dvd _ hd]
  rw [e]
  have h1 : 0 ≤ n % ((2 ^ k : Nat) : Int) := Int.emod_nonneg _ (by omega)
  have h2 : n % ((2 ^ k : Nat) : Int) < ((2 ^ k : Nat) : Int) := Int.emod_lt_of_pos _ (by omega)
  omega
/-- A masked int is a small number. -/
theorem mask_small (k : Nat) (hk : k ≤ 60) (n : Int) : ∃ m : Nat, bits .and .i64 n ((2 ^ k - 1 : Nat) : Int) = (m : Int) ∧ m < 2 ^ k := by
  have hpos : 0 < 2 ^ k := Nat.pow_pos (by omega)
  have h1 : 0 ≤ n % ((2 ^ k : Nat) : Int) := Int.emod_nonneg _ (by omega)
  have h2 : n % ((2 ^ k : Nat) : Int) < ((2 ^ k : Nat) : Int) := Int.emod_lt_of_pos _ (by omega)
  exact ⟨(n % ((2 ^ k : Nat) : Int)).toNat, by rw [mask_i64 k hk]; omega, by omega⟩

theorem nw {n : Nat} (h : n ≤ 1000000000000000) : wrap64 (n : Int) = (n : Int) := by unfold wrap64; omega
theorem nw1 {n : Nat} (h : n ≤ 1000000000000000) : wrap64 ((n : Int) + 1) = ((n + 1 : Nat) : Int) := by unfold wrap64; omega
theorem of_data {s : ByteArray} {l : List UInt8} (h : s.data.toList = l) : s = ⟨l.toArray⟩ := by subst h; cases s; rfl
theorem app_mk (l : List UInt8) (s : ByteArray) : (⟨l.toArray⟩ : ByteArray) ++ s = ⟨(l ++ s.data.toList).toArray⟩ := by
  exact of_data (by rw [Joins.data_append])
abbrev st (l : List UInt8) : ByteArray := ⟨l.toArray⟩
theorem st_size (l : List UInt8) : (st l).size = l.length := by simp [st, ByteArray.size]
theorem st_app (a b : List UInt8) : st a ++ st b = st (a ++ b) := app_mk a (st b)
theorem st_list (l : List UInt8) : (st l).toList = l := Lib.toList_data (st l)
theorem of_st (s : ByteArray) : ∃ l, s = st l := ⟨bs s, (mk_bs s).symm⟩
theorem bt_st (l : List UInt8) (i : Nat) (h : i < l.length) : bt (st l) (i : Int) = ((l[i]).toNat : Int) := bt_bs (st l) i h
theorem strOf (l : List UInt8) : strOfNums (l.map fun c => (c.toNat : Int)) = st l := by
  unfold strOfNums st
  rw [List.map_map]
  congr 2
  have : ∀ c ∈ l, ((fun n : Int => UInt8.ofNat n.toNat) ∘ fun c : UInt8 => (c.toNat : Int)) c = c := fun c _ => by simp
  rw [List.map_congr_left this]
  simp
theorem set_fill (v : Int) (xs : List Int) (i : Nat) (h : i < xs.length) (hp : xs.take i = List.replicate i v) : (xs.set i v).take (i + 1) = List.replicate (i + 1) v := by
  rw [List.take_succ_eq_append_getElem (by rw [List.length_set]; exact h), List.take_set_of_le (Nat.le_refl _), hp, List.getElem_set_self, List.replicate_succ']
theorem of_bytes (xs : List Int) (h : ∀ x ∈ xs, 0 ≤ x ∧ x < 256) : ∃ l : List UInt8, xs = l.map fun c => (c.toNat : Int) := by
  refine ⟨xs.map fun x => UInt8.ofNat x.toNat, ?_⟩
  rw [List.map_map]
  have : ∀ x ∈ xs, ((fun c : UInt8 => (c.toNat : Int)) ∘ fun x : Int => UInt8.ofNat x.toNat) x = x := fun x hx => by
    have := h x hx
    simp only [Function.comp, UInt8.toNat_ofNat']
    omega
  rw [List.map_congr_left this]
  simp
theorem rd_at (xs : List Int) (i : Nat) (h : i < xs.length) : rd xs (i : Int) = xs[i] := by
  unfold rd
  rw [Int.toNat_natCast, List.getD_eq_getElem?_getD, List.getElem?_eq_getElem h]
  rfl
end Go.Proofs.YtinofijncbnolaaDoor.St
