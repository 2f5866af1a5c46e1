/- Digests' digits, and the step of a digest: plain. -/
import Derived.Test.YtinofijncbnolaaDoorHex
import Derived.Test.YtinofijncbnolaaDoorSt
set_option linter.unusedVariables false
set_option linter.unusedSimpArgs false
namespace Go.Proofs.YtinofijncbnolaaDoor.Sm
open Go Go.Proofs.YtinofijncbnolaaDoor.Hex

def dv (c : UInt8) : Option Nat := if 48 ≤ c.toNat ∧ c.toNat ≤ 57 then some (c.toNat - 48) else if 97 ≤ c.toNat ∧ c.toNat ≤ 102 then some (c.toNat - 87) else none
theorem dv_hexd (d : Nat) (h : d < 16) : dv (hexd d) = some d := by
  have : ∀ d < 16, dv (hexd d) = some d := by decide
  exact this d h
theorem hexd_dv {c : UInt8} {d : Nat} (h : dv c = some d) : hexd d = c ∧ d < 16 := by
  unfold dv at h
  split at h
  · obtain rfl := Option.some.inj h
    refine ⟨?_, by omega⟩
    unfold hexd
    rw [if_pos (by omega), show 48 + (c.toNat - 48) = c.toNat by omega, UInt8.ofNat_toNat]
  · split at h
    · obtain rfl := Option.some.inj h
      refine ⟨?_, by omega⟩
      unfold hexd
      rw [if_neg (by omega), show 87 + (c.toNat - 87) = c.toNat by omega, UInt8.ofNat_toNat]
    · cases h
def unh : Nat → List UInt8 → Nat × Bool
  | n, [] => (n, true)
  | n, c :: t => match dv c with
    | none => (0, false)
    | some d => unh (n * 16 + d) t
theorem unh_some {c : UInt8} {d : Nat} (h : dv c = some d) (n : Nat) (t : List UInt8) : unh n (c :: t) = unh (n * 16 + d) t := by
  rw [unh, h]
theorem unh_none {c : UInt8} (h : dv c = none) (n : Nat) (t : List UInt8) : unh n (c :: t) = (0, false) := by
  rw [unh, h]
theorem unh_low (U : Nat) : ∀ j n, unh n (lowd j U) = (n * 16 ^ j + U % 16 ^ j, true)
  | 0, n => by simp [lowd, unh, Nat.mod_one]
  | j + 1, n => by
    show unh n (hexd (U / 16 ^ j % 16) :: lowd j U) = _
    rw [unh_some (dv_hexd _ (Nat.mod_lt _ (by omega))), unh_low U j, Nat.pow_succ, Nat.mod_mul]
    congr 1
    generalize U / 16 ^ j % 16 = q
    generalize U % 16 ^ j = m
    generalize 16 ^ j = P
    rw [Nat.add_mul, Nat.mul_assoc, Nat.mul_comm 16 P, Nat.mul_comm q P]
    omega
theorem unh_ok : ∀ (l : List UInt8) (n m : Nat), unh n l = (m, true) → m / 16 ^ l.length = n ∧ lowd l.length m = l
  | [], n, m, h => by
    have h' : (n, true) = (m, true) := h
    obtain rfl : n = m := (Prod.mk.inj h').1
    exact ⟨by simp, rfl⟩
  | c :: t, n, m, h => by
    cases hd : dv c with
    | none => rw [unh_none hd] at h; cases h
    | some d =>
      rw [unh_some hd] at h
      obtain ⟨h1, h2⟩ := unh_ok t _ m h
      obtain ⟨e, hlt⟩ := hexd_dv hd
      refine ⟨?_, ?_⟩
      · rw [List.length_cons, Nat.pow_succ, ← Nat.div_div_eq_div_mul, h1]
        omega
      · show hexd (m / 16 ^ t.length % 16) :: lowd t.length m = _
        rw [h1, h2, show (n * 16 + d) % 16 = d by omega, e]
theorem unh_fail : ∀ (l : List UInt8) (n : Nat), (unh n l).2 = false → (unh n l).1 = 0
  | [], n, h => by cases h
  | c :: t, n, h => by
    cases hd : dv c with
    | none => rw [unh_none hd]
    | some d => rw [unh_some hd] at h ⊢; exact unh_fail t _ h
theorem unh_all : ∀ (l : List UInt8) (n : Nat), (∀ c ∈ l, dv c ≠ none) → (unh n l).2 = true
  | [], n, h => rfl
  | c :: t, n, h => by
    cases hd : dv c with
    | none => exact absurd hd (h c (List.mem_cons_self ..))
    | some d => rw [unh_some hd]; exact unh_all t _ fun c hc => h c (List.mem_cons_of_mem _ hc)
theorem unh_bad : ∀ (l : List UInt8) (n : Nat) (c : UInt8), c ∈ l → dv c = none → (unh n l).2 = false
  | [], n, c, hc, h => by cases hc
  | b :: t, n, c, hc, h => by
    cases hd : dv b with
    | none => rw [unh_none hd]
    | some d =>
      rw [unh_some hd]
      rcases List.mem_cons.1 hc with rfl | hc
      · rw [h] at hd; cases hd
      · exact unh_bad t _ c hc h
theorem low_pad (U j : Nat) (h : U < 16 ^ j) : ∀ m, lowd (j + m) U = List.replicate m 48 ++ lowd j U
  | 0 => rfl
  | m + 1 => by
    show hexd (U / 16 ^ (j + m) % 16) :: lowd (j + m) U = _
    have : U < 16 ^ (j + m) := Nat.lt_of_lt_of_le h (Nat.pow_le_pow_right (by omega) (by omega))
    rw [Nat.div_eq_of_lt this, low_pad U j h m]
    rfl
theorem hexs_len {U : Nat} (hU : U < 18446744073709551616) : (hexs U).length ≤ 16 := by
  have := (hj_small hU).1
  unfold hexs
  rw [lowd_len]
  omega
theorem hexs_pad {U : Nat} (hU : U < 18446744073709551616) : List.replicate (16 - (hexs U).length) 48 ++ hexs U = lowd 16 U := by
  obtain ⟨h1, h2⟩ := hj_small hU
  unfold hexs
  rw [lowd_len]
  have h3 : U < 16 ^ (hj U + 1) := by
    rw [Nat.pow_succ, Nat.mul_comm]
    exact (Nat.div_lt_iff_lt_mul (Nat.pow_pos (by omega))).1 h2
  rw [← low_pad U (hj U + 1) h3, show hj U + 1 + (16 - (hj U + 1)) = 16 by omega]
theorem or16 (n d : Nat) (hn : n < 1152921504606846976) (hd : d < 16) : bits .or .u64 (IntKind.u64.wrap ((n : Int) * 16)) (d : Int) = ((n * 16 + d : Nat) : Int) := by
  have e : IntKind.u64.wrap ((n : Int) * 16) = ((n * 16 : Nat) : Int) := by rw [IntKind.wrap_u64]; omega
  rw [e, u64_or_nat _ _ (by omega) (by omega)]
  have h := Nat.two_pow_add_eq_or_of_lt (i := 4) (b := d) (by omega) n
  rw [show n * 16 = 2 ^ 4 * n by omega, ← h]
/-- One byte's step of a digest. -/
def fstep (h c : Int) : Int := IntKind.u64.wrap ((bits .xor .u64 h (IntKind.u64.wrap c)) * 1099511628211)
def fnv (h : Int) (l : List Int) : Int := l.foldl fstep h
theorem fnv_cons (h c : Int) (l : List Int) : fnv h (c :: l) = fnv (fstep h c) l := rfl
theorem fnv_app (h : Int) (x y : List Int) : fnv h (x ++ y) = fnv (fnv h x) y := List.foldl_append
theorem fstep_rng (h c : Int) : 0 ≤ fstep h c ∧ fstep h c < 18446744073709551616 := by
  unfold fstep
  rw [IntKind.wrap_u64]
  omega
theorem fnv_rng (l : List Int) : ∀ h : Int, 0 ≤ h → h < 18446744073709551616 → 0 ≤ fnv h l ∧ fnv h l < 18446744073709551616 := by
  induction l with
  | nil => intro h h1 h2; exact ⟨h1, h2⟩
  | cons c l ih => intro h _ _; rw [fnv_cons]; exact ih _ (fstep_rng h c).1 (fstep_rng h c).2
theorem odd_inj' (A B p q M t : Int) (hpq : p * q = 1 + M * t) (hA : 0 ≤ A) (hA' : A < M) (hB : 0 ≤ B) (hB' : B < M) (e : A * p % M = B * p % M) : A = B := by
  have h1 : A * p * q % M = B * p * q % M := by rw [Int.mul_emod, e, ← Int.mul_emod]
  rw [Int.mul_assoc, Int.mul_assoc, hpq, Int.mul_add, Int.mul_add, Int.mul_one, Int.mul_one, Int.mul_left_comm, Int.mul_left_comm B, Int.add_mul_emod_self_left, Int.add_mul_emod_self_left, Int.emod_eq_of_lt hA hA', Int.emod_eq_of_lt hB hB'] at h1
  exact h1
theorem odd_inj (A B : Nat) (hA : A < 18446744073709551616) (hB : B < 18446744073709551616) (e : (A : Int) * 1099511628211 % 18446744073709551616 = (B : Int) * 1099511628211 % 18446744073709551616) : A = B := by
  have h := odd_inj' (A : Int) (B : Int) 1099511628211 14886173955864302971 18446744073709551616 887285111055 rfl (Int.natCast_nonneg A) (Int.ofNat_lt.2 hA) (Int.natCast_nonneg B) (Int.ofNat_lt.2 hB) e
  exact Int.ofNat.inj h
/-- The prime is odd: a step tells bytes apart. -/
theorem fstep_inj (h c d : Int) (h0 : 0 ≤ h) (h1 : h < 18446744073709551616) (hc0 : 0 ≤ c) (hc : c < 256) (hd0 : 0 ≤ d) (hd : d < 256) (e : fstep h c = fstep h d) : c = d := by
  obtain ⟨H, rfl⟩ := Int.eq_ofNat_of_zero_le h0
  obtain ⟨C, rfl⟩ := Int.eq_ofNat_of_zero_le hc0
  obtain ⟨D, rfl⟩ := Int.eq_ofNat_of_zero_le hd0
  have wr : ∀ C : Nat, C < 256 → IntKind.u64.wrap (C : Int) = (C : Int) := fun C hC => by rw [IntKind.wrap_u64]; omega
  unfold fstep at e
  rw [wr C (by omega), wr D (by omega), u64_xor_nat H C (by omega) (by omega), u64_xor_nat H D (by omega) (by omega), IntKind.wrap_u64, IntKind.wrap_u64] at e
  have hA : H ^^^ C < 2 ^ 64 := Nat.xor_lt_two_pow (by omega) (by omega)
  have hB : H ^^^ D < 2 ^ 64 := Nat.xor_lt_two_pow (by omega) (by omega)
  have hAB : H ^^^ C = H ^^^ D := odd_inj _ _ hA hB e
  have h2 : H ^^^ (H ^^^ C) = H ^^^ (H ^^^ D) := by rw [hAB]
  rw [← Nat.xor_assoc, ← Nat.xor_assoc, Nat.xor_self, Nat.zero_xor, Nat.zero_xor] at h2
  rw [h2]
end Go.Proofs.YtinofijncbnolaaDoor.Sm
