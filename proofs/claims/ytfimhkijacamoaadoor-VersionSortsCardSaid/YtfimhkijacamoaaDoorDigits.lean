/- Plain: the digits of a number, and how digits are held against each other. -/
import Derived.Lib.Bytealg
namespace Go.Proofs.YtfimhkijacamoaaDoor.Dg
open Go

def cmpI (a b : Int) : Int := if a < b then -1 else if b < a then 1 else 0
theorem cmpI_self (a : Int) : cmpI a a = 0 := by unfold cmpI; simp
theorem cmpI_swap (a b : Int) : cmpI b a = -cmpI a b := by unfold cmpI; repeat' split <;> omega
theorem cmpI_zero {a b : Int} : cmpI a b = 0 ↔ a = b := by unfold cmpI; repeat' split <;> omega
theorem cmpI_rng (a b : Int) : cmpI a b = -1 ∨ cmpI a b = 0 ∨ cmpI a b = 1 := by unfold cmpI; repeat' split <;> omega
theorem cmpI_tr {a b c : Int} : cmpI a b ≤ 0 → cmpI b c ≤ 0 → cmpI a c ≤ 0 := by unfold cmpI; repeat' split <;> omega

abbrev cmpB := Lib.compareBytes
def cmpc (c d : UInt8) : Int := if c < d then -1 else if d < c then 1 else 0
theorem cmpc_eq (c d : UInt8) : cmpc c d = cmpI c.toNat d.toNat := by
  unfold cmpc cmpI
  simp only [UInt8.lt_iff_toNat_lt, Int.ofNat_lt]
theorem cmpB_cons (a b : UInt8) (x y : List UInt8) : cmpB (a :: x) (b :: y) = if cmpc a b = 0 then cmpB x y else cmpc a b := by
  unfold cmpB cmpc
  rw [Lib.compareBytes]
  by_cases h1 : a < b
  · simp [h1]
  · by_cases h2 : b < a
    · simp [h1, h2]
    · simp [h1, h2]
theorem cmpB_snoc (x : List UInt8) : ∀ (y : List UInt8) (c d : UInt8), x.length = y.length → cmpB (x ++ [c]) (y ++ [d]) = if cmpB x y = 0 then cmpc c d else cmpB x y := by
  induction x with
  | nil =>
    intro y c d h
    obtain rfl : y = [] := List.eq_nil_of_length_eq_zero h.symm
    rw [List.nil_append, List.nil_append, cmpB_cons]
    have h0 : cmpB ([] : List UInt8) [] = 0 := rfl
    rw [h0, if_pos rfl]
    by_cases h : cmpc c d = 0
    · rw [if_pos h, h]
    · rw [if_neg h]
  | cons a x ih =>
    intro y c d h
    cases y with
    | nil => simp at h
    | cons b y =>
      rw [List.cons_append, List.cons_append, cmpB_cons, cmpB_cons, ih y c d (by simpa using h)]
      by_cases h1 : cmpc a b = 0
      · simp [h1]
      · simp [h1]

/-- Numbers' digits: by how many, then by bytes. -/
def cmpD (x y : List UInt8) : Int := if x.length = y.length then cmpB x y else cmpI x.length y.length
theorem cmpD_snoc (x y : List UInt8) (c d : UInt8) : cmpD (x ++ [c]) (y ++ [d]) = if cmpD x y = 0 then cmpc c d else cmpD x y := by
  unfold cmpD
  by_cases h : x.length = y.length
  · rw [if_pos h, if_pos (by simp [h]), cmpB_snoc x y c d h]
  · have h' : ¬ (x ++ [c]).length = (y ++ [d]).length := by simp; omega
    rw [if_neg h, if_neg h']
    have e : cmpI ((x ++ [c]).length : Int) ((y ++ [d]).length : Int) = cmpI x.length y.length := by
      simp only [List.length_append, List.length_cons, List.length_nil]
      unfold cmpI
      repeat' split <;> omega
    rw [e]
    have hne : ¬ cmpI (x.length : Int) (y.length : Int) = 0 := by rw [cmpI_zero]; omega
    rw [if_neg hne]

/-- A number's digits; none of nought. -/
def dig (n : Nat) : List UInt8 := if n = 0 then [] else dig (n / 10) ++ [UInt8.ofNat (48 + n % 10)]
termination_by n
decreasing_by omega
def num (n : Nat) : List UInt8 := if n = 0 then [48] else dig n
theorem dig_zero : dig 0 = [] := by rw [dig]; simp
theorem dig_pos {n : Nat} (h : n ≠ 0) : dig n = dig (n / 10) ++ [UInt8.ofNat (48 + n % 10)] := by rw [dig, if_neg h]
theorem digit_toNat (n : Nat) : (UInt8.ofNat (48 + n % 10)).toNat = 48 + n % 10 := by
  rw [UInt8.toNat_ofNat']
  omega
theorem dig_all (n : Nat) : ∀ c ∈ dig n, 48 ≤ c.toNat ∧ c.toNat ≤ 57 := by
  induction n using Nat.strongRecOn with
  | _ n ih =>
    by_cases h : n = 0
    · subst h; rw [dig_zero]; simp
    · rw [dig_pos h]
      intro c hc
      rcases List.mem_append.1 hc with hc | hc
      · exact ih _ (by omega) c hc
      · rw [List.mem_singleton] at hc
        subst hc
        rw [digit_toNat]
        omega
theorem dig_ne (n : Nat) (h : n ≠ 0) : dig n ≠ [] := by rw [dig_pos h]; simp
/-- No nought stands ahead. -/
theorem dig_head (n : Nat) : ∀ c t, dig n = c :: t → c.toNat ≠ 48 := by
  induction n using Nat.strongRecOn with
  | _ n ih =>
    intro c t e
    by_cases h : n = 0
    · subst h; rw [dig_zero] at e; cases e
    · rw [dig_pos h] at e
      by_cases h10 : n / 10 = 0
      · rw [h10, dig_zero, List.nil_append] at e
        injection e with e _
        rw [← e, digit_toNat]
        omega
      · have hne := dig_ne _ h10
        cases hd : dig (n / 10) with
        | nil => exact absurd hd hne
        | cons c' t' =>
          rw [hd, List.cons_append] at e
          injection e with e _
          rw [← e]
          exact ih _ (by omega) c' t' hd
theorem cmpD_dig (a : Nat) : ∀ b : Nat, cmpD (dig a) (dig b) = cmpI a b := by
  induction a using Nat.strongRecOn with
  | _ a ih =>
    intro b
    by_cases ha : a = 0
    · subst ha
      by_cases hb : b = 0
      · subst hb
        rw [dig_zero]; rfl
      · have : (dig b).length ≠ 0 := by
          intro h
          exact dig_ne b hb (List.eq_nil_of_length_eq_zero h)
        rw [dig_zero]
        unfold cmpD
        rw [if_neg (by simp only [List.length_nil]; omega)]
        unfold cmpI
        rw [if_pos (by simp; omega), if_pos (by omega)]
    · by_cases hb : b = 0
      · subst hb
        have : (dig a).length ≠ 0 := by
          intro h
          exact dig_ne a ha (List.eq_nil_of_length_eq_zero h)
        rw [dig_zero]
        unfold cmpD
        rw [if_neg (by simp only [List.length_nil]; omega)]
        have h1 : cmpI ((dig a).length : Int) (([] : List UInt8).length : Int) = 1 := by
          unfold cmpI
          simp only [List.length_nil]
          rw [if_neg (by omega), if_pos (by omega)]
        have h2 : cmpI (a : Int) ((0 : Nat) : Int) = 1 := by
          unfold cmpI
          rw [if_neg (by omega), if_pos (by omega)]
        rw [h1, h2]
      · rw [dig_pos ha, dig_pos hb, cmpD_snoc, ih _ (by omega), cmpc_eq, digit_toNat, digit_toNat]
        unfold cmpI
        repeat' split <;> omega
theorem num_trim (n : Nat) : (num n).dropWhile (· == 48) = dig n := by
  unfold num
  by_cases h : n = 0
  · subst h; rw [if_pos rfl, dig_zero]; rfl
  · rw [if_neg h]
    cases hd : dig n with
    | nil => rfl
    | cons c t =>
      have := dig_head n c t hd
      rw [List.dropWhile_cons_of_neg]
      intro hc
      have hc' : c = 48 := by simpa using hc
      subst hc'
      exact this rfl
theorem num_all (n : Nat) : ∀ c ∈ num n, 48 ≤ c.toNat ∧ c.toNat ≤ 57 := by
  unfold num
  by_cases h : n = 0
  · rw [if_pos h]; intro c hc; rw [List.mem_singleton] at hc; subst hc; decide
  · rw [if_neg h]; exact dig_all n
theorem num_ne (n : Nat) : num n ≠ [] := by
  unfold num
  by_cases h : n = 0
  · rw [if_pos h]; simp
  · rw [if_neg h]; exact dig_ne n h
theorem num_big {n : Nat} (h : 9 < n) : num n = num (n / 10) ++ [UInt8.ofNat (48 + n % 10)] := by
  unfold num
  rw [if_neg (by omega), if_neg (by omega), dig_pos (by omega)]
theorem num_small {n : Nat} (h : n ≤ 9) : num n = [UInt8.ofNat (48 + n)] := by
  unfold num
  by_cases h0 : n = 0
  · subst h0; rw [if_pos rfl]; rfl
  · rw [if_neg h0, dig_pos h0, show n / 10 = 0 by omega, dig_zero, show n % 10 = n by omega]; rfl
theorem num_len (n : Nat) : ∀ k, n < 10 ^ (k + 1) → (num n).length ≤ k + 1 := by
  induction n using Nat.strongRecOn with
  | _ n ih =>
    intro k hk
    by_cases h : n ≤ 9
    · rw [num_small h]; simp
    · cases k with
      | zero => simp at hk; omega
      | succ k =>
        rw [num_big (by omega)]
        have := ih (n / 10) (by omega) k (by rw [Nat.pow_succ] at hk; omega)
        simp only [List.length_append, List.length_cons, List.length_nil]
        omega
end Go.Proofs.YtfimhkijacamoaaDoor.Dg
