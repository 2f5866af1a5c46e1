/- What a command's line says: numbers, words, kinds. No program in sight. No condition. -/
import Derived.Lib.AtoiAll
import Derived.Lib.ItoaNum
import Derived.Test.YtfimhkijacamoaaDoorLPcs
set_option linter.unusedVariables false
set_option linter.unusedSimpArgs false
namespace Go.Proofs.YtfimhkijacamoaaDoor.CSpec
open Go Go.Proofs.YtfimhkijacamoaaDoor.LPcs
def digB (c : UInt8) : Bool := decide (48 ≤ c.toNat) && decide (c.toNat ≤ 57)
def stepV (a : Nat) (c : UInt8) : Nat := 10 * a + (c.toNat - 48)
def numV (s : List UInt8) : Nat := s.foldl stepV 0
def numB (s : List UInt8) : Bool := decide (s ≠ []) && decide (s.length ≤ 6) && (decide (s.head? ≠ some 48) || decide (s = [48])) && s.all digB
theorem digB_iff {c : UInt8} : digB c = true ↔ 48 ≤ c.toNat ∧ c.toNat ≤ 57 := by simp [digB]
theorem pu : ∀ (l : List UInt8) (acc k : Nat), l.all digB = true → acc < 10 ^ k → k + l.length ≤ 18 → Lib.parseUint10 acc l = .ok (l.foldl stepV acc)
  | [], acc, k, _, _, _ => rfl
  | c :: r, acc, k, h, ha, hk => by
    simp only [List.all_cons, Bool.and_eq_true] at h
    obtain ⟨h1, h2⟩ := h
    have hc := digB_iff.1 h1
    simp only [List.length_cons] at hk
    have hp : 10 ^ (k + 1) ≤ 10 ^ 18 := Nat.pow_le_pow_right (by omega) (by omega)
    have hp2 : 10 ^ (k + 1) = 10 * 10 ^ k := by rw [Nat.pow_succ, Nat.mul_comm]
    have hp3 : (10 : Nat) ^ 18 = 1000000000000000000 := by decide
    have hlt : 10 * acc + (c.toNat - 48) < 10 ^ (k + 1) := by omega
    rw [Lib.parseUint10, if_pos hc, if_neg (by omega), if_neg (by omega), List.foldl_cons, show acc * 10 + (c.toNat - 48) = stepV acc c by unfold stepV; omega]
    exact pu r _ (k + 1) h2 (by unfold stepV; exact hlt) (by omega)
theorem fold_ge : ∀ (l : List UInt8) (a : Nat), a ≤ l.foldl stepV a
  | [], a => Nat.le_refl _
  | c :: l, a => by
    rw [List.foldl_cons]
    exact Nat.le_trans (by unfold stepV; omega) (fold_ge l _)
theorem numV_snoc (l : List UInt8) (c : UInt8) : numV (l ++ [c]) = 10 * numV l + (c.toNat - 48) := by simp [numV, stepV]
theorem numV_pos {l : List UInt8} (h : l ≠ []) (hd : l.all digB = true) (h0 : l.head? ≠ some 48) : 1 ≤ numV l := by
  cases l with
  | nil => exact absurd rfl h
  | cons c l =>
    simp only [List.all_cons, Bool.and_eq_true] at hd
    have hc := digB_iff.1 hd.1
    have hne : c.toNat ≠ 48 := fun e => h0 (by simp; exact UInt8.toNat_inj.1 (by rw [e]; rfl))
    have := fold_ge l (stepV 0 c)
    unfold numV
    rw [List.foldl_cons]
    unfold stepV at this ⊢
    omega
theorem dec_small {n : Nat} (h : n < 10) : Lib.decDigits n = [UInt8.ofNat (48 + n)] := by rw [Lib.decDigits, dif_pos h]
theorem dec_big {n : Nat} (h : ¬ n < 10) : Lib.decDigits n = Lib.decDigits (n / 10) ++ [UInt8.ofNat (48 + n % 10)] := by rw [Lib.decDigits, dif_neg h]
theorem dec_ne (n : Nat) : Lib.decDigits n ≠ [] := by
  by_cases h : n < 10
  · rw [dec_small h]; simp
  · rw [dec_big h]; simp
theorem of_c {c : UInt8} (h : 48 ≤ c.toNat) : UInt8.ofNat (48 + (c.toNat - 48)) = c := by
  rw [show 48 + (c.toNat - 48) = c.toNat by omega]; simp
theorem dec_val : ∀ (m : Nat) (s : List UInt8), s.length = m → s ≠ [] → s.all digB = true → (s.head? ≠ some 48 ∨ s.length = 1) → Lib.decDigits (numV s) = s := by
  intro m
  induction m with
  | zero => intro s h h0; exact absurd (List.eq_nil_of_length_eq_zero h) h0
  | succ m ih =>
    intro s hl h0 hd hh
    obtain ⟨t, c, rfl⟩ : ∃ t c, s = t ++ [c] := ⟨s.dropLast, s.getLast h0, (List.dropLast_concat_getLast h0).symm⟩
    simp only [List.all_append, List.all_cons, List.all_nil, Bool.and_true, Bool.and_eq_true] at hd
    have hc := digB_iff.1 hd.2
    rw [numV_snoc]
    by_cases ht : t = []
    · subst ht
      rw [show numV [] = 0 from rfl, dec_small (by omega)]
      rw [show 48 + (10 * 0 + (c.toNat - 48)) = 48 + (c.toNat - 48) by omega, of_c hc.1]
      rfl
    · have hh1 : t.head? ≠ some 48 := by
        rcases hh with h | h
        · intro e; exact h (by rw [List.head?_append, e]; rfl)
        · simp at h; exact absurd h ht
      have h1 := numV_pos ht hd.1 hh1
      rw [dec_big (by omega), show (10 * numV t + (c.toNat - 48)) / 10 = numV t by omega, show (10 * numV t + (c.toNat - 48)) % 10 = c.toNat - 48 by omega, of_c hc.1,
        ih t (by simp at hl; omega) ht hd.1 (.inl hh1)]
theorem dec_all (n : Nat) : (Lib.decDigits n).all digB = true := by
  induction n using Nat.strongRecOn with
  | ind n ih =>
    by_cases h : n < 10
    · rw [dec_small h]
      simp only [List.all_cons, List.all_nil, Bool.and_true]
      rw [digB_iff, UInt8.toNat_ofNat']
      omega
    · rw [dec_big h, List.all_append, ih (n / 10) (by omega)]
      simp only [List.all_cons, List.all_nil, Bool.and_true, Bool.true_and]
      rw [digB_iff, UInt8.toNat_ofNat']
      omega
theorem dec_head (n : Nat) (h0 : n ≠ 0) : (Lib.decDigits n).head? ≠ some 48 := by
  induction n using Nat.strongRecOn with
  | ind n ih =>
    by_cases h : n < 10
    · rw [dec_small h]
      intro e
      have e2 : UInt8.ofNat (48 + n) = 48 := by simpa using e
      have := congrArg UInt8.toNat e2
      rw [UInt8.toNat_ofNat'] at this
      simp at this
      omega
    · rw [dec_big h, List.head?_append]
      have := ih (n / 10) (by omega) (by omega)
      cases hd : (Lib.decDigits (n / 10)).head? with
      | none => exact absurd (List.head?_eq_none_iff.1 hd) (dec_ne _)
      | some c => rw [hd] at this; exact this
theorem numV_dec (n : Nat) : numV (Lib.decDigits n) = n := by
  induction n using Nat.strongRecOn with
  | ind n ih =>
    by_cases h : n < 10
    · rw [dec_small h]
      simp only [numV, List.foldl_cons, List.foldl_nil, stepV, UInt8.toNat_ofNat']
      omega
    · rw [dec_big h, numV_snoc, ih (n / 10) (by omega), UInt8.toNat_ofNat']
      omega
theorem numB_dec {n : Nat} (h : (Lib.decDigits n).length ≤ 6) : numB (Lib.decDigits n) = true := by
  unfold numB
  rw [dec_all]
  by_cases h0 : n = 0
  · subst h0
    rw [show Lib.decDigits 0 = [48] from by rw [dec_small (by omega)]; rfl]
    decide
  · simp [dec_ne, h, dec_head n h0]
theorem dec_len6 {n : Nat} (h : n < 1000000) : (Lib.decDigits n).length ≤ 6 := by
  have : ∀ k n, n < 10 ^ (k + 1) → (Lib.decDigits n).length ≤ k + 1 := by
    intro k
    induction k with
    | zero => intro n h; rw [dec_small (by omega)]; simp
    | succ k ih =>
      intro n h
      by_cases h9 : n < 10
      · rw [dec_small h9]; simp
      · rw [dec_big h9]
        have := ih (n / 10) (by rw [Nat.pow_succ] at h; omega)
        simp; omega
  exact this 5 n (by omega)
/-- strconv.Atoi at a number's word. -/
theorem atoi_num {s : List UInt8} (h : numB s = true) : Lib.atoiAll s = .ok (numV s : Int) := by
  simp only [numB, Bool.and_eq_true, decide_eq_true_eq] at h
  obtain ⟨⟨⟨h0, h6⟩, _⟩, hd⟩ := h
  have hp := pu s 0 0 hd (by omega) (by omega)
  have hv : numV s < 9223372036854775808 := by
    have : ∀ (l : List UInt8) (acc k : Nat), l.all digB = true → acc < 10 ^ k → l.foldl stepV acc < 10 ^ (k + l.length) := by
      intro l
      induction l with
      | nil => intro acc k _ h; simpa using h
      | cons c l ih =>
        intro acc k h ha
        simp only [List.all_cons, Bool.and_eq_true] at h
        have hc := digB_iff.1 h.1
        have hp2 : 10 ^ (k + 1) = 10 * 10 ^ k := by rw [Nat.pow_succ, Nat.mul_comm]
        have := ih (stepV acc c) (k + 1) h.2 (by unfold stepV; omega)
        rw [List.foldl_cons, List.length_cons, show k + (l.length + 1) = k + 1 + l.length by omega]
        exact this
    have h1 := this s 0 0 hd (by omega)
    have h2 : (10 : Nat) ^ (0 + s.length) ≤ 10 ^ 6 := Nat.pow_le_pow_right (by omega) (by omega)
    have h3 : (10 : Nat) ^ 6 = 1000000 := by decide
    unfold numV
    omega
  cases s with
  | nil => exact absurd rfl h0
  | cons c r =>
    have hc : digB c = true := by simp only [List.all_cons, Bool.and_eq_true] at hd; exact hd.1
    have hc2 := digB_iff.1 hc
    have hs : ¬ (c.toNat = 43 ∨ c.toNat = 45) := by omega
    have hn : ¬ c.toNat = 45 := by omega
    unfold Lib.atoiAll
    simp only [if_neg hs, Lib.parseMag]
    rw [if_neg h0, hp]
    have hv' : ¬ 9223372036854775808 ≤ (c :: r).foldl stepV 0 := by unfold numV at hv; omega
    unfold numV
    generalize (c :: r).foldl stepV 0 = V at hv' ⊢
    simp [hn]
    omega
/-- .. and the other way round. -/
theorem num_of_itoa {s : List UInt8} {v : Int} (h0 : 0 ≤ v) (hl : s.length ≤ 6) (h : Lib.itoa v = s) : numB s = true := by
  unfold Lib.itoa at h
  rw [if_neg (by omega)] at h
  subst h
  exact numB_dec hl
theorem itoa_num {s : List UInt8} (h : numB s = true) : Lib.itoa (numV s : Int) = s := by
  unfold Lib.itoa
  rw [if_neg (by omega)]
  simp only [Int.toNat_natCast]
  simp only [numB, Bool.and_eq_true, decide_eq_true_eq, Bool.or_eq_true] at h
  obtain ⟨⟨⟨h0, h6⟩, hh⟩, hd⟩ := h
  exact dec_val _ s rfl h0 hd (hh.imp id fun e => by rw [e]; rfl)
/-! ### Words -/
def chB (c : UInt8) : Bool := decide (33 ≤ c.toNat) && decide (c.toNat ≤ 126)
def txtB (s : List UInt8) : Bool := decide (s ≠ []) && decide (s.length ≤ 100) && s.all chB
/-! ### Kinds: a word, and how many texts and numbers stand behind it -/
def tab : List (List UInt8 × Nat × Nat) :=
  [([109, 97, 107, 101], 1, 0), ([109, 107, 100, 105, 114], 1, 0), ([114, 101, 109, 111, 118, 101], 1, 0), ([114, 101, 110, 97, 109, 101], 2, 0), ([112, 117, 116], 1, 2), ([103, 101, 116], 1, 0), ([108, 105, 115, 116], 1, 0), ([115, 116, 97, 116], 1, 0),
   ([111, 112, 101, 110], 1, 1), ([114, 101, 97, 100], 0, 2), ([119, 114, 105, 116, 101], 0, 3), ([115, 101, 101, 107], 0, 2), ([99, 117, 116], 0, 2), ([99, 108, 111, 115, 101], 0, 1), ([97, 100, 100], 2, 2), ([98, 111, 111, 116], 0, 0), ([98, 108, 101, 115, 115], 0, 0),
   ([98, 97, 100], 1, 0), ([100, 114, 111, 112], 1, 0), ([99, 111, 108, 108, 101, 99, 116], 0, 1), ([116, 114, 101, 101], 0, 0), ([114, 111, 111, 109], 0, 0), ([97, 117, 100, 105, 116], 0, 0), ([102, 117, 115, 101], 0, 1), ([112, 111, 119, 101, 114], 0, 0), ([99, 104, 101, 99, 107], 0, 0)]
def row (k : Nat) : List UInt8 × Nat × Nat := (([], 0, 0) :: tab).getD k ([], 0, 0)
/-- A word's kind; 0: it is none. -/
def kindOf (w : List UInt8) : Nat := match tab.findIdx? fun r => r.1 == w with
  | some i => i + 1
  | none => 0
def form (k : Nat) : List UInt8 := ((List.range (row k).2.1).map fun i => UInt8.ofNat (65 + i)) ++ List.replicate (row k).2.2 110
theorem tab_len : tab.length = 26 := by decide
theorem row_bounds : ∀ k, (row k).2.1 ≤ 2 ∧ (row k).2.2 ≤ 3 := by
  intro k
  by_cases h : k < 27
  · have : ∀ k < 27, (row k).2.1 ≤ 2 ∧ (row k).2.2 ≤ 3 := by decide
    exact this k h
  · have : row k = ([], 0, 0) := by unfold row; rw [List.getD_eq_getElem?_getD, List.getElem?_eq_none (by simp [tab_len]; omega)]; rfl
    rw [this]; simp
structure Cm where
  kind : Nat
  a : List UInt8
  b : List UInt8
  n : Nat
  m : Nat
  k : Nat
  deriving DecidableEq
def zeroC : Cm := ⟨0, [], [], 0, 0, 0⟩
/-- The command of words. -/
def readC (l : List (List UInt8)) : Option Cm :=
  let k := kindOf (l.getD 0 [])
  let ts := (l.drop 1).take (row k).2.1
  let ns := (l.drop 1).drop (row k).2.1
  if k = 0 ∨ l.length ≠ 1 + ((row k).2.1 + (row k).2.2) ∨ (ts.all txtB && ns.all numB) = false then none
  else some ⟨k, ts.getD 0 [], ts.getD 1 [], (ns.map numV).getD 0 0, (ns.map numV).getD 1 0, (ns.map numV).getD 2 0⟩
def parseC (s : List UInt8) : Int × Cm :=
  if 300 < s.length then (2, zeroC) else match readC (pcs 32 s) with
    | some c => (0, c)
    | none => (3, zeroC)
end Go.Proofs.YtfimhkijacamoaaDoor.CSpec
