/- ConfFaults: the plain part: what the texts with one wrong line are read as. No condition. -/
import Derived.Test.YtkehijlgbfjmkaaGreatDoorKLParses
set_option linter.unusedVariables false
set_option linter.unusedSimpArgs false
set_option maxRecDepth 100000
set_option maxHeartbeats 4000000
namespace Go.Proofs.YtkehijlgbfjmkaaGreatDoor.KW
open Go Go.RowKit Go.Proofs.YtkehijlgbfjmkaaGreatDoor Go.Proofs.YtkehijlgbfjmkaaGreatDoor.Abs Go.Proofs.YtkehijlgbfjmkaaGreatDoor.Ic Go.Proofs.YtkehijlgbfjmkaaGreatDoor.St Go.Proofs.YtkehijlgbfjmkaaGreatDoor.EAs Go.Proofs.YtkehijlgbfjmkaaGreatDoor.EErr
def fzer : List UInt8 := [48, 48, 48, 48, 48, 48, 48, 48, 48, 48, 48, 48, 48, 48, 48, 48]
def fl1 : List UInt8 := [118, 101, 114, 115, 105, 111, 110, 32, 49]
def fl2 : List UInt8 := [107, 101, 114, 110, 101, 108, 32, 107, 32] ++ fzer
def fl3 : List UInt8 := [111, 112, 116, 105, 111, 110, 115, 32, 113, 117, 105, 101, 116]
def flX (i : Nat) : List UInt8 := [101, 120, 116, 114, 97, 32, 120] ++ Lib.itoa (i : Int) ++ [32] ++ fzer
def fls (n : Nat) : List (List UInt8) := [fl1, fl2, fl3] ++ (List.range n).map flX
def fbad : List (List UInt8) := [[118, 101, 114, 115, 105, 111, 110], [110, 111, 110, 115, 101, 110, 115, 101, 32, 49], [101, 120, 116, 114, 97, 32, 97, 32, 49, 50], [101, 120, 116, 114, 97, 32, 97, 47, 98, 32] ++ fzer, [111, 112, 116, 105, 111, 110, 115, 32, 32, 120],
  [111, 112, 116, 105, 111, 110, 115, 32], [107, 101, 114, 110, 101, 108, 32, 107], [118, 101, 114, 115, 105, 111, 110, 32, 97, 32, 98], [32, 118, 101, 114, 115, 105, 111, 110, 32, 49], [101, 120, 116, 114, 97, 32, 32, 97, 32] ++ fzer]
def ftx (ls : List (List UInt8)) : List UInt8 := ls.flatMap (· ++ [10])
def fput (n at_ b : Nat) : List UInt8 := ftx ((fls n).take at_ ++ [fbad.getD b []] ++ (fls n).drop at_)
theorem fput_bad : ∀ n : Fin 8, ∀ b : Fin 10, ∀ a : Fin 11, a.val ≤ n.val + 3 → (parseS (fput n a b)).1 = 30 ∧ (parseS (fput n a b)).2.1 = a + 1 := by decide +kernel
theorem ftwice : ∀ n : Fin 8, ∀ k : Fin 3, (parseS (ftx (fls n) ++ (fls n).getD k [])).1 = 30 ∧ (parseS (ftx (fls n) ++ (fls n).getD k [])).2.1 = n + 4 := by decide +kernel
theorem fgood : ∀ n : Fin 8, (parseS (ftx (fls n))).1 = 0 := by decide +kernel
def fS (n a b : Nat) : Nat → List UInt8
  | 0 => []
  | i + 1 => fS n a b i ++ (if i = a then fbad.getD b [] ++ [10] else []) ++ (match (fls n)[i]? with | some l => l ++ [10] | none => [])
theorem ftx_app (x y : List (List UInt8)) : ftx (x ++ y) = ftx x ++ ftx y := List.flatMap_append
theorem ftx_opt (o : Option (List UInt8)) : (match o with | some l => l ++ [10] | none => []) = ftx o.toList := by
  cases o <;> simp [ftx]
theorem fS_1 (n a b : Nat) : ∀ i, i ≤ a → fS n a b i = ftx ((fls n).take i)
  | 0, _ => by simp [fS, ftx]
  | i + 1, h => by
    rw [fS, fS_1 n a b i (by omega), if_neg (by omega), List.append_nil, ftx_opt, List.take_add_one, ftx_app]
theorem fS_2 (n a b : Nat) : ∀ j, fS n a b (a + 1 + j) = ftx ((fls n).take a ++ [fbad.getD b []] ++ ((fls n).drop a).take (j + 1))
  | 0 => by
    rw [show a + 1 + 0 = a + 1 by omega, fS, fS_1 n a b a (by omega), if_pos rfl, ftx_opt, List.take_add_one, List.take_zero, List.nil_append, List.getElem?_drop, Nat.add_zero, ftx_app, ftx_app]
    simp [ftx]
  | j + 1 => by
    rw [show a + 1 + (j + 1) = (a + 1 + j) + 1 by omega, fS, fS_2 n a b j, if_neg (by omega), List.append_nil, ftx_opt, List.take_add_one (i := j + 1), List.getElem?_drop, show a + (j + 1) = a + 1 + j by omega, ← ftx_app, List.append_assoc]
theorem fls_len (n : Nat) : (fls n).length = n + 3 := by simp [fls]
theorem fS_end {n a b : Nat} (h : a ≤ n + 3) : fS n a b (n + 4) = fput n a b := by
  rw [show n + 4 = a + 1 + (n + 3 - a) by omega, fS_2, List.take_of_length_le (l := (fls n).drop a) (by rw [List.length_drop, fls_len]; omega)]
  rfl
theorem fT_end (n : Nat) (hn : n < 8) : fS n 100 0 (n + 3) = ftx (fls n) := by
  rw [fS_1 _ _ _ _ (by omega), List.take_of_length_le (by rw [fls_len]; omega)]
theorem fl_small : ∀ n : Fin 8, ∀ l ∈ fls n, l.length ≤ 60 := by decide +kernel
theorem fbad_small : ∀ b : Fin 10, (fbad.getD b []).length ≤ 60 := by decide +kernel
theorem fS_len {n a b : Nat} (hn : n < 8) (hb : b < 10) : ∀ i, (fS n a b i).length ≤ 200 * i
  | 0 => by simp [fS]
  | i + 1 => by
    have ih := fS_len hn hb (a := a) i
    have h1 := fbad_small ⟨b, hb⟩
    dsimp only at h1
    rw [fS, List.length_append, List.length_append]
    have e1 : (if i = a then fbad.getD b [] ++ [10] else []).length ≤ 61 := by
      split
      · rw [List.length_append, List.length_singleton]; omega
      · simp
    have e2 : (match (fls n)[i]? with | some l => l ++ [10] | none => []).length ≤ 61 := by
      cases h : (fls n)[i]? with
      | none => simp
      | some l =>
        have := fl_small ⟨n, hn⟩ l (List.mem_of_getElem? h)
        simp
        omega
    omega
theorem fls_succ (n : Nat) : fls (n + 1) = fls n ++ [flX n] := by
  unfold fls
  rw [List.range_succ, List.map_append, List.append_assoc]
  rfl
end Go.Proofs.YtkehijlgbfjmkaaGreatDoor.KW
