/- NamesNumbers, worked out: the row of pairs that 'all' makes, held against itself; two numbers' texts. -/
import Derived.Test.YtppcbpcinlhgdaaDoorRows
import Derived.Test.YtppcbpcinlhgdaaDoorA21
import Derived.Test.YtppcbpcinlhgdaaDoorIc
import Derived.Test.YtppcbpcinlhgdaaDoorShelf
import Derived.Lib.ItoaMem
import Derived.Lib.ItoaLen
set_option linter.unusedVariables false
set_option linter.unusedSimpArgs false
set_option maxRecDepth 10000
set_option maxHeartbeats 4000000
namespace Go.Proofs.YtppcbpcinlhgdaaDoor.NNames
open Go Go.RowKit Go.Proofs.YtppcbpcinlhgdaaDoor Go.Proofs.YtppcbpcinlhgdaaDoor.Abs Go.Proofs.YtppcbpcinlhgdaaDoor.Ic
def xs : List Int := [0, 1, 2, 3, 5, 7, 10, 11, 12, 13, 14, 15, 16, 17, 19, 20, 21, 30, 31, 32, 33, 34, 35, 50, 65, 128, 4000, 120, 27, 6, 16, 8, 1, 2, 3, 4, 0, 1, 2, 3, 0, 1, 2, 1, 2, 3, 4, 5, 6, 7, 8, 9, 10, 11, 12, 13, 14, 15, 16, 17, 18, 19, 20, 21, 22, 23, 24, 25, 26]
def lst : List AV := xs.flatMap fun x => [.int .i64 x, .int .i64 x]
theorem All (H : AH) : ACall Tryd.prog 4 [] H (fun v H' => v = .slice H.next 0 69 2 ∧ H' = H.new (.cells false 25 lst)) := by
  refine acall_of fits4 (by simp) ?_
  have e : IWP Tryd.prog ic4 (fnPost rs4 fun v H' => v = .slice H.next 0 69 2 ∧ H' = H.new (.cells false 25 lst)) (tm0 []) H = (∃ v, some (AV.slice H.next 0 69 2) = some v ∧ (v = .slice H.next 0 69 2 ∧ H.new (.cells false 25 lst) = H.new (.cells false 25 lst))) := by kernel_rfl
  rw [e]
  exact ⟨_, rfl, rfl, rfl⟩
def same (i : Nat) : Bool := match lst[i * 2]?, lst[i * 2 + 1]? with
  | some (.int .i64 a), some (.int .i64 b) => decide (a = b)
  | _, _ => false
theorem all_same : (List.range 69).all same = true := by kernel_rfl
theorem at_i {i : Nat} (h : i < 69) : ∃ x : Int, lst[i * 2]? = some (.int .i64 x) ∧ lst[i * 2 + 1]? = some (.int .i64 x) := by
  have := List.all_eq_true.1 all_same i (by simpa using h)
  unfold same at this
  split at this
  · rename_i a b h1 h2
    have hab : a = b := by simpa using this
    subst hab
    exact ⟨a, h1, h2⟩
  · cases this
theorem itoa (i : Nat) (hi : i < 100) (H : AH) : ACall Tryd.prog 6 [.int .i64 (i : Int)] H fun v H' => v = .str (Lib.itoa (i : Int)) ∧ H' = H := by
  refine acall_lib (by kernel_rfl) fun j w cargs hr hv => ?_
  obtain ⟨c1, rfl, h2⟩ := hv.int1
  obtain rfl := h2.nil_right
  refine ⟨_, .str' _, (Tryd.strconv_Itoa_small i hi w).mono ?_⟩
  rintro e w' ⟨rfl, rfl⟩
  rw [Lib.itoa_nonneg]
  exact ⟨rfl, Below.refl _ _⟩
def errS (n : Int) : List UInt8 := [101, 114, 114, 111, 114, 32] ++ Lib.itoa n
theorem EError (i : Nat) (hi : i < 100) (H : AH) : ACall Tryd.prog 5 [.int .i64 (i : Int)] H fun v H' => v = .str (errS (i : Int)) ∧ H' = H := by
  refine acall_enter fits5 (by simp) (by simp) fun hok => ?_
  have hl : (Lib.itoa (i : Int)).length ≤ 21 := Lib.itoa_length_le (i : Int) (by omega) (by omega)
  simp (disch := first | omega | (simp; done) | assumption) [wr64, wrU8, wrU64, Nat.add_assoc, -getElem?_pos, List.getElem?_cons_zero, List.getElem?_cons_succ, ic5, rs5]
  refine CallW.val (itoa i hi _) ?_
  simp (disch := first | omega | (simp; done) | assumption) [wr64, wrU8, wrU64, Nat.add_assoc, -getElem?_pos, List.getElem?_cons_zero, List.getElem?_cons_succ, ]
  refine Try.guard (by omega) ?_
  simp (disch := first | omega | (simp; done) | assumption) [wr64, wrU8, wrU64, Nat.add_assoc, -getElem?_pos, List.getElem?_cons_zero, List.getElem?_cons_succ, errS]
  exact AH.keepsAll_refl _
def NI (H : AH) (k : Nat) (tm : Tms) (H' : AH) : Prop := H' = H.new (.cells false 25 lst) ∧ ∃ i : Nat, k = 69 - i ∧ i ≤ 69 ∧ tm 1 = .slice H.next 0 69 2 ∧ tm 2 = .int .i64 (i : Int)
theorem Law (H : AH) : ACall Tryd.prog 3 [] H (fun v H' => v = .bool true ∧ H' = H) := by
  refine acall_enter fits3 (by simp) (by simp) fun hok => ?_
  have h65 : errS 65 = [101, 114, 114, 111, 114, 32, 54, 53] := by decide +kernel
  have h0 : errS 0 = [101, 114, 114, 111, 114, 32, 48] := by decide +kernel
  have hlen : lst.length = 138 := by kernel_rfl
  simp (disch := first | omega | (simp; done) | assumption) [wr64, wrU8, wrU64, Nat.add_assoc, -getElem?_pos, List.getElem?_cons_zero, List.getElem?_cons_succ, ic3, rs3]
  refine CallW.of (All _) ?_
  rintro v H1 ⟨rfl, rfl⟩
  have hk : H.keepsAll (H.new (.cells false 25 lst)) := keeps_new hok (AH.keepsAll_refl _) (Nat.le_refl _)
  simp (disch := first | omega | (simp; done) | assumption) [wr64, wrU8, wrU64, Nat.add_assoc, -getElem?_pos, List.getElem?_cons_zero, List.getElem?_cons_succ, ]
  refine iwp_loop (NI H) 69 ⟨rfl, 0, rfl, by omega, by simp, by simp⟩ ?_
  rintro k tm Hx ⟨rfl, i, rfl, hi, t1, t2⟩
  by_cases hlt : i < 69
  · obtain ⟨x, g1, g2⟩ := at_i hlt
    have hlt' : (i : Int) < 69 := by omega
    simp (disch := first | omega | (simp; done) | assumption) [wr64, wrU8, wrU64, Nat.add_assoc, -getElem?_pos, List.getElem?_cons_zero, List.getElem?_cons_succ, t1, t2, hlt', g1, g2]
    exact ⟨69 - (i + 1), by omega, rfl, i + 1, rfl, by omega, by simp [t1], by simp⟩
  · have hlt' : ¬ ((i : Int) < 69) := by omega
    simp (disch := first | omega | (simp; done) | assumption) [wr64, wrU8, wrU64, Nat.add_assoc, -getElem?_pos, List.getElem?_cons_zero, List.getElem?_cons_succ, t1, t2, hlt']
    refine CallW.val (show ACall Tryd.prog 5 [.int .i64 65] _ _ from EError 65 (by decide) _) ?_
    simp (disch := first | omega | (simp; done) | assumption) [wr64, wrU8, wrU64, Nat.add_assoc, -getElem?_pos, List.getElem?_cons_zero, List.getElem?_cons_succ, t1, t2, h65]
    refine CallW.val (show ACall Tryd.prog 5 [.int .i64 0] _ _ from EError 0 (by decide) _) ?_
    simp (disch := first | omega | (simp; done) | assumption) [wr64, wrU8, wrU64, Nat.add_assoc, -getElem?_pos, List.getElem?_cons_zero, List.getElem?_cons_succ, t1, t2, h0]
    exact hk
theorem NamesNumbers.walk (W : World) (hsh : W.ShapedOpen Tryd.prog) :
    Calls Tryd.prog 3 #[] W fun e W' => e = .returned (.bool true) ∧ Below W.heap.size W W' :=
  calls_true (Law (H1 W fun _ => none)) (rel1 hsh (by kernel_rfl) fun a o ht => by cases ht) .nil (H1_ro fun a o h => by cases h)
end Go.Proofs.YtppcbpcinlhgdaaDoor.NNames
