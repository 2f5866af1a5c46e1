/- A number's text, of any number: the table of tens is there. -/
import Derived.Test.YtcgkadfgojmmlaaDoorDNew
import Derived.Lib.ItoaMem
import Derived.Lib.ItoaLen
import Derived.Lib.SmallJoins
import Derived.Lib.AppendIntMem
set_option linter.unusedVariables false
set_option linter.unusedSimpArgs false
set_option maxRecDepth 10000
set_option maxHeartbeats 4000000
namespace Go.Proofs.YtcgkadfgojmmlaaDoor.EErr
open Go Go.RowKit Go.Proofs.YtcgkadfgojmmlaaDoor Go.Proofs.YtcgkadfgojmmlaaDoor.Abs Go.Proofs.YtcgkadfgojmmlaaDoor.Ic Go.Proofs.YtcgkadfgojmmlaaDoor.EAs
/-! ### Numbers -/
theorem belowN (w : World) (n : Nat) : Below w.heap.size w (w.drewN n) := ⟨rfl, rfl, rfl, Nat.le_refl _, fun _ _ => rfl⟩
open Go.Lib Go.Sort in
theorem below_grow {w W : World} (h : Below w.heap.size w W) (os : Array Obj) : Below w.heap.size w (grow W os) := by
  have h2 := Lib.below_grow w.heap.size W h.size 0 os
  exact h.trans h2
def powTab : AObj := .cells true 131 (Lib.pow10Tab.map fun z => .int .u64 z)
theorem tab_of {j : Inj} {H : AH} {w : World} (hr : Rel Tryd.prog j H w) (h : H.at_ 1 = some powTab) : Lib.TabIs Tryd.prog w "internal/strconv.uint64pow10" .u64 Lib.pow10Tab := by
  obtain ⟨c, x, hc, hx, ho⟩ := hr.obj 1 _ h
  have hg := hr.glob 1 (of_decide_eq_true (by kernel_rfl))
  have hz : gsz Tryd.prog 1 = 20 := by kernel_rfl
  rw [hg, hz] at hc
  have e1 : c = 1 := by injection hc with e; injection e with e _; exact e.symm
  have e2 : csize x = 20 := by injection hc with e; injection e with _ e; exact e.symm
  subst e1
  have hn : Tryd.prog.globalNamed "internal/strconv.uint64pow10" = some 1 := by kernel_rfl
  cases x with
  | cells cs t fz =>
    simp only [powTab, ORel] at ho
    unfold Lib.TabIs World.var?
    rw [hn, Option.bind_some, hx]
    simp only [csize] at e2
    refine congrArg some ?_
    apply Array.ext
    · rw [e2]; simp; rfl
    · intro i h1 h2
      have hi : i < Lib.pow10Tab.length := by simpa using h2
      have := ho.2.2.1 i (.int .u64 Lib.pow10Tab[i]) cs[i] (by simp [hi]) (Array.getElem?_eq_getElem h1)
      generalize hv : cs[i] = y at this
      cases this
      simp
  | _ => simp only [powTab, ORel] at ho
/-- Either the number is small, or the table of tens is there. -/
def ItoaOk (H : AH) (n : Int) : Prop := (∃ i : Nat, i < 100 ∧ n = (i : Int)) ∨ (H.at_ 1 = some powTab ∧ -9223372036854775808 ≤ n ∧ n ≤ 9223372036854775807)
theorem ItoaOk.keeps {H H' : AH} {n : Int} (hk : H.keepsAll H') (h : ItoaOk H n) : ItoaOk H' n := by
  rcases h with h | ⟨h1, h2⟩
  · exact .inl h
  · exact .inr ⟨hk _ _ h1, h2⟩
theorem itoaAny (n : Int) (H : AH) (h : ItoaOk H n) : ACall Tryd.prog 38 [.int .i64 n] H fun v H' => v = .str (Lib.itoa n) ∧ H' = H := by
  refine acall_lib (by kernel_rfl) fun j w cargs hr hv => ?_
  obtain ⟨c1, rfl, h2⟩ := hv.int1
  obtain rfl := h2.nil_right
  rcases h with ⟨i, hi, rfl⟩ | ⟨ht, h0, h1⟩
  · refine ⟨_, .str' _, (Tryd.strconv_Itoa_small i hi w).mono ?_⟩
    rintro e w' ⟨rfl, rfl⟩
    rw [Lib.itoa_nonneg]
    exact ⟨rfl, Below.refl _ _⟩
  · refine ⟨_, .str' _, (Tryd.strconv_Itoa n h0 h1 w (tab_of hr ht)).mono ?_⟩
    rintro e w' ⟨rfl, k, os, rfl⟩
    exact ⟨rfl, below_grow (belowN w k) os⟩
end Go.Proofs.YtcgkadfgojmmlaaDoor.EErr
