/- fault.New by what it makes; a number's text; what a row of texts grows by. -/
import Derived.Test.YtcgkadfgojmmlaaDoorEErr2
import Derived.Test.YtcgkadfgojmmlaaDoorShelf
import Derived.Lib.ItoaMem
import Derived.Lib.ItoaLen
set_option linter.unusedVariables false
set_option linter.unusedSimpArgs false
set_option maxRecDepth 10000
set_option maxHeartbeats 4000000
namespace Go.Proofs.YtcgkadfgojmmlaaDoor.EErr
open Go Go.RowKit Go.Proofs.YtcgkadfgojmmlaaDoor Go.Proofs.YtcgkadfgojmmlaaDoor.Abs Go.Proofs.YtcgkadfgojmmlaaDoor.Ic Go.Proofs.YtcgkadfgojmmlaaDoor.EAs
theorem CallW.ofk {f : FuncId} {args : List AV} {H : AH} {Q Q' : AV → AH → Prop} {m : MarkQ H Q'} (h : ACall Tryd.prog f args H Q) (hq : ∀ v H', Q v H' → H'.ok → Q' v H') : CallW Tryd.prog f args H Q' m :=
  ⟨h.1, fun j w cargs hr hv => (h.2 j w cargs hr hv).mono fun e w' ⟨v, vc, j', H', he, q, hp, hvr⟩ => ⟨v, vc, j', H', he, hq v H' q hp.rel.ok, hp, hvr⟩⟩
theorem ENewC (op name : List UInt8) {n : Int} (hn : n ≠ 0) (H : AH) :
    ACall Tryd.prog 37 [.str op, .str name, .int .i64 n] H (fun v H' => H.keepsAll H' ∧ H.next ≤ H'.next ∧ ∃ f : Fl, f.op = op ∧ f.name = name ∧ v = .iface 74 (.ptr f.b 0) ∧ Chain H' v [f] (some n)) :=
  acall_ok (ENew op name n H).1 fun hok => (ENew op name n H).mono fun v H' h => by
    rw [if_neg hn] at h
    obtain ⟨rfl, rfl⟩ := h
    exact ⟨keeps_new hok (AH.keepsAll_refl _) (Nat.le_refl _), by simp, ⟨H.next, op, name⟩, rfl, rfl, rfl, Chain.wrap hok (.num n)⟩
theorem itoa (i : Nat) (hi : i < 100) (H : AH) : ACall Tryd.prog 38 [.int .i64 (i : Int)] H fun v H' => v = .str (Lib.itoa (i : Int)) ∧ H' = H := by
  refine acall_lib (by kernel_rfl) fun j w cargs hr hv => ?_
  obtain ⟨c1, rfl, h2⟩ := hv.int1
  obtain rfl := h2.nil_right
  refine ⟨_, .str' _, (Tryd.strconv_Itoa_small i hi w).mono ?_⟩
  rintro e w' ⟨rfl, rfl⟩
  rw [Lib.itoa_nonneg]
  exact ⟨rfl, Below.refl _ _⟩
end Go.Proofs.YtcgkadfgojmmlaaDoor.EErr
