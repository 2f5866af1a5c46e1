/- The walk of SumTells: out of its calls. -/
import Derived.Test.YtinofijncbnolaaDoorPSumTells
import Derived.Test.YtinofijncbnolaaDoorSOpen
import Derived.Test.YtinofijncbnolaaDoorVx8
import Derived.WalkArith
import Derived.DataShut
set_option linter.unusedVariables false
namespace Go.Proofs.YtinofijncbnolaaDoor.ST
open Go Go.RowKit Go.Proofs.YtinofijncbnolaaDoorW.PrintWords Go.Proofs.YtinofijncbnolaaDoorW.PrintLast Go.Proofs.YtinofijncbnolaaDoorW.PrintMore Go.Proofs.YtinofijncbnolaaDoor.V
theorem bytes_of {l : List Int} (h : ∀ n ∈ l, (Lit.int .u8 n).wf = true) : Pure.Bytes l := fun n hn => by
  have h2 : 0 ≤ n ∧ n ≤ 255 := (Lit.wf_int_iff .u8 n).1 (h n hn)
  exact ⟨h2.1, by omega⟩
theorem credenzalaw2_SumTells.walk (P : ∀ (x : List Int) (L : List (List Int)), Pure.Bytes x → (∀ y ∈ L, Pure.Bytes y) → ∃ k, credenzalaw2_SumTells.f k x L = some true) (a0 : Option Addr) (len0 cap0 : Nat) (z0 : List Int) (a1 : Option Addr) (cap1 : Nat) (L1 : List (List Int)) (w : World) (hG : Hex.GW w) (w0 : (a0 = none ∧ len0 = 0 ∧ cap0 = 0 ∧ z0 = []) ∨ ∃ x, a0 = some x ∧ len0 ≤ cap0 ∧ cap0 ≤ maxLen ∧ z0.length = cap0 ∧ (∀ i, i < z0.length → w.cell? (x.add i) = some (.int .u8 (z0.getD i 0))) ∧ ∀ n ∈ z0, (Lit.int .u8 n).wf = true) (y0 : len0 * 1 ≤ 140737488351232) (hl1 : L1.length ≤ cap1) (hC1 : Kd.C (Kd.slice 5 (Kd.int .u8)) w a1 L1.length L1) (hw1 : ∀ y ∈ L1, ∀ n ∈ y, (Lit.int .u8 n).wf = true) :
    Calls Tryd.prog 6 #[.slice a0 len0 cap0, .slice a1 L1.length cap1] w fun e w' => e = .returned (.bool true) ∧ Below w.heap.size w w' := by
  obtain ⟨l, rfl, hr, hm, hw, hc⟩ := ReadsInt.ofRowC w0
  obtain ⟨k, h⟩ := P l L1 (bytes_of hw) (fun y hy => bytes_of (hw1 y hy))
  exact V.credenzalaw2_SumTells.calls k a0 cap0 l a1 cap1 L1 true w hG (Kd.C_of_reads (d := (0 : Int)) (h1 := fun _ => rfl) hr) hc hC1 hl1 h
end Go.Proofs.YtinofijncbnolaaDoor.ST
