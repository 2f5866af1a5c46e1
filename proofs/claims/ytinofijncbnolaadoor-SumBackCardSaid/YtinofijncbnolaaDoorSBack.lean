/- The walk of SumBack, whose parameter leads into what is made. -/
import Derived.Test.YtinofijncbnolaaDoorPSumBack
import Derived.Test.YtinofijncbnolaaDoorVx7
import Derived.WalkArith
set_option linter.unusedVariables false
namespace Go.Proofs.YtinofijncbnolaaDoor.SB
open Go Go.RowKit Go.Proofs.YtinofijncbnolaaDoorW.PrintWords Go.Proofs.YtinofijncbnolaaDoorW.PrintLast Go.Proofs.YtinofijncbnolaaDoorW.PrintMore Go.Proofs.YtinofijncbnolaaDoor.V
theorem shared {a : Option Addr} {len cap : Nat} {z : List Int} {w : World} (w2 : (a = none ∧ len = 0 ∧ cap = 0 ∧ z = []) ∨ ∃ x, a = some x ∧ len ≤ cap ∧ cap ≤ maxLen ∧ z.length = cap ∧ (∀ i, i < z.length → w.cell? (x.add i) = some (.int .u8 (z.getD i 0))) ∧ ∀ n ∈ z, (Lit.int .u8 n).wf = true) :
    ∃ l : List Int, len = l.length ∧ (∀ n ∈ l, (Lit.int .u8 n).wf = true) ∧ l.length ≤ cap ∧ Kd.C (Kd.int .u8) w a l.length l ∧ Kd.V (Kd.int .u8) 5 w w.heap.size (fun k_ => k_ < w.heap.size) (.slice a l.length cap) l := by
  obtain ⟨l, rfl, hr, hm, hw, hc⟩ := ReadsInt.ofRowC w2
  have hC := Kd.C_of_reads (d := (0 : Int)) (h1 := fun _ => rfl) hr
  exact ⟨l, rfl, hw, hc, hC, Kd.V_mk hc (Kd.C_F (Kd.heap_int .u8) hC)⟩
theorem credenzalaw2_SumBack.walk (P : ∀ (l : List Int), ∃ k, credenzalaw2_SumBack.f k l = some true) (a0 : Option Addr) (len0 cap0 : Nat) (z0 : List Int) (w : World) (hG : Hex.GW w) (w0 : (a0 = none ∧ len0 = 0 ∧ cap0 = 0 ∧ z0 = []) ∨ ∃ x, a0 = some x ∧ len0 ≤ cap0 ∧ cap0 ≤ maxLen ∧ z0.length = cap0 ∧ (∀ i, i < z0.length → w.cell? (x.add i) = some (.int .u8 (z0.getD i 0))) ∧ ∀ n ∈ z0, (Lit.int .u8 n).wf = true) (y0 : len0 * 1 ≤ 140737488351232) :
    Calls Tryd.prog 4 #[.slice a0 len0 cap0] w fun e w' => e = .returned (.bool true) ∧ Below w.heap.size w w' := by
  obtain ⟨l, rfl, _, _, _, hV⟩ := shared w0
  obtain ⟨k, h⟩ := P l
  exact V.credenzalaw2_SumBack.calls k _ a0 cap0 l true w hG hV h
end Go.Proofs.YtinofijncbnolaaDoor.SB
