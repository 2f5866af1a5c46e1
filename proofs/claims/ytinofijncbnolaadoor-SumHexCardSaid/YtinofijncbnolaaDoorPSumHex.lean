/- SumHex, the plain part: a digest is printed and read again. -/
import Derived.Test.YtinofijncbnolaaDoorSEv
import Derived.Test.YtinofijncbnolaaDoorVx3
import Derived.DataShut
set_option linter.unusedVariables false
set_option linter.unusedSimpArgs false
namespace Go.Proofs.YtinofijncbnolaaDoor.Pure
open Go.RowKit (wrap64)
open Go Go.Proofs.YtinofijncbnolaaDoorW.PrintWords Go.Proofs.YtinofijncbnolaaDoorW.PrintLast Go.Proofs.YtinofijncbnolaaDoorW.PrintMore Go.Proofs.YtinofijncbnolaaDoor.V Go.Proofs.YtinofijncbnolaaDoor.St Go.Proofs.YtinofijncbnolaaDoor.Sm Go.Proofs.YtinofijncbnolaaDoor.Hex Go.Proofs.YtinofijncbnolaaDoor.Sev
theorem unh_hex (U : Nat) (hU : U < 18446744073709551616) : unhV (lowd 16 U) = ((U : Int), true) := by
  unfold unhV
  rw [if_pos (lowd_len 16 U), unh_low, Nat.zero_mul, Nat.zero_add, Nat.mod_eq_of_lt (by omega)]
theorem SumHex : credenzalaw2_SumHex.Pure := by
  intro a0 a1 h0 h1
  have hw := (Lit.wf_int_iff .u64 a0).1 h0
  have hw' : 0 ≤ a0 ∧ a0 ≤ 18446744073709551615 := hw
  obtain ⟨U, rfl⟩ := Int.eq_ofNat_of_zero_le hw'.1
  have hU : U < 18446744073709551616 := by omega
  obtain ⟨l, rfl⟩ := of_st a1
  apply Ev.rounds
  unfold credenzalaw2_SumHex.f
  refine Ev.congr (fun k => by rw [hex_f U hU, Option.bind_some] <;> rfl) ?_
  refine Ev.bind (unhex_ev (lowd 16 U)) ?_
  rw [unh_hex U hU]
  refine Ev.bind (unhex_ev l) ?_
  refine Ev.bind (runhex_ev l) ?_
  refine Ev.bind (rhex_ev U hU) ?_
  refine Ev.congr (fun k => by rw [if_pos rfl, if_pos (by rw [st_size, lowd_len]; rfl), if_pos rfl, if_pos rfl, if_pos rfl, if_pos (by simp)] <;> rfl) ?_
  exact Ev.bind awake_ev (Ev.now _)
end Go.Proofs.YtinofijncbnolaaDoor.Pure
