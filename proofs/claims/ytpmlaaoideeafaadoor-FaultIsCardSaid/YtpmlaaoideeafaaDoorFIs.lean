/- FaultIs, worked out. -/
import Derived.Test.YtpmlaaoideeafaaDoorEAwake
import Derived.Test.YtpmlaaoideeafaaDoorELaid
import Derived.Test.YtpmlaaoideeafaaDoorSt
set_option linter.unusedVariables false
set_option linter.unusedSimpArgs false
set_option maxRecDepth 10000
set_option maxHeartbeats 4000000
namespace Go.Proofs.YtpmlaaoideeafaaDoor.FIs
open Go Go.RowKit Go.Proofs.YtpmlaaoideeafaaDoor Go.Proofs.YtpmlaaoideeafaaDoor.Abs Go.Proofs.YtpmlaaoideeafaaDoor.Ic Go.Proofs.YtpmlaaoideeafaaDoor.EAs Go.Proofs.YtpmlaaoideeafaaDoor.EErr
def II (d : Nat) (n m : Int) (H : AH) (k : Nat) (tm : Tms) (H' : AH) : Prop :=
  H.keepsAll H' ∧ H.next ≤ H'.next ∧ H'.ok ∧ ∃ (i : Nat) (e : AV), k = d - i ∧ 1 ≤ i ∧ i ≤ d ∧ tm 0 = .int .i64 (d : Int) ∧ tm 1 = .int .i64 n ∧ tm 2 = .int .i64 m ∧ tm 8 = .int .i64 (i : Int) ∧ tm 7 = e ∧
    (n = 0 ∧ e = .nilIface ∨ n ≠ 0 ∧ ∃ f l, e = .iface 43 (.ptr f.b 0) ∧ (f :: l).length = i ∧ Chain H' e (f :: l) (some n))
theorem Law (depth n m : Int) (H : AH) (hE : loadC H 0 0 none = some (rt tErr)) : ACall Tryd.prog 3 [.int .i64 depth, .int .i64 n, .int .i64 m] H (fun v H' => v = .bool true ∧ H' = H) := by
  refine acall_enter fits3 (by simp) (by simp) fun hok => ?_
  obtain ⟨x, hx, hx9⟩ := St.mask_mod depth 30 (by omega)
  have hx' : (bits .and .i64 depth 255).tmod 30 = (x : Int) := hx
  obtain ⟨d, hd⟩ : ∃ d : Nat, d = x + 1 := ⟨_, rfl⟩
  have hd' : (x : Int) + 1 = (d : Int) := by omega
  by_cases hn : n = 0
  · subst hn
    simp (disch := first | omega | (simp; done) | assumption) [wr64, wrU8, wrU64, Nat.add_assoc, -getElem?_pos, List.getElem?_cons_zero, List.getElem?_cons_succ, ic3, rs3, hx', hd']
    refine CallW.val (ENew0 _ _ _) ?_
    simp (disch := first | omega | (simp; done) | assumption) [wr64, wrU8, wrU64, Nat.add_assoc, -getElem?_pos, List.getElem?_cons_zero, List.getElem?_cons_succ, hx', hd']
    refine iwp_loop (II d 0 m H) (d - 1) ⟨AH.keepsAll_refl _, Nat.le_refl _, hok, 1, .nilIface, rfl, Nat.le_refl _, by omega, by simp, by simp, by simp, by simp, by simp, .inl ⟨rfl, rfl⟩⟩ ?_
    rintro k tm H1 ⟨hk, hnx, hok1, i, e, rfl, hi1, hid, t0, t1, t2, t8, t7, hc⟩
    rcases hc with ⟨_, rfl⟩ | ⟨h0, _⟩
    · by_cases hlt : i < d
      · simp (disch := first | omega | (simp; done) | assumption) [wr64, wrU8, wrU64, Nat.add_assoc, -getElem?_pos, List.getElem?_cons_zero, List.getElem?_cons_succ, t0, t1, t2, t7, t8, hlt]
        refine CallW.val (EWrap_nil _ _ _) ?_
        simp (disch := first | omega | (simp; done) | assumption) [wr64, wrU8, wrU64, Nat.add_assoc, -getElem?_pos, List.getElem?_cons_zero, List.getElem?_cons_succ, t0, t1, t2, t7, t8]
        exact ⟨d - (i + 1), by omega, hk, hnx, hok1, i + 1, .nilIface, rfl, by omega, by omega, by simp [t0], by simp [t1], by simp [t2], by simp, by simp, .inl ⟨rfl, rfl⟩⟩
      · simp (disch := first | omega | (simp; done) | assumption) [wr64, wrU8, wrU64, Nat.add_assoc, -getElem?_pos, List.getElem?_cons_zero, List.getElem?_cons_succ, t0, t1, t2, t7, t8, hlt]
        refine CallW.val (EDepth (l := []) .nil (by simp)) ?_
        simp (disch := first | omega | (simp; done) | assumption) [wr64, wrU8, wrU64, Nat.add_assoc, -getElem?_pos, List.getElem?_cons_zero, List.getElem?_cons_succ, t0, t1, t2, t7, t8]
        refine CallW.val (Awake (loadC_keeps hk hE)) ?_
        simp (disch := first | omega | (simp; done) | assumption) [wr64, wrU8, wrU64, Nat.add_assoc, -getElem?_pos, List.getElem?_cons_zero, List.getElem?_cons_succ, t0, t1, t2, t7, t8]
        exact hk
    · exact absurd rfl h0
  · simp (disch := first | omega | (simp; done) | assumption) [wr64, wrU8, wrU64, Nat.add_assoc, -getElem?_pos, List.getElem?_cons_zero, List.getElem?_cons_succ, ic3, rs3, hx', hd']
    refine CallW.ofk (ENewC _ _ hn _) ?_
    rintro v0 H0 ⟨hk0, hn0, f0, ho0, hm0, rfl, hc0⟩ hok0
    simp only [newO_none] at hk0 hn0
    simp (disch := first | omega | (simp; done) | assumption) [wr64, wrU8, wrU64, Nat.add_assoc, -getElem?_pos, List.getElem?_cons_zero, List.getElem?_cons_succ, hx', hd']
    refine iwp_loop (II d n m H) (d - 1) ⟨hk0, hn0, hok0, 1, _, rfl, Nat.le_refl _, by omega, by simp, by simp, by simp, by simp, by simp, .inr ⟨hn, f0, [], rfl, rfl, hc0⟩⟩ ?_
    rintro k tm H1 ⟨hk, hnx, hok1, i, e, rfl, hi1, hid, t0, t1, t2, t8, t7, hc⟩
    rcases hc with ⟨h0, _⟩ | ⟨_, f, l, rfl, hl, hc⟩
    · exact absurd h0 hn
    · by_cases hlt : i < d
      · simp (disch := first | omega | (simp; done) | assumption) [wr64, wrU8, wrU64, Nat.add_assoc, -getElem?_pos, List.getElem?_cons_zero, List.getElem?_cons_succ, t0, t1, t2, t7, t8, hlt]
        refine CallW.ofk (EWrapC _ _ hc (by simp)) ?_
        rintro v2 H2 ⟨hk2, hn2, f2, ho2, hm2, rfl, hc2⟩ hok2
        simp only [newO_none] at hk2 hn2
        simp (disch := first | omega | (simp; done) | assumption) [wr64, wrU8, wrU64, Nat.add_assoc, -getElem?_pos, List.getElem?_cons_zero, List.getElem?_cons_succ, t0, t1, t2, t7, t8]
        exact ⟨d - (i + 1), by omega, fun x o hx => hk2 x o (hk x o hx), by omega, hok2, i + 1, _, rfl, by omega, by omega, by simp [t0], by simp [t1], by simp [t2], by simp, by simp, .inr ⟨hn, f2, f :: l, rfl, by simp at hl ⊢; omega, hc2⟩⟩
      · obtain rfl : i = d := by omega
        have hE1 := loadC_keeps hk hE
        have hnum : numOf (.iface 43 (.ptr f.b 0)) (some n) = n := rfl
        obtain ⟨e', hu, hc3⟩ := EUnwrap hc
        have hll : ((f :: l).length : Int) = (i : Int) := by omega
        have hl2 : (l.length : Int) = (i : Int) - 1 := by simp at hl; omega
        simp (disch := first | omega | (simp; done) | assumption) [wr64, wrU8, wrU64, Nat.add_assoc, -getElem?_pos, List.getElem?_cons_zero, List.getElem?_cons_succ, t0, t1, t2, t7, t8, hlt, hn]
        refine CallW.val (EIs n hc) ?_
        simp (disch := first | omega | (simp; done) | assumption) [wr64, wrU8, wrU64, Nat.add_assoc, -getElem?_pos, List.getElem?_cons_zero, List.getElem?_cons_succ, t0, t1, t2, t7, t8]
        refine CallW.val (EIs m hc) ?_
        by_cases hnm : n = m
        · subst hnm
          simp (disch := first | omega | (simp; done) | assumption) [wr64, wrU8, wrU64, Nat.add_assoc, -getElem?_pos, List.getElem?_cons_zero, List.getElem?_cons_succ, t0, t1, t2, t7, t8, hn]
          refine CallW.val (ENum hE1 hc) ?_
          simp (disch := first | omega | (simp; done) | assumption) [wr64, wrU8, wrU64, Nat.add_assoc, -getElem?_pos, List.getElem?_cons_zero, List.getElem?_cons_succ, t0, t1, t2, t7, t8, hnum]
          refine CallW.val (EDepth hc (by simp at hl ⊢; omega)) ?_
          rw [hll]
          simp (disch := first | omega | (simp; done) | assumption) [wr64, wrU8, wrU64, Nat.add_assoc, -getElem?_pos, List.getElem?_cons_zero, List.getElem?_cons_succ, t0, t1, t2, t7, t8]
          refine CallW.val hu ?_
          simp (disch := first | omega | (simp; done) | assumption) [wr64, wrU8, wrU64, Nat.add_assoc, -getElem?_pos, List.getElem?_cons_zero, List.getElem?_cons_succ, t0, t1, t2, t7, t8]
          refine CallW.val (EDepth hc3 (by simp at hl ⊢; omega)) ?_
          simp (disch := first | omega | (simp; done) | assumption) [wr64, wrU8, wrU64, Nat.add_assoc, -getElem?_pos, List.getElem?_cons_zero, List.getElem?_cons_succ, t0, t1, t2, t7, t8, hl2]
          refine CallW.val (Awake hE1) ?_
          simp (disch := first | omega | (simp; done) | assumption) [wr64, wrU8, wrU64, Nat.add_assoc, -getElem?_pos, List.getElem?_cons_zero, List.getElem?_cons_succ, t0, t1, t2, t7, t8]
          exact hk
        · simp (disch := first | omega | (simp; done) | assumption) [wr64, wrU8, wrU64, Nat.add_assoc, -getElem?_pos, List.getElem?_cons_zero, List.getElem?_cons_succ, t0, t1, t2, t7, t8, hn, hnm]
          refine CallW.val (ENum hE1 hc) ?_
          simp (disch := first | omega | (simp; done) | assumption) [wr64, wrU8, wrU64, Nat.add_assoc, -getElem?_pos, List.getElem?_cons_zero, List.getElem?_cons_succ, t0, t1, t2, t7, t8, hnum]
          refine CallW.val (EDepth hc (by simp at hl ⊢; omega)) ?_
          rw [hll]
          simp (disch := first | omega | (simp; done) | assumption) [wr64, wrU8, wrU64, Nat.add_assoc, -getElem?_pos, List.getElem?_cons_zero, List.getElem?_cons_succ, t0, t1, t2, t7, t8]
          refine CallW.val hu ?_
          simp (disch := first | omega | (simp; done) | assumption) [wr64, wrU8, wrU64, Nat.add_assoc, -getElem?_pos, List.getElem?_cons_zero, List.getElem?_cons_succ, t0, t1, t2, t7, t8]
          refine CallW.val (EDepth hc3 (by simp at hl ⊢; omega)) ?_
          simp (disch := first | omega | (simp; done) | assumption) [wr64, wrU8, wrU64, Nat.add_assoc, -getElem?_pos, List.getElem?_cons_zero, List.getElem?_cons_succ, t0, t1, t2, t7, t8, hl2]
          refine CallW.val (Awake hE1) ?_
          simp (disch := first | omega | (simp; done) | assumption) [wr64, wrU8, wrU64, Nat.add_assoc, -getElem?_pos, List.getElem?_cons_zero, List.getElem?_cons_succ, t0, t1, t2, t7, t8]
          exact hk
theorem FaultIs.walk (a0 a1 a2 : Int) (W : World) (hsh : W.ShapedOpen Tryd.prog) (hG : ELaid.G W) (_ : (Lit.int .i64 a0).wf = true) (_ : (Lit.int .i64 a1).wf = true) (_ : (Lit.int .i64 a2).wf = true) :
    Calls Tryd.prog 3 #[.int .i64 a0, .int .i64 a1, .int .i64 a2] W fun e W' => e = .returned (.bool true) ∧ Below W.heap.size W W' :=
  ELaid.walk hsh hG (Law a0 a1 a2 _ (ELaid.H1_err W)) (.cons (.int _ _) (.cons (.int _ _) (.cons (.int _ _) .nil)))
end Go.Proofs.YtpmlaaoideeafaaDoor.FIs
