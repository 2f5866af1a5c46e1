/- FaultDeep, worked out. -/
import Derived.Test.YtpmlaaoideeafaaDoorEAwake
import Derived.Test.YtpmlaaoideeafaaDoorELaid
import Derived.Test.YtpmlaaoideeafaaDoorSt
set_option linter.unusedVariables false
set_option linter.unusedSimpArgs false
set_option maxRecDepth 10000
set_option maxHeartbeats 4000000
namespace Go.Proofs.YtpmlaaoideeafaaDoor.FDeep
open Go Go.RowKit Go.Proofs.YtpmlaaoideeafaaDoor Go.Proofs.YtpmlaaoideeafaaDoor.Abs Go.Proofs.YtpmlaaoideeafaaDoor.Ic Go.Proofs.YtpmlaaoideeafaaDoor.EAs Go.Proofs.YtpmlaaoideeafaaDoor.EErr
theorem SL.cases {H : AH} {v : AV} {xs : List AV} {n : Nat} (h : SL H v xs) (hn : xs.length = n) : n = 0 ∧ v = .snil ∨ n = 0 ∧ v = .sempty ∨ ∃ b o, v = .slice b o n 1 := by
  subst hn
  rcases h with ⟨rfl, rfl | rfl⟩ | ⟨b, o, rfl, _⟩
  · exact .inl ⟨rfl, rfl⟩
  · exact .inr (.inl ⟨rfl, rfl⟩)
  · exact .inr (.inr ⟨b, o, rfl⟩)
theorem EText_nil {H : AH} : ACall Tryd.prog 18 [.nilIface] H (fun v H' => v = .str [] ∧ H' = H) := by
  refine acall_enter fits18 (by simp) (by simp) fun hok => ?_
  simp (disch := first | omega | (simp; done) | assumption) [wr64, wrU8, wrU64, Nat.add_assoc, -getElem?_pos, List.getElem?_cons_zero, List.getElem?_cons_succ, ic18, rs18]
  exact AH.keepsAll_refl _
def II (d : Nat) (H : AH) (k : Nat) (tm : Tms) (H' : AH) : Prop :=
  H.keepsAll H' ∧ H.next ≤ H'.next ∧ H'.ok ∧ ∃ (i : Nat) (f : Fl) (l : List Fl), k = d - i ∧ 1 ≤ i ∧ i ≤ d ∧ tm 0 = .int .i64 (d : Int) ∧ tm 4 = .int .i64 (i : Int) ∧ tm 3 = .iface 43 (.ptr f.b 0) ∧ (f :: l).length = i ∧ Chain H' (.iface 43 (.ptr f.b 0)) (f :: l) (some 15)
theorem Law (n : Int) (H : AH) (hE : loadC H 0 0 none = some (rt tErr)) : ACall Tryd.prog 6 [.int .i64 n] H (fun v H' => v = .bool true ∧ H' = H) := by
  refine acall_enter fits6 (by simp) (by simp) fun hok => ?_
  obtain ⟨x, hx, hx9⟩ := St.mask_mod n 200 (by omega)
  have hx' : (bits .and .i64 n 255).tmod 200 = (x : Int) := hx
  obtain ⟨d, hd⟩ : ∃ d : Nat, d = x + 1 := ⟨_, rfl⟩
  have hd' : (x : Int) + 1 = (d : Int) := by omega
  simp (disch := first | omega | (simp; done) | assumption) [wr64, wrU8, wrU64, Nat.add_assoc, -getElem?_pos, List.getElem?_cons_zero, List.getElem?_cons_succ, ic6, rs6, hx', hd']
  refine CallW.ofk (ENewC _ _ (by decide) _) ?_
  rintro v0 H0 ⟨hk0, hn0, f0, ho0, hm0, rfl, hc0⟩ hok0
  simp only [newO_none] at hk0 hn0
  simp (disch := first | omega | (simp; done) | assumption) [wr64, wrU8, wrU64, Nat.add_assoc, -getElem?_pos, List.getElem?_cons_zero, List.getElem?_cons_succ, hx', hd']
  refine iwp_loop (II d H) (d - 1) ⟨hk0, hn0, hok0, 1, f0, [], rfl, Nat.le_refl _, by omega, by simp, by simp, by simp, rfl, hc0⟩ ?_
  rintro k tm H1 ⟨hk, hnx, hok1, i, f, l, rfl, hi1, hid, t0, t4, t3, hl, hc⟩
  by_cases hlt : i < d
  · simp (disch := first | omega | (simp; done) | assumption) [wr64, wrU8, wrU64, Nat.add_assoc, -getElem?_pos, List.getElem?_cons_zero, List.getElem?_cons_succ, t0, t3, t4, hlt]
    refine CallW.ofk (EWrapC _ _ hc (by simp)) ?_
    rintro v2 H2 ⟨hk2, hn2, f2, ho2, hm2, rfl, hc2⟩ hok2
    simp only [newO_none] at hk2 hn2
    simp (disch := first | omega | (simp; done) | assumption) [wr64, wrU8, wrU64, Nat.add_assoc, -getElem?_pos, List.getElem?_cons_zero, List.getElem?_cons_succ, t0, t3, t4]
    exact ⟨d - (i + 1), by omega, fun x o hx => hk2 x o (hk x o hx), by omega, hok2, i + 1, f2, f :: l, rfl, by omega, by omega, by simp [t0], by simp, by simp, by simp at hl ⊢; omega, hc2⟩
  · obtain rfl : i = d := by omega
    have hnum : numOf (.iface 43 (.ptr f.b 0)) (some 15) = 15 := rfl
    have hmin : min (i : Int) 100 = ((min i 100 : Nat) : Int) := by omega
    obtain ⟨m, hm⟩ : ∃ m, (f :: l).take 100 = m := ⟨_, rfl⟩
    have hml : m.length = min i 100 := by rw [← hm, List.length_take, hl]; omega
    simp (disch := first | omega | (simp; done) | assumption) [wr64, wrU8, wrU64, Nat.add_assoc, -getElem?_pos, List.getElem?_cons_zero, List.getElem?_cons_succ, t0, t3, t4, hlt]
    refine CallW.of (EOps hc (by omega) hm) ?_
    rintro v1 H2 ⟨hk1, hn1, hs1⟩
    simp only [newO_none] at hk1 hn1
    rcases SL.cases hs1 (n := min i 100) (by simpa using hml) with ⟨h0, _⟩ | ⟨h0, _⟩ | ⟨b1, o1, rfl⟩
    · omega
    · omega
    simp (disch := first | omega | (simp; done) | assumption) [wr64, wrU8, wrU64, Nat.add_assoc, -getElem?_pos, List.getElem?_cons_zero, List.getElem?_cons_succ, t0, t3, t4, hmin]
    refine CallW.of (ENames (hc.keeps hk1) (by omega) hm) ?_
    rintro v2 H3 ⟨hk2, hn2, hs2⟩
    simp only [newO_none] at hk2 hn2
    rcases SL.cases hs2 (n := min i 100) (by simpa using hml) with ⟨h0, _⟩ | ⟨h0, _⟩ | ⟨b2, o2, rfl⟩
    · omega
    · omega
    have hk3 : H1.keepsAll H3 := fun x o hx => hk2 x o (hk1 x o hx)
    have hkk : H.keepsAll H3 := fun x o hx => hk3 x o (hk x o hx)
    simp (disch := first | omega | (simp; done) | assumption) [wr64, wrU8, wrU64, Nat.add_assoc, -getElem?_pos, List.getElem?_cons_zero, List.getElem?_cons_succ, t0, t3, t4, hmin]
    refine CallW.val (ENum (loadC_keeps hkk hE) (hc.keeps hk3)) ?_
    simp (disch := first | omega | (simp; done) | assumption) [wr64, wrU8, wrU64, Nat.add_assoc, -getElem?_pos, List.getElem?_cons_zero, List.getElem?_cons_succ, t0, t3, t4, hnum]
    refine CallW.val (Awake (loadC_keeps hkk hE)) ?_
    simp (disch := first | omega | (simp; done) | assumption) [wr64, wrU8, wrU64, Nat.add_assoc, -getElem?_pos, List.getElem?_cons_zero, List.getElem?_cons_succ, ]
    exact hkk
theorem FaultDeep.walk (a0 : Int) (W : World) (hsh : W.ShapedOpen Tryd.prog) (hG : ELaid.G W) (_ : (Lit.int .i64 a0).wf = true) :
    Calls Tryd.prog 6 #[.int .i64 a0] W fun e W' => e = .returned (.bool true) ∧ Below W.heap.size W W' :=
  ELaid.walk hsh hG (Law a0 _ (ELaid.H1_err W)) (.cons (.int _ _) .nil)
end Go.Proofs.YtpmlaaoideeafaaDoor.FDeep
