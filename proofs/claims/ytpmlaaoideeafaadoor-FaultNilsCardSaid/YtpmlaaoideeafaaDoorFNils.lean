/- FaultNils, worked out. -/
import Derived.Test.YtpmlaaoideeafaaDoorEAwake
import Derived.Test.YtpmlaaoideeafaaDoorELaid
import Derived.Test.YtpmlaaoideeafaaDoorSt
set_option linter.unusedVariables false
set_option linter.unusedSimpArgs false
set_option maxRecDepth 10000
set_option maxHeartbeats 4000000
namespace Go.Proofs.YtpmlaaoideeafaaDoor.FNils
open Go Go.RowKit Go.Proofs.YtpmlaaoideeafaaDoor Go.Proofs.YtpmlaaoideeafaaDoor.Abs Go.Proofs.YtpmlaaoideeafaaDoor.Ic Go.Proofs.YtpmlaaoideeafaaDoor.EAs Go.Proofs.YtpmlaaoideeafaaDoor.EErr
theorem SL.cases {H : AH} {v : AV} {xs : List AV} {n : Nat} (h : SL H v xs) (hn : xs.length = n) : n = 0 ∧ v = .snil ∨ n = 0 ∧ v = .sempty ∨ ∃ b o, v = .slice b o n 1 := by
  subst hn
  rcases h with ⟨rfl, rfl | rfl⟩ | ⟨b, o, rfl, _⟩
  · exact .inl ⟨rfl, rfl⟩
  · exact .inr (.inl ⟨rfl, rfl⟩)
  · exact .inr (.inr ⟨b, o, rfl⟩)
theorem EText_nil {H : AH} : ACall Tryd.prog 18 [.nilIface] H (fun v H' => v = .str [] ∧ H' = H) := by
  refine acall_enter fits18 (by simp) (by simp) fun hok => ?_
  simp (disch := first | omega | (simp; done) | assumption) [wr64, wrU8, wrU64, Nat.add_assoc, -getElem?_pos, List.getElem?_cons_zero, List.getElem?_cons_succ, ic18, rs18]
  exact AH.keepsAll_refl _
def II (m : Nat) (op name : List UInt8) (dep : Int) (H : AH) (k : Nat) (tm : Tms) (H' : AH) : Prop :=
  H' = H ∧ ∃ i : Nat, k = m - i ∧ i ≤ m ∧ tm 0 = .str op ∧ tm 1 = .str name ∧ tm 2 = .int .i64 dep ∧ tm 8 = .int .i64 (i : Int) ∧ tm 7 = .nilIface
theorem Law (op name : List UInt8) (depth : Int) (H : AH) (hE : loadC H 0 0 none = some (rt tErr)) : ACall Tryd.prog 5 [.str op, .str name, .int .i64 depth] H (fun v H' => v = .bool true ∧ H' = H) := by
  refine acall_enter fits5 (by simp) (by simp) fun hok => ?_
  obtain ⟨m, hm, hm9⟩ : ∃ m : Nat, bits .and .i64 depth 15 = (m : Int) ∧ m < 16 := ⟨(depth % 16).toNat, by have := St.mask_i64 4 (by omega) depth; simp at this; rw [this]; omega, by omega⟩
  simp (disch := first | omega | (simp; done) | assumption) [wr64, wrU8, wrU64, Nat.add_assoc, -getElem?_pos, List.getElem?_cons_zero, List.getElem?_cons_succ, ic5, rs5]
  refine CallW.val (ENew0 _ _ _) ?_
  simp (disch := first | omega | (simp; done) | assumption) [wr64, wrU8, wrU64, Nat.add_assoc, -getElem?_pos, List.getElem?_cons_zero, List.getElem?_cons_succ, ]
  refine iwp_loop (II m op name depth H) m ⟨rfl, 0, rfl, by omega, by simp, by simp, by simp, by simp, by simp⟩ ?_
  rintro k tm Hx ⟨rfl, i, rfl, hi, t0, t1, t2, t8, t7⟩
  by_cases hlt : i < m
  · simp (disch := first | omega | (simp; done) | assumption) [wr64, wrU8, wrU64, Nat.add_assoc, -getElem?_pos, List.getElem?_cons_zero, List.getElem?_cons_succ, t0, t1, t2, t7, t8, hm, hlt]
    refine CallW.val (EWrap_nil _ _ _) ?_
    simp (disch := first | omega | (simp; done) | assumption) [wr64, wrU8, wrU64, Nat.add_assoc, -getElem?_pos, List.getElem?_cons_zero, List.getElem?_cons_succ, t0, t1, t2, t7, t8]
    exact ⟨m - (i + 1), by omega, rfl, i + 1, rfl, by omega, by simp [t0], by simp [t1], by simp [t2], by simp, by simp⟩
  · simp (disch := first | omega | (simp; done) | assumption) [wr64, wrU8, wrU64, Nat.add_assoc, -getElem?_pos, List.getElem?_cons_zero, List.getElem?_cons_succ, t0, t1, t2, t7, t8, hm, hlt]
    refine CallW.val (ENum (l := []) hE .nil) ?_
    simp (disch := first | omega | (simp; done) | assumption) [wr64, wrU8, wrU64, Nat.add_assoc, -getElem?_pos, List.getElem?_cons_zero, List.getElem?_cons_succ, t0, t1, t2, t7, t8, numOf]
    refine CallW.val EText_nil ?_
    simp (disch := first | omega | (simp; done) | assumption) [wr64, wrU8, wrU64, Nat.add_assoc, -getElem?_pos, List.getElem?_cons_zero, List.getElem?_cons_succ, t0, t1, t2, t7, t8]
    refine CallW.val (EDepth (l := []) .nil (by simp)) ?_
    simp (disch := first | omega | (simp; done) | assumption) [wr64, wrU8, wrU64, Nat.add_assoc, -getElem?_pos, List.getElem?_cons_zero, List.getElem?_cons_succ, t0, t1, t2, t7, t8]
    refine CallW.of (EOps (l := []) .nil (by simp) rfl) ?_
    rintro v1 H1 ⟨hk1, hn1, hs1⟩
    simp only [newO_none] at hk1 hn1
    rcases SL.cases hs1 rfl with ⟨_, rfl⟩ | ⟨_, rfl⟩ | ⟨b1, o1, rfl⟩
    all_goals
      simp (disch := first | omega | (simp; done) | assumption) [wr64, wrU8, wrU64, Nat.add_assoc, -getElem?_pos, List.getElem?_cons_zero, List.getElem?_cons_succ, t0, t1, t2, t7, t8]
      refine CallW.of (ENames (l := []) .nil (by simp) rfl) ?_
      rintro v2 H2 ⟨hk2, hn2, hs2⟩
      simp only [newO_none] at hk2 hn2
      rcases SL.cases hs2 rfl with ⟨_, rfl⟩ | ⟨_, rfl⟩ | ⟨b2, o2, rfl⟩
      all_goals
        have hkk : Hx.keepsAll H2 := fun x o hx => hk2 x o (hk1 x o hx)
        simp (disch := first | omega | (simp; done) | assumption) [wr64, wrU8, wrU64, Nat.add_assoc, -getElem?_pos, List.getElem?_cons_zero, List.getElem?_cons_succ, t0, t1, t2, t7, t8]
        refine CallW.val (Awake (loadC_keeps hkk hE)) ?_
        simp (disch := first | omega | (simp; done) | assumption) [wr64, wrU8, wrU64, Nat.add_assoc, -getElem?_pos, List.getElem?_cons_zero, List.getElem?_cons_succ, ]
        exact hkk
theorem FaultNils.walk (a0 a1 : ByteArray) (a2 : Int) (W : World) (hsh : W.ShapedOpen Tryd.prog) (hG : ELaid.G W) (_ : a0.size ≤ 140737488351232) (_ : a1.size ≤ 140737488351232) (_ : (Lit.int .i64 a2).wf = true) :
    Calls Tryd.prog 5 #[.string a0, .string a1, .int .i64 a2] W fun e W' => e = .returned (.bool true) ∧ Below W.heap.size W W' :=
  ELaid.walk hsh hG (Law _ _ a2 _ (ELaid.H1_err W)) (.cons (.str a0) (.cons (.str a1) (.cons (.int _ _) .nil)))
end Go.Proofs.YtpmlaaoideeafaaDoor.FNils
