/- FaultRaw, worked out. -/
import Derived.Test.YtpmlaaoideeafaaDoorEAwake
import Derived.Test.YtpmlaaoideeafaaDoorELaid
import Derived.Test.YtpmlaaoideeafaaDoorSt
set_option linter.unusedVariables false
set_option linter.unusedSimpArgs false
set_option maxRecDepth 10000
set_option maxHeartbeats 4000000
namespace Go.Proofs.YtpmlaaoideeafaaDoor.FRaw
open Go Go.RowKit Go.Proofs.YtpmlaaoideeafaaDoor Go.Proofs.YtpmlaaoideeafaaDoor.Abs Go.Proofs.YtpmlaaoideeafaaDoor.Ic Go.Proofs.YtpmlaaoideeafaaDoor.EAs Go.Proofs.YtpmlaaoideeafaaDoor.EErr
theorem SL.cases {H : AH} {v : AV} {xs : List AV} {n : Nat} (h : SL H v xs) (hn : xs.length = n) : n = 0 ∧ v = .snil ∨ n = 0 ∧ v = .sempty ∨ ∃ b o, v = .slice b o n 1 := by
  subst hn
  rcases h with ⟨rfl, rfl | rfl⟩ | ⟨b, o, rfl, _⟩
  · exact .inl ⟨rfl, rfl⟩
  · exact .inr (.inl ⟨rfl, rfl⟩)
  · exact .inr (.inr ⟨b, o, rfl⟩)
theorem EText_nil {H : AH} : ACall Tryd.prog 18 [.nilIface] H (fun v H' => v = .str [] ∧ H' = H) := by
  refine acall_enter fits18 (by simp) (by simp) fun hok => ?_
  simp (disch := first | omega | (simp; done) | assumption) [wr64, wrU8, wrU64, Nat.add_assoc, -getElem?_pos, List.getElem?_cons_zero, List.getElem?_cons_succ, ic18, rs18]
  exact AH.keepsAll_refl _
theorem Law (op name : List UInt8) (n kind : Int) (H : AH) (hE : loadC H 0 0 none = some (rt tErr)) : ACall Tryd.prog 8 [.str op, .str name, .int .i64 n, .int .i64 kind] H (fun v H' => v = .bool true ∧ H' = H) := by
  refine acall_enter fits8 (by simp) (by simp) fun hok => ?_
  obtain ⟨k, hk0, hk9⟩ : ∃ k : Nat, bits .and .i64 kind 3 = (k : Int) ∧ k < 4 := ⟨(kind % 4).toNat, by have := St.mask_i64 2 (by omega) kind; simp at this; rw [this]; omega, by omega⟩
  rcases (show k = 0 ∨ k = 1 ∨ k = 2 ∨ k = 3 by omega) with rfl | rfl | rfl | rfl
  · have hc : Chain H (.iface 22 (.int .i64 n)) [] (some n) := .num n
    obtain ⟨H1, rfl⟩ : ∃ H1, H1 = H := ⟨_, rfl⟩
    have hk : H1.keepsAll H1 := AH.keepsAll_refl _
    simp (disch := first | omega | (simp; done) | assumption) [wr64, wrU8, wrU64, Nat.add_assoc, -getElem?_pos, List.getElem?_cons_zero, List.getElem?_cons_succ, ic8, rs8, hk0]
    refine CallW.val (EDepth hc (by simp)) ?_
    simp (disch := first | omega | (simp; done) | assumption) [wr64, wrU8, wrU64, Nat.add_assoc, -getElem?_pos, List.getElem?_cons_zero, List.getElem?_cons_succ, ]
    refine CallW.of (EOps hc (by simp) rfl) ?_
    rintro v1 H2 ⟨hk1, hn1, hs1⟩
    simp only [newO_none, newO_some] at hk1 hn1
    rcases SL.cases hs1 (n := 0) (by simp) with ⟨h0, h1⟩ | ⟨h0, h1⟩ | ⟨b1, o1, h1⟩
    all_goals first | (exfalso; omega) | skip
    all_goals
      subst h1
      simp (disch := first | omega | (simp; done) | assumption) [wr64, wrU8, wrU64, Nat.add_assoc, -getElem?_pos, List.getElem?_cons_zero, List.getElem?_cons_succ, ]
      refine CallW.of (ENames (hc.keeps hk1) (by simp) rfl) ?_
      rintro v2 H3 ⟨hk2, hn2, hs2⟩
      simp only [newO_none] at hk2 hn2
      rcases SL.cases hs2 (n := 0) (by simp) with ⟨h0, h1⟩ | ⟨h0, h1⟩ | ⟨b2, o2, h1⟩
      all_goals first | (exfalso; omega) | skip
      all_goals
        subst h1
        have hk3 : H1.keepsAll H3 := fun x o hx => hk2 x o (hk1 x o hx)
        have hkk : H1.keepsAll H3 := fun x o hx => hk3 x o (hk x o hx)
        simp (disch := first | omega | (simp; done) | assumption) [wr64, wrU8, wrU64, Nat.add_assoc, -getElem?_pos, List.getElem?_cons_zero, List.getElem?_cons_succ, ]
        refine CallW.val (ENum (loadC_keeps hkk hE) (hc.keeps hk3)) ?_
        simp (disch := first | omega | (simp; done) | assumption) [wr64, wrU8, wrU64, Nat.add_assoc, -getElem?_pos, List.getElem?_cons_zero, List.getElem?_cons_succ, numOf]
        refine CallW.val (Awake (loadC_keeps hkk hE)) ?_
        simp (disch := first | omega | (simp; done) | assumption) [wr64, wrU8, wrU64, Nat.add_assoc, -getElem?_pos, List.getElem?_cons_zero, List.getElem?_cons_succ, ]
        exact hkk
  · have hc0 : Chain (H.new (.cells false 45 [.str op, .str name, .nilIface])) (.iface 43 (.ptr H.next 0)) [⟨H.next, op, name⟩] none := Chain.wrap hok .nil
    have hk4 : H.keepsAll (H.new (.cells false 45 [.str op, .str name, .nilIface])) := keeps_new hok (AH.keepsAll_refl _) (Nat.le_refl _)
    simp (disch := first | omega | (simp; done) | assumption) [wr64, wrU8, wrU64, Nat.add_assoc, -getElem?_pos, List.getElem?_cons_zero, List.getElem?_cons_succ, ic8, rs8, hk0]
    have hk := hk4
    have hc := hc0
    refine CallW.val (EDepth hc (by simp)) ?_
    simp (disch := first | omega | (simp; done) | assumption) [wr64, wrU8, wrU64, Nat.add_assoc, -getElem?_pos, List.getElem?_cons_zero, List.getElem?_cons_succ, ]
    refine CallW.of (EOps hc (by simp) rfl) ?_
    rintro v1 H2 ⟨hk1, hn1, hs1⟩
    simp only [newO_none, newO_some] at hk1 hn1
    rcases SL.cases hs1 (n := 1) (by simp) with ⟨h0, h1⟩ | ⟨h0, h1⟩ | ⟨b1, o1, h1⟩
    all_goals first | (exfalso; omega) | skip
    all_goals
      subst h1
      simp (disch := first | omega | (simp; done) | assumption) [wr64, wrU8, wrU64, Nat.add_assoc, -getElem?_pos, List.getElem?_cons_zero, List.getElem?_cons_succ, ]
      refine CallW.of (ENames (hc.keeps hk1) (by simp) rfl) ?_
      rintro v2 H3 ⟨hk2, hn2, hs2⟩
      simp only [newO_none] at hk2 hn2
      rcases SL.cases hs2 (n := 1) (by simp) with ⟨h0, h1⟩ | ⟨h0, h1⟩ | ⟨b2, o2, h1⟩
      all_goals first | (exfalso; omega) | skip
      all_goals
        subst h1
        have hk3 : (H.new (.cells false 45 [.str op, .str name, .nilIface])).keepsAll H3 := fun x o hx => hk2 x o (hk1 x o hx)
        have hkk : H.keepsAll H3 := fun x o hx => hk3 x o (hk x o hx)
        simp (disch := first | omega | (simp; done) | assumption) [wr64, wrU8, wrU64, Nat.add_assoc, -getElem?_pos, List.getElem?_cons_zero, List.getElem?_cons_succ, ]
        refine CallW.val (ENum (loadC_keeps hkk hE) (hc.keeps hk3)) ?_
        simp (disch := first | omega | (simp; done) | assumption) [wr64, wrU8, wrU64, Nat.add_assoc, -getElem?_pos, List.getElem?_cons_zero, List.getElem?_cons_succ, numOf]
        refine CallW.val (Awake (loadC_keeps hkk hE)) ?_
        simp (disch := first | omega | (simp; done) | assumption) [wr64, wrU8, wrU64, Nat.add_assoc, -getElem?_pos, List.getElem?_cons_zero, List.getElem?_cons_succ, ]
        exact hkk
  · have hc0 : Chain (H.new (.cells false 45 [.str op, .str name, .iface 22 (.int .i64 n)])) (.iface 43 (.ptr H.next 0)) [⟨H.next, op, name⟩] (some n) := Chain.wrap hok (.num n)
    have hk4 : H.keepsAll (H.new (.cells false 45 [.str op, .str name, .iface 22 (.int .i64 n)])) := keeps_new hok (AH.keepsAll_refl _) (Nat.le_refl _)
    simp (disch := first | omega | (simp; done) | assumption) [wr64, wrU8, wrU64, Nat.add_assoc, -getElem?_pos, List.getElem?_cons_zero, List.getElem?_cons_succ, ic8, rs8, hk0]
    have hk := hk4
    have hc := hc0
    refine CallW.val (EDepth hc (by simp)) ?_
    simp (disch := first | omega | (simp; done) | assumption) [wr64, wrU8, wrU64, Nat.add_assoc, -getElem?_pos, List.getElem?_cons_zero, List.getElem?_cons_succ, ]
    refine CallW.of (EOps hc (by simp) rfl) ?_
    rintro v1 H2 ⟨hk1, hn1, hs1⟩
    simp only [newO_none, newO_some] at hk1 hn1
    rcases SL.cases hs1 (n := 1) (by simp) with ⟨h0, h1⟩ | ⟨h0, h1⟩ | ⟨b1, o1, h1⟩
    all_goals first | (exfalso; omega) | skip
    all_goals
      subst h1
      simp (disch := first | omega | (simp; done) | assumption) [wr64, wrU8, wrU64, Nat.add_assoc, -getElem?_pos, List.getElem?_cons_zero, List.getElem?_cons_succ, ]
      refine CallW.of (ENames (hc.keeps hk1) (by simp) rfl) ?_
      rintro v2 H3 ⟨hk2, hn2, hs2⟩
      simp only [newO_none] at hk2 hn2
      rcases SL.cases hs2 (n := 1) (by simp) with ⟨h0, h1⟩ | ⟨h0, h1⟩ | ⟨b2, o2, h1⟩
      all_goals first | (exfalso; omega) | skip
      all_goals
        subst h1
        have hk3 : (H.new (.cells false 45 [.str op, .str name, .iface 22 (.int .i64 n)])).keepsAll H3 := fun x o hx => hk2 x o (hk1 x o hx)
        have hkk : H.keepsAll H3 := fun x o hx => hk3 x o (hk x o hx)
        simp (disch := first | omega | (simp; done) | assumption) [wr64, wrU8, wrU64, Nat.add_assoc, -getElem?_pos, List.getElem?_cons_zero, List.getElem?_cons_succ, ]
        refine CallW.val (ENum (loadC_keeps hkk hE) (hc.keeps hk3)) ?_
        simp (disch := first | omega | (simp; done) | assumption) [wr64, wrU8, wrU64, Nat.add_assoc, -getElem?_pos, List.getElem?_cons_zero, List.getElem?_cons_succ, numOf]
        refine CallW.val (Awake (loadC_keeps hkk hE)) ?_
        simp (disch := first | omega | (simp; done) | assumption) [wr64, wrU8, wrU64, Nat.add_assoc, -getElem?_pos, List.getElem?_cons_zero, List.getElem?_cons_succ, ]
        exact hkk
  · have hc0 : Chain (H.new (.cells false 45 [.str name, .str op, .iface 22 (.int .i64 n)])) (.iface 43 (.ptr H.next 0)) [⟨H.next, name, op⟩] (some n) := Chain.wrap hok (.num n)
    have hk4 : H.keepsAll (H.new (.cells false 45 [.str name, .str op, .iface 22 (.int .i64 n)])) := keeps_new hok (AH.keepsAll_refl _) (Nat.le_refl _)
    simp (disch := first | omega | (simp; done) | assumption) [wr64, wrU8, wrU64, Nat.add_assoc, -getElem?_pos, List.getElem?_cons_zero, List.getElem?_cons_succ, ic8, rs8, hk0]
    refine CallW.of (EWrapC _ _ hc0 (by simp)) ?_
    rintro v5 H1 ⟨hk5, hn5, f5, ho5, hm5, rfl, hc⟩
    simp only [newO_none, newO_some] at hk5
    have hk : H.keepsAll H1 := fun x o hx => hk5 x o (hk4 x o hx)
    simp (disch := first | omega | (simp; done) | assumption) [wr64, wrU8, wrU64, Nat.add_assoc, -getElem?_pos, List.getElem?_cons_zero, List.getElem?_cons_succ, ]
    refine CallW.val (EDepth hc (by simp)) ?_
    simp (disch := first | omega | (simp; done) | assumption) [wr64, wrU8, wrU64, Nat.add_assoc, -getElem?_pos, List.getElem?_cons_zero, List.getElem?_cons_succ, ]
    refine CallW.of (EOps hc (by simp) rfl) ?_
    rintro v1 H2 ⟨hk1, hn1, hs1⟩
    simp only [newO_none, newO_some] at hk1 hn1
    rcases SL.cases hs1 (n := 2) (by simp) with ⟨h0, h1⟩ | ⟨h0, h1⟩ | ⟨b1, o1, h1⟩
    all_goals first | (exfalso; omega) | skip
    all_goals
      subst h1
      simp (disch := first | omega | (simp; done) | assumption) [wr64, wrU8, wrU64, Nat.add_assoc, -getElem?_pos, List.getElem?_cons_zero, List.getElem?_cons_succ, ]
      refine CallW.of (ENames (hc.keeps hk1) (by simp) rfl) ?_
      rintro v2 H3 ⟨hk2, hn2, hs2⟩
      simp only [newO_none] at hk2 hn2
      rcases SL.cases hs2 (n := 2) (by simp) with ⟨h0, h1⟩ | ⟨h0, h1⟩ | ⟨b2, o2, h1⟩
      all_goals first | (exfalso; omega) | skip
      all_goals
        subst h1
        have hk3 : H1.keepsAll H3 := fun x o hx => hk2 x o (hk1 x o hx)
        have hkk : H.keepsAll H3 := fun x o hx => hk3 x o (hk x o hx)
        simp (disch := first | omega | (simp; done) | assumption) [wr64, wrU8, wrU64, Nat.add_assoc, -getElem?_pos, List.getElem?_cons_zero, List.getElem?_cons_succ, ]
        refine CallW.val (ENum (loadC_keeps hkk hE) (hc.keeps hk3)) ?_
        simp (disch := first | omega | (simp; done) | assumption) [wr64, wrU8, wrU64, Nat.add_assoc, -getElem?_pos, List.getElem?_cons_zero, List.getElem?_cons_succ, numOf]
        refine CallW.val (Awake (loadC_keeps hkk hE)) ?_
        simp (disch := first | omega | (simp; done) | assumption) [wr64, wrU8, wrU64, Nat.add_assoc, -getElem?_pos, List.getElem?_cons_zero, List.getElem?_cons_succ, ]
        exact hkk
theorem FaultRaw.walk (a0 a1 : ByteArray) (a2 a3 : Int) (W : World) (hsh : W.ShapedOpen Tryd.prog) (hG : ELaid.G W) (_ : a0.size ≤ 140737488351232) (_ : a1.size ≤ 140737488351232) (_ : (Lit.int .i64 a2).wf = true) (_ : (Lit.int .i64 a3).wf = true) :
    Calls Tryd.prog 8 #[.string a0, .string a1, .int .i64 a2, .int .i64 a3] W fun e W' => e = .returned (.bool true) ∧ Below W.heap.size W W' :=
  ELaid.walk hsh hG (Law _ _ a2 a3 _ (ELaid.H1_err W)) (.cons (.str a0) (.cons (.str a1) (.cons (.int _ _) (.cons (.int _ _) .nil))))
end Go.Proofs.YtpmlaaoideeafaaDoor.FRaw
