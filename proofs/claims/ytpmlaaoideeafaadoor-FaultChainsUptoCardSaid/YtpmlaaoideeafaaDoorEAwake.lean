/- New and Wrap by what they make; the laws' awake. -/
import Derived.Test.YtpmlaaoideeafaaDoorEText
set_option linter.unusedVariables false
set_option linter.unusedSimpArgs false
set_option maxRecDepth 10000
set_option maxHeartbeats 4000000
namespace Go.Proofs.YtpmlaaoideeafaaDoor.EErr
open Go Go.RowKit Go.Proofs.YtpmlaaoideeafaaDoor Go.Proofs.YtpmlaaoideeafaaDoor.Abs Go.Proofs.YtpmlaaoideeafaaDoor.Ic Go.Proofs.YtpmlaaoideeafaaDoor.EAs
theorem ENew0 (op name : List UInt8) (H : AH) : ACall Tryd.prog 9 [.str op, .str name, .int .i64 0] H (fun v H' => v = .nilIface ∧ H' = H) :=
  (ENew op name 0 H).mono fun v H' h => by rw [if_pos rfl] at h; exact h
theorem ENewC (op name : List UInt8) {n : Int} (hn : n ≠ 0) (H : AH) :
    ACall Tryd.prog 9 [.str op, .str name, .int .i64 n] H (fun v H' => H.keepsAll H' ∧ H.next ≤ H'.next ∧ ∃ f : Fl, f.op = op ∧ f.name = name ∧ v = .iface 43 (.ptr f.b 0) ∧ Chain H' v [f] (some n)) :=
  acall_ok (ENew op name n H).1 fun hok => (ENew op name n H).mono fun v H' h => by
    rw [if_neg hn] at h
    obtain ⟨rfl, rfl⟩ := h
    exact ⟨keeps_new hok (AH.keepsAll_refl _) (Nat.le_refl _), by simp, ⟨H.next, op, name⟩, rfl, rfl, rfl, Chain.wrap hok (.num n)⟩
theorem EWrapC (op name : List UInt8) {e : AV} {l : List Fl} {r : Option Int} {H : AH} (h : Chain H e l r) (hne : e ≠ .nilIface) :
    ACall Tryd.prog 10 [.str op, .str name, e] H (fun v H' => H.keepsAll H' ∧ H.next ≤ H'.next ∧ ∃ f : Fl, f.op = op ∧ f.name = name ∧ v = .iface 43 (.ptr f.b 0) ∧ Chain H' v (f :: l) r) := by
  obtain ⟨t1, v1, rfl⟩ : ∃ t1 v1, e = .iface t1 v1 := by cases h with
    | nil => exact absurd rfl hne
    | _ => exact ⟨_, _, rfl⟩
  exact acall_ok (EWrap op name t1 v1 H).1 fun hok => (EWrap op name t1 v1 H).mono fun v H' ⟨h1, h2⟩ => by
    subst h1; subst h2
    exact ⟨keeps_new hok (AH.keepsAll_refl _) (Nat.le_refl _), by simp, ⟨H.next, op, name⟩, rfl, rfl, rfl, Chain.wrap hok h⟩
theorem Awake {H : AH} (hE : loadC H 0 0 none = some (rt tErr)) : ACall Tryd.prog 12 [] H (fun v H' => v = .bool true ∧ H' = H) := by
  refine acall_enter fits12 (by simp) (by simp) fun hok => ?_
  simp (disch := first | omega | (simp; done) | assumption) [wr64, wrU8, wrU64, Nat.add_assoc, -getElem?_pos, List.getElem?_cons_zero, List.getElem?_cons_succ, ic12, rs12]
  refine CallW.of (ENewC _ _ (by decide) _) ?_
  rintro v1 H1 ⟨hk1, hn1, f1, ho1, hm1, rfl, hc1⟩
  simp (disch := first | omega | (simp; done) | assumption) [wr64, wrU8, wrU64, Nat.add_assoc, -getElem?_pos, List.getElem?_cons_zero, List.getElem?_cons_succ, ]
  refine CallW.of (EWrapC _ _ hc1 (by simp)) ?_
  rintro v2 H2 ⟨hk2, hn2, f2, ho2, hm2, rfl, hc2⟩
  simp only [newO_none] at hk1 hk2
  have hkk : H.keepsAll H2 := fun x o hx => hk2 x o (hk1 x o hx)
  have hE2 := loadC_keeps hkk hE
  have hnum : numOf (.iface 43 (.ptr f2.b 0)) (some 11) = 11 := rfl
  have hi : ItoaOk H2 (numOf (.iface 43 (.ptr f2.b 0)) (some 11)) := .inl ⟨11, by decide, rfl⟩
  have ht : txt [f2, f1] = [98, 111, 111, 116, 32, 97, 58, 32, 114, 101, 97, 100, 32, 47, 98, 58, 32] := by simp [txt, headOf, ho1, ho2, hm1, hm2]
  have hs : errS 11 = [101, 114, 114, 111, 114, 32, 49, 49] := by decide +kernel
  have his : isV (.iface 43 (.ptr f2.b 0)) [f2, f1] (some 11) [98, 111, 111, 116] [97] 11 = true := by simp [isV, ho2, hm2]
  simp (disch := first | omega | (simp; done) | assumption) [wr64, wrU8, wrU64, Nat.add_assoc, -getElem?_pos, List.getElem?_cons_zero, List.getElem?_cons_succ, ]
  refine CallW.val (ELawIs _ _ 11 hE2 hc2) ?_
  simp (disch := first | omega | (simp; done) | assumption) [wr64, wrU8, wrU64, Nat.add_assoc, -getElem?_pos, List.getElem?_cons_zero, List.getElem?_cons_succ, his]
  refine CallW.val (EText hE2 hc2 (by simp) (by simp) (by rw [ht]; simp) hi) ?_
  simp (disch := first | omega | (simp; done) | assumption) [wr64, wrU8, wrU64, Nat.add_assoc, -getElem?_pos, List.getElem?_cons_zero, List.getElem?_cons_succ, ht, hnum, hs]
  refine CallW.val (ENum hE2 hc2) ?_
  simp (disch := first | omega | (simp; done) | assumption) [wr64, wrU8, wrU64, Nat.add_assoc, -getElem?_pos, List.getElem?_cons_zero, List.getElem?_cons_succ, hnum]
  refine CallW.val (EDepth hc2 (by simp)) ?_
  simp (disch := first | omega | (simp; done) | assumption) [wr64, wrU8, wrU64, Nat.add_assoc, -getElem?_pos, List.getElem?_cons_zero, List.getElem?_cons_succ, ]
  refine CallW.val (ENew0 _ _ _) ?_
  simp (disch := first | omega | (simp; done) | assumption) [wr64, wrU8, wrU64, Nat.add_assoc, -getElem?_pos, List.getElem?_cons_zero, List.getElem?_cons_succ, ]
  refine CallW.val (EWrap_nil _ _ _) ?_
  simp (disch := first | omega | (simp; done) | assumption) [wr64, wrU8, wrU64, Nat.add_assoc, -getElem?_pos, List.getElem?_cons_zero, List.getElem?_cons_succ, ]
  exact hkk
end Go.Proofs.YtpmlaaoideeafaaDoor.EErr
