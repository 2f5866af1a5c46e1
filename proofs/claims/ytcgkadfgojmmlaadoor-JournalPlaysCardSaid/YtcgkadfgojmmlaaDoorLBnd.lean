/- JournalBounds. No condition. -/
import Derived.Test.YtcgkadfgojmmlaaDoorJBf
import Derived.Test.YtcgkadfgojmmlaaDoorELaid
set_option linter.unusedVariables false
set_option linter.unusedSimpArgs false
set_option maxRecDepth 100000
set_option maxHeartbeats 4000000
namespace Go.Proofs.YtcgkadfgojmmlaaDoor.JN
open Go Go.RowKit Go.Proofs.YtcgkadfgojmmlaaDoor Go.Proofs.YtcgkadfgojmmlaaDoor.Abs Go.Proofs.YtcgkadfgojmmlaaDoor.Ic Go.Proofs.YtcgkadfgojmmlaaDoor.EAs Go.Proofs.YtcgkadfgojmmlaaDoor.EErr Go.Proofs.YtcgkadfgojmmlaaDoor.DFn
abbrev EOk (H : AH) : Prop := loadC H 0 0 none = some (rt tErr)
abbrev BdC : ICode := ic4
abbrev BdQ (H : AH) : IPost := fnPost rs4 fun v H' => v = .bool true ∧ H.keepsAll H'
theorem Bd2 {C : ICode} (hC : C = BdC) {most : Int} (hw : -9223372036854775808 ≤ most ∧ most ≤ 9223372036854775807) {H H1 : AH} {tm : Tms} (hk1 : H.keepsAll H1) (hE : EOk H) (t1 : tm 1 = .int .i64 most) : IWP Tryd.prog (part_ [1, 1, 1, 1, 1, 1, 1, 1] C) (BdQ H) tm H1 := by
  rw [hC]
  simp (disch := first | omega | (simp; done) | assumption) [wr64, wrU8, wrU64, Nat.add_assoc, -getElem?_pos, List.getElem?_cons_zero, List.getElem?_cons_succ, part_, BdC, ic4, t1]
  refine CallW.okof Open_nil ?_
  rintro v H2 ⟨k2, n2, f, rfl, hf1, hf2, hch⟩ hok2
  try simp only [newO_none] at k2 n2
  have hk02 : H.keepsAll H2 := fun y o h => k2 _ _ (hk1 _ _ h)
  have hIs := ELawIs jrn [] 1 (loadC_keeps hk02 hE) hch
  rw [show isV (.iface 74 (.ptr f.b 0)) [f] (some 1) jrn [] 1 = true by simp [isV, hf1, hf2]] at hIs
  unfold jrn at hIs
  by_cases c : 1099511627776 ≤ most
  · simp (disch := first | omega | (simp; done) | assumption) [wr64, wrU8, wrU64, Nat.add_assoc, -getElem?_pos, List.getElem?_cons_zero, List.getElem?_cons_succ, t1, c]
    refine CallW.val hIs ?_
    simp (disch := first | omega | (simp; done) | assumption) [wr64, wrU8, wrU64, Nat.add_assoc, -getElem?_pos, List.getElem?_cons_zero, List.getElem?_cons_succ, ]
    refine CallW.val JAwake ?_
    simp (disch := first | omega | (simp; done) | assumption) [wr64, wrU8, wrU64, Nat.add_assoc, -getElem?_pos, List.getElem?_cons_zero, List.getElem?_cons_succ, rs4]
    exact hk02
  · obtain ⟨k, hk⟩ : ∃ k : Nat, max most 1 = (k : Int) := ⟨(max most 1).toNat, by omega⟩
    have hm : max (min most 1099511627776) 1 = (k : Int) := by omega
    have hq : ((k : Int) + 15).tdiv 16 = ((lists k : Nat) : Int) := by
      rw [Int.tdiv_eq_ediv_of_nonneg (by omega)]
      unfold lists
      omega
    have hll : lists k ≤ 1000000000000 := by unfold lists; omega
    have hnd : (need k : Int) = (k : Int) + (lists k : Int) + 2 := by unfold need; omega
    have hN := Need hk (by omega) H2
    rw [hnd] at hN
    generalize lists k = w at *
    have hww : IntKind.i64.wrap (w : Int) = (w : Int) := wrapI (by omega) (by omega)
    simp (disch := first | omega | (simp; done) | assumption) [wr64, wrU8, wrU64, Nat.add_assoc, -getElem?_pos, List.getElem?_cons_zero, List.getElem?_cons_succ, t1, c]
    refine CallW.val hN ?_
    simp (disch := first | omega | (simp; done) | assumption) [wr64, wrU8, wrU64, Nat.add_assoc, -getElem?_pos, List.getElem?_cons_zero, List.getElem?_cons_succ, hm, hq, hww]
    refine CallW.val hIs ?_
    simp (disch := first | omega | (simp; done) | assumption) [wr64, wrU8, wrU64, Nat.add_assoc, -getElem?_pos, List.getElem?_cons_zero, List.getElem?_cons_succ, ]
    refine CallW.val JAwake ?_
    simp (disch := first | omega | (simp; done) | assumption) [wr64, wrU8, wrU64, Nat.add_assoc, -getElem?_pos, List.getElem?_cons_zero, List.getElem?_cons_succ, rs4]
    exact hk02
theorem Bd1 {C : ICode} (hC : C = BdC) {at_ most : Int} (hw : -9223372036854775808 ≤ most ∧ most ≤ 9223372036854775807) {H : AH} (hok : H.ok) (hE : EOk H)
    (hX : ∀ tm H1, H.keepsAll H1 → tm 1 = .int .i64 most → IWP Tryd.prog (part_ [1, 1, 1, 1, 1, 1, 1, 1] C) (BdQ H) tm H1) : IWP Tryd.prog C (BdQ H) (tm0 [.int .i64 at_, .int .i64 most]) H := by
  have hcut : C = (.seq (part_ [0] BdC) (.seq (part_ [1, 0] BdC) (.seq (part_ [1, 1, 0] BdC) (.seq (part_ [1, 1, 1, 0] BdC) (.seq (part_ [1, 1, 1, 1, 0] BdC) (.seq (part_ [1, 1, 1, 1, 1, 0] BdC) (.seq (part_ [1, 1, 1, 1, 1, 1, 0] BdC) (.seq (part_ [1, 1, 1, 1, 1, 1, 1, 0] BdC) (part_ [1, 1, 1, 1, 1, 1, 1, 1] BdC))))))))) := by rw [hC]; kernel_rfl
  rw [show part_ [1, 1, 1, 1, 1, 1, 1, 1] C = part_ [1, 1, 1, 1, 1, 1, 1, 1] BdC by rw [hC]] at hX
  rw [hcut]
  clear hcut hC
  generalize part_ [1, 1, 1, 1, 1, 1, 1, 1] BdC = Y at *
  simp (disch := first | omega | (simp; done) | assumption) [wr64, wrU8, wrU64, Nat.add_assoc, -getElem?_pos, List.getElem?_cons_zero, List.getElem?_cons_succ, part_, BdC, ic4]
  refine CallW.okof (show ACall Tryd.prog _ [.int .i64 300] _ _ from New (n := 300) (by omega) (by omega) _) ?_
  rintro v H1 ⟨hk1, hn1, p, L, rfl, hp, hL, hp1, hL1, hd1⟩ hok1
  try simp only [newO_none] at hk1 hn1 hp hL
  simp (disch := first | omega | (simp; done) | assumption) [wr64, wrU8, wrU64, Nat.add_assoc, -getElem?_pos, List.getElem?_cons_zero, List.getElem?_cons_succ, ]
  have bad : ∀ v H2, OpB H1 v H2 → ∃ f : Fl, v = .tuple [.pnil, .iface 74 (.ptr f.b 0)] ∧ H.keepsAll H2 ∧ ACall Tryd.prog 17 [.iface 74 (.ptr f.b 0), .str [106, 111, 117, 114, 110, 97, 108], .str [], .int .i64 1] H2 (fun v H' => v = .bool true ∧ H' = H2) := fun v H2 ⟨k2, n2, f, h1, hf1, hf2, hch⟩ => by
    have hk02 : H.keepsAll H2 := fun y o h => k2 _ _ (hk1 _ _ h)
    have hIs := ELawIs jrn [] 1 (loadC_keeps hk02 hE) hch
    rw [show isV (.iface 74 (.ptr f.b 0)) [f] (some 1) jrn [] 1 = true by simp [isV, hf1, hf2]] at hIs
    exact ⟨f, h1, hk02, hIs⟩
  have hB := fun h => Open_bad (at_ := at_) (most := most) hd1 (by simp) h
  simp only [List.length_replicate] at hB
  have hn4 : ∀ k, 4 ≤ need k + 3 := fun k => by unfold need; omega
  by_cases c1 : most < 1
  · have c1' : ¬ 1 ≤ most := by omega
    refine CallW.okof (hB (.inl c1)) ?_
    rintro v H2 hv hok2
    obtain ⟨f, rfl, hk02, hIs⟩ := bad v H2 hv
    simp (disch := first | omega | (simp; done) | assumption) [wr64, wrU8, wrU64, Nat.add_assoc, -getElem?_pos, List.getElem?_cons_zero, List.getElem?_cons_succ, c1']
    refine CallW.val hIs ?_
    simp (disch := first | omega | (simp; done) | assumption) [wr64, wrU8, wrU64, Nat.add_assoc, -getElem?_pos, List.getElem?_cons_zero, List.getElem?_cons_succ, ]
    exact hX _ _ hk02 (by simp)
  have c1' : 1 ≤ most := by omega
  by_cases c2 : 200 < most
  · have c2' : ¬ most ≤ 200 := by omega
    refine CallW.okof (hB (.inr (.inl c2))) ?_
    rintro v H2 hv hok2
    obtain ⟨f, rfl, hk02, hIs⟩ := bad v H2 hv
    simp (disch := first | omega | (simp; done) | assumption) [wr64, wrU8, wrU64, Nat.add_assoc, -getElem?_pos, List.getElem?_cons_zero, List.getElem?_cons_succ, c1', c2']
    refine CallW.val hIs ?_
    simp (disch := first | omega | (simp; done) | assumption) [wr64, wrU8, wrU64, Nat.add_assoc, -getElem?_pos, List.getElem?_cons_zero, List.getElem?_cons_succ, ]
    exact hX _ _ hk02 (by simp)
  have c2' : most ≤ 200 := by omega
  by_cases c3 : at_ < 0
  · have c3' : ¬ 0 ≤ at_ := by omega
    refine CallW.okof (hB (.inr (.inr (.inl c3)))) ?_
    rintro v H2 hv hok2
    obtain ⟨f, rfl, hk02, hIs⟩ := bad v H2 hv
    simp (disch := first | omega | (simp; done) | assumption) [wr64, wrU8, wrU64, Nat.add_assoc, -getElem?_pos, List.getElem?_cons_zero, List.getElem?_cons_succ, c1', c2', c3']
    refine CallW.val hIs ?_
    simp (disch := first | omega | (simp; done) | assumption) [wr64, wrU8, wrU64, Nat.add_assoc, -getElem?_pos, List.getElem?_cons_zero, List.getElem?_cons_succ, ]
    exact hX _ _ hk02 (by simp)
  have c3' : 0 ≤ at_ := by omega
  obtain ⟨a, rfl⟩ : ∃ a : Nat, at_ = (a : Int) := ⟨at_.toNat, by omega⟩
  obtain ⟨k, rfl⟩ : ∃ k : Nat, most = (k : Int) := ⟨most.toNat, by omega⟩
  have hkn : ((k : Int)).toNat = k := by omega
  rw [hkn] at hB
  have hN := fun H => Need (m := (k : Int)) (k := k) (by omega) (by omega) H
  by_cases c4 : 300 < a
  · have c4' : ¬ (a : Int) ≤ 300 := by omega
    refine CallW.okof (hB (.inr (.inr (.inr (by omega))))) ?_
    rintro v H2 hv hok2
    obtain ⟨f, rfl, hk02, hIs⟩ := bad v H2 hv
    simp (disch := first | omega | (simp; done) | assumption) [wr64, wrU8, wrU64, Nat.add_assoc, -getElem?_pos, List.getElem?_cons_zero, List.getElem?_cons_succ, c1', c2', c3', c4', c4]
    refine CallW.val hIs ?_
    simp (disch := first | omega | (simp; done) | assumption) [wr64, wrU8, wrU64, Nat.add_assoc, -getElem?_pos, List.getElem?_cons_zero, List.getElem?_cons_succ, ]
    exact hX _ _ hk02 (by simp)
  have c4' : (a : Int) ≤ 300 := by omega
  have c4'' : a ≤ 300 := by omega
  by_cases c5 : a + need k ≤ 300
  · have hO := Open0 (at_ := a) (most := k) hd1 (by omega) (by simpa using c5) (by simp) rfl (vw_fresh _ _)
    refine CallW.okof hO ?_
    rintro v H2 ⟨hk2, hn2, jb, hjb, hjbn, rfl, hj⟩ hok2
    have hk02 : H.keepsAll H2 := fun y o h => hk2 _ _ (hk1 _ _ h)
    have hIs := ELawIs jrn [] 0 (loadC_keeps hk02 hE) Chain.nil
    rw [show isV .nilIface [] none jrn [] 0 = true by simp [isV]] at hIs
    unfold jrn at hIs
    clear hB
    generalize need k = nd at *
    have c5' : (nd : Int) ≤ 300 - (a : Int) := by omega
    simp (disch := first | omega | (simp; done) | assumption) [wr64, wrU8, wrU64, Nat.add_assoc, -getElem?_pos, List.getElem?_cons_zero, List.getElem?_cons_succ, c1', c2', c3', c4', c4'']
    refine CallW.val (hN _) ?_
    simp (disch := first | omega | (simp; done) | assumption) [wr64, wrU8, wrU64, Nat.add_assoc, -getElem?_pos, List.getElem?_cons_zero, List.getElem?_cons_succ, c5']
    refine CallW.val hIs ?_
    simp (disch := first | omega | (simp; done) | assumption) [wr64, wrU8, wrU64, Nat.add_assoc, -getElem?_pos, List.getElem?_cons_zero, List.getElem?_cons_succ, ]
    refine CallW.val (Most hj) ?_
    simp (disch := first | omega | (simp; done) | assumption) [wr64, wrU8, wrU64, Nat.add_assoc, -getElem?_pos, List.getElem?_cons_zero, List.getElem?_cons_succ, ]
    exact hX _ _ hk02 (by simp)
  · refine CallW.okof (hB (.inr (.inr (.inr (by omega))))) ?_
    rintro v H2 hv hok2
    obtain ⟨f, rfl, hk02, hIs⟩ := bad v H2 hv
    clear hB
    generalize need k = nd at *
    have c5' : ¬ (nd : Int) ≤ 300 - (a : Int) := by omega
    simp (disch := first | omega | (simp; done) | assumption) [wr64, wrU8, wrU64, Nat.add_assoc, -getElem?_pos, List.getElem?_cons_zero, List.getElem?_cons_succ, c1', c2', c3', c4', c4'']
    refine CallW.val (hN _) ?_
    simp (disch := first | omega | (simp; done) | assumption) [wr64, wrU8, wrU64, Nat.add_assoc, -getElem?_pos, List.getElem?_cons_zero, List.getElem?_cons_succ, c5']
    refine CallW.val hIs ?_
    simp (disch := first | omega | (simp; done) | assumption) [wr64, wrU8, wrU64, Nat.add_assoc, -getElem?_pos, List.getElem?_cons_zero, List.getElem?_cons_succ, ]
    exact hX _ _ hk02 (by simp)
theorem BoundsC {C : ICode} (hC : C = BdC) {fn : Func} (hF : Fits Tryd.prog 4 fn C rs4) (hnt : 2 ≤ fn.ntmps) {at_ most : Int} (hw : -9223372036854775808 ≤ most ∧ most ≤ 9223372036854775807) {H : AH} (hE : EOk H) :
    ACall Tryd.prog 4 [.int .i64 at_, .int .i64 most] H (fun v H' => v = .bool true ∧ H' = H) :=
  acall_enter hF hnt (by simp) fun hok => Bd1 hC hw hok hE fun tm H1 h1 h2 => Bd2 hC hw h1 hE h2
theorem JournalBounds.walk (a0 a1 : Int) (W : World) (hsh : W.ShapedOpen Tryd.prog) (hG : ELaid.G W) (_ : (Lit.int .i64 a0).wf = true) (h1 : (Lit.int .i64 a1).wf = true) :
    Calls Tryd.prog 4 #[.int .i64 a0, .int .i64 a1] W fun e W' => e = .returned (.bool true) ∧ Below W.heap.size W W' := by
  have hw : -9223372036854775808 ≤ a1 ∧ a1 ≤ 9223372036854775807 := by
    simp [Lit.wf, IntKind.min, IntKind.max, IntKind.signed, IntKind.bits] at h1
    omega
  exact ELaid.walk hsh hG (BoundsC rfl fits4 (by simp) hw (ELaid.H1_err W)) (.cons (.int ..) (.cons (.int ..) .nil))
end Go.Proofs.YtcgkadfgojmmlaaDoor.JN
