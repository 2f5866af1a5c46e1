/- Opening a new journal; refusals; reading. No condition. -/
import Derived.Test.YtcgkadfgojmmlaaDoorJBc
set_option linter.unusedVariables false
set_option linter.unusedSimpArgs false
set_option maxRecDepth 10000
set_option maxHeartbeats 4000000
namespace Go.Proofs.YtcgkadfgojmmlaaDoor.JN
open Go Go.RowKit Go.Proofs.YtcgkadfgojmmlaaDoor Go.Proofs.YtcgkadfgojmmlaaDoor.Abs Go.Proofs.YtcgkadfgojmmlaaDoor.Ic Go.Proofs.YtcgkadfgojmmlaaDoor.EAs Go.Proofs.YtcgkadfgojmmlaaDoor.EErr Go.Proofs.YtcgkadfgojmmlaaDoor.DFn
theorem JRead {H : AH} {jb p L at_ most i : Nat} {s : DK} (hd : DS H p L s) (hj : JO H jb p at_ most) (hi : i < s.ct.length) (h : s.dead = false) :
    ACall Tryd.prog 12 [.ptr jb 0, .int .i64 (i : Int)] H (fun v H' => H.keepsAll H' ∧ H.next ≤ H'.next ∧ ∃ q, H.next ≤ q ∧ q < H'.next ∧ v = .tuple [.slice q 0 128 1, .nilIface] ∧ QOk H' (q, vw s.ct i)) := by
  refine acall_of fits12 (by simp) ?_
  unfold JO at hj
  simp (disch := first | omega | (simp; done) | assumption) [wr64, wrU8, wrU64, Nat.add_assoc, -getElem?_pos, List.getElem?_cons_zero, List.getElem?_cons_succ, ic12, rs12, hj]
  refine CallW.of (Read hd hi h) ?_
  rintro v1 H1 ⟨k1, n1, q, hq1, hq2, rfl, hq⟩
  try simp only [newO_none] at k1 n1 hq1
  simp (disch := first | omega | (simp; done) | assumption) [wr64, wrU8, wrU64, Nat.add_assoc, -getElem?_pos, List.getElem?_cons_zero, List.getElem?_cons_succ, ]
  refine CallW.val (Told_nil _) ?_
  simp (disch := first | omega | (simp; done) | assumption) [wr64, wrU8, wrU64, Nat.add_assoc, -getElem?_pos, List.getElem?_cons_zero, List.getElem?_cons_succ, ]
  exact ⟨k1, n1, q, hq1, hq2, rfl, hq⟩
theorem Open0 {H : AH} {p L at_ most : Nat} {s : DK} (hd : DS H p L s) (hm : 1 ≤ most ∧ most ≤ 200) (hfit : at_ + need most ≤ s.ct.length) (hnb : s.ct.length ≤ 400) (ha : s.dead = false) (hz : vw s.ct at_ = zer) :
    ACall Tryd.prog 9 [.ptr p 0, .int .i64 (at_ : Int), .int .i64 (most : Int)] H (fun v H' => H.keepsAll H' ∧ H.next ≤ H'.next ∧ ∃ jb, H.next ≤ jb ∧ jb < H'.next ∧ v = .tuple [.ptr jb 0, .nilIface] ∧ JO H' jb p at_ most) := by
  refine acall_ok (bodyP_of fits9) fun hok => acall_of fits9 (by simp) ?_
  obtain ⟨hm1, hm2⟩ := hm
  have c1 : ¬ (most : Int) < 1 := by omega
  have c2 : ¬ 200 < (most : Int) := by omega
  have c3 : ¬ (at_ : Int) < 0 := by omega
  have hN := fun H => Need (m := (most : Int)) (k := most) (by omega) (by omega) H
  have hat : at_ < s.ct.length := by unfold need at hfit; omega
  generalize need most = nd at hN hfit
  have c4 : ¬ (s.ct.length : Int) - (nd : Int) < (at_ : Int) := by omega
  have hnk : H.keepsAll (H.new (.cells false tJ [.ptr p 0, .int .i64 (at_ : Int), .int .i64 (most : Int)])) := keeps_new hok (AH.keepsAll_refl _) (Nat.le_refl _)
  have hR : ACall Tryd.prog 27 [.ptr H.next 0] (H.new (.cells false tJ [.ptr p 0, .int .i64 (at_ : Int), .int .i64 (most : Int)])) (fun v H' => v = .nilIface ∧ (H.new (.cells false tJ [.ptr p 0, .int .i64 (at_ : Int), .int .i64 (most : Int)])).keepsAll H' ∧ (H.new (.cells false tJ [.ptr p 0, .int .i64 (at_ : Int), .int .i64 (most : Int)])).next ≤ H'.next) := by
    refine acall_of fits27 (by simp) ?_
    simp (disch := first | omega | (simp; done) | assumption) [wr64, wrU8, wrU64, Nat.add_assoc, -getElem?_pos, List.getElem?_cons_zero, List.getElem?_cons_succ, ic27, rs27]
    refine CallW.of (Group_none (hd.keeps hnk) (show JO _ H.next p at_ most from AH.new_same _ _) hat ha hz) ?_
    rintro v1 H1 ⟨k1, n1, rfl⟩
    try simp only [newO_none] at k1 n1
    simp (disch := first | omega | (simp; done) | assumption) [wr64, wrU8, wrU64, Nat.add_assoc, -getElem?_pos, List.getElem?_cons_zero, List.getElem?_cons_succ, ]
    exact ⟨k1, n1⟩
  simp (disch := first | omega | (simp; done) | assumption) [wr64, wrU8, wrU64, Nat.add_assoc, -getElem?_pos, List.getElem?_cons_zero, List.getElem?_cons_succ, ic9, rs9, c1, c2, c3]
  refine CallW.val (Blocks hd) ?_
  simp (disch := first | omega | (simp; done) | assumption) [wr64, wrU8, wrU64, Nat.add_assoc, -getElem?_pos, List.getElem?_cons_zero, List.getElem?_cons_succ, ]
  refine CallW.val (hN _) ?_
  simp (disch := first | omega | (simp; done) | assumption) [wr64, wrU8, wrU64, Nat.add_assoc, -getElem?_pos, List.getElem?_cons_zero, List.getElem?_cons_succ, c4]
  refine CallW.of hR ?_
  rintro v2 H2 ⟨rfl, k2, n2⟩
  simp at n2
  simp (disch := first | omega | (simp; done) | assumption) [wr64, wrU8, wrU64, Nat.add_assoc, -getElem?_pos, List.getElem?_cons_zero, List.getElem?_cons_succ, ]
  exact ⟨fun y o h => k2 _ _ (hnk _ _ h), by omega, H.next, Nat.le_refl _, by omega, rfl, k2 _ _ (AH.new_same _ _)⟩
def OpB (H : AH) (v : AV) (H' : AH) : Prop := H.keepsAll H' ∧ H.next ≤ H'.next ∧ ∃ f : Fl, v = .tuple [.pnil, .iface 74 (.ptr f.b 0)] ∧ f.op = jrn ∧ f.name = [] ∧ Chain H' (.iface 74 (.ptr f.b 0)) [f] (some 1)
theorem Open_nil {H : AH} {at_ most : Int} : ACall Tryd.prog 9 [.pnil, .int .i64 at_, .int .i64 most] H (OpB H) := by
  refine acall_of fits9 (by simp) ?_
  simp (disch := first | omega | (simp; done) | assumption) [wr64, wrU8, wrU64, Nat.add_assoc, -getElem?_pos, List.getElem?_cons_zero, List.getElem?_cons_succ, ic9, rs9]
  refine CallW.of (JWrong (by decide) _) ?_
  rintro v1 H1 ⟨k1, n1, f, f1, f2, rfl, hc⟩
  try simp only [newO_none] at k1 n1
  simp (disch := first | omega | (simp; done) | assumption) [wr64, wrU8, wrU64, Nat.add_assoc, -getElem?_pos, List.getElem?_cons_zero, List.getElem?_cons_succ, ]
  exact ⟨k1, n1, f, rfl, f1, f2, hc⟩
theorem Open_bad {H : AH} {p L : Nat} {at_ most : Int} {s : DK} (hd : DS H p L s) (hn : s.ct.length ≤ 400) (h : most < 1 ∨ 200 < most ∨ at_ < 0 ∨ (s.ct.length : Int) - (need most.toNat : Int) < at_) :
    ACall Tryd.prog 9 [.ptr p 0, .int .i64 at_, .int .i64 most] H (OpB H) := by
  refine acall_of fits9 (by simp) ?_
  have fin : ∀ {H1 : AH} {v1 : AV}, WrongP 1 H v1 H1 → ∃ f : Fl, v1 = .iface 74 (.ptr f.b 0) := fun ⟨_, _, f, _, _, h, _⟩ => ⟨f, h⟩
  by_cases c1 : most < 1
  · simp (disch := first | omega | (simp; done) | assumption) [wr64, wrU8, wrU64, Nat.add_assoc, -getElem?_pos, List.getElem?_cons_zero, List.getElem?_cons_succ, ic9, rs9, c1]
    refine CallW.of (JWrong (by decide) _) ?_
    rintro v1 H1 ⟨k1, n1, f, f1, f2, rfl, hc⟩
    try simp only [newO_none] at k1 n1
    simp (disch := first | omega | (simp; done) | assumption) [wr64, wrU8, wrU64, Nat.add_assoc, -getElem?_pos, List.getElem?_cons_zero, List.getElem?_cons_succ, ]
    exact ⟨k1, n1, f, rfl, f1, f2, hc⟩
  by_cases c2 : 200 < most
  · simp (disch := first | omega | (simp; done) | assumption) [wr64, wrU8, wrU64, Nat.add_assoc, -getElem?_pos, List.getElem?_cons_zero, List.getElem?_cons_succ, ic9, rs9, c1, c2]
    refine CallW.of (JWrong (by decide) _) ?_
    rintro v1 H1 ⟨k1, n1, f, f1, f2, rfl, hc⟩
    try simp only [newO_none] at k1 n1
    simp (disch := first | omega | (simp; done) | assumption) [wr64, wrU8, wrU64, Nat.add_assoc, -getElem?_pos, List.getElem?_cons_zero, List.getElem?_cons_succ, ]
    exact ⟨k1, n1, f, rfl, f1, f2, hc⟩
  by_cases c3 : at_ < 0
  · simp (disch := first | omega | (simp; done) | assumption) [wr64, wrU8, wrU64, Nat.add_assoc, -getElem?_pos, List.getElem?_cons_zero, List.getElem?_cons_succ, ic9, rs9, c1, c2, c3]
    refine CallW.of (JWrong (by decide) _) ?_
    rintro v1 H1 ⟨k1, n1, f, f1, f2, rfl, hc⟩
    try simp only [newO_none] at k1 n1
    simp (disch := first | omega | (simp; done) | assumption) [wr64, wrU8, wrU64, Nat.add_assoc, -getElem?_pos, List.getElem?_cons_zero, List.getElem?_cons_succ, ]
    exact ⟨k1, n1, f, rfl, f1, f2, hc⟩
  have c4 : (s.ct.length : Int) - (need most.toNat : Int) < at_ := by
    rcases h with h | h | h | h
    · exact absurd h c1
    · exact absurd h c2
    · exact absurd h c3
    · exact h
  have hN := fun H => Need (m := most) (k := most.toNat) (by omega) (by omega) H
  have hnd : need most.toNat ≤ 300 := by unfold need lists; omega
  generalize need most.toNat = nd at *
  simp (disch := first | omega | (simp; done) | assumption) [wr64, wrU8, wrU64, Nat.add_assoc, -getElem?_pos, List.getElem?_cons_zero, List.getElem?_cons_succ, ic9, rs9, c1, c2, c3]
  refine CallW.val (Blocks hd) ?_
  simp (disch := first | omega | (simp; done) | assumption) [wr64, wrU8, wrU64, Nat.add_assoc, -getElem?_pos, List.getElem?_cons_zero, List.getElem?_cons_succ, ]
  refine CallW.val (hN _) ?_
  simp (disch := first | omega | (simp; done) | assumption) [wr64, wrU8, wrU64, Nat.add_assoc, -getElem?_pos, List.getElem?_cons_zero, List.getElem?_cons_succ, c4]
  refine CallW.of (JWrong (by decide) _) ?_
  rintro v1 H1 ⟨k1, n1, f, f1, f2, rfl, hc⟩
  try simp only [newO_none] at k1 n1
  simp (disch := first | omega | (simp; done) | assumption) [wr64, wrU8, wrU64, Nat.add_assoc, -getElem?_pos, List.getElem?_cons_zero, List.getElem?_cons_succ, ]
  exact ⟨k1, n1, f, rfl, f1, f2, hc⟩
theorem Commit_bad {H : AH} {jb p L at_ most : Nat} {v : AV} {l : List Gr} {s : DK} (hd : DS H p L s) (hj : JO H jb p at_ most) (hm : 1 ≤ most ∧ most ≤ 200) (ha : at_ ≤ 2048) (h : BG H v l) (hl : l.length ≤ 100000) (hg : gd at_ most s.ct.length [] l = false) :
    ACall Tryd.prog 11 [.ptr jb 0, v] H (WrongP 1 H) := by
  refine acall_of fits11 (by simp) ?_
  have hJ := JGood hd hj hm ha h hl
  rw [hg] at hJ
  simp (disch := first | omega | (simp; done) | assumption) [wr64, wrU8, wrU64, Nat.add_assoc, -getElem?_pos, List.getElem?_cons_zero, List.getElem?_cons_succ, ic11, rs11]
  refine CallW.val hJ ?_
  simp (disch := first | omega | (simp; done) | assumption) [wr64, wrU8, wrU64, Nat.add_assoc, -getElem?_pos, List.getElem?_cons_zero, List.getElem?_cons_succ, ]
  refine CallW.of (JWrong (by decide) _) ?_
  rintro v1 H1 ⟨k1, n1, f, f1, f2, rfl, hc⟩
  try simp only [newO_none] at k1 n1
  simp (disch := first | omega | (simp; done) | assumption) [wr64, wrU8, wrU64, Nat.add_assoc, -getElem?_pos, List.getElem?_cons_zero, List.getElem?_cons_succ, ]
  exact ⟨k1, n1, f, f1, f2, rfl, hc⟩
theorem Commit_big {H : AH} {jb p L at_ most : Nat} {v : AV} {l : List Gr} {s : DK} (hd : DS H p L s) (hj : JO H jb p at_ most) (hm : 1 ≤ most ∧ most ≤ 200) (ha : at_ ≤ 2048) (h : BG H v l) (hl : l.length ≤ 100000) (hg : gd at_ most s.ct.length [] l = true) (hb : most < l.length) :
    ACall Tryd.prog 11 [.ptr jb 0, v] H (WrongP 5 H) := by
  refine acall_of fits11 (by simp) ?_
  have hJ := JGood hd hj hm ha h hl
  rw [hg] at hJ
  have hvl : lenS v = some l.length := by rcases h.1 with ⟨rfl, rfl⟩ | ⟨b, rfl, _⟩ <;> rfl
  unfold JO at hj
  have c1 : (most : Int) < (l.length : Int) := by omega
  simp (disch := first | omega | (simp; done) | assumption) [wr64, wrU8, wrU64, Nat.add_assoc, -getElem?_pos, List.getElem?_cons_zero, List.getElem?_cons_succ, ic11, rs11]
  refine CallW.val hJ ?_
  simp (disch := first | omega | (simp; done) | assumption) [wr64, wrU8, wrU64, Nat.add_assoc, -getElem?_pos, List.getElem?_cons_zero, List.getElem?_cons_succ, hvl, hj, c1, hb]
  refine CallW.of (JWrong (by decide) _) ?_
  rintro v1 H1 ⟨k1, n1, f, f1, f2, rfl, hc⟩
  try simp only [newO_none] at k1 n1
  simp (disch := first | omega | (simp; done) | assumption) [wr64, wrU8, wrU64, Nat.add_assoc, -getElem?_pos, List.getElem?_cons_zero, List.getElem?_cons_succ, ]
  exact ⟨k1, n1, f, f1, f2, rfl, hc⟩
theorem Commit_nil {H : AH} {jb p L at_ most : Nat} {s : DK} (hd : DS H p L s) (hj : JO H jb p at_ most) (hm : 1 ≤ most ∧ most ≤ 200) (ha : at_ ≤ 2048) :
    ACall Tryd.prog 11 [.ptr jb 0, .snil] H (fun v H' => v = .nilIface ∧ H' = H) := by
  refine acall_of fits11 (by simp) ?_
  have hJ := JGood (l := []) hd hj hm ha ⟨.inl ⟨rfl, rfl⟩, by simp⟩ (by simp)
  rw [gd] at hJ
  unfold JO at hj
  have c1 : ¬ (most : Int) < 0 := by omega
  simp (disch := first | omega | (simp; done) | assumption) [wr64, wrU8, wrU64, Nat.add_assoc, -getElem?_pos, List.getElem?_cons_zero, List.getElem?_cons_succ, ic11, rs11]
  refine CallW.val hJ ?_
  simp (disch := first | omega | (simp; done) | assumption) [wr64, wrU8, wrU64, Nat.add_assoc, -getElem?_pos, List.getElem?_cons_zero, List.getElem?_cons_succ, hj, c1]
theorem vw_fresh (n i : Nat) : vw (List.replicate n none) i = zer := by
  unfold vw
  rw [List.getD_eq_getElem?_getD, List.getElem?_replicate]
  split <;> rfl
theorem sok_fresh (n : Nat) : SOk ⟨List.replicate n none, 0, -1, false⟩ 0 := ⟨by simp, by simp, by simp, by simp, .inr ⟨rfl, by simp⟩⟩
theorem st0_fresh (at_ most n : Nat) : St0 at_ most (fun _ => zer) (List.replicate n none) := ⟨vw_fresh _ _, fun i _ => vw_fresh _ _⟩
end Go.Proofs.YtcgkadfgojmmlaaDoor.JN
