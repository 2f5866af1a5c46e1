/- The laws' opened. No condition. -/
import Derived.Test.YtcgkadfgojmmlaaDoorJBe
import Derived.Test.YtcgkadfgojmmlaaDoorSt
set_option linter.unusedVariables false
set_option linter.unusedSimpArgs false
set_option maxRecDepth 10000
set_option maxHeartbeats 4000000
namespace Go.Proofs.YtcgkadfgojmmlaaDoor.JN
open Go Go.RowKit Go.Proofs.YtcgkadfgojmmlaaDoor Go.Proofs.YtcgkadfgojmmlaaDoor.Abs Go.Proofs.YtcgkadfgojmmlaaDoor.Ic Go.Proofs.YtcgkadfgojmmlaaDoor.EAs Go.Proofs.YtcgkadfgojmmlaaDoor.EErr Go.Proofs.YtcgkadfgojmmlaaDoor.DFn
theorem SOk.fused {s : DK} {c : Nat} (h : SOk s c) (hl : s.ct.length ≤ 100) (f : Int) (b : Bool) (h1 : -1 ≤ f) (h2 : f ≤ 1000) : SOk ⟨s.ct, s.w, f, b⟩ c := ⟨h.w0, h.w1, h1, h2, .inl hl⟩
theorem mask31 (n : Int) : ∃ m : Nat, bits .and .i64 n 31 = (m : Int) ∧ m < 32 := St.mask_small 5 (by omega) n
/-- What opened leaves. -/
def OdP (at_ most p L c : Nat) (base : Nat → Bs) (lw : List Wr) (s : DK) (H : AH) (v : AV) (H' : AH) : Prop := H.next ≤ H'.next ∧ KX p L H H' ∧ ∃ (s' : DK) (jb : Nat), DS H' p L s' ∧ v = .ptr jb 0 ∧ H.next ≤ jb ∧ JO H' jb p at_ most ∧ s'.ct.length = s.ct.length ∧ SOk s' (c + 402) ∧
  (St0 at_ most base s'.ct ∨ St0 at_ most (aft base lw) s'.ct) ∧ s'.dead = false ∧ s'.f = -1
theorem OpenAny {H : AH} {p L at_ most c : Nat} {base : Nat → Bs} {lw : List Wr} {s : DK} (hd : DS H p L s) (hG : Geo at_ most s.ct.length lw) (hs : SOk s c) (hc : c ≤ 900000) (hst : SC at_ most base lw s.ct) (h1 : s.dead = false) (h2 : s.f < 0) :
    ACall Tryd.prog 9 [.ptr p 0, .int .i64 (at_ : Int), .int .i64 (most : Int)] H (fun v H' => H.next ≤ H'.next ∧ KX p L H H' ∧ ∃ s' jb, DS H' p L s' ∧ H.next ≤ jb ∧ v = .tuple [.ptr jb 0, .nilIface] ∧ JO H' jb p at_ most ∧ s'.ct.length = s.ct.length ∧ SOk s' (c + 201) ∧
      (St0 at_ most base s'.ct ∨ St0 at_ most (aft base lw) s'.ct) ∧ s'.dead = false ∧ s'.f = s.f) := by
  have h := Open hd hG hs hc hst
  refine ⟨h.1, fun j w cargs hr hv => (h.2 j w cargs hr hv).mono fun e' w' ⟨v, vc, j', H', he, ⟨a1, a2, s', a3, ok, a4, a5⟩, q⟩ => ⟨v, vc, j', H', he, ?_, q⟩⟩
  obtain ⟨b1, b2, b3⟩ := a4.all h1 h2
  rcases a5 with ⟨_, jb, c1, c2, c3⟩ | ⟨c1, _⟩
  · exact ⟨a1, a2, s', jb, a3, c1, c2, c3, a4.ct, a4.sok, a4.good b1, b2, b3⟩
  · exact absurd b1 c1
theorem st_sc {at_ most : Nat} {base : Nat → Bs} {lw : List Wr} {ct : List (Option Bs)} (h : St0 at_ most base ct ∨ St0 at_ most (aft base lw) ct) : SC at_ most base lw ct := h.elim .inl fun h => .inr (.inr h)
theorem fuse_off {H H' : AH} {p L : Nat} {s : DK} (h : DS H' p L ⟨s.ct, s.w, max (-1) (-1), s.dead || decide ((-1 : Int) = 0)⟩) (h1 : s.dead = false) : DS H' p L ⟨s.ct, s.w, -1, false⟩ := by
  rw [h1] at h
  exact h
theorem Opened {H : AH} {p L c : Nat} {base : Nat → Bs} {lw : List Wr} {s : DK} (fu : Int) (hd : DS H p L s) (hG : Geo 4 6 s.ct.length lw) (hl : s.ct.length ≤ 100) (hs : SOk s c) (hc : c ≤ 800000) (hst : SC 4 6 base lw s.ct) (h1 : s.dead = false) (h2 : s.f < 0) :
    ACall Tryd.prog 20 [.ptr p 0, .int .i64 fu] H (OdP 4 6 p L c base lw s H) := by
  refine acall_ok (bodyP_of fits20) fun hok => acall_of fits20 (by simp) ?_
  by_cases hf : fu < 0
  · have hf' : ¬ 0 ≤ fu := by omega
    simp (disch := first | omega | (simp; done) | assumption) [wr64, wrU8, wrU64, Nat.add_assoc, -getElem?_pos, List.getElem?_cons_zero, List.getElem?_cons_succ, ic20, rs20, hf']
    refine CallW.okof (show ACall Tryd.prog _ [.ptr p 0, .int .i64 4, .int .i64 6] _ _ from OpenAny (at_ := 4) (most := 6) hd hG hs (by omega) hst h1 h2) ?_
    rintro v H1 ⟨n1, k1, s1, jb, hd1, hjb, rfl, hj, hct, hsk, hst1, hdd, hff⟩ hok1
    try simp only [newO_none] at n1 k1 hjb
    simp (disch := first | omega | (simp; done) | assumption) [wr64, wrU8, wrU64, Nat.add_assoc, -getElem?_pos, List.getElem?_cons_zero, List.getElem?_cons_succ, ]
    refine CallW.val (Dead hd1) ?_
    simp (disch := first | omega | (simp; done) | assumption) [wr64, wrU8, wrU64, Nat.add_assoc, -getElem?_pos, List.getElem?_cons_zero, List.getElem?_cons_succ, hdd]
    refine CallW.okof (Fuse (-1) hd1) ?_
    rintro v H2 ⟨rfl, n2, k2, hd2⟩ hok2
    try simp only [newO_none] at n2 k2
    simp (disch := first | omega | (simp; done) | assumption) [wr64, wrU8, wrU64, Nat.add_assoc, -getElem?_pos, List.getElem?_cons_zero, List.getElem?_cons_succ, ]
    exact ⟨by omega, k1.trans k2, _, jb, fuse_off (H := H) hd2 hdd, rfl, hjb, JO.kx hd1 k2 hj, hct, (hsk.mono (by omega)).fused (by omega) (-1) false (by omega) (by omega), hst1, rfl, rfl⟩
  · obtain ⟨m, hm, hm32⟩ := mask31 fu
    have hf' : 0 ≤ fu := by omega
    simp (disch := first | omega | (simp; done) | assumption) [wr64, wrU8, wrU64, Nat.add_assoc, -getElem?_pos, List.getElem?_cons_zero, List.getElem?_cons_succ, ic20, rs20, hf', hm]
    refine CallW.okof (Fuse (m : Int) hd) ?_
    rintro v H1 ⟨rfl, n1, k1, hd1⟩ hok1
    try simp only [newO_none] at n1 k1
    have hs1 : SOk ⟨s.ct, s.w, max (m : Int) (-1), s.dead || decide ((m : Int) = 0)⟩ c := hs.fused hl _ _ (by omega) (by omega)
    generalize hs1d : (⟨s.ct, s.w, max (m : Int) (-1), s.dead || decide ((m : Int) = 0)⟩ : DK) = s1 at *
    have hct1 : s1.ct = s.ct := by rw [← hs1d]
    simp (disch := first | omega | (simp; done) | assumption) [wr64, wrU8, wrU64, Nat.add_assoc, -getElem?_pos, List.getElem?_cons_zero, List.getElem?_cons_succ, ]
    refine CallW.okof (show ACall Tryd.prog _ [.ptr p 0, .int .i64 4, .int .i64 6] _ _ from Open (at_ := 4) (most := 6) hd1 (by rw [hct1]; exact hG) hs1 (by omega) (by rw [hct1]; exact hst)) ?_
    rintro v H2 ⟨n2, k2, s2, hd2, ok, hA, hv⟩ hok2
    try simp only [newO_none] at n2 k2 hv
    have k02 : KX p L H H2 := k1.trans k2
    have hct2 : s2.ct.length = s.ct.length := by rw [hA.ct, hct1]
    have hs2 := hA.sok
    have tail : ∀ (H3 : AH), H2.next ≤ H3.next → KX p L H2 H3 → DS H3 p L ⟨s2.ct, s2.w, -1, false⟩ → ACall Tryd.prog 9 [.ptr p 0, .int .i64 4, .int .i64 6] H3 (fun v H' => H3.next ≤ H'.next ∧ KX p L H3 H' ∧ ∃ s' jb, DS H' p L s' ∧ H3.next ≤ jb ∧ v = .tuple [.ptr jb 0, .nilIface] ∧ JO H' jb p 4 6 ∧ s'.ct.length = s.ct.length ∧ SOk s' (c + 402) ∧
      (St0 4 6 base s'.ct ∨ St0 4 6 (aft base lw) s'.ct) ∧ s'.dead = false ∧ s'.f = -1) := fun H3 g1 g2 g3 => by
      have := OpenAny (at_ := 4) (most := 6) (base := base) (lw := lw) g3 (by show Geo 4 6 s2.ct.length lw; rw [hct2]; exact hG) (hs2.fused (by omega) (-1) false (by omega) (by omega)) (by omega) (show SC 4 6 base lw s2.ct from hA.st) rfl (by show (-1 : Int) < 0; omega)
      refine ⟨this.1, fun j w cargs hr hv => (this.2 j w cargs hr hv).mono fun e' w' ⟨v, vc, j', H', he, ⟨a1, a2, s', jb, b1, b2, b3, b4, b5, b6, b7, b8, b9⟩, q⟩ => ⟨v, vc, j', H', he, ⟨a1, a2, s', jb, b1, b2, b3, b4, by rw [b5]; exact hct2, b6, b7, b8, b9⟩, q⟩⟩
    rcases hv with ⟨hok, jb, hjb, rfl, hj⟩ | ⟨hnok, e, b, f, g, rfl, rfl, _⟩
    · cases hdd : s2.dead
      · simp (disch := first | omega | (simp; done) | assumption) [wr64, wrU8, wrU64, Nat.add_assoc, -getElem?_pos, List.getElem?_cons_zero, List.getElem?_cons_succ, ]
        refine CallW.val (Dead hd2) ?_
        simp (disch := first | omega | (simp; done) | assumption) [wr64, wrU8, wrU64, Nat.add_assoc, -getElem?_pos, List.getElem?_cons_zero, List.getElem?_cons_succ, hdd]
        refine CallW.okof (Fuse (-1) hd2) ?_
        rintro v H3 ⟨rfl, n3, k3, hd3⟩ hok3
        try simp only [newO_none] at n3 k3
        simp (disch := first | omega | (simp; done) | assumption) [wr64, wrU8, wrU64, Nat.add_assoc, -getElem?_pos, List.getElem?_cons_zero, List.getElem?_cons_succ, ]
        exact ⟨by omega, k02.trans k3, _, jb, fuse_off (H := H) hd3 hdd, rfl, by omega, JO.kx hd2 k3 hj, hct2, (hs2.mono (by omega)).fused (by omega) (-1) false (by omega) (by omega), hA.good hok, rfl, rfl⟩
      · simp (disch := first | omega | (simp; done) | assumption) [wr64, wrU8, wrU64, Nat.add_assoc, -getElem?_pos, List.getElem?_cons_zero, List.getElem?_cons_succ, ]
        refine CallW.val (Dead hd2) ?_
        simp (disch := first | omega | (simp; done) | assumption) [wr64, wrU8, wrU64, Nat.add_assoc, -getElem?_pos, List.getElem?_cons_zero, List.getElem?_cons_succ, hdd]
        refine CallW.val (Dead hd2) ?_
        simp (disch := first | omega | (simp; done) | assumption) [wr64, wrU8, wrU64, Nat.add_assoc, -getElem?_pos, List.getElem?_cons_zero, List.getElem?_cons_succ, hdd]
        refine CallW.okof (Power hd2) ?_
        rintro v H3 ⟨rfl, n3, k3, hd3⟩ hok3
        try simp only [newO_none] at n3 k3
        simp (disch := first | omega | (simp; done) | assumption) [wr64, wrU8, wrU64, Nat.add_assoc, -getElem?_pos, List.getElem?_cons_zero, List.getElem?_cons_succ, ]
        refine CallW.okof (tail H3 (by omega) k3 hd3) ?_
        rintro v H4 ⟨n4, k4, s4, jb4, hd4, hjb4, rfl, hj4, hct4, hsk4, hst4, hdd4, hff4⟩ hok4
        try simp only [newO_none] at n4 k4 hjb4
        simp (disch := first | omega | (simp; done) | assumption) [wr64, wrU8, wrU64, Nat.add_assoc, -getElem?_pos, List.getElem?_cons_zero, List.getElem?_cons_succ, ]
        refine CallW.okof (Fuse (-1) hd4) ?_
        rintro v H5 ⟨rfl, n5, k5, hd5⟩ hok5
        try simp only [newO_none] at n5 k5
        simp (disch := first | omega | (simp; done) | assumption) [wr64, wrU8, wrU64, Nat.add_assoc, -getElem?_pos, List.getElem?_cons_zero, List.getElem?_cons_succ, ]
        exact ⟨by omega, ((k02.trans k3).trans k4).trans k5, _, jb4, fuse_off (H := H) hd5 hdd4, rfl, by omega, JO.kx hd4 k5 hj4, hct4, hsk4.fused (by omega) (-1) false (by omega) (by omega), hst4, rfl, rfl⟩
    · have hdd := hA.bad hnok
      simp (disch := first | omega | (simp; done) | assumption) [wr64, wrU8, wrU64, Nat.add_assoc, -getElem?_pos, List.getElem?_cons_zero, List.getElem?_cons_succ, ]
      refine CallW.val (Dead hd2) ?_
      simp (disch := first | omega | (simp; done) | assumption) [wr64, wrU8, wrU64, Nat.add_assoc, -getElem?_pos, List.getElem?_cons_zero, List.getElem?_cons_succ, hdd]
      refine CallW.okof (Power hd2) ?_
      rintro v H3 ⟨rfl, n3, k3, hd3⟩ hok3
      try simp only [newO_none] at n3 k3
      simp (disch := first | omega | (simp; done) | assumption) [wr64, wrU8, wrU64, Nat.add_assoc, -getElem?_pos, List.getElem?_cons_zero, List.getElem?_cons_succ, ]
      refine CallW.okof (tail H3 (by omega) k3 hd3) ?_
      rintro v H4 ⟨n4, k4, s4, jb4, hd4, hjb4, rfl, hj4, hct4, hsk4, hst4, hdd4, hff4⟩ hok4
      try simp only [newO_none] at n4 k4 hjb4
      simp (disch := first | omega | (simp; done) | assumption) [wr64, wrU8, wrU64, Nat.add_assoc, -getElem?_pos, List.getElem?_cons_zero, List.getElem?_cons_succ, ]
      refine CallW.okof (Fuse (-1) hd4) ?_
      rintro v H5 ⟨rfl, n5, k5, hd5⟩ hok5
      try simp only [newO_none] at n5 k5
      simp (disch := first | omega | (simp; done) | assumption) [wr64, wrU8, wrU64, Nat.add_assoc, -getElem?_pos, List.getElem?_cons_zero, List.getElem?_cons_succ, ]
      exact ⟨by omega, ((k02.trans k3).trans k4).trans k5, _, jb4, fuse_off (H := H) hd5 hdd4, rfl, by omega, JO.kx hd4 k5 hj4, hct4, hsk4.fused (by omega) (-1) false (by omega) (by omega), hst4, rfl, rfl⟩
end Go.Proofs.YtcgkadfgojmmlaaDoor.JN
